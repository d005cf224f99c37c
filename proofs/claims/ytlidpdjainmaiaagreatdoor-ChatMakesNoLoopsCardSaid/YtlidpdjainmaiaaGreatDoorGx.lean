/- Seat c: strings.Cut and Index at a separator of one byte, HasPrefix. -/
import Derived.Test.YtlidpdjainmaiaaGreatDoorGv
import Derived.Lib.Bytealg
import Derived.Lib.IndexLaws
namespace Go.Cht
open Go Go.Bul
theorem data_nums {s : ByteArray} {l : List Nat} (h : nums s = l) : s.data.toList = l.map UInt8.ofNat := by
  have h1 := bstr_of_nums s
  rw [h] at h1
  rw [← h1, bstr_toList]
/-- Where a byte first stands. -/
theorem indexByte_at (c : Nat) (hc : c < 256) : ∀ (A B : List Nat), Bytes A → c ∉ A → Lib.indexByte ((A ++ c :: B).map UInt8.ofNat) (UInt8.ofNat c) = (A.length : Nat)
  | [], B, _, _ => by simp [Lib.indexByte]
  | a :: A, B, hA, hn => by
    have hne : ¬ UInt8.ofNat a = UInt8.ofNat c := fun h => hn (by rw [ofNat_inj (hA a (List.Mem.head _)) hc h]; exact List.Mem.head _)
    have ih := indexByte_at c hc A B (fun b hb => hA b (List.Mem.tail _ hb)) (fun h => hn (List.Mem.tail _ h))
    simp only [List.cons_append, List.map_cons, Lib.indexByte, List.length_cons]
    rw [ih]
    have h1 : (UInt8.ofNat a == UInt8.ofNat c) = false := beq_eq_false_iff_ne.2 hne
    have h2 : (((A.length : Nat) : Int) == -1) = false := beq_eq_false_iff_ne.2 (by omega)
    rw [h1, h2]
    simp
theorem indexByte_not (c : Nat) (hc : c < 256) : ∀ (A : List Nat), Bytes A → c ∉ A → Lib.indexByte (A.map UInt8.ofNat) (UInt8.ofNat c) = -1
  | [], _, _ => by simp [Lib.indexByte]
  | a :: A, hA, hn => by
    have hne : ¬ UInt8.ofNat a = UInt8.ofNat c := fun h => hn (by rw [ofNat_inj (hA a (List.Mem.head _)) hc h]; exact List.Mem.head _)
    have ih := indexByte_not c hc A (fun b hb => hA b (List.Mem.tail _ hb)) (fun h => hn (List.Mem.tail _ h))
    simp only [List.map_cons, Lib.indexByte]
    rw [ih]
    have h1 : (UInt8.ofNat a == UInt8.ofNat c) = false := beq_eq_false_iff_ne.2 hne
    rw [h1]
    simp
theorem app_bytes {A B : List Nat} {c : Nat} {s : ByteArray} (h : nums s = A ++ c :: B) : Bytes A ∧ c < 256 ∧ Bytes B := by
  have hb := bytes_of_nums s
  rw [h] at hb
  exact ⟨fun x hx => hb x (by simp [hx]), hb c (by simp), fun x hx => hb x (by simp [hx])⟩
theorem cut_front {A B : List Nat} {c : Nat} {s : ByteArray} (h : nums s = A ++ c :: B) : s.extract 0 A.length = bstr A := by
  refine nums_inj ?_
  rw [nums_extract, h, nums_bstr (app_bytes h).1, List.take_left, List.drop_zero]
theorem cut_back {A B : List Nat} {c : Nat} {s : ByteArray} (h : nums s = A ++ c :: B) : s.extract (A.length + 1) s.size = bstr B := by
  refine nums_inj ?_
  rw [nums_extract, nums_bstr (app_bytes h).2.2, List.take_of_length_le (by rw [nums_length]; exact Nat.le_refl _), h, ← List.drop_drop, List.drop_left]
  rfl
theorem sep_one {sep : ByteArray} {c : Nat} (h : nums sep = [c]) : sep = ⟨#[UInt8.ofNat c]⟩ := by
  refine nums_inj ?_
  rw [h, show (⟨#[UInt8.ofNat c]⟩ : ByteArray) = bstr [c] from rfl, nums_bstr]
  have := bytes_of_nums sep
  rw [h] at this
  exact this
end Go.Cht
namespace Go.Proofs.YtlidpdjainmaiaaGreatDoor
open Go Go.RowKit Go.Bul Go.Thg Go.Lin Go.Cht
section
variable {w : World} {o : Oper} {a : Act} {x y : Operand} {s : ByteArray} {k m : Nat} {i : Int}
/-- The front of a text; its rest. -/
theorem ysh (hk : k ≤ s.size) (hi : i = (k : Nat)) (ho : o.op = .slice 9 x none (some y) none := by rfl) (hx : a.eval x = .string s := by rfl) (hy : a.eval y = .int .i64 i := by rfl) : (execOp a.eval o).run Tryz.prog w = .ok (.value (.string (s.extract 0 k))) w := by
  subst hi
  unfold execOp
  simp only [ho, hx, hy, Option.map_some, Option.map_none, Sem.run_bind, run_sliceAt_string w _ _ _ _ _ Tryz.underlying9, run_slice_string_h w _ s Tryz.underlying9 .i64 (k : Int) (by omega) (by omega), Result.andThen_ok, Sem.run_pure, Int.toNat_natCast]
theorem ysl (hm : s.size = m) (hk : k ≤ m) (hi : i = (k : Nat)) (ho : o.op = .slice 9 x (some y) none none := by rfl) (hx : a.eval x = .string s := by rfl) (hy : a.eval y = .int .i64 i := by rfl) : (execOp a.eval o).run Tryz.prog w = .ok (.value (.string (s.extract k m))) w := by
  subst hi hm
  unfold execOp
  simp only [ho, hx, hy, Option.map_some, Option.map_none, Sem.run_bind, run_sliceAt_string w _ _ _ _ _ Tryz.underlying9, run_slice_string_l w _ s Tryz.underlying9 .i64 (k : Int) (by omega) (by omega), Result.andThen_ok, Sem.run_pure, Int.toNat_natCast]
end
set_option maxRecDepth 20000 in
theorem ibyte_any (s : ByteArray) (c : Nat) (w : World) : Calls Tryz.prog 84 #[.string s, .int .u8 (c : Nat)] w fun e w' => e = .returned (.int .i64 (Lib.indexByte s.data.toList (UInt8.ofNat c))) ∧ w = w' := by
  go_enter Tryz.func84, Tryz.ntmps84
  go_wp2_with fail
  rw [run_callFunc_extern Tryz.func101 (by kernel_rfl) (by kernel_rfl) (by kernel_rfl) (e := Extern.BytealgIndexByte.indexByte) (by kernel_rfl), Lib.run_indexByteString]
  simp only [Result.andThen]
  rw [Oper.upon_value]
  go_wp2_with fail
  go_ret
  exact ⟨rfl, rfl⟩
set_option maxRecDepth 100000 in
set_option maxHeartbeats 2000000 in
theorem index1_any (s : ByteArray) (c : Nat) (hc : c < 256) (w : World) : Calls Tryz.prog 68 #[.string s, .string ⟨#[UInt8.ofNat c]⟩] w fun e w' => e = .returned (.int .i64 (Lib.indexByte s.data.toList (UInt8.ofNat c))) ∧ w = w' := by
  have HI := Lib.hid (fun w => ibyte_any s c w)
  have hz : 0 < (⟨#[UInt8.ofNat c]⟩ : ByteArray).size := by show 0 < 1; omega
  have h0n : (nums ⟨#[UInt8.ofNat c]⟩).getD 0 0 = c := by
    show (UInt8.ofNat c).toNat = c
    simp; omega
  by_cases h : ([UInt8.ofNat c] == s.toList) = true
  · go_enter Tryz.func68, Tryz.ntmps68
    go_wp2_with (first | ((with_reducible refine (HI.out _).mono ?_); rintro e w1 ⟨rfl, rfl⟩) | ((first | (with_reducible refine at_ix_g ?_ ?_; (· rfl)) | with_reducible refine at_ix ?_); refine gix hz h0n rfl ?_))
    go_ret
    refine ⟨?_, rfl⟩
    have e : s.data.toList = [UInt8.ofNat c] := by rw [← Lib.toList_data]; exact (beq_iff_eq.1 h).symm
    rw [e]
    simp [Lib.indexByte]
  · have h' : ([UInt8.ofNat c] == s.toList) = false := by simpa using h
    go_enter Tryz.func68, Tryz.ntmps68
    go_wp2_with (first | ((with_reducible refine (HI.out _).mono ?_); rintro e w1 ⟨rfl, rfl⟩) | ((first | (with_reducible refine at_ix_g ?_ ?_; (· rfl)) | with_reducible refine at_ix ?_); refine gix hz h0n rfl ?_))
    go_ret
    exact ⟨rfl, rfl⟩
set_option maxRecDepth 20000 in
theorem scut_yes (s : ByteArray) (A B : List Nat) (c : Nat) (h : nums s = A ++ c :: B) (hA : c ∉ A) (h9 : s.size ≤ 1000000000) (w : World) : Calls Tryz.prog 43 #[.string s, .string ⟨#[UInt8.ofNat c]⟩] w fun e w' => e = .returned (.tuple #[.string (bstr A), .string (bstr B), .bool true]) ∧ Below w.heap.size w w' := by
  have hM := Mem.start [] w
  have HI := Lib.hid (fun w => index1_any s c (app_bytes h).2.1 w)
  have hi := indexByte_at c (app_bytes h).2.1 A B (app_bytes h).1 hA
  rw [← data_nums h] at hi
  rw [hi] at HI
  have hl : s.size = A.length + 1 + B.length := by rw [← nums_length, h]; simp; omega
  have hcf := cut_front h
  have hcb := cut_back h
  obtain ⟨k, hk⟩ : ∃ k, A.length = k := ⟨_, rfl⟩
  rw [hk] at hl HI hcf hcb
  obtain ⟨m, hm⟩ : ∃ m, s.size = m := ⟨_, rfl⟩
  rw [hm] at hcb h9
  have k0 : (0 : Int) ≤ (k : Int) := Int.natCast_nonneg _
  have k1 : (k : Int) + 1 ≤ (m : Int) := by omega
  have m1 : (m : Int) ≤ 1000000000 := by omega
  have HF := Lib.hid hcf
  have HB := Lib.hid hcb
  clear hi hl hcf hcb hk h hA h9
  go_enter Tryz.func43, Tryz.ntmps43
  go_wp2_with ((with_reducible refine (HI.out _).mono ?_); rintro e w1 ⟨rfl, rfl⟩)
  have hwr : IntKind.i64.wrap ((k : Int) + 1) = (k : Int) + 1 := IntWalk.i64_in _ ⟨by omega, by omega⟩
  have hks : k ≤ s.size := by omega
  have hkm : k + 1 ≤ m := by omega
  refine wp_region_allHB hM (by kernel_rfl) ?_
  clear hM
  intro wd hM
  have HM0 := Lib.hid hM
  have hS := Below.refl wd.heap.size wd
  refine wpAllH_takes [0, 1, 2, 3, 4, 5, 6, 7, 8, 9, 10, 11] (by kernel_rfl) (fun _ _ _ _ _ h => h) hS (by kernel_rfl) ?_
  simp only [pickOps, List.filterMap_cons, List.filterMap_nil, List.getElem?_cons_zero, List.getElem?_cons_succ]
  repeat ((with_reducible apply wpHeld_step); (· rfl); (· (intro wq hSw; first | (go_simp; rfl) | (have hM' := HM0.out.step hSw; first | exact yields_load (C := fun _ => True) (nqc hM') rfl | exact yields_load (C := fun _ => True) (nql hM') rfl | exact yields_load (C := fun _ => True) (nqp hM') rfl | first | exact ysh hks rfl | exact ysl (k := k + 1) hm hkm (by omega)))); intro K hK; go_simp; (with_reducible refine hK _ ?_); clear hK K)
  refine wpHeld_nil ?_
  clear hS HM0
  refine wpAllH_done (by kernel_rfl) ?_
  go_wp2_with fail
  go_ret3
  exact ⟨by rw [HF.out, HB.out]; rfl, hM.below⟩
theorem cut_yes (s : ByteArray) (A B : List Nat) (c : Nat) (h : nums s = A ++ c :: B) (hA : c ∉ A) (h9 : s.size ≤ 1000000000) (w : World) : Calls Tryz.prog 26 #[.string s, .string ⟨#[UInt8.ofNat c]⟩] w fun e w' => e = .returned (.tuple #[.string (bstr A), .string (bstr B), .bool true]) ∧ Below w.heap.size w w' := by
  have hM := Mem.start [] w
  have HC := Lib.hid (fun w => scut_yes s A B c h hA h9 w)
  clear h hA h9
  go_enter Tryz.func26, Tryz.ntmps26
  go_wp2_with ((with_reducible refine (HC.out _).mono ?_); rintro e w1 ⟨rfl, hb⟩; replace hM := hM.step hb; clear hb)
  go_ret3
  exact ⟨rfl, hM.below⟩
set_option maxRecDepth 20000 in
theorem shas_any (s p : ByteArray) (w : World) : Calls Tryz.prog 69 #[.string s, .string p] w fun e w' => e = .returned (.bool ((nums p).isPrefixOf (nums s))) ∧ Below w.heap.size w w' := by
  have hM := Mem.start [] w
  obtain ⟨m, hm⟩ : ∃ m, s.size = m := ⟨_, rfl⟩
  obtain ⟨k, hk⟩ : ∃ k, p.size = k := ⟨_, rfl⟩
  by_cases hl : k ≤ m
  · have h1 : (k : Int) ≤ (m : Int) := by omega
    have hks : k ≤ s.size := by omega
    have HE := Lib.hid (show ((s.extract 0 k).toList == p.toList) = (nums p).isPrefixOf (nums s) by
      rw [str_eq, nums_extract, List.drop_zero, ← hk, ← nums_length, Bool.eq_iff_iff, List.isPrefixOf_iff_prefix, List.prefix_iff_eq_take, beq_iff_eq]
      exact eq_comm)
    generalize (nums p).isPrefixOf (nums s) = v at HE ⊢
    go_enter Tryz.func69, Tryz.ntmps69
    go_wp2_with fail
    go_ret
    exact ⟨by rw [← HE.out]; simp, hM.below⟩
  · have h1 : ¬ (k : Int) ≤ (m : Int) := by omega
    have hv : (nums p).isPrefixOf (nums s) = false := by
      rw [Bool.eq_false_iff]
      intro h
      have := (List.isPrefixOf_iff_prefix.1 h).length_le
      rw [nums_length, nums_length] at this
      omega
    rw [hv]
    clear hv
    go_enter Tryz.func69, Tryz.ntmps69
    go_wp2_with fail
    go_ret
    exact ⟨rfl, hM.below⟩
theorem has_any (s p : ByteArray) (w : World) : Calls Tryz.prog 45 #[.string s, .string p] w fun e w' => e = .returned (.bool ((nums p).isPrefixOf (nums s))) ∧ Below w.heap.size w w' := by
  have hM := Mem.start [] w
  have HC := Lib.hid (fun w => shas_any s p w)
  go_enter Tryz.func45, Tryz.ntmps45
  go_wp2_with ((with_reducible refine (HC.out _).mono ?_); rintro e w1 ⟨rfl, hb⟩; replace hM := hM.step hb; clear hb)
  go_ret
  exact ⟨rfl, hM.below⟩
end Go.Proofs.YtlidpdjainmaiaaGreatDoor
