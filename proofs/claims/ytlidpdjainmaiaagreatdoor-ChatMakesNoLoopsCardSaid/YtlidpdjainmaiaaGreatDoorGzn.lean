/- Seat c: New: room's name, group's name. -/
import Derived.Test.YtlidpdjainmaiaaGreatDoorGzm
namespace Go.Lin
open Go Go.Bul Go.Thg Go.RowKit
/-- A block of elements is a row. -/
theorem Mem.entRows {α : Type} {sz : Nat} {cf : α → List Value} {w w0 : World} {G : List Nat} {L : List Ent} {R : List Thing} {g N : Nat} {e : TypeId} {l : List α} (hM : Mem G w0 (⟨g, e, N, (rows cf l).toArray⟩ :: L) R w) (hC : Cf sz cf) (h0 : 0 < l.length) (h9 : l.length ≤ 1000000) : Mem G w0 L (gT e sz cf (.slice (some ⟨g, 0, none⟩) l.length l.length) l :: R) w := by
  have hB : Blk w g e (rows cf l).toArray := hM.blk (List.Mem.head _)
  refine hM.repack (fun b hb => hM.blk_ b (.tail _ hb)) (fun r hr => ?_) ?_
  · rcases List.mem_cons.1 hr with rfl | hr
    · show OffRow w e sz _ l.length (rows cf l)
      refine ⟨by rw [rows_length hC], _, _, rfl, Nat.le_refl _, by unfold maxLen; omega, fun _ => ⟨g, 0, _, rfl, hB, ?_, fun j hj => ?_⟩⟩
      · rw [List.size_toArray, rows_length hC]; omega
      · rw [Nat.zero_add, List.getElem?_toArray]
    · exact hM.thing r hr
  · show (foot L (gT e sz cf (.slice (some ⟨g, 0, none⟩) l.length l.length) l :: R)).Perm _
    have e5 : (gT e sz cf (.slice (some ⟨g, 0, none⟩) l.length l.length) l).fp = [g] := sFp_pos (a := ⟨g, 0, none⟩) h0
    simp only [foot, List.flatMap_cons, e5, List.map_cons]
    exact List.perm_middle
end Go.Lin
namespace Go.Proofs.YtlidpdjainmaiaaGreatDoor
open Go Go.RowKit Go.Bul Go.Thg Go.Lin Go.Cht Go.Maps
set_option maxRecDepth 20000 in
set_option maxHeartbeats 2000000 in
theorem room_yes (s : ByteArray) (t : List Nat) (hs : nums s = 35 :: t) (h1 : 1 ≤ t.length) (h3 : t.length ≤ 30) (hall : ∀ b ∈ t, lowC b = true) (w : World) : Calls Tryz.prog 14 #[.string s] w fun e w' => e = .returned (.bool true) ∧ Below w.heap.size w w' := by
  have hM := Mem.start [] w
  obtain ⟨m, hm⟩ : ∃ m, s.size = m := ⟨_, rfl⟩
  have hml : m = t.length + 1 := by rw [← hm, ← nums_length, hs]; rfl
  have m2 : (2 : Int) ≤ (m : Int) := by omega
  have m3 : (m : Int) ≤ 31 := by omega
  have hz0 : 0 < s.size := by omega
  have h0n : (nums s).getD 0 0 = 35 := by rw [hs]; rfl
  have h0 : (s[0]'hz0).toNat = 35 := by rw [← num_at s 0 hz0]; exact h0n
  have HL := Lib.hid (show ∀ k, 1 ≤ k → k < m → lowC ((nums s).getD k 0) = true from fun k hk hkm => by
    refine hall _ ?_
    obtain ⟨i, rfl⟩ : ∃ i, k = i + 1 := ⟨k - 1, by omega⟩
    have hi : i < t.length := by omega
    have e : (nums s).getD (i + 1) 0 = t[i] := by rw [hs]; simp [List.getD_eq_getElem?_getD, List.getElem?_eq_getElem hi]
    rw [e]
    exact List.getElem_mem hi)
  clear hs h1 h3 hall hml h0n
  go_enter Tryz.func14, Tryz.ntmps14
  go_wp2_with fail
  have M0 := Lib.hid hM
  clear hM
  go_loopw [3] (fun a wr => ∃ k : Nat, 1 ≤ k ∧ k ≤ m ∧ a = .int .i64 (k : Nat) ∧ Mem [] w [] [] wr) (fun a _ => m - (intOf a).toNat)
  case atStart => exact ⟨1, Nat.le_refl _, by omega, rfl, M0.out⟩
  case round =>
    clear M0
    obtain ⟨k, hk1, hk, rfl, hM⟩ := hrel
    have k0 : (0 : Int) ≤ (k : Int) := Int.natCast_nonneg _
    by_cases hlt : k < m
    · have hlt' : (k : Int) < (m : Int) := by omega
      have hll := HL.out k hk1 hlt
      obtain ⟨d, hd⟩ : ∃ d, (nums s).getD k 0 = d := ⟨_, rfl⟩
      have hks : k < s.size := by omega
      have hdk : (s[k]'hks).toNat = d := by rw [← num_at s k hks]; exact hd
      have HD := Lib.hid (isLower_any d)
      rw [hd] at hll
      rw [hll] at HD
      clear hll hd
      go_wp2_with ((with_reducible refine (HD.out _).mono ?_); rintro e w1 ⟨rfl, rfl⟩)
      exact ⟨⟨k + 1, by omega, by omega, by go_num, hM⟩, by simp [intOf]; omega⟩
    · obtain rfl : k = m := by omega
      go_wp2_with fail
      go_ret
      exact ⟨rfl, hM.below⟩
set_option maxRecDepth 20000 in
theorem comp1_no (c : Nat) (hc : lowC c = true) (w : World) : Calls Tryz.prog 61 #[.int .u8 (c : Nat)] w fun e w' => e = .returned (.bool false) ∧ w = w' := by
  have HL := Lib.hid (glower_any c)
  rw [hc] at HL
  clear hc
  go_enter Tryz.func61, Tryz.ntmps61
  go_wp2_with ((with_reducible refine (HL.out _).mono ?_); rintro e w1 ⟨rfl, rfl⟩)
  go_ret
  exact ⟨rfl, rfl⟩
section
variable {w w0 : World} {G : List Nat} {L : List Ent} {R : List Thing}
set_option maxRecDepth 20000 in
set_option maxHeartbeats 2000000 in
theorem bix_any (g c d : Nat) (hd : lowC d = true) (hM : Mem G w0 L R w) (hR : mbT g [d] ∈ R) : Calls Tryz.prog 79 #[.slice (some ⟨g, 0, none⟩) 1 c, .func (.func 61) #[] #[]] w fun e w' => e = .returned (.int .i64 (-1)) ∧ Mem G w0 L R w' := by
  have HC := Lib.hid (comp1_no d hd)
  have HX := Lib.hid (show ∀ w', Mem G w0 L R w' → w'.cell? ⟨g, 0, none⟩ = some (.int .u8 (d : Nat)) from fun w' h => mb_cell (h.thing _ hR) (j := 0) (by simp))
  clear hd
  go_enter Tryz.func79, Tryz.ntmps79
  go_wp2_with fail
  refine wp_loop_rounds 2 ?_
  rw [rounds_succ]
  go_wp2_with (first | ((with_reducible refine at_load ?_); refine nlo (HX.out _ hM) ?_) | ((with_reducible refine (HC.out _).mono ?_); rintro e w1 ⟨rfl, rfl⟩))
  rw [rounds_succ]
  go_wp2_with fail
  go_ret
  exact ⟨rfl, hM⟩
set_option maxRecDepth 20000 in
theorem bco_any (g c d : Nat) (hd : lowC d = true) (hM : Mem G w0 L R w) (hR : mbT g [d] ∈ R) : Calls Tryz.prog 60 #[.slice (some ⟨g, 0, none⟩) 1 c, .func (.func 61) #[] #[]] w fun e w' => e = .returned (.bool false) ∧ Mem G w0 L R w' := by
  have HC := Lib.hid (fun w hM => bix_any (w := w) (w0 := w0) (G := G) (L := L) (R := R) g c d hd hM hR)
  clear hd
  go_enter Tryz.func60, Tryz.ntmps60
  go_wp2_with ((with_reducible refine (HC.out _ hM).mono ?_); rintro e w1 ⟨rfl, hM2⟩; clear hM; have hM := hM2; clear hM2)
  go_ret
  exact ⟨rfl, hM⟩
end
set_option maxRecDepth 20000 in
set_option maxHeartbeats 2000000 in
theorem comp_yes (s : ByteArray) (d : Nat) (hs : nums s = [d]) (hd : lowC d = true) (w : World) : Calls Tryz.prog 36 #[.string s] w fun e w' => e = .returned (.bool true) ∧ Below w.heap.size w w' := by
  have hM := Mem.start [] w
  have hm : s.size = 1 := by rw [← nums_length, hs]; rfl
  have hse : s.toList.isEmpty = false := isEmpty_no (by omega)
  have hz0 : 0 < s.size := by omega
  have h0n : (nums s).getD 0 0 = d := by rw [hs]; rfl
  have h0 : (s[0]'hz0).toNat = d := by rw [← num_at s 0 hz0]; exact h0n
  have HL := Lib.hid (glower_any d)
  rw [hd] at HL
  have HS := Lib.hid hs
  have HD := Lib.hid hd
  clear hs hd h0n
  go_enter Tryz.func36, Tryz.ntmps36
  go_wp2_with (first | ((with_reducible refine (HL.out _).mono ?_); rintro e w1 ⟨rfl, rfl⟩) | ((with_reducible refine at_conv ?_); refine gcv hM ?_; clear hM; intro g c wx hM; rw [HS.out, hm] at *) | ((with_reducible refine (bco_any _ _ d HD.out hM (List.Mem.head _)).mono ?_); rintro e w1 ⟨rfl, hM2⟩; clear hM; have hM := hM2; clear hM2))
  go_ret
  exact ⟨rfl, hM.below⟩
set_option maxRecDepth 20000 in
theorem chk1_any (s : ByteArray) (d : Nat) (hs : nums s = [d]) (hd : lowC d = true) (w : World) : Calls Tryz.prog 35 #[.string s] w fun e w' => e = .returned (.bool false) ∧ Below w.heap.size w w' := by
  have hM := Mem.start [] w
  have HC := Lib.hid (fun w => comp_yes s d hs hd w)
  clear hs hd
  go_enter Tryz.func35, Tryz.ntmps35
  go_wp2_with ((with_reducible refine (HC.out _).mono ?_); rintro e w1 ⟨rfl, hb⟩; replace hM := hM.step hb; clear hb)
  go_ret
  exact ⟨rfl, hM.below⟩
section
variable {w w0 : World} {G : List Nat} {L : List Ent} {R : List Thing}
set_option maxRecDepth 20000 in
set_option maxHeartbeats 2000000 in
theorem six_any (g : Nat) (s1 s2 : ByteArray) (d1 d2 : Nat) (h1 : nums s1 = [d1]) (h2 : nums s2 = [d2]) (hd1 : lowC d1 = true) (hd2 : lowC d2 = true) (hM : Mem G w0 L R w) (hL : ⟨g, 9, 2, #[.string s1, .string s2]⟩ ∈ L) : Calls Tryz.prog 58 #[.slice (some ⟨g, 0, none⟩) 2 2, .func (.func 35) #[] #[]] w fun e w' => e = .returned (.int .i64 (-1)) ∧ Mem G w0 L R w' := by
  have HC1 := Lib.hid (fun w => chk1_any s1 d1 h1 hd1 w)
  have HC2 := Lib.hid (fun w => chk1_any s2 d2 h2 hd2 w)
  clear h1 h2 hd1 hd2
  go_enter Tryz.func58, Tryz.ntmps58
  go_wp2_with fail
  refine wp_loop_rounds 3 ?_
  rw [rounds_succ]
  go_wp2_with (first | ((with_reducible refine (HC1.out _).mono ?_); rintro e w1 ⟨rfl, hb⟩; replace hM := hM.step hb; clear hb) | ((first | with_reducible refine at_load ?_ | ((with_reducible refine at_load_g ?_ ?_); (· rfl))); first | refine nll hM ?_ | refine nlc hM ?_ | refine nlp hM ?_) | ((with_reducible refine at_store ?_); first | (refine nlw hM ?_; clear hM; intro wx hM) | (refine nls hM ?_; clear hM; intro wx hM) | (refine nlt hM ?_; clear hM; intro wx hM)) | ((with_reducible refine at_alloc ?_); refine nlz hM ?_; clear hM; intro gx wx hM) | ((with_reducible refine at_box ?_); first | (refine nlb hM ?_; clear hM; intro gx wx hM) | (refine nlx hM ?_; clear hM; intro gx wx hM)))
  rw [rounds_succ]
  go_wp2_with (first | ((with_reducible refine (HC2.out _).mono ?_); rintro e w1 ⟨rfl, hb⟩; replace hM := hM.step hb; clear hb) | ((first | with_reducible refine at_load ?_ | ((with_reducible refine at_load_g ?_ ?_); (· rfl))); first | refine nll hM ?_ | refine nlc hM ?_ | refine nlp hM ?_) | ((with_reducible refine at_store ?_); first | (refine nlw hM ?_; clear hM; intro wx hM) | (refine nls hM ?_; clear hM; intro wx hM) | (refine nlt hM ?_; clear hM; intro wx hM)) | ((with_reducible refine at_alloc ?_); refine nlz hM ?_; clear hM; intro gx wx hM) | ((with_reducible refine at_box ?_); first | (refine nlb hM ?_; clear hM; intro gx wx hM) | (refine nlx hM ?_; clear hM; intro gx wx hM)))
  rw [rounds_succ]
  go_wp2_with fail
  go_ret
  exact ⟨rfl, hM⟩
set_option maxRecDepth 20000 in
theorem sco_any (g : Nat) (s1 s2 : ByteArray) (d1 d2 : Nat) (h1 : nums s1 = [d1]) (h2 : nums s2 = [d2]) (hd1 : lowC d1 = true) (hd2 : lowC d2 = true) (hM : Mem G w0 L R w) (hL : ⟨g, 9, 2, #[.string s1, .string s2]⟩ ∈ L) : Calls Tryz.prog 34 #[.slice (some ⟨g, 0, none⟩) 2 2, .func (.func 35) #[] #[]] w fun e w' => e = .returned (.bool false) ∧ Mem G w0 L R w' := by
  have HC := Lib.hid (fun w hM => six_any (w := w) (w0 := w0) (G := G) (L := L) (R := R) g s1 s2 d1 d2 h1 h2 hd1 hd2 hM hL)
  clear h1 h2 hd1 hd2
  go_enter Tryz.func34, Tryz.ntmps34
  go_wp2_with ((with_reducible refine (HC.out _ hM).mono ?_); rintro e w1 ⟨rfl, hM2⟩; clear hM; have hM := hM2; clear hM2)
  go_ret
  exact ⟨rfl, hM⟩
end
/-! "a.b" in its parts. -/
abbrev abB : ByteArray := ⟨#[97, 46, 98]⟩
abbrev dotB : ByteArray := ⟨#[46]⟩
set_option maxRecDepth 20000 in
theorem count_ab (w : World) : Calls Tryz.prog 94 #[.string abB, .string dotB] w fun e w' => e = .returned (.int .i64 1) ∧ w = w' := by
  have hz : 0 < dotB.size := by decide
  have h0n : (nums dotB).getD 0 0 = 46 := rfl
  go_enter Tryz.func94, Tryz.ntmps94
  go_wp2_with ((first | (with_reducible refine at_ix_g ?_ ?_; (· rfl)) | with_reducible refine at_ix ?_); refine gix hz h0n rfl ?_)
  rw [run_callFunc_extern Tryz.func108 (by kernel_rfl) (by kernel_rfl) (by kernel_rfl) (e := Extern.BytealgCount.count) (by kernel_rfl), Lib.run_countString]
  simp only [Result.andThen]
  rw [Oper.upon_value]
  go_wp2_with fail
  go_ret
  exact ⟨rfl, rfl⟩
set_option maxRecDepth 20000 in
theorem index_ab (w : World) : Calls Tryz.prog 95 #[.string abB, .string dotB] w fun e w' => e = .returned (.int .i64 1) ∧ w = w' := by
  have HI := Lib.hid (show ∀ w, Calls Tryz.prog 68 #[.string abB, .string dotB] w fun e w' => e = .returned (.int .i64 1) ∧ w = w' from fun w => index1_any abB 46 (by decide) w)
  go_enter Tryz.func95, Tryz.ntmps95
  go_wp2_with ((with_reducible refine (HI.out _).mono ?_); rintro e w1 ⟨rfl, rfl⟩)
  go_ret
  exact ⟨rfl, rfl⟩
section
variable {w w0 : World} {G : List Nat} {L : List Ent} {R : List Thing} {ops : Array Oper} {rest : List Oper} {o : Oper} {a : Act} {Q : Exit → Act → World → Prop} {x y : Operand}
theorem run_mks2 (w : World) : (Instr.makeSlice 33 (.int .i64 2) (.int .i64 2)).run Tryz.prog w = .ok (.slice (some ⟨w.heap.size, 0, none⟩) 2 2) (w.alloc (.cells #[.string ⟨#[]⟩, .string ⟨#[]⟩] 9)) := by kernel_rfl
theorem gmks2 (hM : Mem G w0 L R w) (h : ∀ g w', Mem G w0 (⟨g, 9, 2, #[.string ⟨#[]⟩, .string ⟨#[]⟩]⟩ :: L) R w' → wpList Tryz.prog ops Q rest (a.put o.dst (.slice (some ⟨g, 0, none⟩) 2 2)) w') (hgd : o.guard = none := by rfl) (ho : o.op = .makeSlice 33 x y := by rfl) (hx : a.eval x = .int .i64 2 := by rfl) (hy : a.eval y = .int .i64 2 := by rfl) : wpList Tryz.prog ops Q (o :: rest) a w := by
  refine wpList_plain hgd fun K hK => ?_
  unfold Oper.wp execOp
  simp only [ho, hx, hy, Sem.run_bind, run_mks2, Result.andThen_ok, Sem.run_pure]
  exact hK _ _ (h _ _ (hM.alloc _ _ rfl))
end
set_option maxRecDepth 20000 in
set_option maxHeartbeats 2000000 in
theorem gsplit_ab (w : World) : Calls Tryz.prog 78 #[.string abB, .string dotB, .int .i64 0, .int .i64 (-1)] w fun e w' => ∃ g, e = .returned (.slice (some ⟨g, 0, none⟩) 2 2) ∧ Mem [] w [⟨g, 9, 2, #[.string ⟨#[97]⟩, .string ⟨#[98]⟩]⟩] [] w' := by
  have hM := Mem.start [] w
  have HI := Lib.hid index_ab
  have HC := Lib.hid count_ab
  have hmin : min (2 : Int) 4 = 2 := by decide
  have x1 : abB.extract 0 1 = ⟨#[97]⟩ := by decide
  have x2 : abB.extract 2 3 = ⟨#[98]⟩ := by decide
  go_enter Tryz.func78, Tryz.ntmps78
  go_wp2_with (first | ((with_reducible refine (HC.out _).mono ?_); rintro e w1 ⟨rfl, rfl⟩) | ((with_reducible refine at_mslice ?_); refine gmks2 hM ?_; clear hM; intro gm wm hM))
  refine wp_loop_rounds 2 ?_
  rw [rounds_succ]
  go_wp2_with (first | ((with_reducible refine (HI.out _).mono ?_); rintro e w1 ⟨rfl, rfl⟩) | ((first | with_reducible refine at_load ?_ | ((with_reducible refine at_load_g ?_ ?_); (· rfl))); first | refine nll hM ?_ | refine nlc hM ?_ | refine nlp hM ?_) | ((with_reducible refine at_store ?_); first | (refine nlw hM ?_; clear hM; intro wx hM) | (refine nls hM ?_; clear hM; intro wx hM) | (refine nlt hM ?_; clear hM; intro wx hM)) | ((with_reducible refine at_alloc ?_); refine nlz hM ?_; clear hM; intro gx wx hM) | ((with_reducible refine at_box ?_); first | (refine nlb hM ?_; clear hM; intro gx wx hM) | (refine nlx hM ?_; clear hM; intro gx wx hM)))
  rw [rounds_succ]
  go_wp2_with (first | ((first | with_reducible refine at_load ?_ | ((with_reducible refine at_load_g ?_ ?_); (· rfl))); first | refine nll hM ?_ | refine nlc hM ?_ | refine nlp hM ?_) | ((with_reducible refine at_store ?_); first | (refine nlw hM ?_; clear hM; intro wx hM) | (refine nls hM ?_; clear hM; intro wx hM) | (refine nlt hM ?_; clear hM; intro wx hM)) | ((with_reducible refine at_alloc ?_); refine nlz hM ?_; clear hM; intro gx wx hM) | ((with_reducible refine at_box ?_); first | (refine nlb hM ?_; clear hM; intro gx wx hM) | (refine nlx hM ?_; clear hM; intro gx wx hM)))
  go_ret
  exact ⟨gm, rfl, hM⟩
theorem split_ab (w : World) : Calls Tryz.prog 57 #[.string abB, .string dotB] w fun e w' => ∃ g, e = .returned (.slice (some ⟨g, 0, none⟩) 2 2) ∧ Mem [] w [⟨g, 9, 2, #[.string ⟨#[97]⟩, .string ⟨#[98]⟩]⟩] [] w' := by
  have HC := Lib.hid gsplit_ab
  go_enter Tryz.func57, Tryz.ntmps57
  go_wp2_with ((with_reducible refine (HC.out _).mono ?_); rintro e w1 ⟨g, rfl, hM⟩)
  go_ret
  exact ⟨g, rfl, hM⟩
theorem parts_ab (w : World) : Calls Tryz.prog 33 #[.string abB] w fun e w' => ∃ g, e = .returned (.slice (some ⟨g, 0, none⟩) 2 2) ∧ Mem [] w [⟨g, 9, 2, #[.string ⟨#[97]⟩, .string ⟨#[98]⟩]⟩] [] w' := by
  have HC := Lib.hid split_ab
  go_enter Tryz.func33, Tryz.ntmps33
  go_wp2_with ((with_reducible refine (HC.out _).mono ?_); rintro e w1 ⟨g, rfl, hM⟩)
  go_ret
  exact ⟨g, rfl, hM⟩
set_option maxRecDepth 20000 in
theorem gcheck_ab (w : World) : Calls Tryz.prog 15 #[.string abB] w fun e w' => e = .returned (.int .i64 0) ∧ Below w.heap.size w w' := by
  have hM0 := Lib.hid parts_ab
  go_enter Tryz.func15, Tryz.ntmps15
  go_wp2_with (first | ((with_reducible refine (hM0.out _).mono ?_); rintro e w1 ⟨g, rfl, hM⟩) | ((with_reducible refine (sco_any g ⟨#[97]⟩ ⟨#[98]⟩ 97 98 rfl rfl rfl rfl hM (List.Mem.head _)).mono ?_); rintro e w1 ⟨rfl, hM2⟩; clear hM; have hM := hM2; clear hM2))
  go_ret
  exact ⟨rfl, hM.below⟩
end Go.Proofs.YtlidpdjainmaiaaGreatDoor
