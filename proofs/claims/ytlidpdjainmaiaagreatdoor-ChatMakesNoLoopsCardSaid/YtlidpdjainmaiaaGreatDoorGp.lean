/- Seat c: the bytes of a text in memory; Lower, EqualFold. -/
import Derived.Test.YtlidpdjainmaiaaGreatDoorGn
import Derived.Laws.BytesArg
import Derived.Lib.ConvBytes
import Derived.Lib.SliceRun
namespace Go.Thg
open Go Go.RowKit Go.Bul
/-- The bytes of a converted string. -/
def mbT (g : Nat) (bs : List Nat) : Thing where
  fp := [g]
  P := fun w => ∃ cur t m, w.heap[g]? = some (.cells cur t (m, m + 1)) ∧ bs.length ≤ m ∧ ∀ j, j < bs.length → cur[j]? = some (.int .u8 (bs.getD j 0 : Nat))
  keep := fun w w' h ⟨cur, t, m, h1, h2⟩ => ⟨cur, t, m, (h g (List.mem_singleton.2 rfl)).trans h1, h2⟩
  lt := fun w ⟨cur, t, m, h1, _⟩ k hk => by
    obtain rfl := List.mem_singleton.1 hk
    exact (Array.getElem?_eq_some_iff.1 h1).1
  nd := fun _ _ => by simp
theorem mb_new (w : World) (e : TypeId) (s : ByteArray) : Becomes [] w (mbT w.heap.size (nums s)) (Lib.bytesWorld w e s) := by
  refine ⟨⟨_, _, _, Lib.bytesWorld_at_new w e s, ?_, fun j hj => ?_⟩, ⟨?_, ?_, ?_, by rw [Lib.bytesWorld_size]; omega, fun k hk _ => Lib.bytesWorld_at_old w e s k hk⟩, fun g hg => .inr ?_⟩
  · rw [nums_length]
    unfold Lib.bytesCells
    rw [Array.size_append, Array.size_map]
    exact Nat.le_add_right _ _
  · rw [nums_length] at hj
    have := Lib.bytesWorld_cell w e s j hj
    simp only [World.cell?, Lib.bytesWorld_at_new] at this
    have h2 : ((nums s).getD j 0) = (s.data.toList.getD j 0).toNat := by
      have h3 : j < s.data.toList.length := by rw [Array.length_toList]; exact hj
      simp only [nums, List.getD_eq_getElem?_getD, List.getElem?_map, List.getElem?_eq_getElem h3]
      rfl
    rw [h2]
    exact this
  · simp [Lib.bytesWorld, World.freeze, World.alloc, World.drew, -World.alloc_eq, -World.drew_eq]
  · simp [Lib.bytesWorld, World.freeze, World.alloc, World.drew, -World.alloc_eq, -World.drew_eq]
  · simp [Lib.bytesWorld, World.freeze, World.alloc, World.drew, -World.alloc_eq, -World.drew_eq]
  · obtain rfl := List.mem_singleton.1 hg
    exact Nat.le_refl _
theorem mb_cell {g : Nat} {bs : List Nat} {w : World} (h : (mbT g bs).P w) {j : Nat} (hj : j < bs.length) : w.cell? ⟨g, j, none⟩ = some (.int .u8 (bs.getD j 0 : Nat)) := by
  obtain ⟨cur, t, m, h1, _, h3⟩ := h
  simp [World.cell?, h1, h3 j hj]
theorem mb_reads {g : Nat} {bs : List Nat} {w : World} (h : (mbT g bs).P w) : Reads w 1 (some ⟨g, 0, none⟩) bs.length (vals .u8 bs) := by
  refine ⟨by simp, fun h0 => ⟨g, 0, rfl, (mbT g bs).lt w h g (List.mem_singleton.2 rfl), fun j u hu => ?_⟩⟩
  have hj : j < bs.length := by
    have := (List.getElem?_eq_some_iff.1 hu).1
    simpa using this
  rw [Nat.zero_add, mb_cell h hj, ← hu]
  simp [vals, List.getElem?_eq_getElem hj, List.getD_eq_getElem?_getD]
theorem mb_set {g : Nat} {bs : List Nat} {w : World} (h : (mbT g bs).P w) {i x : Nat} (hi : i < bs.length) : Becomes [g] w (mbT g (bs.set i x)) (w.setCell ⟨g, i, none⟩ (.int .u8 (x : Nat))) := by
  obtain ⟨cur, t, m, h1, h2, h3⟩ := h
  have hk : KeptBut [g] w (w.setCell ⟨g, i, none⟩ (.int .u8 (x : Nat))) := by
    rw [setCell_eq_setRow w g i cur t _ _ h1]
    exact KeptBut.only ((Only.refl g w).setRow _)
  refine ⟨⟨cur.setIfInBounds i (.int .u8 (x : Nat)), t, m, ?_, by simpa using h2, fun j hj => ?_⟩, hk, fun k hk => .inl hk⟩
  · rw [setCell_eq_setRow w g i cur t _ _ h1]
    exact setRow_heap w g cur _ t _ h1
  · rw [List.length_set] at hj
    have hc : i < cur.size := (Array.getElem?_eq_some_iff.1 (h3 i hi)).1
    rw [Array.getElem?_setIfInBounds]
    by_cases e : i = j
    · subst e
      simp [hc, hi, List.getD_eq_getElem?_getD]
    · rw [if_neg e, h3 j hj]
      simp [List.getD_eq_getElem?_getD, e]
end Go.Thg
namespace Go.Cht
open Go Go.Bul
def lowC2 (c : Nat) : Nat := if uppC c then c + 32 else c
def lowL (l : List Nat) : List Nat := l.map lowC2
def lowK (l : List Nat) (k : Nat) : List Nat := lowL (l.take k) ++ l.drop k
theorem lowK_len (l : List Nat) (k : Nat) : (lowK l k).length = l.length := by simp [lowK, lowL]; omega
theorem lowK_get (l : List Nat) (k : Nat) (h : k < l.length) : (lowK l k).getD k 0 = l.getD k 0 := by
  have e : (lowL (l.take k)).length = k := by simp [lowL]; omega
  rw [lowK, List.getD_eq_getElem?_getD, List.getElem?_append_right (by omega), e, Nat.sub_self, List.getElem?_drop, Nat.add_zero, ← List.getD_eq_getElem?_getD]
theorem lowK_succ (l : List Nat) (k : Nat) (h : k < l.length) : (lowK l k).set k (lowC2 (l.getD k 0)) = lowK l (k + 1) := by
  have e : (lowL (l.take k)).length = k := by simp [lowL]; omega
  have e2 : l.getD k 0 = l[k] := by simp [h]
  rw [lowK, lowK, List.set_append_right _ _ (by omega), e, Nat.sub_self, List.drop_eq_getElem_cons h, List.set_cons_zero, e2, List.take_succ_eq_append_getElem h]
  simp only [lowL, List.map_append, List.map_cons, List.map_nil, List.append_assoc, List.cons_append, List.nil_append]
theorem lowK_same (l : List Nat) (k : Nat) (h : k < l.length) (hu : uppC (l.getD k 0) = false) : lowK l k = lowK l (k + 1) := by
  rw [← lowK_succ l k h, lowC2, hu, if_neg (by decide), ← lowK_get l k h, List.getD_eq_getElem?_getD, List.getElem?_eq_getElem (by rw [lowK_len]; exact h)]
  simp
theorem lowL_bytes {l : List Nat} (h : Bytes l) : Bytes (lowL l) := by
  intro x hx
  obtain ⟨c, hc, rfl⟩ := List.mem_map.1 hx
  have := h c hc
  unfold lowC2
  split
  · rename_i h
    simp [uppC] at h
    omega
  · exact this
theorem lowK_all (l : List Nat) : lowK l l.length = lowL l := by simp [lowK]
end Go.Cht
namespace Go.Proofs.YtlidpdjainmaiaaGreatDoor
open Go Go.RowKit Go.Bul Go.Thg Go.Lin Go.Cht
/-- A string out of bytes. -/
theorem reads_str {w : World} {A : Option Addr} {n : Nat} {bs : List Nat} (h : Reads w 1 A n (vals .u8 bs)) (c : Nat) : (convert 61 9 (.slice A n c)).run Tryz.prog w = .ok (.string (bstr bs)) w := by
  have hlen : n = bs.length := by have := h.1; simp at this; omega
  have hz : ∀ (ad : Addr), (∀ j v, (vals .u8 bs)[j]? = some v → w.cell? (ad.add j) = some v) → (convert 61 9 (.slice (some ad) n c)).run Tryz.prog w = .ok (.string (bstr bs)) w := fun ad hc => by
    have hl := run_loadCells_list (P := Tryz.prog) w ad (vals .u8 bs) hc
    rw [vals_length, ← hlen] at hl
    have hv : vals .u8 bs = (bs.map fun (n : Nat) => (n : Int)).map (Value.int .u8) := by simp [vals]
    rw [hv] at hl
    rw [run_convert_bytes_string w _ _ 5 (some ad) n c Tryz.underlying61 Tryz.underlying5 Tryz.underlying9, run_bytesToString w ad n c _ hl, foldl_push_bytes, ← bstr_nums]
    simp [strOfNums, ByteArray.empty, ByteArray.emptyWithCapacity]
    rfl
  rcases Nat.eq_zero_or_pos n with h0 | h0
  · subst h0
    obtain rfl : bs = [] := List.eq_nil_of_length_eq_zero hlen.symm
    cases A with
    | none =>
      rw [run_convert_bytes_string w _ _ 5 none 0 c Tryz.underlying61 Tryz.underlying5 Tryz.underlying9]
      simp [Conv.bytesToString, bstr]
      rfl
    | some ad => exact hz ad (by simp [vals])
  · obtain ⟨g, off, rfl, _, h2⟩ := h.2 h0
    exact hz _ fun j v hv => by rw [addr_at]; exact h2 j v hv
section
variable {w w0 : World} {G : List Nat} {L : List Ent} {R : List Thing} {ops : Array Oper} {rest : List Oper} {o : Oper} {a : Act} {Q : Exit → Act → World → Prop} {dst : Option Tmp} {type : TypeId} {pos : String} {after : Array Edge} {x y : Operand} {t u : TypeId} {F : Thing → List Thing} {g i n c v : Nat} {bs : List Nat} {A : Option Addr}
theorem at_conv (h : wpList Tryz.prog ops Q (⟨dst, .convert t u x, type, pos, after, none⟩ :: rest) a w) : wpList Tryz.prog ops Q (⟨dst, .convert t u x, type, pos, after, none⟩ :: rest) a w := h
/-- A text becomes bytes, that may be written. -/
theorem gcv {s : ByteArray} (hM : Mem G w0 L R w) (h : ∀ g c w', Mem G w0 L (mbT g (nums s) :: R) w' → wpList Tryz.prog ops Q rest (a.put o.dst (.slice (some ⟨g, 0, none⟩) s.size c)) w') (hgd : o.guard = none := by rfl) (ho : o.op = .convert 9 61 x := by rfl) (hx : a.eval x = .string s := by rfl) : wpList Tryz.prog ops Q (o :: rest) a w := by
  refine wpList_plain hgd fun K hK => ?_
  unfold Oper.wp execOp
  simp only [ho, hx, Sem.run_bind, Lib.run_convert_string_bytes w 9 61 5 s Tryz.underlying9 Tryz.underlying61 Tryz.underlying5, Result.andThen_ok, Sem.run_pure]
  exact hK _ _ (h _ _ _ (hM.newThing (mb_new w _ s)))
/-- Bytes become a text. -/
theorem gcs (hr : Reads w 1 A n (vals .u8 bs)) (h : wpList Tryz.prog ops Q rest (a.put o.dst (.string (bstr bs))) w) (hgd : o.guard = none := by rfl) (ho : o.op = .convert 61 9 x := by rfl) (hx : a.eval x = .slice A n c := by rfl) : wpList Tryz.prog ops Q (o :: rest) a w :=
  wpList_plain hgd fun K hK => by
    unfold Oper.wp execOp
    simp only [ho, hx, Sem.run_bind, Sem.run_pure, Result.andThen_ok, reads_str hr c]
    exact hK _ _ h
/-- A byte is written. -/
theorem gss (hM : Mem G w0 L R w) (hi : i < bs.length) (h : ∀ w', Mem G w0 L (F (mbT g (bs.set i v))) w' → wpList Tryz.prog ops Q rest a w') (hgd : o.guard = none := by rfl) (ho : o.op = .store 5 x y := by rfl) (hx : a.eval x = .pointer (some ⟨g, i, none⟩) := by rfl) (hy : a.eval y = .int .u8 (v : Nat) := by rfl) (hR : UpdR (mbT g bs) R F := by repeat (first | exact UpdR.head _ _ | assumption | apply UpdR.tail)) (hdst : o.dst = none := by rfl) : wpList Tryz.prog ops Q (o :: rest) a w := by
  have hP := hM.thing _ (mem_of_updR hR)
  have hc := mb_cell hP hi
  have hf : w.frozen? ⟨g, i, none⟩ = false := by
    obtain ⟨cur, t, m, h1, h2, _⟩ := hP
    simp [World.frozen?, h1]
    omega
  obtain ⟨d, hu, hd, hs⟩ := one_u8.ex
  have hst := run_storeCells_cells (P := Tryz.prog) g i [.int .u8 (v : Nat)] 0 w (by simp [hc]) (by simp [hf]) (by simp [Value.oneCell'])
  refine wpList_plain hgd fun K hK => ?_
  unfold Oper.wp execOp
  simp only [ho, hx, hy, Instr.storeAt, Instr.sureAddr, storeVar, Value.cells, Sem.run_bind, Sem.run_pure, Result.andThen_ok, Go.Bul.run_sizeOf hs, List.size_toArray, List.length_cons, List.length_nil, ne_eq, not_true_eq_false, if_false, Nat.add_zero, hst]
  show K (a.put o.dst undef) _
  rw [hdst]
  exact hK _ _ (h _ (hM.turn hR (mb_set hP hi)))
end
set_option maxRecDepth 20000 in
set_option maxHeartbeats 4000000 in
theorem lower_any (s : ByteArray) (w : World) (hsz : s.size ≤ 1000000000) : Calls Tryz.prog 40 #[.string s] w fun e w' => e = .returned (.string (bstr (lowL (nums s)))) ∧ Below w.heap.size w w' := by
  have hM := Mem.start [] w
  obtain ⟨m, hm⟩ : ∃ m, s.size = m := ⟨_, rfl⟩
  have hlen : (nums s).length = m := by rw [nums_length, hm]
  have HLEN := Lib.hid hlen
  have m0 : (0 : Int) ≤ (m : Int) := Int.natCast_nonneg _
  have m1 : (m : Int) ≤ 1000000000 := by omega
  have HB := Lib.hid (bytes_of_nums s)
  clear hsz hlen
  go_enter Tryz.func40, Tryz.ntmps40
  go_wp2_with (first | ((with_reducible refine at_conv ?_); refine gcv hM ?_; clear hM; intro gb cb wb hM; rw [hm]))
  have M0 := Lib.hid hM
  clear hM
  go_loopw [10] (fun a wr => ∃ k : Nat, k ≤ m ∧ a = .int .i64 (k : Nat) ∧ Mem [] w [] [mbT gb (lowK (nums s) k)] wr) (fun a _ => m - (intOf a).toNat)
  case atStart => exact ⟨0, Nat.zero_le _, rfl, by simpa [lowK, lowL] using M0.out⟩
  case round =>
    clear M0
    obtain ⟨k, hk, rfl, hM⟩ := hrel
    have k0 : (0 : Int) ≤ (k : Int) := Int.natCast_nonneg _
    by_cases hlt : k < m
    · have hlt' : (k : Int) < (m : Int) := by omega
      obtain ⟨d, hd⟩ : ∃ d, (nums s).getD k 0 = d := ⟨_, rfl⟩
      have hkl : k < (nums s).length := by rw [HLEN.out]; exact hlt
      have HK := Lib.hid (show k < (lowK (nums s) k).length by rw [lowK_len]; exact hkl)
      have HC := Lib.hid (show ∀ w', Mem [] w [] [mbT gb (lowK (nums s) k)] w' → w'.cell? ⟨gb, k, none⟩ = some (.int .u8 (d : Nat)) from fun w' h => by
        have := mb_cell (h.thing _ (List.Mem.head _)) HK.out
        rwa [lowK_get _ _ hkl, hd] at this)
      have HU := Lib.hid (isUpper_any d)
      cases hx : uppC d with
      | true =>
        have hd90 : d ≤ 90 := by simp [uppC] at hx; omega
        have HS := Lib.hid (lowK_succ (nums s) k hkl)
        rw [hd, lowC2, hx, if_pos rfl] at HS
        rw [hx] at HU
        have d1 : (d : Int) + 32 ≤ 255 := by omega
        have d0 : (0 : Int) ≤ (d : Int) := Int.natCast_nonneg _
        clear hkl hx hd90 hd
        go_wp2_with (first | ((with_reducible refine (HU.out _).mono ?_); rintro e w1 ⟨rfl, rfl⟩) | refine nlo (HC.out _ hM) ?_ | (refine gss (v := d + 32) hM HK.out ?_ (hy := by go_num); clear hM; intro w1 hM; rw [HS.out] at hM))
        exact ⟨⟨k + 1, by omega, by go_num, hM⟩, by simp [intOf]; omega⟩
      | false =>
        have HS := Lib.hid (lowK_same (nums s) k hkl (by rw [hd]; exact hx))
        rw [hx] at HU
        clear hkl hx hd
        go_wp2_with (first | ((with_reducible refine (HU.out _).mono ?_); rintro e w1 ⟨rfl, rfl⟩) | refine nlo (HC.out _ hM) ?_)
        rw [HS.out] at hM
        exact ⟨⟨k + 1, by omega, by go_num, hM⟩, by simp [intOf]; omega⟩
    · obtain rfl : k = m := by omega
      have hal : lowK (nums s) k = lowL (nums s) := by rw [← lowK_all, HLEN.out]
      rw [hal] at hM
      have hr := mb_reads (hM.thing _ (List.Mem.head _))
      rw [show (lowL (nums s)).length = k by rw [lowL, List.length_map, HLEN.out]] at hr
      go_wp2_with (first | ((with_reducible refine at_conv ?_); refine gcs hr ?_))
      go_ret
      exact ⟨rfl, hM.below⟩
theorem equalFold_any (s t : ByteArray) (w : World) (hs : s.size ≤ 1000000000) (ht : t.size ≤ 1000000000) : Calls Tryz.prog 19 #[.string s, .string t] w fun e w' => e = .returned (.bool (lowL (nums s) == lowL (nums t))) ∧ Below w.heap.size w w' := by
  have hM := Mem.start [] w
  have HA := Lib.hid (fun w => lower_any s w hs)
  have HB := Lib.hid (fun w => lower_any t w ht)
  have HE := Lib.hid (bstr_eq (lowL_bytes (bytes_of_nums s)) (lowL_bytes (bytes_of_nums t)))
  clear hs ht
  go_enter Tryz.func19, Tryz.ntmps19
  go_wp2_with (first | ((with_reducible refine (HA.out _).mono ?_); rintro e w1 ⟨rfl, hb⟩; replace hM := hM.step hb; clear hb) | ((with_reducible refine (HB.out _).mono ?_); rintro e w1 ⟨rfl, hb⟩; replace hM := hM.step hb; clear hb))
  go_ret
  exact ⟨by rw [← HE.out]; rfl, hM.below⟩
end Go.Proofs.YtlidpdjainmaiaaGreatDoor
