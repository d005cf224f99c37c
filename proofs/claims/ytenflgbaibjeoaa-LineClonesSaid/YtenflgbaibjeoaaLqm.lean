/- Contract of UnderWay. -/
import Derived.Test.YtenflgbaibjeoaaLnk
import Derived.Test.YtenflgbaibjeoaaLns
namespace Go.Lin
theorem wb_step {way : List (List Nat × Int)} {k : Nat} (h : k < way.length) : wb (way.drop k) = way[k].1.length + wb (way.drop (k + 1)) := by
  rw [List.drop_eq_getElem_cons h]
  simp only [wb, List.map_cons, List.sum_cons]
end Go.Lin
namespace Go.Proofs.Ytenflgbaibjeoaa
open Go Go.RowKit Go.Bul Go.Thg Go.Lin
theorem pktCells_get : ∀ (pvs : List Value) (way : List (List Nat × Int)) (_ : pvs.length = way.length) (i : Nat) (h : i < way.length) (h2 : i < pvs.length), (pktCells pvs way)[i * 2]? = some pvs[i] ∧ (pktCells pvs way)[i * 2 + 1]? = some (.int .i64 way[i].2)
  | [], [], _, i, h, _ => absurd h (by simp)
  | v :: pvs, x :: way, hl, 0, _, _ => ⟨rfl, rfl⟩
  | v :: pvs, x :: way, hl, i + 1, h, h2 => by
    have := pktCells_get pvs way (by simpa using hl) i (by simpa using h) (by simpa using h2)
    have e : pktCells (v :: pvs) (x :: way) = v :: .int .i64 x.2 :: pktCells pvs way := rfl
    rw [e, show (i + 1) * 2 = i * 2 + 1 + 1 by omega, show i * 2 + 1 + 1 + 1 = (i * 2 + 1) + 1 + 1 by omega]
    simpa using this
/-- Packets that a slice reads as. -/
structure PkIn (w : World) (A : Option Addr) (n : Nat) (way : List (List Nat × Int)) : Prop where
  len : n = way.length
  at_ : 0 < n → ∃ g off, A = some ⟨g, off, none⟩ ∧ g < w.heap.size ∧ ∀ i (h : i < way.length), ∃ A' c', ∀ j u, (#[.slice A' way[i].1.length c', .int .i64 way[i].2] : Array Value)[j]? = some u → w.cell? ⟨g, off + i * 2 + j, none⟩ = some u
section
variable {G : List Nat} {w0 w : World} {L : List Ent} {R : List Thing} {p : Nat} {S : Ln} {A : Option Addr} {n c : Nat} {fp : List Nat} {way : List (List Nat × Int)}
theorem pk_in (h : Mem G w0 L (wayT fp (.slice A n c) way :: R) w) : PkIn w A n way := by
  obtain ⟨pvs, hl, hM⟩ := way_open h
  have hr : OffRow w 99 2 (.slice A n c) way.length (pktCells pvs way) := hM.thing _ (List.Mem.head _)
  obtain ⟨A', c', he, _⟩ := hr.form
  have e1 : n = way.length := by injection he
  subst e1
  refine ⟨rfl, fun h0 => ?_⟩
  obtain ⟨g, off, rfl, hg, hc, _⟩ := hr.cells h0
  refine ⟨g, off, rfl, hg, fun i hi => ?_⟩
  have hi2 : i < pvs.length := by omega
  obtain ⟨c0, c1⟩ := pktCells_get pvs way hl i hi hi2
  have hm : bT pvs[i] way[i].1 ∈ pktRows pvs way := by
    unfold pktRows
    refine List.mem_map.2 ⟨(pvs[i], way[i]), ?_, rfl⟩
    rw [List.mem_iff_getElem]
    exact ⟨i, by simp; omega, by simp⟩
  obtain ⟨Ab, cb, hv, _⟩ := bT_form (hM.thing _ (List.mem_cons_of_mem _ (List.mem_append_left _ hm)))
  rw [hv] at c0
  refine ⟨Ab, cb, fun j u hu => ?_⟩
  match j, hu with
  | 0, hu => simp at hu; subst hu; exact hc _ _ c0
  | 1, hu => simp at hu; subst hu; have := hc _ _ c1; rwa [← Nat.add_assoc] at this
  | j + 2, hu => simp at hu
set_option maxRecDepth 20000 in
set_option maxHeartbeats 4000000 in
theorem under_0 (h : HasLine G w0 L R p S w) (hb : wb S.e0.way ≤ 1000000000) (hpos : ∀ x ∈ S.e0.way, 0 < x.1.length) :
    Calls Try.prog 37 #[.pointer (some ⟨p, 0, none⟩), .int .i64 0] w fun e w' => e = .returned (.int .i64 (wb S.e0.way : Nat)) ∧ Below w.heap.size w w' := by
  have HS := Lib.hid side_0
  obtain ⟨x, hM0⟩ := h.open
  have hP := pk_in (Mem.toFront [_, _] hM0)
  obtain ⟨cv, W0, ySV, A0, W1, Y1, A1, f0, f1⟩ := x
  obtain ⟨r, d, q, ws, now, up, ses, ⟨wait, way, arr⟩, E1⟩ := S
  simp only at hM0 hb hpos hP ⊢
  have hM := Mem.start [] w
  have HM := Lib.hid hM0
  obtain ⟨yA, yc⟩ := ySV
  have HP := Lib.hid hP
  have HL := Lib.hid hP.len
  have hnl : way.length ≤ 1000000000 := by have := wb_ge hpos; omega
  have hbb : (wb way : Int) ≤ 1000000000 := by omega
  have HB := Lib.hid hb
  clear hM0 hP hpos hb h
  go_enter Try.func37, Try.ntmps37
  go_wp2_with (first | ((with_reducible refine (HS.out _).mono ?_); rintro e w2 ⟨rfl, rfl⟩) | ((with_reducible refine at_load ?_); refine lc (HM.out.step hM.below) ?_) | ((first | with_reducible refine at_load ?_ | ((with_reducible refine at_load_g ?_ ?_); (· rfl))); first | refine lc hM ?_ | refine ll hM ?_ | refine lp hM ?_) | ((with_reducible refine at_store ?_); first | (refine ls hM ?_; clear hM; intro wx hM) | (refine lw hM ?_; clear hM; intro wx hM) | (refine lt hM ?_; clear hM; intro wx hM)) | ((with_reducible refine at_alloc ?_); refine lz hM ?_; clear hM; intro gx wx hM) | ((with_reducible refine at_box ?_); refine lb hM ?_; clear hM; intro gx wx hM))
  have M0 := Lib.hid hM
  clear hM
  go_loopw [23, 5] (fun i u wr => ∃ (k : Nat) (x : Nat), k ≤ way.length ∧ i = .int .i64 (k : Nat) ∧ u = .int .i64 (x : Nat) ∧ Hid (x + wb (way.drop k) = wb way) ∧ Mem [] w [] [] wr) (fun i _ _ => way.length - (intOf i).toNat)
  case atStart => exact ⟨0, 0, by omega, rfl, rfl, Lib.hid (by simp), M0.out⟩
  case round =>
    obtain ⟨k, y, hk, rfl, rfl, HC, hM⟩ := hrel
    by_cases hlt : k < way.length
    · have hs := wb_step hlt
      obtain ⟨g, off, hA, hg, hx⟩ := HP.out.at_ (by omega)
      obtain rfl : yA = some ⟨g, off, none⟩ := hA
      obtain ⟨Ab, cb, hcell⟩ := hx k hlt
      have HX := Lib.hid (fun w' (hb : Below w.heap.size w w') j u hu => (hb.cell (p := ⟨g, off + k * 2 + j, none⟩) hg).trans (hcell j u hu))
      obtain ⟨l, hl⟩ : ∃ l, way[k].1.length = l := ⟨_, rfl⟩
      obtain ⟨mm, hmm⟩ : ∃ mm, way[k].2 = mm := ⟨_, rfl⟩
      rw [hl] at hs
      rw [hl, hmm] at HX
      have hyl : y + l ≤ wb way := by have := HC.out; omega
      have HC2 := Lib.hid (show y + l + wb (way.drop (k + 1)) = wb way by have := HC.out; omega)
      clear hcell hx hl hmm hs HC M0 HP
      have hk0 : (0 : Int) ≤ (k : Int) := Int.natCast_nonneg _
      have hk1 : (k : Int) < (way.length : Int) := by omega
      have hy0 : (0 : Int) ≤ (y : Int) := Int.natCast_nonneg _
      have hl0 : (0 : Int) ≤ (l : Int) := Int.natCast_nonneg _
      have hyl2 : (y : Int) + (l : Int) ≤ 1000000000 := by omega
      go_wp2_with (first | ((with_reducible refine at_load ?_); refine lr (HX.out _ hM.below) ?_) | ((first | with_reducible refine at_load ?_ | ((with_reducible refine at_load_g ?_ ?_); (· rfl))); first | refine lc hM ?_ | refine ll hM ?_ | refine lp hM ?_) | ((with_reducible refine at_store ?_); first | (refine ls hM ?_; clear hM; intro wx hM) | (refine lw hM ?_; clear hM; intro wx hM) | (refine lt hM ?_; clear hM; intro wx hM)) | ((with_reducible refine at_alloc ?_); refine lz hM ?_; clear hM; intro gx wx hM) | ((with_reducible refine at_box ?_); refine lb hM ?_; clear hM; intro gx wx hM))
      exact ⟨⟨k + 1, y + l, by omega, by go_num, by go_num, HC2, hM.subL (List.nil_sublist _)⟩, by simp [intOf]; omega⟩
    · obtain rfl : k = way.length := by omega
      have hy : y = wb way := by have := HC.out; rw [List.drop_length] at this; simpa [wb] using this
      subst hy
      clear HC M0 HP
      go_wp2_with (first | ((first | with_reducible refine at_load ?_ | ((with_reducible refine at_load_g ?_ ?_); (· rfl))); first | refine lc hM ?_ | refine ll hM ?_ | refine lp hM ?_) | ((with_reducible refine at_store ?_); first | (refine ls hM ?_; clear hM; intro wx hM) | (refine lw hM ?_; clear hM; intro wx hM) | (refine lt hM ?_; clear hM; intro wx hM)) | ((with_reducible refine at_alloc ?_); refine lz hM ?_; clear hM; intro gx wx hM) | ((with_reducible refine at_box ?_); refine lb hM ?_; clear hM; intro gx wx hM))
      go_ret
      exact ⟨rfl, hM.below⟩
set_option maxRecDepth 20000 in
set_option maxHeartbeats 4000000 in
theorem under_1 (h : HasLine G w0 L R p S w) (hb : wb S.e1.way ≤ 1000000000) (hpos : ∀ x ∈ S.e1.way, 0 < x.1.length) :
    Calls Try.prog 37 #[.pointer (some ⟨p, 0, none⟩), .int .i64 1] w fun e w' => e = .returned (.int .i64 (wb S.e1.way : Nat)) ∧ Below w.heap.size w w' := by
  have HS := Lib.hid side_1
  obtain ⟨x, hM0⟩ := h.open
  have hP := pk_in (Mem.toFront [_, _, _, _, _] hM0)
  obtain ⟨cv, W0, Y0, A0, W1, ySV, A1, f0, f1⟩ := x
  obtain ⟨r, d, q, ws, now, up, ses, E0, ⟨wait, way, arr⟩⟩ := S
  simp only at hM0 hb hpos hP ⊢
  have hM := Mem.start [] w
  have HM := Lib.hid hM0
  obtain ⟨yA, yc⟩ := ySV
  have HP := Lib.hid hP
  have HL := Lib.hid hP.len
  have hnl : way.length ≤ 1000000000 := by have := wb_ge hpos; omega
  have hbb : (wb way : Int) ≤ 1000000000 := by omega
  have HB := Lib.hid hb
  clear hM0 hP hpos hb h
  go_enter Try.func37, Try.ntmps37
  go_wp2_with (first | ((with_reducible refine (HS.out _).mono ?_); rintro e w2 ⟨rfl, rfl⟩) | ((with_reducible refine at_load ?_); refine lc (HM.out.step hM.below) ?_) | ((first | with_reducible refine at_load ?_ | ((with_reducible refine at_load_g ?_ ?_); (· rfl))); first | refine lc hM ?_ | refine ll hM ?_ | refine lp hM ?_) | ((with_reducible refine at_store ?_); first | (refine ls hM ?_; clear hM; intro wx hM) | (refine lw hM ?_; clear hM; intro wx hM) | (refine lt hM ?_; clear hM; intro wx hM)) | ((with_reducible refine at_alloc ?_); refine lz hM ?_; clear hM; intro gx wx hM) | ((with_reducible refine at_box ?_); refine lb hM ?_; clear hM; intro gx wx hM))
  have M0 := Lib.hid hM
  clear hM
  go_loopw [23, 5] (fun i u wr => ∃ (k : Nat) (x : Nat), k ≤ way.length ∧ i = .int .i64 (k : Nat) ∧ u = .int .i64 (x : Nat) ∧ Hid (x + wb (way.drop k) = wb way) ∧ Mem [] w [] [] wr) (fun i _ _ => way.length - (intOf i).toNat)
  case atStart => exact ⟨0, 0, by omega, rfl, rfl, Lib.hid (by simp), M0.out⟩
  case round =>
    obtain ⟨k, y, hk, rfl, rfl, HC, hM⟩ := hrel
    by_cases hlt : k < way.length
    · have hs := wb_step hlt
      obtain ⟨g, off, hA, hg, hx⟩ := HP.out.at_ (by omega)
      obtain rfl : yA = some ⟨g, off, none⟩ := hA
      obtain ⟨Ab, cb, hcell⟩ := hx k hlt
      have HX := Lib.hid (fun w' (hb : Below w.heap.size w w') j u hu => (hb.cell (p := ⟨g, off + k * 2 + j, none⟩) hg).trans (hcell j u hu))
      obtain ⟨l, hl⟩ : ∃ l, way[k].1.length = l := ⟨_, rfl⟩
      obtain ⟨mm, hmm⟩ : ∃ mm, way[k].2 = mm := ⟨_, rfl⟩
      rw [hl] at hs
      rw [hl, hmm] at HX
      have hyl : y + l ≤ wb way := by have := HC.out; omega
      have HC2 := Lib.hid (show y + l + wb (way.drop (k + 1)) = wb way by have := HC.out; omega)
      clear hcell hx hl hmm hs HC M0 HP
      have hk0 : (0 : Int) ≤ (k : Int) := Int.natCast_nonneg _
      have hk1 : (k : Int) < (way.length : Int) := by omega
      have hy0 : (0 : Int) ≤ (y : Int) := Int.natCast_nonneg _
      have hl0 : (0 : Int) ≤ (l : Int) := Int.natCast_nonneg _
      have hyl2 : (y : Int) + (l : Int) ≤ 1000000000 := by omega
      go_wp2_with (first | ((with_reducible refine at_load ?_); refine lr (HX.out _ hM.below) ?_) | ((first | with_reducible refine at_load ?_ | ((with_reducible refine at_load_g ?_ ?_); (· rfl))); first | refine lc hM ?_ | refine ll hM ?_ | refine lp hM ?_) | ((with_reducible refine at_store ?_); first | (refine ls hM ?_; clear hM; intro wx hM) | (refine lw hM ?_; clear hM; intro wx hM) | (refine lt hM ?_; clear hM; intro wx hM)) | ((with_reducible refine at_alloc ?_); refine lz hM ?_; clear hM; intro gx wx hM) | ((with_reducible refine at_box ?_); refine lb hM ?_; clear hM; intro gx wx hM))
      exact ⟨⟨k + 1, y + l, by omega, by go_num, by go_num, HC2, hM.subL (List.nil_sublist _)⟩, by simp [intOf]; omega⟩
    · obtain rfl : k = way.length := by omega
      have hy : y = wb way := by have := HC.out; rw [List.drop_length] at this; simpa [wb] using this
      subst hy
      clear HC M0 HP
      go_wp2_with (first | ((first | with_reducible refine at_load ?_ | ((with_reducible refine at_load_g ?_ ?_); (· rfl))); first | refine lc hM ?_ | refine ll hM ?_ | refine lp hM ?_) | ((with_reducible refine at_store ?_); first | (refine ls hM ?_; clear hM; intro wx hM) | (refine lw hM ?_; clear hM; intro wx hM) | (refine lt hM ?_; clear hM; intro wx hM)) | ((with_reducible refine at_alloc ?_); refine lz hM ?_; clear hM; intro gx wx hM) | ((with_reducible refine at_box ?_); refine lb hM ?_; clear hM; intro gx wx hM))
      go_ret
      exact ⟨rfl, hM.below⟩
set_option maxRecDepth 20000 in
theorem under_no (s : Int) (h : HasLine G w0 L R p S w) (h0 : s ≠ 0) (h1 : s ≠ 1) :
    Calls Try.prog 37 #[.pointer (some ⟨p, 0, none⟩), .int .i64 s] w fun e w' => e = .returned (.int .i64 0) ∧ w = w' := by
  have HS := Lib.hid (side_no h0 h1)
  obtain ⟨x, hM⟩ := h.open
  clear h h0 h1
  go_enter Try.func37, Try.ntmps37
  go_wp2_with (first | ((with_reducible refine (HS.out _).mono ?_); rintro e w2 ⟨rfl, rfl⟩) | ((first | with_reducible refine at_load ?_ | ((with_reducible refine at_load_g ?_ ?_); (· rfl))); first | refine lc hM ?_ | refine ll hM ?_ | refine lp hM ?_) | ((with_reducible refine at_store ?_); first | (refine ls hM ?_; clear hM; intro wx hM) | (refine lw hM ?_; clear hM; intro wx hM) | (refine lt hM ?_; clear hM; intro wx hM)) | ((with_reducible refine at_alloc ?_); refine lz hM ?_; clear hM; intro gx wx hM) | ((with_reducible refine at_box ?_); refine lb hM ?_; clear hM; intro gx wx hM))
  go_ret
  exact ⟨rfl, rfl⟩
end
end Go.Proofs.Ytenflgbaibjeoaa
