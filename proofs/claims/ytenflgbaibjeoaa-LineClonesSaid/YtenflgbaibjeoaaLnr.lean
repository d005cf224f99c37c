/- Contract of New. -/
import Derived.Test.YtenflgbaibjeoaaLnm
import Derived.Test.YtenflgbaibjeoaaLcb
import Derived.Deep.Cut
namespace Go.Lin
open Go
/-- A new line. -/
def newS (r d p : Int) (ws : List Win) : Ln := if conP (phase p 0) ws then ⟨r, d, p, ws, 0, true, 1, ⟨[], [], []⟩, ⟨[], [], []⟩⟩ else ⟨r, d, p, ws, 0, false, 0, ⟨[], [], []⟩, ⟨[], [], []⟩⟩
theorem ok_new {r d p : Int} {ws : List Win} (h : chk r d p ws = 0) : Ok (newS r d p ws) := by
  unfold chk at h
  split at h
  · omega
  · rename_i hb
    split at h
    · omega
    · unfold badC at hb
      unfold newS
      split
      all_goals exact ⟨by simp only; omega, by simp only; omega, by simp only; omega, by simp only; omega, by simp only; omega, by simp only; omega, by simp only; omega, by simp, by simp, by simp, by simp, by simp [wb], by simp [wb], by simp, by simp⟩
end Go.Lin
namespace Go.Proofs.Ytenflgbaibjeoaa
open Go Go.RowKit Go.Bul Go.Thg Go.Lin
section
variable {G : List Nat} {w0 w : World} {L : List Ent} {R : List Thing}
theorem HasLine.frame {w' : World} {g : Nat} {S : Ln} (hM : Mem G w0 L R w) (h : HasLine [] w [] [] g S w') : HasLine G w0 L R g S w' := by
  obtain ⟨fp, h⟩ := h
  exact ⟨fp, hM.newThing (h.becomes (List.Mem.head _))⟩
set_option maxRecDepth 20000 in
theorem new_no (r d p : Int) (A : Option Addr) (n c : Nat) (ws : List Win) (hW : Wins w A n ws) (hn : n ≤ 1000) (hc : chk r d p ws ≠ 0) :
    Calls Try.prog 14 #[cfgV r d p A n c] w fun e w' => e = .returned (.tuple #[.pointer none, .int .i64 (chk r d p ws)]) ∧ Below w.heap.size w w' := by
  have hC := (fun (w' : World) (hW : Wins w' A n ws) => (check_any r d p A n c ws w' hn hW))
  obtain ⟨k, hk⟩ : ∃ k, chk r d p ws = k := ⟨_, rfl⟩
  rw [hk] at hc hC ⊢
  have c1 : (k != 0) = true := by simpa using hc
  have HC := Lib.hid hC
  have HW := Lib.hid hW
  clear hc hk hC hW hn
  have hM := Mem.start [] w
  go_enter Try.func14, Try.ntmps14
  go_wp2_with (first | ((with_reducible refine (HC.out _ (HW.out.keep hM.below)).mono ?_); rintro e w2 ⟨rfl, hb⟩; replace hM := hM.step hb; clear hb) | ((first | with_reducible refine at_load ?_ | ((with_reducible refine at_load_g ?_ ?_); (· rfl))); first | refine lc hM ?_ | refine ll hM ?_ | refine lp hM ?_) | ((with_reducible refine at_store ?_); first | (refine ls hM ?_; clear hM; intro wx hM) | (refine lw hM ?_; clear hM; intro wx hM) | (refine lt hM ?_; clear hM; intro wx hM)) | ((with_reducible refine at_alloc ?_); refine lz hM ?_; clear hM; intro gx wx hM) | ((with_reducible refine at_box ?_); refine lb hM ?_; clear hM; intro gx wx hM))
  go_ret2
  exact ⟨rfl, hM.below⟩
set_option maxRecDepth 20000 in
set_option maxHeartbeats 4000000 in
theorem new_any (r d p : Int) (A : Option Addr) (n c : Nat) (ws : List Win) (hW : Wins w A n ws) (hn : n ≤ 1000) (hc : chk r d p ws = 0) :
    Calls Try.prog 14 #[cfgV r d p A n c] w fun e w' => ∃ g, e = .returned (.tuple #[.pointer (some ⟨g, 0, none⟩), .int .i64 0]) ∧ HasLine [] w [] [] g (newS r d p ws) w' := by
  have hok := ok_new hc
  have hp0 : 0 ≤ p := by have := hok.p1; unfold newS at this; split at this <;> exact this
  have hp2 : p ≤ 9223372036854775807 := by have := hok.p2; unfold newS at this; split at this <;> (simp only at this; omega)
  have hC := fun (w' : World) (hW : Wins w' A n ws) => (check_any r d p A n c ws w' hn hW)
  rw [hc] at hC
  have HC := Lib.hid hC
  obtain ⟨cc, hcc⟩ : ∃ cc, conP (phase p 0) ws = cc := ⟨_, rfl⟩
  have hcon := fun (A : Option Addr) (c : Nat) (w' : World) (hW : Wins w' A n ws) => connected_any r d p 0 A n c ws w' hp0 (by omega) (by omega) hp2 hn hW
  rw [hcc] at hcon
  have HN := Lib.hid hcon
  have HE := Lib.hid hcc
  have HL := Lib.hid hW.len
  have HW := Lib.hid hW
  have HV := Lib.hid (fun (w' : World) (hW : Wins w' A n ws) => wclone_any A n c ws w' hW (by omega))
  clear hok hp0 hp2 hC hcc hcon hW hn hc
  have hM := Mem.start [] w
  go_enter Try.func14, Try.ntmps14
  go_upto_region 5 with (first | ((with_reducible refine (HC.out _ (HW.out.keep hM.below)).mono ?_); rintro e w2 ⟨rfl, hb⟩; replace hM := hM.step hb; clear hb) | ((with_reducible refine (HV.out _ (HW.out.keep hM.below)).mono ?_); rintro e w2 ⟨A', c', rfl, hb⟩; replace hM := hM.newThing hb; clear hb) | ((first | with_reducible refine at_load ?_ | ((with_reducible refine at_load_g ?_ ?_); (· rfl))); first | refine lc hM ?_ | refine ll hM ?_ | refine lp hM ?_) | ((with_reducible refine at_store ?_); first | (refine ls hM ?_; clear hM; intro wx hM) | (refine lw hM ?_; clear hM; intro wx hM) | (refine lt hM ?_; clear hM; intro wx hM)) | ((with_reducible refine at_alloc ?_); refine lz hM ?_; clear hM; intro gx wx hM) | ((with_reducible refine at_box ?_); refine lb hM ?_; clear hM; intro gx wx hM))
  clear HC HV HW
  cases cc with
  | true =>
    go_wp2_with (first | ((with_reducible refine (HN.out _ _ _ (winT_wins (hM.thing _ (List.Mem.head _)))).mono ?_); rintro e w2 ⟨rfl, hb⟩; replace hM := hM.step hb; clear hb) | ((first | with_reducible refine at_load ?_ | ((with_reducible refine at_load_g ?_ ?_); (· rfl))); first | refine lc hM ?_ | refine ll hM ?_ | refine lp hM ?_) | ((with_reducible refine at_store ?_); first | (refine ls hM ?_; clear hM; intro wx hM) | (refine lw hM ?_; clear hM; intro wx hM) | (refine lt hM ?_; clear hM; intro wx hM)) | ((with_reducible refine at_alloc ?_); refine lz hM ?_; clear hM; intro gx wx hM) | ((with_reducible refine at_box ?_); refine lb hM ?_; clear hM; intro gx wx hM))
    go_ret2
    refine ⟨_, rfl, ?_⟩
    have e : newS r d p ws = ⟨r, d, p, ws, 0, true, 1, ⟨[], [], []⟩, ⟨[], [], []⟩⟩ := by simp [newS, HE.out]
    rw [e]
    obtain rfl := HL.out
    have hM := hM.subL (L' := [_]) (List.Sublist.cons_cons _ (List.nil_sublist _))
    have hM := (((((hM.newThing (becomes_zero none (KeptBut.refl _ _))).newThing (becomes_way none (KeptBut.refl _ _))).newThing (becomes_zero none (KeptBut.refl _ _))).newThing (becomes_zero none (KeptBut.refl _ _))).newThing (becomes_way none (KeptBut.refl _ _))).newThing (becomes_zero none (KeptBut.refl _ _))
    exact HasLine.close (x := ⟨⟨_, _⟩, ⟨none, 0⟩, ⟨none, 0⟩, ⟨none, 0⟩, ⟨none, 0⟩, ⟨none, 0⟩, ⟨none, 0⟩, [], []⟩) (Mem.toFront [_, _, _, _, _, _] hM)
  | false =>
    go_wp2_with (first | ((with_reducible refine (HN.out _ _ _ (winT_wins (hM.thing _ (List.Mem.head _)))).mono ?_); rintro e w2 ⟨rfl, hb⟩; replace hM := hM.step hb; clear hb) | ((first | with_reducible refine at_load ?_ | ((with_reducible refine at_load_g ?_ ?_); (· rfl))); first | refine lc hM ?_ | refine ll hM ?_ | refine lp hM ?_) | ((with_reducible refine at_store ?_); first | (refine ls hM ?_; clear hM; intro wx hM) | (refine lw hM ?_; clear hM; intro wx hM) | (refine lt hM ?_; clear hM; intro wx hM)) | ((with_reducible refine at_alloc ?_); refine lz hM ?_; clear hM; intro gx wx hM) | ((with_reducible refine at_box ?_); refine lb hM ?_; clear hM; intro gx wx hM))
    go_ret2
    refine ⟨_, rfl, ?_⟩
    have e : newS r d p ws = ⟨r, d, p, ws, 0, false, 0, ⟨[], [], []⟩, ⟨[], [], []⟩⟩ := by simp [newS, HE.out]
    rw [e]
    obtain rfl := HL.out
    have hM := hM.subL (L' := [_]) (List.Sublist.cons_cons _ (List.nil_sublist _))
    have hM := (((((hM.newThing (becomes_zero none (KeptBut.refl _ _))).newThing (becomes_way none (KeptBut.refl _ _))).newThing (becomes_zero none (KeptBut.refl _ _))).newThing (becomes_zero none (KeptBut.refl _ _))).newThing (becomes_way none (KeptBut.refl _ _))).newThing (becomes_zero none (KeptBut.refl _ _))
    exact HasLine.close (x := ⟨⟨_, _⟩, ⟨none, 0⟩, ⟨none, 0⟩, ⟨none, 0⟩, ⟨none, 0⟩, ⟨none, 0⟩, ⟨none, 0⟩, [], []⟩) (Mem.toFront [_, _, _, _, _, _] hM)
end
end Go.Proofs.Ytenflgbaibjeoaa
