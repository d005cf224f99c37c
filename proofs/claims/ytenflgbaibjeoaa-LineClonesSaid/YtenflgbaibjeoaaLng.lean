/- A line as a thing: its state, what it owns. Contracts of Now, Up, Session, Waiting, isSide. -/
import Derived.Test.YtenflgbaibjeoaaLnf
import Derived.Test.YtenflgbaibjeoaaMnc
import Derived.Test.YtenflgbaibjeoaaLns
namespace Go.Proofs.Ytenflgbaibjeoaa
open Go Go.RowKit Go.Bul Go.Thg Go.Lin
/-- Packets, as cells, and the rows of their bytes. -/
def pktCells (pvs : List Value) (way : List (List Nat × Int)) : List Value := (pvs.zip way).flatMap fun x => [x.1, .int .i64 x.2.2]
def pktRows (pvs : List Value) (way : List (List Nat × Int)) : List Thing := (pvs.zip way).map fun x => bT x.1 x.2.1
def wayF (v : Value) (way : List (List Nat × Int)) (pvs : List Value) : List Ent × List Thing := ([], rowT 99 2 v way.length (pktCells pvs way) :: pktRows pvs way)
/-- What is under way. -/
def wayT (fp : List Nat) (v : Value) (way : List (List Nat × Int)) : Thing := anyT fp (wayF v way) fun pvs => pvs.length = way.length
/-- Where a slice begins, and its capacity. -/
structure SV where
  A : Option Addr
  c : Nat
/-- The slices in a line's cells, and the footprints of what is under way. -/
structure LV where
  cv : SV
  w0 : SV
  y0 : SV
  a0 : SV
  w1 : SV
  y1 : SV
  a1 : SV
  f0 : List Nat
  f1 : List Nat
abbrev lineCs (S : Ln) (x : LV) : Array Value := #[.int .i64 S.r, .int .i64 S.d, .int .i64 S.p, .slice x.cv.A S.ws.length x.cv.c, .int .i64 S.now, .bool S.up, .int .i64 S.ses,
  .slice x.w0.A S.e0.wait.length x.w0.c, .slice x.y0.A S.e0.way.length x.y0.c, .slice x.a0.A S.e0.arr.length x.a0.c, .slice x.w1.A S.e1.wait.length x.w1.c, .slice x.y1.A S.e1.way.length x.y1.c, .slice x.a1.A S.e1.arr.length x.a1.c]
abbrev lineRs (S : Ln) (x : LV) (R : List Thing) : List Thing := winT (.slice x.cv.A S.ws.length x.cv.c) S.ws :: bT (.slice x.w0.A S.e0.wait.length x.w0.c) S.e0.wait :: wayT x.f0 (.slice x.y0.A S.e0.way.length x.y0.c) S.e0.way :: bT (.slice x.a0.A S.e0.arr.length x.a0.c) S.e0.arr ::
  bT (.slice x.w1.A S.e1.wait.length x.w1.c) S.e1.wait :: wayT x.f1 (.slice x.y1.A S.e1.way.length x.y1.c) S.e1.way :: bT (.slice x.a1.A S.e1.arr.length x.a1.c) S.e1.arr :: R
def lineF (p : Nat) (S : Ln) (x : LV) : List Ent × List Thing := ([⟨p, 88, 13, lineCs S x⟩], lineRs S x [])
/-- A line in block p. -/
def lineT (fp : List Nat) (p : Nat) (S : Ln) : Thing := anyT fp (lineF p S) fun _ => True
/-- Some line in block p. -/
def HasLine (G : List Nat) (w0 : World) (L : List Ent) (R : List Thing) (p : Nat) (S : Ln) (w : World) : Prop := ∃ fp, Mem G w0 L (lineT fp p S :: R) w
section
variable {G : List Nat} {w0 w : World} {L : List Ent} {R : List Thing} {p : Nat} {S : Ln}
theorem HasLine.open (h : HasLine G w0 L R p S w) : ∃ x : LV, Mem G w0 (⟨p, 88, 13, lineCs S x⟩ :: L) (lineRs S x R) w := by
  obtain ⟨fp, hM⟩ := h
  obtain ⟨x, _, _, hM⟩ := hM.unpack
  exact ⟨x, hM⟩
theorem HasLine.close {x : LV} (h : Mem G w0 (⟨p, 88, 13, lineCs S x⟩ :: L) (lineRs S x R) w) : HasLine G w0 L R p S w :=
  ⟨_, Mem.pack (f := lineF p S) (ok := fun _ => True) x h trivial⟩
theorem HasLine.step {w' : World} (h : HasLine G w0 L R p S w) (hb : Below w.heap.size w w') : HasLine G w0 L R p S w' := by
  obtain ⟨fp, hM⟩ := h
  exact ⟨fp, hM.step hb⟩
end
/-- A number of a side. -/
def sideB (s : Int) : Bool := decide (s = 0) || decide (s = 1)
set_option maxRecDepth 20000 in
theorem side_any (s : Int) (w : World) : Calls Try.prog 43 #[.int .i64 s] w fun e w' => e = .returned (.bool (sideB s)) ∧ w = w' := by
  go_enter Try.func43, Try.ntmps43
  by_cases h0 : s = 0
  · subst h0
    go_wp2_with fail
    go_ret
    exact ⟨rfl, rfl⟩
  · have c0 : (s == 0) = false := by simpa using h0
    by_cases h1 : s = 1
    · subst h1
      go_wp2_with fail
      go_ret
      exact ⟨rfl, rfl⟩
    · have c1 : (s == 1) = false := by simpa using h1
      have e : sideB s = false := by simp [sideB, h0, h1]
      rw [e]
      clear e h0 h1
      go_wp2_with fail
      go_ret
      exact ⟨rfl, rfl⟩
theorem side_0 (w : World) : Calls Try.prog 43 #[.int .i64 0] w fun e w' => e = .returned (.bool true) ∧ w = w' := side_any 0 w
theorem side_1 (w : World) : Calls Try.prog 43 #[.int .i64 1] w fun e w' => e = .returned (.bool true) ∧ w = w' := side_any 1 w
theorem side_no {s : Int} (h0 : s ≠ 0) (h1 : s ≠ 1) (w : World) : Calls Try.prog 43 #[.int .i64 s] w fun e w' => e = .returned (.bool false) ∧ w = w' := by
  have := side_any s w
  rwa [show sideB s = false by simp [sideB, h0, h1]] at this
section
variable {G : List Nat} {w0 w : World} {L : List Ent} {R : List Thing} {p : Nat} {S : Ln}
set_option maxRecDepth 20000 in
theorem now_any (h : HasLine G w0 L R p S w) : Calls Try.prog 26 #[.pointer (some ⟨p, 0, none⟩)] w fun e w' => e = .returned (.int .i64 S.now) ∧ w = w' := by
  obtain ⟨x, hM⟩ := h.open
  clear h
  go_enter Try.func26, Try.ntmps26
  go_wp2_with (first | ((first | with_reducible refine at_load ?_ | ((with_reducible refine at_load_g ?_ ?_); (· rfl))); first | refine lc hM ?_ | refine ll hM ?_ | refine lp hM ?_) | ((with_reducible refine at_store ?_); first | (refine ls hM ?_; clear hM; intro wx hM) | (refine lw hM ?_; clear hM; intro wx hM) | (refine lt hM ?_; clear hM; intro wx hM)) | ((with_reducible refine at_alloc ?_); refine lz hM ?_; clear hM; intro gx wx hM) | ((with_reducible refine at_box ?_); refine lb hM ?_; clear hM; intro gx wx hM))
  go_ret
  exact ⟨rfl, rfl⟩
set_option maxRecDepth 20000 in
theorem ses_any (h : HasLine G w0 L R p S w) : Calls Try.prog 19 #[.pointer (some ⟨p, 0, none⟩)] w fun e w' => e = .returned (.int .i64 S.ses) ∧ w = w' := by
  obtain ⟨x, hM⟩ := h.open
  clear h
  go_enter Try.func19, Try.ntmps19
  go_wp2_with (first | ((first | with_reducible refine at_load ?_ | ((with_reducible refine at_load_g ?_ ?_); (· rfl))); first | refine lc hM ?_ | refine ll hM ?_ | refine lp hM ?_) | ((with_reducible refine at_store ?_); first | (refine ls hM ?_; clear hM; intro wx hM) | (refine lw hM ?_; clear hM; intro wx hM) | (refine lt hM ?_; clear hM; intro wx hM)) | ((with_reducible refine at_alloc ?_); refine lz hM ?_; clear hM; intro gx wx hM) | ((with_reducible refine at_box ?_); refine lb hM ?_; clear hM; intro gx wx hM))
  go_ret
  exact ⟨rfl, rfl⟩
set_option maxRecDepth 20000 in
theorem up_any (h : HasLine G w0 L R p S w) : Calls Try.prog 27 #[.pointer (some ⟨p, 0, none⟩)] w fun e w' => e = .returned (.bool S.up) ∧ w = w' := by
  obtain ⟨x, hM⟩ := h.open
  clear h
  go_enter Try.func27, Try.ntmps27
  go_wp2_with (first | ((first | with_reducible refine at_load ?_ | ((with_reducible refine at_load_g ?_ ?_); (· rfl))); first | refine lc hM ?_ | refine ll hM ?_ | refine lp hM ?_) | ((with_reducible refine at_store ?_); first | (refine ls hM ?_; clear hM; intro wx hM) | (refine lw hM ?_; clear hM; intro wx hM) | (refine lt hM ?_; clear hM; intro wx hM)) | ((with_reducible refine at_alloc ?_); refine lz hM ?_; clear hM; intro gx wx hM) | ((with_reducible refine at_box ?_); refine lb hM ?_; clear hM; intro gx wx hM))
  go_ret
  exact ⟨rfl, rfl⟩
def endOf (S : Ln) (s : Int) : Sd := if s = 0 then S.e0 else S.e1
set_option maxRecDepth 20000 in
theorem waiting_any (s : Int) (h : HasLine G w0 L R p S w) : Calls Try.prog 36 #[.pointer (some ⟨p, 0, none⟩), .int .i64 s] w fun e w' => e = .returned (.int .i64 (if sideB s then ((endOf S s).wait.length : Int) else 0)) ∧ w = w' := by
  obtain ⟨x, hM⟩ := h.open
  by_cases h0 : s = 0
  · subst h0
    have HS := Lib.hid side_0
    clear h
    go_enter Try.func36, Try.ntmps36
    go_wp2_with (first | ((with_reducible refine (HS.out _).mono ?_); rintro e w2 ⟨rfl, rfl⟩) | ((first | with_reducible refine at_load ?_ | ((with_reducible refine at_load_g ?_ ?_); (· rfl))); first | refine lc hM ?_ | refine ll hM ?_ | refine lp hM ?_) | ((with_reducible refine at_store ?_); first | (refine ls hM ?_; clear hM; intro wx hM) | (refine lw hM ?_; clear hM; intro wx hM) | (refine lt hM ?_; clear hM; intro wx hM)) | ((with_reducible refine at_alloc ?_); refine lz hM ?_; clear hM; intro gx wx hM) | ((with_reducible refine at_box ?_); refine lb hM ?_; clear hM; intro gx wx hM))
    go_ret
    exact ⟨rfl, rfl⟩
  · by_cases h1 : s = 1
    · subst h1
      have HS := Lib.hid side_1
      clear h h0
      go_enter Try.func36, Try.ntmps36
      go_wp2_with (first | ((with_reducible refine (HS.out _).mono ?_); rintro e w2 ⟨rfl, rfl⟩) | ((first | with_reducible refine at_load ?_ | ((with_reducible refine at_load_g ?_ ?_); (· rfl))); first | refine lc hM ?_ | refine ll hM ?_ | refine lp hM ?_) | ((with_reducible refine at_store ?_); first | (refine ls hM ?_; clear hM; intro wx hM) | (refine lw hM ?_; clear hM; intro wx hM) | (refine lt hM ?_; clear hM; intro wx hM)) | ((with_reducible refine at_alloc ?_); refine lz hM ?_; clear hM; intro gx wx hM) | ((with_reducible refine at_box ?_); refine lb hM ?_; clear hM; intro gx wx hM))
      go_ret
      exact ⟨rfl, rfl⟩
    · have HS := Lib.hid (side_no h0 h1)
      have e : sideB s = false := by simp [sideB, h0, h1]
      rw [e]
      clear h e h0 h1
      go_enter Try.func36, Try.ntmps36
      go_wp2_with (first | ((with_reducible refine (HS.out _).mono ?_); rintro e w2 ⟨rfl, rfl⟩) | ((first | with_reducible refine at_load ?_ | ((with_reducible refine at_load_g ?_ ?_); (· rfl))); first | refine lc hM ?_ | refine ll hM ?_ | refine lp hM ?_) | ((with_reducible refine at_store ?_); first | (refine ls hM ?_; clear hM; intro wx hM) | (refine lw hM ?_; clear hM; intro wx hM) | (refine lt hM ?_; clear hM; intro wx hM)) | ((with_reducible refine at_alloc ?_); refine lz hM ?_; clear hM; intro gx wx hM) | ((with_reducible refine at_box ?_); refine lb hM ?_; clear hM; intro gx wx hM))
      go_ret
      exact ⟨rfl, rfl⟩
end
end Go.Proofs.Ytenflgbaibjeoaa
