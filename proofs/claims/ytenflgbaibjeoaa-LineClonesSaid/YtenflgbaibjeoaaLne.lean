/- Contracts of slices.Clone at bytes and at windows, of take. -/
import Derived.Test.YtenflgbaibjeoaaLnd
import Derived.Test.YtenflgbaibjeoaaLca
namespace Go.Proofs.Ytenflgbaibjeoaa
open Go Go.RowKit Go.Bul Go.Thg Go.Lin
theorem bT_zero (A : Option Addr) (w : World) : (bT (.slice A 0 0) []).P w := OffRow.empty w _ _ A
theorem becomes_zero {G : List Nat} {w w' : World} (A : Option Addr) (h : KeptBut G w w') : Becomes G w (bT (.slice A 0 0) []) w' :=
  ⟨bT_zero A w', h, fun g hg => by rw [show (bT (.slice A 0 0) []).fp = [] from sFp_zero] at hg; cases hg⟩
set_option maxRecDepth 20000 in
theorem clone_any (A : Option Addr) (n c : Nat) (xs : List Nat) (w : World) (hr : Reads w 1 A n (vals .u8 xs)) (hn : n = xs.length) (h63 : n ≤ 1000000000) :
    Calls Try.prog 53 #[.slice A n c] w fun e w' => ∃ A' c', e = .returned (.slice A' n c') ∧ Becomes [] w (bT (.slice A' n c') xs) w' := by
  have hM := Mem.start [] w
  have hq := fun w => Lib.run_eql_slice_nil (P := Try.prog) w 82 5 A n c 0 0 Try.underlying82
  have HR := Lib.hid hr
  cases A with
  | none =>
    have h0 : n = 0 := by
      rcases Nat.eq_zero_or_pos n with h0 | h0
      · exact h0
      · obtain ⟨_, _, he, _⟩ := hr.2 h0
        cases he
    subst h0
    obtain rfl : xs = [] := List.eq_nil_of_length_eq_zero hn.symm
    have hq' : ∀ w, (binOp .eql 82 (.slice none 0 c) (.slice none 0 0)).run Try.prog w = .ok (.bool true) w := hq
    clear hr hq h63 hn HR
    go_enter Try.func53, Try.ntmps53
    go_wp2_with (first | ((first | with_reducible refine at_load ?_ | ((with_reducible refine at_load_g ?_ ?_); (· rfl))); first | refine lc hM ?_ | refine ll hM ?_ | refine lp hM ?_) | ((with_reducible refine at_store ?_); first | (refine ls hM ?_; clear hM; intro wx hM) | (refine lw hM ?_; clear hM; intro wx hM) | (refine lt hM ?_; clear hM; intro wx hM)) | ((with_reducible refine at_alloc ?_); refine lz hM ?_; clear hM; intro gx wx hM) | ((with_reducible refine at_box ?_); refine lb hM ?_; clear hM; intro gx wx hM))
    go_ret
    exact ⟨none, 0, rfl, becomes_zero none (KeptBut.refl _ _)⟩
  | some ad =>
    have HN := Lib.hid hn
    clear hr hn
    have hq' : ∀ w, (binOp .eql 82 (.slice (some ad) n c) (.slice none 0 0)).run Try.prog w = .ok (.bool false) w := hq
    clear hq
    have M1 := fun (cs : Array Value) (t : TypeId) (g : Addr) => (hM.step ((Below.refl _ _).alloc (Nat.le_refl _) (.cells cs t))).newThing (becomes_zero (some g) (KeptBut.refl _ _))
    have MM := Lib.hid M1
    have S1 := fun (cs : Array Value) (t : TypeId) => (HR.out.keep ((Below.refl _ _).alloc (Nat.le_refl _) (.cells cs t))).src (c := c) (P := Try.prog) (tx := 82) Try.underlying82 (vals_one _ _)
    have SS := Lib.hid S1
    have hle : ([] : List Nat).length + xs.length ≤ 1000000000 := by have := HN.out; simp; omega
    clear M1 S1 hM
    go_enter Try.func53, Try.ntmps53
    go_wp2_with (first | ((with_reducible refine at_append ?_); refine la (SS.out _ _) (MM.out _ _ _) hle ?_; intro A' N c' wx hN hM) | ((first | with_reducible refine at_load ?_ | ((with_reducible refine at_load_g ?_ ?_); (· rfl))); first | refine lc hM ?_ | refine ll hM ?_ | refine lp hM ?_) | ((with_reducible refine at_store ?_); first | (refine ls hM ?_; clear hM; intro wx hM) | (refine lw hM ?_; clear hM; intro wx hM) | (refine lt hM ?_; clear hM; intro wx hM)) | ((with_reducible refine at_alloc ?_); refine lz hM ?_; clear hM; intro gx wx hM) | ((with_reducible refine at_box ?_); refine lb hM ?_; clear hM; intro gx wx hM))
    have hN' : N = n := by rw [hN.out, HN.out]; rfl
    subst hN'
    go_ret
    exact ⟨A', c', rfl, hM.becomes (by exact List.Mem.head _)⟩
/-- Windows. -/
theorem winT_zero (A : Option Addr) (w : World) : (winT (.slice A 0 0) []).P w := OffRow.empty w _ _ A
theorem wbecomes_zero {G : List Nat} {w w' : World} (A : Option Addr) (h : KeptBut G w w') : Becomes G w (winT (.slice A 0 0) []) w' :=
  ⟨winT_zero A w', h, fun g hg => by rw [show (winT (.slice A 0 0) []).fp = [] from sFp_zero] at hg; cases hg⟩
section
variable {w w0 : World} {G : List Nat} {L : List Ent} {R : List Thing} {ops : Array Oper} {rest : List Oper} {o : Oper} {a : Act} {Q : Exit → Act → World → Prop} {s x : Operand} {v y : Value} {xs ys : List Win} {m : Nat} {F : Thing → List Thing}
/-- append windows onto a row of windows. -/
theorem law (hs : Src Try.prog 2 25 y m (winCells ys) w) (hM : Mem G w0 L R w) (h63 : xs.length + ys.length ≤ 1000000000)
    (h : ∀ A' N c' w', Hid (N = (xs ++ ys).length) → Mem G w0 L (F (winT (.slice A' N c') (xs ++ ys))) w' → wpList Try.prog ops Q rest (a.put o.dst (.slice A' N c')) w')
    (hgd : o.guard = none := by rfl) (ho : o.op = .call { callee := .builtin .append, args := #[s, x], argTypes := #[25, 25] } := by rfl) (hv : a.eval s = v := by rfl) (hR : UpdR (winT v xs) R F := by repeat (first | exact UpdR.head _ _ | apply UpdR.tail)) (hy : a.eval x = y := by rfl) : wpList Try.prog ops Q (o :: rest) a w := by
  have hl : m = ys.length := by have := hs.newsLen; rw [winCells_length] at this; omega
  subst hl
  refine wpList_append_thing hM 25 _ 24 (.agg #[.int .i64 0, .int .i64 0]) 2 16 Try.underlying25 info_win rfl hgd s x ho v hv xs.length (winCells xs) F hR y hy _ _ hs h63 (by decide) fun A' N c' w' hN hm => ?_
  refine h A' N c' w' (Lib.hid (by simp [hN])) ?_
  have e : winT (.slice A' N c') (xs ++ ys) = rowT 24 2 (.slice A' N c') N (winCells xs ++ winCells ys) := by
    unfold winT
    rw [hN]
    simp [winCells]
  rw [e]
  exact hm
end
set_option maxRecDepth 20000 in
theorem wclone_any (A : Option Addr) (n c : Nat) (xs : List Win) (w : World) (hr : Wins w A n xs) (h63 : n ≤ 1000000000) :
    Calls Try.prog 41 #[.slice A n c] w fun e w' => ∃ A' c', e = .returned (.slice A' n c') ∧ Becomes [] w (winT (.slice A' n c') xs) w' := by
  have hM := Mem.start [] w
  have hq := fun w => Lib.run_eql_slice_nil (P := Try.prog) w 25 24 A n c 0 0 Try.underlying25
  have HR := Lib.hid hr
  have hn := hr.len
  cases A with
  | none =>
    have h0 : n = 0 := by
      rcases Nat.eq_zero_or_pos n with h0 | h0
      · exact h0
      · obtain ⟨_, _, he, _⟩ := hr.2 h0
        cases he
    subst h0
    obtain rfl : xs = [] := List.eq_nil_of_length_eq_zero hn.symm
    have hq' : ∀ w, (binOp .eql 25 (.slice none 0 c) (.slice none 0 0)).run Try.prog w = .ok (.bool true) w := hq
    clear hr hq h63 hn HR
    go_enter Try.func41, Try.ntmps41
    go_wp2_with (first | ((first | with_reducible refine at_load ?_ | ((with_reducible refine at_load_g ?_ ?_); (· rfl))); first | refine lc hM ?_ | refine ll hM ?_ | refine lp hM ?_) | ((with_reducible refine at_store ?_); first | (refine ls hM ?_; clear hM; intro wx hM) | (refine lw hM ?_; clear hM; intro wx hM) | (refine lt hM ?_; clear hM; intro wx hM)) | ((with_reducible refine at_alloc ?_); refine lz hM ?_; clear hM; intro gx wx hM) | ((with_reducible refine at_box ?_); refine lb hM ?_; clear hM; intro gx wx hM))
    go_ret
    exact ⟨none, 0, rfl, wbecomes_zero none (KeptBut.refl _ _)⟩
  | some ad =>
    have HN := Lib.hid hn
    clear hr hn
    have hq' : ∀ w, (binOp .eql 25 (.slice (some ad) n c) (.slice none 0 0)).run Try.prog w = .ok (.bool false) w := hq
    clear hq
    have M1 := fun (cs : Array Value) (t : TypeId) (g : Addr) => (hM.step ((Below.refl _ _).alloc (Nat.le_refl _) (.cells cs t))).newThing (wbecomes_zero (some g) (KeptBut.refl _ _))
    have MM := Lib.hid M1
    have S1 := fun (cs : Array Value) (t : TypeId) => (Reads.keep HR.out ((Below.refl _ _).alloc (Nat.le_refl _) (.cells cs t))).src (c := c) (P := Try.prog) (tx := 25) Try.underlying25 (winCells_one _)
    have SS := Lib.hid S1
    have hle : ([] : List Win).length + xs.length ≤ 1000000000 := by have := HN.out; simp; omega
    clear M1 S1 hM
    go_enter Try.func41, Try.ntmps41
    go_wp2_with (first | ((with_reducible refine at_append ?_); refine law (SS.out _ _) (MM.out _ _ _) hle ?_; intro A' N c' wx hN hM) | ((first | with_reducible refine at_load ?_ | ((with_reducible refine at_load_g ?_ ?_); (· rfl))); first | refine lc hM ?_ | refine ll hM ?_ | refine lp hM ?_) | ((with_reducible refine at_store ?_); first | (refine ls hM ?_; clear hM; intro wx hM) | (refine lw hM ?_; clear hM; intro wx hM) | (refine lt hM ?_; clear hM; intro wx hM)) | ((with_reducible refine at_alloc ?_); refine lz hM ?_; clear hM; intro gx wx hM) | ((with_reducible refine at_box ?_); refine lb hM ?_; clear hM; intro gx wx hM))
    have hN' : N = n := by rw [hN.out, HN.out]; rfl
    subst hN'
    go_ret
    exact ⟨A', c', rfl, hM.becomes (by exact List.Mem.head _)⟩
end Go.Proofs.Ytenflgbaibjeoaa
