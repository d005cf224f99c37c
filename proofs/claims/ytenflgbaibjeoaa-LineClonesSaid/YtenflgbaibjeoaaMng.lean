/- Contracts of slices.EqualFunc at packets, of an end's equal, of equalConfigs. Contract of a line's Equal. -/
import Derived.Test.YtenflgbaibjeoaaMnf
namespace Go.Lin
open Go
def eqPk (x y : List Nat × Int) : Bool := decide (x.2 = y.2) && eqB x.1 y.1
def eqSd (E F : Sd) : Bool := eqB E.wait F.wait && (eqB E.arr F.arr && allEq eqPk E.way F.way)
def eqCfg (S Z : Ln) : Bool := decide (S.r = Z.r) && (decide (S.d = Z.d) && (decide (S.p = Z.p) && allEq eqW S.ws Z.ws))
end Go.Lin
namespace Go.Proofs.Ytenflgbaibjeoaa
open Go Go.RowKit Go.Bul Go.Thg Go.Lin
set_option maxRecDepth 20000 in
theorem pkeq_any {w : World} {A B : Option Addr} {n m c d : Nat} {xs ys : List Nat} {t u : Int} (h1 : Reads w 1 A n (vals .u8 xs)) (h2 : Reads w 1 B m (vals .u8 ys)) :
    Calls Try.prog 60 #[.agg #[.slice A n c, .int .i64 t], .agg #[.slice B m d, .int .i64 u]] w fun e w' => e = .returned (.bool (eqPk (xs, t) (ys, u))) ∧ Below w.heap.size w w' := by
  have hM := Mem.start [] w
  have HB := Lib.hid (fun w' (hb : Below w.heap.size w w') => beq_any (c := c) (d := d) (h1.keep hb) (h2.keep hb))
  unfold eqPk
  simp only
  generalize eqB xs ys = b at HB ⊢
  by_cases ht : t = u
  · subst ht
    rw [decide_eq_true rfl, Bool.true_and]
    clear h1 h2
    cases b
    all_goals
      go_enter Try.func60, Try.ntmps60
      go_wp2_with (first | ((with_reducible refine (HB.out _ hM.below).mono ?_); rintro e w1 ⟨rfl, rfl⟩) | ((first | with_reducible refine at_load ?_ | ((with_reducible refine at_load_g ?_ ?_); (· rfl))); first | refine lc hM ?_ | refine ll hM ?_ | refine lp hM ?_) | ((with_reducible refine at_store ?_); first | (refine ls hM ?_; clear hM; intro wx hM) | (refine lw hM ?_; clear hM; intro wx hM) | (refine lt hM ?_; clear hM; intro wx hM)) | ((with_reducible refine at_alloc ?_); refine lz hM ?_; clear hM; intro gx wx hM) | ((with_reducible refine at_box ?_); refine lb hM ?_; clear hM; intro gx wx hM))
      go_ret
      exact ⟨rfl, hM.below⟩
  · rw [decide_eq_false ht, Bool.false_and]
    have t1 : (t == u) = false := by simpa using ht
    clear h1 h2 ht HB
    go_enter Try.func60, Try.ntmps60
    go_wp2_with (first | ((first | with_reducible refine at_load ?_ | ((with_reducible refine at_load_g ?_ ?_); (· rfl))); first | refine lc hM ?_ | refine ll hM ?_ | refine lp hM ?_) | ((with_reducible refine at_store ?_); first | (refine ls hM ?_; clear hM; intro wx hM) | (refine lw hM ?_; clear hM; intro wx hM) | (refine lt hM ?_; clear hM; intro wx hM)) | ((with_reducible refine at_alloc ?_); refine lz hM ?_; clear hM; intro gx wx hM) | ((with_reducible refine at_box ?_); refine lb hM ?_; clear hM; intro gx wx hM))
    go_ret
    exact ⟨rfl, hM.below⟩
set_option maxRecDepth 20000 in
set_option maxHeartbeats 4000000 in
theorem eqfunc_any {w : World} {A B : Option Addr} {n m c d : Nat} {xs ys : List (List Nat × Int)} (h1 : PkB w A n xs) (h2 : PkB w B m ys) (hn : n ≤ 1000000000) (hm : m ≤ 1000000000) :
    Calls Try.prog 59 #[.slice A n c, .slice B m d, .func (.func 60) #[] #[]] w fun e w' => e = .returned (.bool (allEq eqPk xs ys)) ∧ Below w.heap.size w w' := by
  have hM := Mem.start [] w
  have hx := h1.len
  have hy := h2.len
  have H1 := Lib.hid h1
  have H2 := Lib.hid h2
  by_cases hl : n = m
  · subst hl
    have HX := Lib.hid hx
    have HY := Lib.hid hy
    have HR0 : Hid (allEq eqPk xs ys = allEq eqPk (xs.drop 0) (ys.drop 0)) := Lib.hid rfl
    obtain ⟨R, hR⟩ : ∃ R, allEq eqPk xs ys = R := ⟨_, rfl⟩
    rw [hR] at HR0 ⊢
    clear h1 h2 hx hy hR hm
    go_enter Try.func59, Try.ntmps59
    go_wp2_with fail
    go_loopw [17] (fun i wr => ∃ k : Nat, k ≤ n ∧ i = .int .i64 (k : Nat) ∧ Hid (R = allEq eqPk (xs.drop k) (ys.drop k)) ∧ Mem [] w [] [] wr) (fun i _ => n - (intOf i).toNat)
    case atStart => exact ⟨0, by omega, rfl, HR0, hM⟩
    case round =>
      clear hM HR0
      obtain ⟨k, hk, rfl, HR, hM⟩ := hrel
      by_cases hlt : k < n
      · have k1 : k < xs.length := by have := HX.out; omega
        have k2 : k < ys.length := by have := HY.out; omega
        have hst := allEq_step (f := eqPk) k1 k2
        obtain ⟨g, off, rfl, hgl, hx1⟩ := H1.out.at_ (by omega)
        obtain ⟨g', off', rfl, hgl', hx2⟩ := H2.out.at_ (by omega)
        obtain ⟨P1, p1, hc1, hr1⟩ := hx1 k k1
        obtain ⟨P2, p2, hc2, hr2⟩ := hx2 k k2
        have q0 : (0 : Int) ≤ (k : Int) := Int.natCast_nonneg _
        have q1 : (k : Int) < (n : Int) := by omega
        have C1 := Lib.hid (fun w' (hb : Below w.heap.size w w') j u hu => (hb.cell (p := ⟨g, off + k * 2 + j, none⟩) hgl).trans (hc1 j u hu))
        have C2 := Lib.hid (fun w' (hb : Below w.heap.size w w') j u hu => (hb.cell (p := ⟨g', off' + k * 2 + j, none⟩) hgl').trans (hc2 j u hu))
        have HP := Lib.hid (fun w' (hb : Below w.heap.size w w') => pkeq_any (c := p1) (d := p2) (t := xs[k].2) (u := ys[k].2) (hr1.keep hb) (hr2.keep hb))
        clear hx1 hx2 hc1 hc2 hr1 hr2
        obtain ⟨⟨bs, t⟩, ha⟩ : ∃ x, xs[k] = x := ⟨_, rfl⟩
        obtain ⟨⟨bs', t'⟩, hb'⟩ : ∃ x, ys[k] = x := ⟨_, rfl⟩
        rw [ha] at C1 hst HP
        rw [hb'] at C2 hst HP
        have hR2 : R = (eqPk (bs, t) (bs', t') && allEq eqPk (xs.drop (k + 1)) (ys.drop (k + 1))) := HR.out.trans hst
        simp only at HP C1 C2
        generalize eqPk (bs, t) (bs', t') = b at HP hR2
        clear ha hb' hst HR k1 k2
        cases b with
        | true =>
          have HR2 : Hid (R = allEq eqPk (xs.drop (k + 1)) (ys.drop (k + 1))) := Lib.hid (by rw [hR2]; simp)
          clear hR2
          go_wp2_with (first | ((with_reducible refine at_load ?_); first | refine lr (C1.out _ hM.below) ?_ | refine lr (C2.out _ hM.below) ?_) | ((with_reducible refine (HP.out _ hM.below).mono ?_); rintro e w1 ⟨rfl, hb⟩; replace hM := hM.step hb; clear hb) | ((first | with_reducible refine at_load ?_ | ((with_reducible refine at_load_g ?_ ?_); (· rfl))); first | refine lc hM ?_ | refine ll hM ?_ | refine lp hM ?_) | ((with_reducible refine at_store ?_); first | (refine ls hM ?_; clear hM; intro wx hM) | (refine lw hM ?_; clear hM; intro wx hM) | (refine lt hM ?_; clear hM; intro wx hM)) | ((with_reducible refine at_alloc ?_); refine lz hM ?_; clear hM; intro gx wx hM) | ((with_reducible refine at_box ?_); refine lb hM ?_; clear hM; intro gx wx hM))
          exact ⟨⟨k + 1, by omega, by go_num, HR2, hM.subL (List.nil_sublist _)⟩, by simp [intOf]; omega⟩
        | false =>
          have HR2 := Lib.hid (show R = false by rw [hR2]; simp)
          clear hR2
          go_wp2_with (first | ((with_reducible refine at_load ?_); first | refine lr (C1.out _ hM.below) ?_ | refine lr (C2.out _ hM.below) ?_) | ((with_reducible refine (HP.out _ hM.below).mono ?_); rintro e w1 ⟨rfl, hb⟩; replace hM := hM.step hb; clear hb) | ((first | with_reducible refine at_load ?_ | ((with_reducible refine at_load_g ?_ ?_); (· rfl))); first | refine lc hM ?_ | refine ll hM ?_ | refine lp hM ?_) | ((with_reducible refine at_store ?_); first | (refine ls hM ?_; clear hM; intro wx hM) | (refine lw hM ?_; clear hM; intro wx hM) | (refine lt hM ?_; clear hM; intro wx hM)) | ((with_reducible refine at_alloc ?_); refine lz hM ?_; clear hM; intro gx wx hM) | ((with_reducible refine at_box ?_); refine lb hM ?_; clear hM; intro gx wx hM))
          go_ret
          exact ⟨ret_b HR2.out.symm, hM.below⟩
      · obtain rfl : k = n := by omega
        have HR2 := Lib.hid (show R = true by rw [HR.out, HX.out]; exact allEq_end (by rw [← HX.out, ← HY.out]))
        clear HR
        go_wp2_with fail
        go_ret
        exact ⟨ret_b HR2.out.symm, hM.below⟩
  · have e : allEq eqPk xs ys = false := allEq_len (by omega)
    rw [e]
    have t1 : ((n : Int) != (m : Int)) = true := by simp; omega
    have t2 : (n != m) = true := by simpa using hl
    have t3 : (n == m) = false := by simpa using hl
    clear h1 h2 hx hy e H1 H2
    go_enter Try.func59, Try.ntmps59
    go_wp2_with fail
    go_ret
    exact ⟨rfl, hM.below⟩
set_option maxRecDepth 20000 in
set_option maxHeartbeats 4000000 in
theorem endeq_any {w : World} {E F : Sd} {WA YA AA WB YB AB : Option Addr} {wa ya aa wb' yb ab : Nat} (a1 : Reads w 1 WA E.wait.length (vals .u8 E.wait)) (a2 : PkB w YA E.way.length E.way) (a3 : Reads w 1 AA E.arr.length (vals .u8 E.arr))
    (b1 : Reads w 1 WB F.wait.length (vals .u8 F.wait)) (b2 : PkB w YB F.way.length F.way) (b3 : Reads w 1 AB F.arr.length (vals .u8 F.arr)) (he : E.way.length ≤ 1000000000) (hf : F.way.length ≤ 1000000000) :
    Calls Try.prog 55 #[.agg #[.slice WA E.wait.length wa, .slice YA E.way.length ya, .slice AA E.arr.length aa], .agg #[.slice WB F.wait.length wb', .slice YB F.way.length yb, .slice AB F.arr.length ab]] w fun e w' => e = .returned (.bool (eqSd E F)) ∧ Below w.heap.size w w' := by
  have hM := Mem.start [] w
  have HB1 := Lib.hid (fun w' (hb : Below w.heap.size w w') => beq_any (c := wa) (d := wb') (a1.keep hb) (b1.keep hb))
  have HB2 := Lib.hid (fun w' (hb : Below w.heap.size w w') => beq_any (c := aa) (d := ab) (a3.keep hb) (b3.keep hb))
  have HP := Lib.hid (fun w' (hb : Below w.heap.size w w') => eqfunc_any (c := ya) (d := yb) (a2.keep hb) (b2.keep hb) he hf)
  unfold eqSd
  clear a1 a2 a3 b1 b2 b3 he hf
  generalize eqB E.wait F.wait = x at HB1 ⊢
  generalize eqB E.arr F.arr = y at HB2 ⊢
  generalize allEq eqPk E.way F.way = z at HP ⊢
  cases x with
  | false =>
    rw [Bool.false_and]
    go_enter Try.func55, Try.ntmps55
    go_wp2_with (first | ((with_reducible refine (HB1.out _ hM.below).mono ?_); rintro e w1 ⟨rfl, rfl⟩) | ((with_reducible refine (HB2.out _ hM.below).mono ?_); rintro e w1 ⟨rfl, rfl⟩) | ((with_reducible refine (HP.out _ hM.below).mono ?_); rintro e w1 ⟨rfl, hb⟩; replace hM := hM.step hb; clear hb) | ((first | with_reducible refine at_load ?_ | ((with_reducible refine at_load_g ?_ ?_); (· rfl))); first | refine lc hM ?_ | refine ll hM ?_ | refine lp hM ?_) | ((with_reducible refine at_store ?_); first | (refine ls hM ?_; clear hM; intro wx hM) | (refine lw hM ?_; clear hM; intro wx hM) | (refine lt hM ?_; clear hM; intro wx hM)) | ((with_reducible refine at_alloc ?_); refine lz hM ?_; clear hM; intro gx wx hM) | ((with_reducible refine at_box ?_); refine lb hM ?_; clear hM; intro gx wx hM))
    go_ret
    exact ⟨rfl, hM.below⟩
  | true =>
    rw [Bool.true_and]
    cases y with
    | false =>
      rw [Bool.false_and]
      go_enter Try.func55, Try.ntmps55
      go_wp2_with (first | ((with_reducible refine (HB1.out _ hM.below).mono ?_); rintro e w1 ⟨rfl, rfl⟩) | ((with_reducible refine (HB2.out _ hM.below).mono ?_); rintro e w1 ⟨rfl, rfl⟩) | ((with_reducible refine (HP.out _ hM.below).mono ?_); rintro e w1 ⟨rfl, hb⟩; replace hM := hM.step hb; clear hb) | ((first | with_reducible refine at_load ?_ | ((with_reducible refine at_load_g ?_ ?_); (· rfl))); first | refine lc hM ?_ | refine ll hM ?_ | refine lp hM ?_) | ((with_reducible refine at_store ?_); first | (refine ls hM ?_; clear hM; intro wx hM) | (refine lw hM ?_; clear hM; intro wx hM) | (refine lt hM ?_; clear hM; intro wx hM)) | ((with_reducible refine at_alloc ?_); refine lz hM ?_; clear hM; intro gx wx hM) | ((with_reducible refine at_box ?_); refine lb hM ?_; clear hM; intro gx wx hM))
      go_ret
      exact ⟨rfl, hM.below⟩
    | true =>
      rw [Bool.true_and]
      cases z
      all_goals
        go_enter Try.func55, Try.ntmps55
        go_wp2_with (first | ((with_reducible refine (HB1.out _ hM.below).mono ?_); rintro e w1 ⟨rfl, rfl⟩) | ((with_reducible refine (HB2.out _ hM.below).mono ?_); rintro e w1 ⟨rfl, rfl⟩) | ((with_reducible refine (HP.out _ hM.below).mono ?_); rintro e w1 ⟨rfl, hb⟩; replace hM := hM.step hb; clear hb) | ((first | with_reducible refine at_load ?_ | ((with_reducible refine at_load_g ?_ ?_); (· rfl))); first | refine lc hM ?_ | refine ll hM ?_ | refine lp hM ?_) | ((with_reducible refine at_store ?_); first | (refine ls hM ?_; clear hM; intro wx hM) | (refine lw hM ?_; clear hM; intro wx hM) | (refine lt hM ?_; clear hM; intro wx hM)) | ((with_reducible refine at_alloc ?_); refine lz hM ?_; clear hM; intro gx wx hM) | ((with_reducible refine at_box ?_); refine lb hM ?_; clear hM; intro gx wx hM))
        go_ret
        exact ⟨rfl, hM.below⟩
set_option maxRecDepth 20000 in
set_option maxHeartbeats 4000000 in
theorem cfgeq_any {w : World} {r d p r' d' p' : Int} {A B : Option Addr} {n c m c' : Nat} {ws ws' : List Win} (h1 : Wins w A n ws) (h2 : Wins w B m ws') (hn : n ≤ 1000000000) (hm : m ≤ 1000000000) :
    Calls Try.prog 54 #[cfgV r d p A n c, cfgV r' d' p' B m c'] w fun e w' => e = .returned (.bool (decide (r = r') && (decide (d = d') && (decide (p = p') && allEq eqW ws ws')))) ∧ Below w.heap.size w w' := by
  have hM := Mem.start [] w
  have HW := Lib.hid (fun w' (hb : Below w.heap.size w w') => weq_any (c := c) (d := c') (Wins.keep h1 hb) (Wins.keep h2 hb) hn hm)
  clear h1 h2 hn hm
  generalize allEq eqW ws ws' = z at HW ⊢
  by_cases e1 : r = r'
  · subst e1
    rw [decide_eq_true rfl, Bool.true_and]
    by_cases e2 : d = d'
    · subst e2
      rw [decide_eq_true rfl, Bool.true_and]
      by_cases e3 : p = p'
      · subst e3
        rw [decide_eq_true rfl, Bool.true_and]
        cases z
        all_goals
          go_enter Try.func54, Try.ntmps54
          go_wp2_with (first | ((with_reducible refine (HW.out _ hM.below).mono ?_); rintro e w1 ⟨rfl, hb⟩; replace hM := hM.step hb; clear hb) | ((first | with_reducible refine at_load ?_ | ((with_reducible refine at_load_g ?_ ?_); (· rfl))); first | refine lc hM ?_ | refine ll hM ?_ | refine lp hM ?_) | ((with_reducible refine at_store ?_); first | (refine ls hM ?_; clear hM; intro wx hM) | (refine lw hM ?_; clear hM; intro wx hM) | (refine lt hM ?_; clear hM; intro wx hM)) | ((with_reducible refine at_alloc ?_); refine lz hM ?_; clear hM; intro gx wx hM) | ((with_reducible refine at_box ?_); refine lb hM ?_; clear hM; intro gx wx hM))
          go_ret
          exact ⟨rfl, hM.below⟩
      · rw [decide_eq_false e3, Bool.false_and]
        have t3 : (p == p') = false := by simpa using e3
        clear e3
        go_enter Try.func54, Try.ntmps54
        go_wp2_with (first | ((with_reducible refine (HW.out _ hM.below).mono ?_); rintro e w1 ⟨rfl, hb⟩; replace hM := hM.step hb; clear hb) | ((first | with_reducible refine at_load ?_ | ((with_reducible refine at_load_g ?_ ?_); (· rfl))); first | refine lc hM ?_ | refine ll hM ?_ | refine lp hM ?_) | ((with_reducible refine at_store ?_); first | (refine ls hM ?_; clear hM; intro wx hM) | (refine lw hM ?_; clear hM; intro wx hM) | (refine lt hM ?_; clear hM; intro wx hM)) | ((with_reducible refine at_alloc ?_); refine lz hM ?_; clear hM; intro gx wx hM) | ((with_reducible refine at_box ?_); refine lb hM ?_; clear hM; intro gx wx hM))
        go_ret
        exact ⟨rfl, hM.below⟩
    · rw [decide_eq_false e2, Bool.false_and]
      have t2 : (d == d') = false := by simpa using e2
      clear e2
      go_enter Try.func54, Try.ntmps54
      go_wp2_with (first | ((with_reducible refine (HW.out _ hM.below).mono ?_); rintro e w1 ⟨rfl, hb⟩; replace hM := hM.step hb; clear hb) | ((first | with_reducible refine at_load ?_ | ((with_reducible refine at_load_g ?_ ?_); (· rfl))); first | refine lc hM ?_ | refine ll hM ?_ | refine lp hM ?_) | ((with_reducible refine at_store ?_); first | (refine ls hM ?_; clear hM; intro wx hM) | (refine lw hM ?_; clear hM; intro wx hM) | (refine lt hM ?_; clear hM; intro wx hM)) | ((with_reducible refine at_alloc ?_); refine lz hM ?_; clear hM; intro gx wx hM) | ((with_reducible refine at_box ?_); refine lb hM ?_; clear hM; intro gx wx hM))
      go_ret
      exact ⟨rfl, hM.below⟩
  · rw [decide_eq_false e1, Bool.false_and]
    have t1 : (r == r') = false := by simpa using e1
    clear e1
    go_enter Try.func54, Try.ntmps54
    go_wp2_with (first | ((with_reducible refine (HW.out _ hM.below).mono ?_); rintro e w1 ⟨rfl, hb⟩; replace hM := hM.step hb; clear hb) | ((first | with_reducible refine at_load ?_ | ((with_reducible refine at_load_g ?_ ?_); (· rfl))); first | refine lc hM ?_ | refine ll hM ?_ | refine lp hM ?_) | ((with_reducible refine at_store ?_); first | (refine ls hM ?_; clear hM; intro wx hM) | (refine lw hM ?_; clear hM; intro wx hM) | (refine lt hM ?_; clear hM; intro wx hM)) | ((with_reducible refine at_alloc ?_); refine lz hM ?_; clear hM; intro gx wx hM) | ((with_reducible refine at_box ?_); refine lb hM ?_; clear hM; intro gx wx hM))
    go_ret
    exact ⟨rfl, hM.below⟩
end Go.Proofs.Ytenflgbaibjeoaa
namespace Go.Lin
open Go
def eqLn (S Z : Ln) : Bool := decide (S.now = Z.now) && (decide (S.up = Z.up) && (decide (S.ses = Z.ses) && (eqCfg S Z && (eqSd S.e0 Z.e0 && eqSd S.e1 Z.e1))))
theorem eqB_refl (l : List Nat) : eqB l l = true := by simp [eqB]
theorem eqSd_refl (E : Sd) : eqSd E E = true := by
  have h : allEq eqPk E.way E.way = true := allEq_refl (fun a => by simp [eqPk, eqB_refl]) _
  simp [eqSd, eqB_refl, h]
theorem eqLn_refl (S : Ln) : eqLn S S = true := by
  have h : allEq eqW S.ws S.ws = true := allEq_refl (fun a => by simp [eqW]) _
  simp [eqLn, eqSd_refl, eqCfg, h]
end Go.Lin
namespace Go.Proofs.Ytenflgbaibjeoaa
open Go Go.RowKit Go.Bul Go.Thg Go.Lin
set_option maxRecDepth 20000 in
set_option maxHeartbeats 40000000 in
theorem equal_any {w : World} {p p' : Nat} {S Z : Ln} {x y : LV} (h : LnIn w p S x) (h' : LnIn w p' Z y) (hw : S.ws.length ≤ 1000000000) (hw' : Z.ws.length ≤ 1000000000) (l1 : S.e0.way.length ≤ 1000000000) (l2 : S.e1.way.length ≤ 1000000000) (l3 : Z.e0.way.length ≤ 1000000000) (l4 : Z.e1.way.length ≤ 1000000000) :
    Calls Try.prog 40 #[.pointer (some ⟨p, 0, none⟩), .pointer (some ⟨p', 0, none⟩)] w fun e w' => e = .returned (.bool (eqLn S Z)) ∧ Below w.heap.size w w' := by
  have hM := Mem.start [] w
  have HC := Lib.hid (fun w' (hb : Below w.heap.size w w') => cfgeq_any (r := S.r) (d := S.d) (p := S.p) (r' := Z.r) (d' := Z.d) (p' := Z.p) (c := x.cv.c) (c' := y.cv.c) (h.keep hb).ws (h'.keep hb).ws hw hw')
  have HE0 := Lib.hid (fun w' (hb : Below w.heap.size w w') => endeq_any (E := S.e0) (F := Z.e0) (wa := x.w0.c) (ya := x.y0.c) (aa := x.a0.c) (wb' := y.w0.c) (yb := y.y0.c) (ab := y.a0.c) (h.keep hb).w0 (h.keep hb).y0 (h.keep hb).a0 (h'.keep hb).w0 (h'.keep hb).y0 (h'.keep hb).a0 l1 l3)
  have HE1 := Lib.hid (fun w' (hb : Below w.heap.size w w') => endeq_any (E := S.e1) (F := Z.e1) (wa := x.w1.c) (ya := x.y1.c) (aa := x.a1.c) (wb' := y.w1.c) (yb := y.y1.c) (ab := y.a1.c) (h.keep hb).w1 (h.keep hb).y1 (h.keep hb).a1 (h'.keep hb).w1 (h'.keep hb).y1 (h'.keep hb).a1 l2 l4)
  have HI1 := Lib.hid h
  have HI2 := Lib.hid h'
  unfold eqLn eqCfg
  generalize (decide (S.r = Z.r) && (decide (S.d = Z.d) && (decide (S.p = Z.p) && allEq eqW S.ws Z.ws))) = bc at HC ⊢
  generalize eqSd S.e0 Z.e0 = b0 at HE0 ⊢
  generalize eqSd S.e1 Z.e1 = b1 at HE1 ⊢
  clear h h' hw hw' l1 l2 l3 l4
  obtain ⟨r, d, q, ws, now, up, ses, ⟨u0, y0, a0⟩, ⟨u1, y1, a1⟩⟩ := S
  obtain ⟨⟨cA, cc⟩, ⟨W0, wc0⟩, ⟨Y0, yc0⟩, ⟨A0, ac0⟩, ⟨W1, wc1⟩, ⟨Y1, yc1⟩, ⟨A1, ac1⟩, fa, fb⟩ := x
  obtain ⟨r', d', q', ws', now', up', ses', ⟨u0', y0', a0'⟩, ⟨u1', y1', a1'⟩⟩ := Z
  obtain ⟨⟨cA', cc'⟩, ⟨W0', wc0'⟩, ⟨Y0', yc0'⟩, ⟨A0', ac0'⟩, ⟨W1', wc1'⟩, ⟨Y1', yc1'⟩, ⟨A1', ac1'⟩, fa', fb'⟩ := y
  simp only at HC HE0 HE1 ⊢
  have K1 := Lib.hid (fun w' (hb : Below w.heap.size w w') => cells_of (n := 4) (X := #[.int .i64 r, .int .i64 d, .int .i64 q, .slice cA ws.length cc]) (HI1.out.keep hb).blk 0 rfl)
  have K2 := Lib.hid (fun w' (hb : Below w.heap.size w w') => cells_of (n := 4) (X := #[.int .i64 r', .int .i64 d', .int .i64 q', .slice cA' ws'.length cc']) (HI2.out.keep hb).blk 0 rfl)
  have EE := Lib.hid (fun w' (hb : Below w.heap.size w w') => cells_of (n := 6) (X := #[.slice W0 u0.length wc0, .slice Y0 y0.length yc0, .slice A0 a0.length ac0, .slice W1 u1.length wc1, .slice Y1 y1.length yc1, .slice A1 a1.length ac1]) (HI1.out.keep hb).blk 7 rfl)
  have J0 := Lib.hid (fun w' (hb : Below w.heap.size w w') => cells_of (n := 3) (X := #[.slice W0' u0'.length wc0', .slice Y0' y0'.length yc0', .slice A0' a0'.length ac0']) (HI2.out.keep hb).blk 7 rfl)
  have J1 := Lib.hid (fun w' (hb : Below w.heap.size w w') => cells_of (n := 3) (X := #[.slice W1' u1'.length wc1', .slice Y1' y1'.length yc1', .slice A1' a1'.length ac1']) (HI2.out.keep hb).blk 10 rfl)
  have ix0 := idx_end0 (.slice W0 u0.length wc0) (.slice Y0 y0.length yc0) (.slice A0 a0.length ac0) (.slice W1 u1.length wc1) (.slice Y1 y1.length yc1) (.slice A1 a1.length ac1)
  have ix1 := idx_end1 (.slice W0 u0.length wc0) (.slice Y0 y0.length yc0) (.slice A0 a0.length ac0) (.slice W1 u1.length wc1) (.slice Y1 y1.length yc1) (.slice A1 a1.length ac1)
  by_cases e1 : now = now'
  · subst e1
    rw [decide_eq_true rfl, Bool.true_and]
    by_cases e2 : up = up'
    · subst e2
      rw [decide_eq_true rfl, Bool.true_and]
      by_cases e3 : ses = ses'
      · subst e3
        rw [decide_eq_true rfl, Bool.true_and]
        cases bc with
        | false =>
          rw [Bool.false_and]
          go_enter Try.func40, Try.ntmps40
          go_wp2_with (first | ((first | with_reducible refine at_load ?_ | ((with_reducible refine at_load_g ?_ ?_); (· rfl))); first | refine lc hM ?_ | refine ll hM ?_ | refine lp hM ?_) | ((with_reducible refine at_store ?_); first | (refine ls hM ?_; clear hM; intro wx hM) | (refine lw hM ?_; clear hM; intro wx hM) | (refine lt hM ?_; clear hM; intro wx hM)) | ((with_reducible refine at_alloc ?_); refine lz hM ?_; clear hM; intro gx wx hM) | ((with_reducible refine at_box ?_); refine lb hM ?_; clear hM; intro gx wx hM))
          refine Go.Bul.wp_region_class (Mem _ w _ _) (by kernel_rfl) (by kernel_rfl) hM.drew ?_
          repeat ((with_reducible refine wpQuiet_step (fun K hK => ?_)); (first | ((first | ((with_reducible refine quiet_some ?_ ?_); (· rfl)) | ((with_reducible refine quiet_wanted ?_ ?_); (· rfl))); apply Exists.intro; refine ⟨fun w' hM' => ?_, ?_⟩; (· first | (go_simp; rfl) | exact qc hM' | first | exact qo (((HI1.out.keep hM'.below).blk.cell _).trans rfl) | exact qo (((HI2.out.keep hM'.below).blk.cell _).trans rfl) | exact qrow (K1.out _ hM'.below) | exact qrow (K2.out _ hM'.below) | (go_simp; with_reducible refine at_calls ?_; exact quiet_mem_call hM' (HC.out _ hM'.below)) | exact ql hM' | exact qp hM')) | ((with_reducible refine quiet_unwanted ?_ ?_); (· rfl))); go_simp; (with_reducible refine hK _ ?_); clear hK K)
          refine wpQuiet_nil ?_
          intro wx hM
          go_wp2_with (first | ((first | with_reducible refine at_load ?_ | ((with_reducible refine at_load_g ?_ ?_); (· rfl))); first | refine lc hM ?_ | refine ll hM ?_ | refine lp hM ?_) | ((with_reducible refine at_store ?_); first | (refine ls hM ?_; clear hM; intro wx hM) | (refine lw hM ?_; clear hM; intro wx hM) | (refine lt hM ?_; clear hM; intro wx hM)) | ((with_reducible refine at_alloc ?_); refine lz hM ?_; clear hM; intro gx wx hM) | ((with_reducible refine at_box ?_); refine lb hM ?_; clear hM; intro gx wx hM))
          go_ret
          exact ⟨rfl, hM.below⟩
        | true =>
          rw [Bool.true_and]
          go_enter Try.func40, Try.ntmps40
          go_wp2_with (first | ((first | with_reducible refine at_load ?_ | ((with_reducible refine at_load_g ?_ ?_); (· rfl))); first | refine lc hM ?_ | refine ll hM ?_ | refine lp hM ?_) | ((with_reducible refine at_store ?_); first | (refine ls hM ?_; clear hM; intro wx hM) | (refine lw hM ?_; clear hM; intro wx hM) | (refine lt hM ?_; clear hM; intro wx hM)) | ((with_reducible refine at_alloc ?_); refine lz hM ?_; clear hM; intro gx wx hM) | ((with_reducible refine at_box ?_); refine lb hM ?_; clear hM; intro gx wx hM))
          refine Go.Bul.wp_region_class (Mem _ w _ _) (by kernel_rfl) (by kernel_rfl) hM.drew ?_
          repeat ((with_reducible refine wpQuiet_step (fun K hK => ?_)); (first | ((first | ((with_reducible refine quiet_some ?_ ?_); (· rfl)) | ((with_reducible refine quiet_wanted ?_ ?_); (· rfl))); apply Exists.intro; refine ⟨fun w' hM' => ?_, ?_⟩; (· first | (go_simp; rfl) | exact qc hM' | first | exact qo (((HI1.out.keep hM'.below).blk.cell _).trans rfl) | exact qo (((HI2.out.keep hM'.below).blk.cell _).trans rfl) | exact qrow (K1.out _ hM'.below) | exact qrow (K2.out _ hM'.below) | (go_simp; with_reducible refine at_calls ?_; exact quiet_mem_call hM' (HC.out _ hM'.below)) | exact ql hM' | exact qp hM')) | ((with_reducible refine quiet_unwanted ?_ ?_); (· rfl))); go_simp; (with_reducible refine hK _ ?_); clear hK K)
          refine wpQuiet_nil ?_
          intro wx hM
          go_wp2_with (first | ((with_reducible refine at_load ?_); refine lr (EE.out _ hM.below) ?_) | ((first | with_reducible refine at_load ?_ | ((with_reducible refine at_load_g ?_ ?_); (· rfl))); first | refine lc hM ?_ | refine ll hM ?_ | refine lp hM ?_) | ((with_reducible refine at_store ?_); first | (refine ls hM ?_; clear hM; intro wx hM) | (refine lw hM ?_; clear hM; intro wx hM) | (refine lt hM ?_; clear hM; intro wx hM)) | ((with_reducible refine at_alloc ?_); refine lz hM ?_; clear hM; intro gx wx hM) | ((with_reducible refine at_box ?_); refine lb hM ?_; clear hM; intro gx wx hM))
          refine wp_loop_rounds 3 ?_
          rw [rounds_succ]
          cases b0 with
          | false =>
            go_upto_region 8 with (first | ((with_reducible refine at_load ?_); refine lr (EE.out _ hM.below) ?_) | ((first | with_reducible refine at_load ?_ | ((with_reducible refine at_load_g ?_ ?_); (· rfl))); first | refine lc hM ?_ | refine ll hM ?_ | refine lp hM ?_) | ((with_reducible refine at_store ?_); first | (refine ls hM ?_; clear hM; intro wx hM) | (refine lw hM ?_; clear hM; intro wx hM) | (refine lt hM ?_; clear hM; intro wx hM)) | ((with_reducible refine at_alloc ?_); refine lz hM ?_; clear hM; intro gx wx hM) | ((with_reducible refine at_box ?_); refine lb hM ?_; clear hM; intro gx wx hM))
            refine Go.Bul.wp_region_class (Mem _ w _ _) (by kernel_rfl) (by kernel_rfl) hM.drew ?_
            repeat ((with_reducible refine wpQuiet_step (fun K hK => ?_)); (first | ((first | ((with_reducible refine quiet_some ?_ ?_); (· rfl)) | ((with_reducible refine quiet_wanted ?_ ?_); (· rfl))); apply Exists.intro; refine ⟨fun w' hM' => ?_, ?_⟩; (· first | (go_simp; rfl) | exact qc hM' | first | exact qrow (J0.out _ hM'.below) | (go_simp; with_reducible refine at_calls ?_; exact quiet_mem_call hM' (HE0.out _ hM'.below)) | exact ql hM' | exact qp hM')) | ((with_reducible refine quiet_unwanted ?_ ?_); (· rfl))); go_simp; (with_reducible refine hK _ ?_); clear hK K)
            refine wpQuiet_nil ?_
            intro wx hM
            go_wp2_with (first | ((first | with_reducible refine at_load ?_ | ((with_reducible refine at_load_g ?_ ?_); (· rfl))); first | refine lc hM ?_ | refine ll hM ?_ | refine lp hM ?_) | ((with_reducible refine at_store ?_); first | (refine ls hM ?_; clear hM; intro wx hM) | (refine lw hM ?_; clear hM; intro wx hM) | (refine lt hM ?_; clear hM; intro wx hM)) | ((with_reducible refine at_alloc ?_); refine lz hM ?_; clear hM; intro gx wx hM) | ((with_reducible refine at_box ?_); refine lb hM ?_; clear hM; intro gx wx hM))
            go_ret
            exact ⟨rfl, hM.below⟩
          | true =>
            go_upto_region 8 with (first | ((with_reducible refine at_load ?_); refine lr (EE.out _ hM.below) ?_) | ((first | with_reducible refine at_load ?_ | ((with_reducible refine at_load_g ?_ ?_); (· rfl))); first | refine lc hM ?_ | refine ll hM ?_ | refine lp hM ?_) | ((with_reducible refine at_store ?_); first | (refine ls hM ?_; clear hM; intro wx hM) | (refine lw hM ?_; clear hM; intro wx hM) | (refine lt hM ?_; clear hM; intro wx hM)) | ((with_reducible refine at_alloc ?_); refine lz hM ?_; clear hM; intro gx wx hM) | ((with_reducible refine at_box ?_); refine lb hM ?_; clear hM; intro gx wx hM))
            refine Go.Bul.wp_region_class (Mem _ w _ _) (by kernel_rfl) (by kernel_rfl) hM.drew ?_
            repeat ((with_reducible refine wpQuiet_step (fun K hK => ?_)); (first | ((first | ((with_reducible refine quiet_some ?_ ?_); (· rfl)) | ((with_reducible refine quiet_wanted ?_ ?_); (· rfl))); apply Exists.intro; refine ⟨fun w' hM' => ?_, ?_⟩; (· first | (go_simp; rfl) | exact qc hM' | first | exact qrow (J0.out _ hM'.below) | (go_simp; with_reducible refine at_calls ?_; exact quiet_mem_call hM' (HE0.out _ hM'.below)) | exact ql hM' | exact qp hM')) | ((with_reducible refine quiet_unwanted ?_ ?_); (· rfl))); go_simp; (with_reducible refine hK _ ?_); clear hK K)
            refine wpQuiet_nil ?_
            intro wx hM
            go_wp2_with (first | ((first | with_reducible refine at_load ?_ | ((with_reducible refine at_load_g ?_ ?_); (· rfl))); first | refine lc hM ?_ | refine ll hM ?_ | refine lp hM ?_) | ((with_reducible refine at_store ?_); first | (refine ls hM ?_; clear hM; intro wx hM) | (refine lw hM ?_; clear hM; intro wx hM) | (refine lt hM ?_; clear hM; intro wx hM)) | ((with_reducible refine at_alloc ?_); refine lz hM ?_; clear hM; intro gx wx hM) | ((with_reducible refine at_box ?_); refine lb hM ?_; clear hM; intro gx wx hM))
            rw [rounds_succ]
            cases b1 with
            | false =>
              go_upto_region 8 with (first | ((first | with_reducible refine at_load ?_ | ((with_reducible refine at_load_g ?_ ?_); (· rfl))); first | refine lc hM ?_ | refine ll hM ?_ | refine lp hM ?_) | ((with_reducible refine at_store ?_); first | (refine ls hM ?_; clear hM; intro wx hM) | (refine lw hM ?_; clear hM; intro wx hM) | (refine lt hM ?_; clear hM; intro wx hM)) | ((with_reducible refine at_alloc ?_); refine lz hM ?_; clear hM; intro gx wx hM) | ((with_reducible refine at_box ?_); refine lb hM ?_; clear hM; intro gx wx hM))
              refine Go.Bul.wp_region_class (Mem _ w _ _) (by kernel_rfl) (by kernel_rfl) hM.drew ?_
              repeat ((with_reducible refine wpQuiet_step (fun K hK => ?_)); (first | ((first | ((with_reducible refine quiet_some ?_ ?_); (· rfl)) | ((with_reducible refine quiet_wanted ?_ ?_); (· rfl))); apply Exists.intro; refine ⟨fun w' hM' => ?_, ?_⟩; (· first | (go_simp; rfl) | exact qc hM' | first | exact qrow (J1.out _ hM'.below) | (go_simp; with_reducible refine at_calls ?_; exact quiet_mem_call hM' (HE1.out _ hM'.below)) | exact ql hM' | exact qp hM')) | ((with_reducible refine quiet_unwanted ?_ ?_); (· rfl))); go_simp; (with_reducible refine hK _ ?_); clear hK K)
              refine wpQuiet_nil ?_
              intro wx hM
              go_wp2_with (first | ((first | with_reducible refine at_load ?_ | ((with_reducible refine at_load_g ?_ ?_); (· rfl))); first | refine lc hM ?_ | refine ll hM ?_ | refine lp hM ?_) | ((with_reducible refine at_store ?_); first | (refine ls hM ?_; clear hM; intro wx hM) | (refine lw hM ?_; clear hM; intro wx hM) | (refine lt hM ?_; clear hM; intro wx hM)) | ((with_reducible refine at_alloc ?_); refine lz hM ?_; clear hM; intro gx wx hM) | ((with_reducible refine at_box ?_); refine lb hM ?_; clear hM; intro gx wx hM))
              go_ret
              exact ⟨rfl, hM.below⟩
            | true =>
              go_upto_region 8 with (first | ((first | with_reducible refine at_load ?_ | ((with_reducible refine at_load_g ?_ ?_); (· rfl))); first | refine lc hM ?_ | refine ll hM ?_ | refine lp hM ?_) | ((with_reducible refine at_store ?_); first | (refine ls hM ?_; clear hM; intro wx hM) | (refine lw hM ?_; clear hM; intro wx hM) | (refine lt hM ?_; clear hM; intro wx hM)) | ((with_reducible refine at_alloc ?_); refine lz hM ?_; clear hM; intro gx wx hM) | ((with_reducible refine at_box ?_); refine lb hM ?_; clear hM; intro gx wx hM))
              refine Go.Bul.wp_region_class (Mem _ w _ _) (by kernel_rfl) (by kernel_rfl) hM.drew ?_
              repeat ((with_reducible refine wpQuiet_step (fun K hK => ?_)); (first | ((first | ((with_reducible refine quiet_some ?_ ?_); (· rfl)) | ((with_reducible refine quiet_wanted ?_ ?_); (· rfl))); apply Exists.intro; refine ⟨fun w' hM' => ?_, ?_⟩; (· first | (go_simp; rfl) | exact qc hM' | first | exact qrow (J1.out _ hM'.below) | (go_simp; with_reducible refine at_calls ?_; exact quiet_mem_call hM' (HE1.out _ hM'.below)) | exact ql hM' | exact qp hM')) | ((with_reducible refine quiet_unwanted ?_ ?_); (· rfl))); go_simp; (with_reducible refine hK _ ?_); clear hK K)
              refine wpQuiet_nil ?_
              intro wx hM
              go_wp2_with (first | ((first | with_reducible refine at_load ?_ | ((with_reducible refine at_load_g ?_ ?_); (· rfl))); first | refine lc hM ?_ | refine ll hM ?_ | refine lp hM ?_) | ((with_reducible refine at_store ?_); first | (refine ls hM ?_; clear hM; intro wx hM) | (refine lw hM ?_; clear hM; intro wx hM) | (refine lt hM ?_; clear hM; intro wx hM)) | ((with_reducible refine at_alloc ?_); refine lz hM ?_; clear hM; intro gx wx hM) | ((with_reducible refine at_box ?_); refine lb hM ?_; clear hM; intro gx wx hM))
              rw [rounds_succ]
              go_wp2_with (first | ((first | with_reducible refine at_load ?_ | ((with_reducible refine at_load_g ?_ ?_); (· rfl))); first | refine lc hM ?_ | refine ll hM ?_ | refine lp hM ?_) | ((with_reducible refine at_store ?_); first | (refine ls hM ?_; clear hM; intro wx hM) | (refine lw hM ?_; clear hM; intro wx hM) | (refine lt hM ?_; clear hM; intro wx hM)) | ((with_reducible refine at_alloc ?_); refine lz hM ?_; clear hM; intro gx wx hM) | ((with_reducible refine at_box ?_); refine lb hM ?_; clear hM; intro gx wx hM))
              go_ret
              exact ⟨rfl, hM.below⟩
      · rw [decide_eq_false e3, Bool.false_and]
        have t1 : (ses == ses') = false := by simpa using e3
        have t2 : (ses != ses') = true := by simpa using e3
        clear e3
        go_enter Try.func40, Try.ntmps40
        go_wp2_with (first | ((first | with_reducible refine at_load ?_ | ((with_reducible refine at_load_g ?_ ?_); (· rfl))); first | refine lc hM ?_ | refine ll hM ?_ | refine lp hM ?_) | ((with_reducible refine at_store ?_); first | (refine ls hM ?_; clear hM; intro wx hM) | (refine lw hM ?_; clear hM; intro wx hM) | (refine lt hM ?_; clear hM; intro wx hM)) | ((with_reducible refine at_alloc ?_); refine lz hM ?_; clear hM; intro gx wx hM) | ((with_reducible refine at_box ?_); refine lb hM ?_; clear hM; intro gx wx hM))
        refine Go.Bul.wp_region_class (Mem _ w _ _) (by kernel_rfl) (by kernel_rfl) hM.drew ?_
        repeat ((with_reducible refine wpQuiet_step (fun K hK => ?_)); (first | ((first | ((with_reducible refine quiet_some ?_ ?_); (· rfl)) | ((with_reducible refine quiet_wanted ?_ ?_); (· rfl))); apply Exists.intro; refine ⟨fun w' hM' => ?_, ?_⟩; (· first | (go_simp; rfl) | exact qc hM' | first | exact qo (((HI1.out.keep hM'.below).blk.cell _).trans rfl) | exact qo (((HI2.out.keep hM'.below).blk.cell _).trans rfl) | exact qrow (K1.out _ hM'.below) | exact qrow (K2.out _ hM'.below) | (go_simp; with_reducible refine at_calls ?_; exact quiet_mem_call hM' (HC.out _ hM'.below)) | exact ql hM' | exact qp hM')) | ((with_reducible refine quiet_unwanted ?_ ?_); (· rfl))); go_simp; (with_reducible refine hK _ ?_); clear hK K)
        refine wpQuiet_nil ?_
        intro wx hM
        go_wp2_with (first | ((first | with_reducible refine at_load ?_ | ((with_reducible refine at_load_g ?_ ?_); (· rfl))); first | refine lc hM ?_ | refine ll hM ?_ | refine lp hM ?_) | ((with_reducible refine at_store ?_); first | (refine ls hM ?_; clear hM; intro wx hM) | (refine lw hM ?_; clear hM; intro wx hM) | (refine lt hM ?_; clear hM; intro wx hM)) | ((with_reducible refine at_alloc ?_); refine lz hM ?_; clear hM; intro gx wx hM) | ((with_reducible refine at_box ?_); refine lb hM ?_; clear hM; intro gx wx hM))
        go_ret
        exact ⟨rfl, hM.below⟩
    · rw [decide_eq_false e2, Bool.false_and]
      cases up <;> cases up'
      · exact absurd rfl e2
      · clear e2
        go_enter Try.func40, Try.ntmps40
        go_wp2_with (first | ((first | with_reducible refine at_load ?_ | ((with_reducible refine at_load_g ?_ ?_); (· rfl))); first | refine lc hM ?_ | refine ll hM ?_ | refine lp hM ?_) | ((with_reducible refine at_store ?_); first | (refine ls hM ?_; clear hM; intro wx hM) | (refine lw hM ?_; clear hM; intro wx hM) | (refine lt hM ?_; clear hM; intro wx hM)) | ((with_reducible refine at_alloc ?_); refine lz hM ?_; clear hM; intro gx wx hM) | ((with_reducible refine at_box ?_); refine lb hM ?_; clear hM; intro gx wx hM))
        refine Go.Bul.wp_region_class (Mem _ w _ _) (by kernel_rfl) (by kernel_rfl) hM.drew ?_
        repeat ((with_reducible refine wpQuiet_step (fun K hK => ?_)); (first | ((first | ((with_reducible refine quiet_some ?_ ?_); (· rfl)) | ((with_reducible refine quiet_wanted ?_ ?_); (· rfl))); apply Exists.intro; refine ⟨fun w' hM' => ?_, ?_⟩; (· first | (go_simp; rfl) | exact qc hM' | first | exact qo (((HI1.out.keep hM'.below).blk.cell _).trans rfl) | exact qo (((HI2.out.keep hM'.below).blk.cell _).trans rfl) | exact qrow (K1.out _ hM'.below) | exact qrow (K2.out _ hM'.below) | (go_simp; with_reducible refine at_calls ?_; exact quiet_mem_call hM' (HC.out _ hM'.below)) | exact ql hM' | exact qp hM')) | ((with_reducible refine quiet_unwanted ?_ ?_); (· rfl))); go_simp; (with_reducible refine hK _ ?_); clear hK K)
        refine wpQuiet_nil ?_
        intro wx hM
        go_wp2_with (first | ((first | with_reducible refine at_load ?_ | ((with_reducible refine at_load_g ?_ ?_); (· rfl))); first | refine lc hM ?_ | refine ll hM ?_ | refine lp hM ?_) | ((with_reducible refine at_store ?_); first | (refine ls hM ?_; clear hM; intro wx hM) | (refine lw hM ?_; clear hM; intro wx hM) | (refine lt hM ?_; clear hM; intro wx hM)) | ((with_reducible refine at_alloc ?_); refine lz hM ?_; clear hM; intro gx wx hM) | ((with_reducible refine at_box ?_); refine lb hM ?_; clear hM; intro gx wx hM))
        go_ret
        exact ⟨rfl, hM.below⟩
      · clear e2
        go_enter Try.func40, Try.ntmps40
        go_wp2_with (first | ((first | with_reducible refine at_load ?_ | ((with_reducible refine at_load_g ?_ ?_); (· rfl))); first | refine lc hM ?_ | refine ll hM ?_ | refine lp hM ?_) | ((with_reducible refine at_store ?_); first | (refine ls hM ?_; clear hM; intro wx hM) | (refine lw hM ?_; clear hM; intro wx hM) | (refine lt hM ?_; clear hM; intro wx hM)) | ((with_reducible refine at_alloc ?_); refine lz hM ?_; clear hM; intro gx wx hM) | ((with_reducible refine at_box ?_); refine lb hM ?_; clear hM; intro gx wx hM))
        refine Go.Bul.wp_region_class (Mem _ w _ _) (by kernel_rfl) (by kernel_rfl) hM.drew ?_
        repeat ((with_reducible refine wpQuiet_step (fun K hK => ?_)); (first | ((first | ((with_reducible refine quiet_some ?_ ?_); (· rfl)) | ((with_reducible refine quiet_wanted ?_ ?_); (· rfl))); apply Exists.intro; refine ⟨fun w' hM' => ?_, ?_⟩; (· first | (go_simp; rfl) | exact qc hM' | first | exact qo (((HI1.out.keep hM'.below).blk.cell _).trans rfl) | exact qo (((HI2.out.keep hM'.below).blk.cell _).trans rfl) | exact qrow (K1.out _ hM'.below) | exact qrow (K2.out _ hM'.below) | (go_simp; with_reducible refine at_calls ?_; exact quiet_mem_call hM' (HC.out _ hM'.below)) | exact ql hM' | exact qp hM')) | ((with_reducible refine quiet_unwanted ?_ ?_); (· rfl))); go_simp; (with_reducible refine hK _ ?_); clear hK K)
        refine wpQuiet_nil ?_
        intro wx hM
        go_wp2_with (first | ((first | with_reducible refine at_load ?_ | ((with_reducible refine at_load_g ?_ ?_); (· rfl))); first | refine lc hM ?_ | refine ll hM ?_ | refine lp hM ?_) | ((with_reducible refine at_store ?_); first | (refine ls hM ?_; clear hM; intro wx hM) | (refine lw hM ?_; clear hM; intro wx hM) | (refine lt hM ?_; clear hM; intro wx hM)) | ((with_reducible refine at_alloc ?_); refine lz hM ?_; clear hM; intro gx wx hM) | ((with_reducible refine at_box ?_); refine lb hM ?_; clear hM; intro gx wx hM))
        go_ret
        exact ⟨rfl, hM.below⟩
      · exact absurd rfl e2
  · rw [decide_eq_false e1, Bool.false_and]
    have t1 : (now == now') = false := by simpa using e1
    have t2 : (now != now') = true := by simpa using e1
    clear e1
    go_enter Try.func40, Try.ntmps40
    go_wp2_with (first | ((first | with_reducible refine at_load ?_ | ((with_reducible refine at_load_g ?_ ?_); (· rfl))); first | refine lc hM ?_ | refine ll hM ?_ | refine lp hM ?_) | ((with_reducible refine at_store ?_); first | (refine ls hM ?_; clear hM; intro wx hM) | (refine lw hM ?_; clear hM; intro wx hM) | (refine lt hM ?_; clear hM; intro wx hM)) | ((with_reducible refine at_alloc ?_); refine lz hM ?_; clear hM; intro gx wx hM) | ((with_reducible refine at_box ?_); refine lb hM ?_; clear hM; intro gx wx hM))
    refine Go.Bul.wp_region_class (Mem _ w _ _) (by kernel_rfl) (by kernel_rfl) hM.drew ?_
    repeat ((with_reducible refine wpQuiet_step (fun K hK => ?_)); (first | ((first | ((with_reducible refine quiet_some ?_ ?_); (· rfl)) | ((with_reducible refine quiet_wanted ?_ ?_); (· rfl))); apply Exists.intro; refine ⟨fun w' hM' => ?_, ?_⟩; (· first | (go_simp; rfl) | exact qc hM' | first | exact qo (((HI1.out.keep hM'.below).blk.cell _).trans rfl) | exact qo (((HI2.out.keep hM'.below).blk.cell _).trans rfl) | exact qrow (K1.out _ hM'.below) | exact qrow (K2.out _ hM'.below) | (go_simp; with_reducible refine at_calls ?_; exact quiet_mem_call hM' (HC.out _ hM'.below)) | exact ql hM' | exact qp hM')) | ((with_reducible refine quiet_unwanted ?_ ?_); (· rfl))); go_simp; (with_reducible refine hK _ ?_); clear hK K)
    refine wpQuiet_nil ?_
    intro wx hM
    go_wp2_with (first | ((first | with_reducible refine at_load ?_ | ((with_reducible refine at_load_g ?_ ?_); (· rfl))); first | refine lc hM ?_ | refine ll hM ?_ | refine lp hM ?_) | ((with_reducible refine at_store ?_); first | (refine ls hM ?_; clear hM; intro wx hM) | (refine lw hM ?_; clear hM; intro wx hM) | (refine lt hM ?_; clear hM; intro wx hM)) | ((with_reducible refine at_alloc ?_); refine lz hM ?_; clear hM; intro gx wx hM) | ((with_reducible refine at_box ?_); refine lb hM ?_; clear hM; intro gx wx hM))
    go_ret
    exact ⟨rfl, hM.below⟩
end Go.Proofs.Ytenflgbaibjeoaa
