/- Contracts of merkle.climb, From, Verify. Contracts of merkle.Verify; known. known. Contracts of the reference's half, Leaf, Join. -/
import Derived.Test.YtdnnjgjaffkdfaaDoorVo
import Derived.Lib.SlBytesConst
import Derived.Test.YtdnnjgjaffkdfaaDoorVn
import Derived.Test.YtdnnjgjaffkdfaaDoorRefd
namespace Go.Proofs.YtdnnjgjaffkdfaaDoor
open Go Go.RowKit Go.Bul Go.Thg Go.Lin
section
variable {w w0 : World} {G : List Nat} {L : List Ent} {R : List Thing} {ops : Array Oper} {rest : List Oper} {o : Oper} {a : Act} {Q : Exit → Act → World → Prop} {x : Operand} {ty : TypeId} {k : IntKind} {z : Int}
theorem lbi (hM : Mem G w0 L R w) (h : ∀ g w', Mem G w0 (⟨g, ty, 1, #[.int k z]⟩ :: L) R w' → wpList Tryd.prog ops Q rest (a.put o.dst (.pointer (some ⟨g, 0, none⟩))) w') (hgd : o.guard = none := by rfl) (ho : o.op = .box ty x := by rfl) (hx : a.eval x = .int k z := by rfl) : wpList Tryd.prog ops Q (o :: rest) a w := by
  refine wpList_plain hgd fun K hK => ?_
  unfold Oper.wp execOp
  simp only [ho, hx, Instr.box, newVar, newRow, newObj, Sem.run_bind, Sem.run_pure, Value.cells]
  exact hK _ _ (h _ _ (hM.alloc _ _ rfl))
end
set_option maxRecDepth 20000 in
theorem climb_any (x : Nd) (idx : Int) (w : World) :
    Calls Tryd.prog 76 #[.agg (ndC x), .int .i64 idx] w fun e w' => ∃ g5 g3 g6, e = .returned (.func (.func 101) #[] #[.pointer (some ⟨g5, 0, none⟩), .pointer (some ⟨g3, 0, none⟩), .pointer (some ⟨g6, 0, none⟩)]) ∧ Mem [] w [⟨g5, 89, 16, ndC x⟩, ⟨g3, 3, 1, #[.int .i64 idx]⟩, ⟨g6, 3, 1, #[.int .i64 0]⟩] [] w' := by
  have hM := Mem.start [] w
  go_enter Tryd.func76, Tryd.ntmps76
  go_wp2_with (first | ((with_reducible refine at_box ?_); refine lbi hM ?_; clear hM; intro g3 w3 hM) | ((with_reducible refine at_store ?_); refine ls hM ?_ (v := .int .i64 0); clear hM; intro wx hM) | ((first | with_reducible refine at_load ?_ | ((with_reducible refine at_load_g ?_ ?_); (· rfl))); first | refine ll hM ?_ | refine lc hM ?_ | refine lp hM ?_) | ((with_reducible refine at_store ?_); first | (refine lw hM ?_; clear hM; intro wx hM) | (refine ls hM ?_; clear hM; intro wx hM) | (refine lt hM ?_; clear hM; intro wx hM)) | ((with_reducible refine at_alloc ?_); refine lz hM ?_; clear hM; intro gx wx hM) | ((with_reducible refine at_box ?_); refine lb hM ?_; clear hM; intro gx wx hM))
  go_ret
  refine ⟨_, _, _, rfl, ?_⟩
  have hM2 := (hM.subL (L' := [_, _, _]) (List.Sublist.cons_cons _ (List.Sublist.cons_cons _ (List.Sublist.cons_cons _ (List.nil_sublist _)))))
  exact hM2.permL (List.Perm.trans (List.Perm.cons _ (List.Perm.swap _ _ _)) (List.Perm.swap _ _ _))
end Go.Proofs.YtdnnjgjaffkdfaaDoor
namespace Go.Lin
open Go
/-- Where a path leads. -/
def climbs (idx : Int) : Nat → Nd → List Nd → Nd
  | _, x, [] => x
  | lev, x, s :: l => climbs idx (lev + 1) (stepN idx lev x s) l
end Go.Lin
namespace Go.Proofs.YtdnnjgjaffkdfaaDoor
open Go Go.RowKit Go.Bul Go.Thg Go.Lin
theorem climb_at {G : List Nat} {w0 w : World} {L : List Ent} {R : List Thing} {g5 g3 g6 : Nat} {x s : Nd} {idx lev : Int} {E1 E2 : Ent} (hM : Mem G w0 (E1 :: E2 :: ⟨g5, 89, 16, ndC x⟩ :: ⟨g3, 3, 1, #[.int .i64 idx]⟩ :: ⟨g6, 3, 1, #[.int .i64 lev]⟩ :: L) R w) (hT : ∀ L R w', Mem G w0 L R w' → Tab w') (h0 : 0 ≤ idx) (h1 : idx < 1024) (h2 : 0 ≤ lev) (h3 : lev ≤ 10) :
    Calls Tryd.prog 101 #[.agg (ndC s), .pointer (some ⟨g5, 0, none⟩), .pointer (some ⟨g3, 0, none⟩), .pointer (some ⟨g6, 0, none⟩)] w fun e w' => e = .returned (.tuple #[.agg (ndC2 (pairN idx lev x s).1 (pairN idx lev x s).2), .agg (ndC (stepN idx lev x s))]) ∧ Mem G w0 (E1 :: E2 :: ⟨g5, 89, 16, ndC (stepN idx lev x s)⟩ :: ⟨g3, 3, 1, #[.int .i64 idx]⟩ :: ⟨g6, 3, 1, #[.int .i64 (lev + 1)]⟩ :: L) R w' := by
  refine (climb_step (L := E1 :: E2 :: L) (hM.permL ((List.perm_append_comm (l₁ := [_, _, _]) (l₂ := [E1, E2])).append_right L)) hT h0 h1 h2 h3).mono ?_
  rintro e w' ⟨rfl, h⟩
  exact ⟨rfl, h.permL ((List.perm_append_comm (l₁ := [E1, E2]) (l₂ := [_, _, _])).append_right L)⟩
set_option maxRecDepth 20000 in
set_option maxHeartbeats 4000000 in
theorem from_yes (x : Nd) (idx : Int) (A : Option Addr) (n c : Nat) (path : List Nd) (w : World) (hr : NIn w A n path) (hn : n ≤ 10) (h0 : 0 ≤ idx) (h1 : idx < 2 ^ n) (hT : Tab w) :
    Calls Tryd.prog 48 #[.agg (ndC x), .int .i64 idx, .slice A n c] w fun e w' => e = .returned (.tuple #[.agg (ndC (climbs idx 0 x path)), .int .i64 0]) ∧ Below w.heap.size w w' := by
  obtain ⟨Z, hZ⟩ : ∃ Z, climbs idx 0 x path = Z := ⟨_, rfl⟩
  rw [hZ]
  have HZ : Hid (climbs idx 0 x (path.drop 0) = Z) := Lib.hid hZ
  clear hZ
  have hM := Mem.start [] w
  have c1 : decide ((10 : Int) < (n : Int)) = false := decide_eq_false (by omega)
  have c2 : decide (10 < n) = false := decide_eq_false (by omega)
  have c3 : decide (idx < 0) = false := decide_eq_false (by omega)
  have n0 : (0 : Int) ≤ (n : Int) := Int.natCast_nonneg _
  have n1 : (n : Int) ≤ 10 := by omega
  have hp : (2 : Int) ^ n ≤ 1024 := by
    have h : (2 : Int) ^ n = ((2 ^ n : Nat) : Int) := by simp
    have h2 : 2 ^ n ≤ 2 ^ 10 := Nat.pow_le_pow_right (by decide) hn
    omega
  have c4 : wrap64 ((2 : Int) ^ n) = (2 : Int) ^ n := by unfold wrap64; omega
  have c5 : decide ((2 : Int) ^ n ≤ idx) = false := decide_eq_false (by omega)
  have h2 : idx < 1024 := by omega
  have HR := Lib.hid hr
  have HT := Lib.hid hT
  have HL := Lib.hid hr.len
  clear hr hT hp h1
  go_enter Tryd.func48, Tryd.ntmps48
  go_upto_region 5 with (first | ((first | with_reducible refine at_load ?_ | ((with_reducible refine at_load_g ?_ ?_); (· rfl))); first | refine ll hM ?_ | refine lc hM ?_ | refine lp hM ?_) | ((with_reducible refine at_store ?_); first | (refine lw hM ?_; clear hM; intro wx hM) | (refine ls hM ?_; clear hM; intro wx hM) | (refine lt hM ?_; clear hM; intro wx hM)) | ((with_reducible refine at_alloc ?_); refine lz hM ?_; clear hM; intro gx wx hM) | ((with_reducible refine at_box ?_); refine lb hM ?_; clear hM; intro gx wx hM))
  obtain ⟨gb, hgb⟩ := (hM.subL (List.sublist_cons_self _ _)).name1
  obtain ⟨gr, hgr⟩ := hM.name1
  subst hgb hgr
  refine wp_region_allHM hM (HeldM [⟨gb, 89, 16, ndC x⟩]) (by kernel_rfl) ?_
  clear hM
  intro wd hM
  have hS := HeldM.of (hM.subL (L' := [_]) (List.Sublist.cons _ (List.Sublist.refl _)))
  refine wpAllH_takes [0, 1, 2] (by kernel_rfl) (fun _ _ _ _ _ h => h) hS (by kernel_rfl) ?_
  simp only [pickOps, List.filterMap_cons, List.filterMap_nil, List.getElem?_cons_zero, List.getElem?_cons_succ]
  repeat ((with_reducible apply wpHeld_step); (· rfl); (· (intro w hSw; first | (go_simp; rfl) | ((obtain ⟨_, _, _, hM'⟩ := hSw; exact yields_load (C := fun _ => True) (ql hM') rfl)))); intro K hK; go_simp; (with_reducible refine hK _ ?_); clear hK K)
  refine wpHeld_nil ?_
  refine wpAllH_two 3 4 rfl rfl (by kernel_rfl) ?_ ?_
  · go_wp2_with fail
    refine (climb_any x idx _).mono ?_
    rintro e w1 ⟨g5, g3, g6, rfl, hc⟩
    replace hM := hM.frame hc
    clear hc hS
    go_wp2_with fail
    have hS := HeldM.of (hM.subL (L' := [⟨gb, 89, 16, ndC x⟩]) (List.Sublist.cons _ (List.Sublist.cons _ (List.Sublist.cons _ (List.Sublist.cons _ (List.Sublist.refl _))))))
    refine then_normal ⟨hS, ?_⟩
    refine wpAllH_one 4 rfl (by kernel_rfl) ?_
    refine lz hM ?_
    clear hM hS
    intro g8 wz hM
    have hS := HeldM.of (hM.subL (L' := [⟨gb, 89, 16, ndC x⟩]) (List.Sublist.cons _ (List.Sublist.cons _ (List.Sublist.cons _ (List.Sublist.cons _ (List.Sublist.cons _ (List.Sublist.refl _)))))))
    refine wpList_then ⟨hS, ?_⟩
    refine wpAllH_one 5 rfl (by kernel_rfl) ?_
    refine lw hM ?_
    clear hM hS
    intro wy hM
    have hS := HeldM.of (hM.subL (L' := [⟨gb, 89, 16, ndC x⟩]) (List.Sublist.cons _ (List.Sublist.cons _ (List.Sublist.cons _ (List.Sublist.cons _ (List.Sublist.cons _ (List.Sublist.refl _)))))))
    refine wpList_then ⟨hS, ?_⟩
    refine wpAllH_takes [6] (by kernel_rfl) (fun _ _ _ _ _ h => h) hS (by kernel_rfl) ?_
    simp only [pickOps, List.filterMap_cons, List.filterMap_nil, List.getElem?_cons_zero, List.getElem?_cons_succ]
    repeat ((with_reducible apply wpHeld_step); (· rfl); (· (intro w hSw; first | (go_simp; rfl) | (fail))); intro K hK; go_simp; (with_reducible refine hK _ ?_); clear hK K)
    refine wpHeld_nil ?_
    refine wpAllH_done (by kernel_rfl) ?_
    go_wp2_with fail
    have M0 := Lib.hid (hM.subL (L' := [_, _, _, _, _]) (List.Sublist.cons_cons _ (List.Sublist.cons_cons _ (List.Sublist.cons_cons _ (List.Sublist.cons_cons _ (List.Sublist.cons_cons _ (List.nil_sublist _)))))))
    clear hM hS
    go_loopw [32] (fun i wr => ∃ (k : Nat) (y : Nd), k ≤ n ∧ i = .int .i64 (k : Nat) ∧ Hid (climbs idx k y (path.drop k) = Z) ∧ Mem [] w [⟨g8, 89, 16, ndC y⟩, ⟨g5, 89, 16, ndC y⟩, ⟨g3, 3, 1, #[.int .i64 idx]⟩, ⟨g6, 3, 1, #[.int .i64 (k : Nat)]⟩, ⟨gr, 89, 16, ndC nd0⟩] (([] : List Thing) ++ []) wr) (fun i _ => n - (intOf i).toNat)
    case atStart => exact ⟨0, x, by omega, rfl, HZ, M0.out⟩
    case round =>
      clear M0
      obtain ⟨k, y, hk, rfl, HK, hM⟩ := hrel
      by_cases hlt : k < n
      · have hkl : k < path.length := by have := HL.out; omega
        obtain ⟨g, off, rfl, hgl, _⟩ := NIn.row HR.out k hkl
        have HC := Lib.hid (fun w' (hb : Below w.heap.size w w') => NIn.cell (HR.out.keep hb) k hkl)
        obtain ⟨s, hs⟩ : ∃ s, path[k] = s := ⟨_, rfl⟩
        have hd : path.drop k = s :: path.drop (k + 1) := by rw [List.drop_eq_getElem_cons hkl, hs]
        rw [hs] at HC
        have HK2 : Hid (climbs idx (k + 1) (stepN idx k y s) (path.drop (k + 1)) = Z) := Lib.hid (by have h := HK.out; rw [hd] at h; exact h)
        have HST := Lib.hid (fun (E1 E2 : Ent) (L : List Ent) (R : List Thing) w' (h : Mem [] w (E1 :: E2 :: ⟨g5, 89, 16, ndC y⟩ :: ⟨g3, 3, 1, #[.int .i64 idx]⟩ :: ⟨g6, 3, 1, #[.int .i64 (k : Nat)]⟩ :: L) R w') => climb_at (s := s) h (fun L R w' h => HT.out.keep h.below) h0 h2 (by omega) (by omega))
        generalize stepN idx k y s = y2 at HK2 HST
        have k0 : (0 : Int) ≤ (k : Int) := Int.natCast_nonneg _
        have k1 : (k : Int) < (n : Int) := by omega
        clear hd hs hgl HK
        go_wp2_with (first | ((with_reducible refine at_load ?_); refine lr (HC.out _ hM.below) ?_) | ((with_reducible refine (HST.out _ _ _ _ _ hM).mono ?_); clear hM; rintro e w1 ⟨rfl, hM⟩) | ((first | with_reducible refine at_load ?_ | ((with_reducible refine at_load_g ?_ ?_); (· rfl))); first | refine ll hM ?_ | refine lc hM ?_ | refine lp hM ?_) | ((with_reducible refine at_store ?_); first | (refine lw hM ?_; clear hM; intro wx hM) | (refine ls hM ?_; clear hM; intro wx hM) | (refine lt hM ?_; clear hM; intro wx hM)) | ((with_reducible refine at_alloc ?_); refine lz hM ?_; clear hM; intro gx wx hM) | ((with_reducible refine at_box ?_); refine lb hM ?_; clear hM; intro gx wx hM))
        exact ⟨⟨k + 1, y2, by omega, by go_num, HK2, by rw [show ((k + 1 : Nat) : Int) = (k : Int) + 1 by omega]; exact hM.subL (List.sublist_cons_self _ _)⟩, by simp [intOf]; omega⟩
      · obtain rfl : k = n := by omega
        have hz : y = Z := by have h := HK.out; rw [List.drop_of_length_le (by have := HL.out; omega)] at h; exact h
        subst hz
        clear HK hlt hk HZ
        go_wp2_with (first | ((first | with_reducible refine at_load ?_ | ((with_reducible refine at_load_g ?_ ?_); (· rfl))); first | refine ll hM ?_ | refine lc hM ?_ | refine lp hM ?_) | ((with_reducible refine at_store ?_); first | (refine lw hM ?_; clear hM; intro wx hM) | (refine ls hM ?_; clear hM; intro wx hM) | (refine lt hM ?_; clear hM; intro wx hM)) | ((with_reducible refine at_alloc ?_); refine lz hM ?_; clear hM; intro gx wx hM) | ((with_reducible refine at_box ?_); refine lb hM ?_; clear hM; intro gx wx hM))
        exact bodyPost_ret (results_mem_cell_tmp hM rfl (by rfl) (by repeat (first | exact List.Mem.head _ | apply List.Mem.tail)) (by first | exact row_nd | exact row_n | exact row_half | exact row_a32 | exact row_nd2 | exact row_n2 | exact row_two | exact row_claim | exact row_bld | exact row_bnds) (by rfl)) rfl ⟨rfl, hM.below⟩
  · refine lz hM ?_
    clear hM hS
    intro g8 wz hM
    have hS := HeldM.of (hM.subL (L' := [⟨gb, 89, 16, ndC x⟩]) (List.Sublist.cons _ (List.Sublist.cons _ (List.Sublist.refl _))))
    refine wpList_then ⟨hS, ?_⟩
    refine wpAllH_one 3 rfl (by kernel_rfl) ?_
    go_wp2_with fail
    refine (climb_any x idx _).mono ?_
    rintro e w1 ⟨g5, g3, g6, rfl, hc⟩
    replace hM := hM.frame hc
    clear hc hS
    go_wp2_with fail
    have hS := HeldM.of (hM.subL (L' := [⟨gb, 89, 16, ndC x⟩]) (List.Sublist.cons _ (List.Sublist.cons _ (List.Sublist.cons _ (List.Sublist.cons _ (List.Sublist.cons _ (List.Sublist.refl _)))))))
    refine then_normal ⟨hS, ?_⟩
    replace hM := hM.permL (L' := _ :: _ :: _ :: _ :: _) (List.perm_middle (l₁ := [_, _, _])).symm
    refine wpAllH_one 5 rfl (by kernel_rfl) ?_
    refine lw hM ?_
    clear hM hS
    intro wy hM
    have hS := HeldM.of (hM.subL (L' := [⟨gb, 89, 16, ndC x⟩]) (List.Sublist.cons _ (List.Sublist.cons _ (List.Sublist.cons _ (List.Sublist.cons _ (List.Sublist.cons _ (List.Sublist.refl _)))))))
    refine wpList_then ⟨hS, ?_⟩
    refine wpAllH_takes [6] (by kernel_rfl) (fun _ _ _ _ _ h => h) hS (by kernel_rfl) ?_
    simp only [pickOps, List.filterMap_cons, List.filterMap_nil, List.getElem?_cons_zero, List.getElem?_cons_succ]
    repeat ((with_reducible apply wpHeld_step); (· rfl); (· (intro w hSw; first | (go_simp; rfl) | (fail))); intro K hK; go_simp; (with_reducible refine hK _ ?_); clear hK K)
    refine wpHeld_nil ?_
    refine wpAllH_done (by kernel_rfl) ?_
    go_wp2_with fail
    have M0 := Lib.hid (hM.subL (L' := [_, _, _, _, _]) (List.Sublist.cons_cons _ (List.Sublist.cons_cons _ (List.Sublist.cons_cons _ (List.Sublist.cons_cons _ (List.Sublist.cons_cons _ (List.nil_sublist _)))))))
    clear hM hS
    go_loopw [32] (fun i wr => ∃ (k : Nat) (y : Nd), k ≤ n ∧ i = .int .i64 (k : Nat) ∧ Hid (climbs idx k y (path.drop k) = Z) ∧ Mem [] w [⟨g8, 89, 16, ndC y⟩, ⟨g5, 89, 16, ndC y⟩, ⟨g3, 3, 1, #[.int .i64 idx]⟩, ⟨g6, 3, 1, #[.int .i64 (k : Nat)]⟩, ⟨gr, 89, 16, ndC nd0⟩] (([] : List Thing) ++ []) wr) (fun i _ => n - (intOf i).toNat)
    case atStart => exact ⟨0, x, by omega, rfl, HZ, M0.out⟩
    case round =>
      clear M0
      obtain ⟨k, y, hk, rfl, HK, hM⟩ := hrel
      by_cases hlt : k < n
      · have hkl : k < path.length := by have := HL.out; omega
        obtain ⟨g, off, rfl, hgl, _⟩ := NIn.row HR.out k hkl
        have HC := Lib.hid (fun w' (hb : Below w.heap.size w w') => NIn.cell (HR.out.keep hb) k hkl)
        obtain ⟨s, hs⟩ : ∃ s, path[k] = s := ⟨_, rfl⟩
        have hd : path.drop k = s :: path.drop (k + 1) := by rw [List.drop_eq_getElem_cons hkl, hs]
        rw [hs] at HC
        have HK2 : Hid (climbs idx (k + 1) (stepN idx k y s) (path.drop (k + 1)) = Z) := Lib.hid (by have h := HK.out; rw [hd] at h; exact h)
        have HST := Lib.hid (fun (E1 E2 : Ent) (L : List Ent) (R : List Thing) w' (h : Mem [] w (E1 :: E2 :: ⟨g5, 89, 16, ndC y⟩ :: ⟨g3, 3, 1, #[.int .i64 idx]⟩ :: ⟨g6, 3, 1, #[.int .i64 (k : Nat)]⟩ :: L) R w') => climb_at (s := s) h (fun L R w' h => HT.out.keep h.below) h0 h2 (by omega) (by omega))
        generalize stepN idx k y s = y2 at HK2 HST
        have k0 : (0 : Int) ≤ (k : Int) := Int.natCast_nonneg _
        have k1 : (k : Int) < (n : Int) := by omega
        clear hd hs hgl HK
        go_wp2_with (first | ((with_reducible refine at_load ?_); refine lr (HC.out _ hM.below) ?_) | ((with_reducible refine (HST.out _ _ _ _ _ hM).mono ?_); clear hM; rintro e w1 ⟨rfl, hM⟩) | ((first | with_reducible refine at_load ?_ | ((with_reducible refine at_load_g ?_ ?_); (· rfl))); first | refine ll hM ?_ | refine lc hM ?_ | refine lp hM ?_) | ((with_reducible refine at_store ?_); first | (refine lw hM ?_; clear hM; intro wx hM) | (refine ls hM ?_; clear hM; intro wx hM) | (refine lt hM ?_; clear hM; intro wx hM)) | ((with_reducible refine at_alloc ?_); refine lz hM ?_; clear hM; intro gx wx hM) | ((with_reducible refine at_box ?_); refine lb hM ?_; clear hM; intro gx wx hM))
        exact ⟨⟨k + 1, y2, by omega, by go_num, HK2, by rw [show ((k + 1 : Nat) : Int) = (k : Int) + 1 by omega]; exact hM.subL (List.sublist_cons_self _ _)⟩, by simp [intOf]; omega⟩
      · obtain rfl : k = n := by omega
        have hz : y = Z := by have h := HK.out; rw [List.drop_of_length_le (by have := HL.out; omega)] at h; exact h
        subst hz
        clear HK hlt hk HZ
        go_wp2_with (first | ((first | with_reducible refine at_load ?_ | ((with_reducible refine at_load_g ?_ ?_); (· rfl))); first | refine ll hM ?_ | refine lc hM ?_ | refine lp hM ?_) | ((with_reducible refine at_store ?_); first | (refine lw hM ?_; clear hM; intro wx hM) | (refine ls hM ?_; clear hM; intro wx hM) | (refine lt hM ?_; clear hM; intro wx hM)) | ((with_reducible refine at_alloc ?_); refine lz hM ?_; clear hM; intro gx wx hM) | ((with_reducible refine at_box ?_); refine lb hM ?_; clear hM; intro gx wx hM))
        exact bodyPost_ret (results_mem_cell_tmp hM rfl (by rfl) (by repeat (first | exact List.Mem.head _ | apply List.Mem.tail)) (by first | exact row_nd | exact row_n | exact row_half | exact row_a32 | exact row_nd2 | exact row_n2 | exact row_two | exact row_claim | exact row_bld | exact row_bnds) (by rfl)) rfl ⟨rfl, hM.below⟩
end Go.Proofs.YtdnnjgjaffkdfaaDoor
namespace Go.Bul
open Go
theorem wpHeld_stepG {P : Program} {ops : Array Oper} {S : World → Prop} {K : Act → Prop} {a : Act} {o : Oper} {l : List Oper} {v : Value} (hg : Region.wanted o (yielded ops a.tmps) = true) (hy : ∀ w, S w → (execOp a.eval o).run P w = .ok (.value v) w)
    (h : ∀ K' : Act → Prop, (∀ a', wpHeld P ops S K l a' → K' a') → K' (a.put o.dst v)) : wpHeld P ops S K (o :: l) a :=
  ⟨v, .inl ⟨hg, hy⟩, h _ fun _ h => h⟩
end Go.Bul
namespace Go.Proofs.YtdnnjgjaffkdfaaDoor
open Go Go.RowKit Go.Bul Go.Thg Go.Lin
end Go.Proofs.YtdnnjgjaffkdfaaDoor
namespace Go.Lin
open Go Go.Bul
end Go.Lin
namespace Go.Proofs.YtdnnjgjaffkdfaaDoor
open Go Go.RowKit Go.Bul Go.Thg Go.Lin
theorem nin_1 {w w0 : World} {G : List Nat} {L : List Ent} {R : List Thing} {g : Nat} {t : TypeId} {x : Nd} (hM : Mem G w0 L R w) (hL : ⟨g, t, 16, ndC x⟩ ∈ L) : NIn w (some ⟨g, 0, none⟩) 1 [x] := by
  have hB := hM.blk hL
  refine ⟨by rw [ndCells_length]; rfl, fun _ => ⟨g, 0, rfl, hB.lt, fun j u hu => (hB.cell _).trans ?_⟩⟩
  rw [Nat.zero_add]
  have e : ndCells [x] = vals .u8 x.val := by simp [ndCells]
  rw [e] at hu
  simpa [ndC, cellsOf] using hu
end Go.Proofs.YtdnnjgjaffkdfaaDoor
namespace Go.Lin
open Go Go.Bul
theorem set_take {d : List Nat} {k : Nat} (hk : k < 16) (hd : 16 ≤ d.length) : (cellsOf .u8 (d.take k ++ Go.Thg.zeros (16 - k))).setIfInBounds k (.int .u8 ((d[k]'(by omega) : Nat) : Int)) = cellsOf .u8 (d.take (k + 1) ++ Go.Thg.zeros (16 - (k + 1))) := by
  have e : Go.Thg.zeros (16 - k) = 0 :: Go.Thg.zeros (16 - (k + 1)) := by
    rw [show 16 - k = (16 - (k + 1)) + 1 by omega]
    rfl
  have hl : (d.take k).length = k := by rw [List.length_take]; omega
  have h2 : ∀ (x : Nat) (m : List Nat), (d.take k ++ 0 :: m).set k x = d.take k ++ x :: m := fun x m => by
    rw [List.set_append_right _ _ (by omega), hl, Nat.sub_self]
    rfl
  have h3 : d.take (k + 1) ++ Go.Thg.zeros (16 - (k + 1)) = (d.take k ++ 0 :: Go.Thg.zeros (16 - (k + 1))).set k d[k] := by
    rw [h2, List.take_succ_eq_append_getElem (by omega), List.append_assoc]
    rfl
  rw [h3, e]
  apply Array.ext'
  simp [cellsOf, vals, List.map_set]
end Go.Lin
namespace Go.Proofs.YtdnnjgjaffkdfaaDoor
open Go Go.RowKit Go.Bul Go.Thg Go.Lin
set_option maxRecDepth 20000 in
set_option maxHeartbeats 4000000 in
theorem rhalf_any {w : World} {A : Option Addr} {n c : Nat} {bs : List Nat} (hr : Reads w 1 A n (vals .u8 bs)) (hb : Bytes bs) (hl : n ≤ 1000000) :
    Calls Tryd.prog 80 #[.slice A n c] w fun e w' => e = .returned (.agg (ndC (halfN bs))) ∧ Below w.heap.size w w' := by
  have hM := Mem.start [] w
  have HS := Lib.hid (fun w' (hk : Below w.heap.size w w') => ref_sum bs A n c _ w' (reads_rd (hr.keep hk) hb) (by omega))
  have HZ : Hid (halfN bs = ⟨(sha bs).take 16, half_length bs, bytes_half bs⟩) := Lib.hid rfl
  have hd := sha_length bs
  clear hr hb hl
  go_enter Tryd.func80, Tryd.ntmps80
  go_wp2_with (first | ((with_reducible refine (HS.out _ hM.below).mono ?_); rintro e w1 ⟨rfl, hb⟩; replace hM := hM.step hb; clear hb) | ((first | with_reducible refine at_load ?_ | ((with_reducible refine at_load_g ?_ ?_); (· rfl))); first | refine ll hM ?_ | refine lc hM ?_ | refine lp hM ?_) | ((with_reducible refine at_store ?_); first | (refine lw hM ?_; clear hM; intro wx hM) | (refine ls hM ?_; clear hM; intro wx hM) | (refine lt hM ?_; clear hM; intro wx hM)) | ((with_reducible refine at_alloc ?_); refine lz hM ?_; clear hM; intro gx wx hM) | ((with_reducible refine at_box ?_); refine lb hM ?_; clear hM; intro gx wx hM))
  obtain ⟨g4, hg4⟩ := hM.name1
  obtain ⟨g3, hg3⟩ := (hM.subL (List.sublist_cons_self _ _)).name1
  obtain ⟨g2, hg2⟩ := (hM.subL (List.Sublist.cons _ (List.Sublist.cons _ (List.Sublist.refl _)))).name1
  subst hg4 hg3 hg2
  obtain ⟨d, hdd⟩ : ∃ d, sha bs = d := ⟨_, rfl⟩
  rw [hdd] at hM hd
  have M0 := Lib.hid hM
  have HD := Lib.hid hdd
  have HDL := Lib.hid hd
  clear hM hdd hd HS
  go_loopw [5] (fun i wr => ∃ k : Nat, k ≤ 16 ∧ i = .int .i64 (k : Nat) ∧ Mem [] w [⟨g4, 95, 16, cellsOf .u8 (d.take k ++ Go.Thg.zeros (16 - k))⟩, ⟨g3, 44, 32, cellsOf .u8 d⟩, ⟨g2, 95, 16, ndC nd0⟩] [] wr) (fun i _ => 16 - (intOf i).toNat)
  case atStart => exact ⟨0, by omega, rfl, M0.out⟩
  case round =>
    clear M0
    obtain ⟨k, hk, rfl, hM⟩ := hrel
    by_cases hlt : k < 16
    · have hd := HDL.out
      have q0 : (0 : Int) ≤ (k : Int) := Int.natCast_nonneg _
      have q1 : (k : Int) < 16 := by omega
      have q2 : (k : Int) < 32 := by omega
      have HG := Lib.hid (show (cellsOf .u8 d)[k]? = some (.int .u8 ((d[k]'(by omega) : Nat) : Int)) by simp [cellsOf, vals, show k < d.length by omega])
      have HST := Lib.hid (set_take (d := d) hlt (by omega))
      obtain ⟨x, hx⟩ : ∃ x, d[k]'(by omega) = x := ⟨_, rfl⟩
      rw [hx] at HG HST
      have hx256 : k < 16 := hlt
      clear hx hd
      go_wp2_with (first | ((with_reducible refine at_load ?_); refine lcx HG.out hM ?_) | ((with_reducible refine at_store ?_); refine lsx (v := .int .u8 (x : Nat)) hlt hM ?_; clear hM; intro wx hM))
      rw [HST.out] at hM
      exact ⟨⟨k + 1, by omega, by go_num, hM⟩, by simp [intOf]; omega⟩
    · obtain rfl : k = 16 := by omega
      have e : d.take 16 ++ Go.Thg.zeros (16 - 16) = (halfN bs).val := by
        rw [HZ.out]
        show _ = (sha bs).take 16
        rw [HD.out]
        simp [Go.Thg.zeros]
      rw [e] at hM
      clear hlt hk e
      go_wp2_with (first | ((first | with_reducible refine at_load ?_ | ((with_reducible refine at_load_g ?_ ?_); (· rfl))); first | refine ll hM ?_ | refine lc hM ?_ | refine lp hM ?_) | ((with_reducible refine at_store ?_); first | (refine lw hM ?_; clear hM; intro wx hM) | (refine ls hM ?_; clear hM; intro wx hM) | (refine lt hM ?_; clear hM; intro wx hM)) | ((with_reducible refine at_alloc ?_); refine lz hM ?_; clear hM; intro gx wx hM) | ((with_reducible refine at_box ?_); refine lb hM ?_; clear hM; intro gx wx hM))
      exact bodyPost_ret (results_mem_cell hM rfl (by rfl) (by repeat (first | exact List.Mem.head _ | apply List.Mem.tail)) (by first | exact row_nd | exact row_n | exact row_half | exact row_a32 | exact row_nd2 | exact row_n2 | exact row_two | exact row_claim | exact row_bld | exact row_bnds)) rfl ⟨rfl, hM.below⟩
end Go.Proofs.YtdnnjgjaffkdfaaDoor
