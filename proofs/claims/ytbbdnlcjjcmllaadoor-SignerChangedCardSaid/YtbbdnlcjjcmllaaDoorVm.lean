/- Contracts of merkle.climb, From, Verify. Contracts of merkle.Verify; known. Types of signers: sizes, zero values; their cells. The laws of the walk for them. -/
import Derived.Test.YtbbdnlcjjcmllaaDoorVl
namespace Go.Proofs.YtbbdnlcjjcmllaaDoor
open Go Go.RowKit Go.Bul Go.Thg Go.Lin
section
variable {w w0 : World} {G : List Nat} {L : List Ent} {R : List Thing} {ops : Array Oper} {rest : List Oper} {o : Oper} {a : Act} {Q : Exit → Act → World → Prop} {x : Operand} {ty : TypeId} {k : IntKind} {z : Int}
theorem lbi (hM : Mem G w0 L R w) (h : ∀ g w', Mem G w0 (⟨g, ty, 1, #[.int k z]⟩ :: L) R w' → wpList Tryd.prog ops Q rest (a.put o.dst (.pointer (some ⟨g, 0, none⟩))) w') (hgd : o.guard = none := by rfl) (ho : o.op = .box ty x := by rfl) (hx : a.eval x = .int k z := by rfl) : wpList Tryd.prog ops Q (o :: rest) a w := by
  refine wpList_plain hgd fun K hK => ?_
  unfold Oper.wp execOp
  simp only [ho, hx, Instr.box, newVar, newRow, newObj, Sem.run_bind, Sem.run_pure, Value.cells]
  exact hK _ _ (h _ _ (hM.alloc _ _ rfl))
end
set_option maxRecDepth 20000 in
theorem climb_any (x : Nd) (idx : Int) (w : World) :
    Calls Tryd.prog 57 #[.agg (ndC x), .int .i64 idx] w fun e w' => ∃ g5 g3 g6, e = .returned (.func (.func 70) #[] #[.pointer (some ⟨g5, 0, none⟩), .pointer (some ⟨g3, 0, none⟩), .pointer (some ⟨g6, 0, none⟩)]) ∧ Mem [] w [⟨g5, 41, 16, ndC x⟩, ⟨g3, 3, 1, #[.int .i64 idx]⟩, ⟨g6, 3, 1, #[.int .i64 0]⟩] [] w' := by
  have hM := Mem.start [] w
  go_enter Tryd.func57, Tryd.ntmps57
  go_wp2_with (first | ((with_reducible refine at_box ?_); refine lbi hM ?_; clear hM; intro g3 w3 hM) | ((with_reducible refine at_store ?_); refine ls hM ?_ (v := .int .i64 0); clear hM; intro wx hM) | ((first | with_reducible refine at_load ?_ | ((with_reducible refine at_load_g ?_ ?_); (· rfl))); first | refine ll hM ?_ | refine lc hM ?_ | refine lp hM ?_) | ((with_reducible refine at_store ?_); first | (refine lw hM ?_; clear hM; intro wx hM) | (refine ls hM ?_; clear hM; intro wx hM) | (refine lt hM ?_; clear hM; intro wx hM)) | ((with_reducible refine at_alloc ?_); refine lz hM ?_; clear hM; intro gx wx hM) | ((with_reducible refine at_box ?_); refine lb hM ?_; clear hM; intro gx wx hM))
  go_ret
  refine ⟨_, _, _, rfl, ?_⟩
  have hM2 := (hM.subL (L' := [_, _, _]) (List.Sublist.cons_cons _ (List.Sublist.cons_cons _ (List.Sublist.cons_cons _ (List.nil_sublist _)))))
  exact hM2.permL (List.Perm.trans (List.Perm.cons _ (List.Perm.swap _ _ _)) (List.Perm.swap _ _ _))
end Go.Proofs.YtbbdnlcjjcmllaaDoor
namespace Go.Lin
open Go
/-- Where a path leads. -/
def climbs (idx : Int) : Nat → Nd → List Nd → Nd
  | _, x, [] => x
  | lev, x, s :: l => climbs idx (lev + 1) (stepN idx lev x s) l
end Go.Lin
namespace Go.Proofs.YtbbdnlcjjcmllaaDoor
open Go Go.RowKit Go.Bul Go.Thg Go.Lin
theorem climb_at {G : List Nat} {w0 w : World} {L : List Ent} {R : List Thing} {g5 g3 g6 : Nat} {x s : Nd} {idx lev : Int} {E1 E2 : Ent} (hM : Mem G w0 (E1 :: E2 :: ⟨g5, 41, 16, ndC x⟩ :: ⟨g3, 3, 1, #[.int .i64 idx]⟩ :: ⟨g6, 3, 1, #[.int .i64 lev]⟩ :: L) R w) (hT : ∀ L R w', Mem G w0 L R w' → Tab w') (h0 : 0 ≤ idx) (h1 : idx < 1024) (h2 : 0 ≤ lev) (h3 : lev ≤ 10) :
    Calls Tryd.prog 70 #[.agg (ndC s), .pointer (some ⟨g5, 0, none⟩), .pointer (some ⟨g3, 0, none⟩), .pointer (some ⟨g6, 0, none⟩)] w fun e w' => e = .returned (.tuple #[.agg (ndC2 (pairN idx lev x s).1 (pairN idx lev x s).2), .agg (ndC (stepN idx lev x s))]) ∧ Mem G w0 (E1 :: E2 :: ⟨g5, 41, 16, ndC (stepN idx lev x s)⟩ :: ⟨g3, 3, 1, #[.int .i64 idx]⟩ :: ⟨g6, 3, 1, #[.int .i64 (lev + 1)]⟩ :: L) R w' := by
  refine (climb_step (L := E1 :: E2 :: L) (hM.permL ((List.perm_append_comm (l₁ := [_, _, _]) (l₂ := [E1, E2])).append_right L)) hT h0 h1 h2 h3).mono ?_
  rintro e w' ⟨rfl, h⟩
  exact ⟨rfl, h.permL ((List.perm_append_comm (l₁ := [E1, E2]) (l₂ := [_, _, _])).append_right L)⟩
set_option maxRecDepth 20000 in
set_option maxHeartbeats 4000000 in
theorem from_yes (x : Nd) (idx : Int) (A : Option Addr) (n c : Nat) (path : List Nd) (w : World) (hr : NIn w A n path) (hn : n ≤ 10) (h0 : 0 ≤ idx) (h1 : idx < 2 ^ n) (hT : Tab w) :
    Calls Tryd.prog 50 #[.agg (ndC x), .int .i64 idx, .slice A n c] w fun e w' => e = .returned (.tuple #[.agg (ndC (climbs idx 0 x path)), .int .i64 0]) ∧ Below w.heap.size w w' := by
  obtain ⟨Z, hZ⟩ : ∃ Z, climbs idx 0 x path = Z := ⟨_, rfl⟩
  rw [hZ]
  have HZ : Hid (climbs idx 0 x (path.drop 0) = Z) := Lib.hid hZ
  clear hZ
  have hM := Mem.start [] w
  have c1 : decide ((10 : Int) < (n : Int)) = false := decide_eq_false (by omega)
  have c2 : decide (10 < n) = false := decide_eq_false (by omega)
  have c3 : decide (idx < 0) = false := decide_eq_false (by omega)
  have n0 : (0 : Int) ≤ (n : Int) := Int.natCast_nonneg _
  have n1 : (n : Int) ≤ 10 := by omega
  have hp : (2 : Int) ^ n ≤ 1024 := by
    have h : (2 : Int) ^ n = ((2 ^ n : Nat) : Int) := by simp
    have h2 : 2 ^ n ≤ 2 ^ 10 := Nat.pow_le_pow_right (by decide) hn
    omega
  have c4 : wrap64 ((2 : Int) ^ n) = (2 : Int) ^ n := by unfold wrap64; omega
  have c5 : decide ((2 : Int) ^ n ≤ idx) = false := decide_eq_false (by omega)
  have h2 : idx < 1024 := by omega
  have HR := Lib.hid hr
  have HT := Lib.hid hT
  have HL := Lib.hid hr.len
  clear hr hT hp h1
  go_enter Tryd.func50, Tryd.ntmps50
  go_upto_region 5 with (first | ((first | with_reducible refine at_load ?_ | ((with_reducible refine at_load_g ?_ ?_); (· rfl))); first | refine ll hM ?_ | refine lc hM ?_ | refine lp hM ?_) | ((with_reducible refine at_store ?_); first | (refine lw hM ?_; clear hM; intro wx hM) | (refine ls hM ?_; clear hM; intro wx hM) | (refine lt hM ?_; clear hM; intro wx hM)) | ((with_reducible refine at_alloc ?_); refine lz hM ?_; clear hM; intro gx wx hM) | ((with_reducible refine at_box ?_); refine lb hM ?_; clear hM; intro gx wx hM))
  obtain ⟨gb, hgb⟩ := (hM.subL (List.sublist_cons_self _ _)).name1
  obtain ⟨gr, hgr⟩ := hM.name1
  subst hgb hgr
  refine wp_region_allHM hM (HeldM [⟨gb, 41, 16, ndC x⟩]) (by kernel_rfl) ?_
  clear hM
  intro wd hM
  have hS := HeldM.of (hM.subL (L' := [_]) (List.Sublist.cons _ (List.Sublist.refl _)))
  refine wpAllH_takes [0, 1, 2] (by kernel_rfl) (fun _ _ _ _ _ h => h) hS (by kernel_rfl) ?_
  simp only [pickOps, List.filterMap_cons, List.filterMap_nil, List.getElem?_cons_zero, List.getElem?_cons_succ]
  repeat ((with_reducible apply wpHeld_step); (· rfl); (· (intro w hSw; first | (go_simp; rfl) | ((obtain ⟨_, _, _, hM'⟩ := hSw; exact yields_load (C := fun _ => True) (ql hM') rfl)))); intro K hK; go_simp; (with_reducible refine hK _ ?_); clear hK K)
  refine wpHeld_nil ?_
  refine wpAllH_two 3 4 rfl rfl (by kernel_rfl) ?_ ?_
  · go_wp2_with fail
    refine (climb_any x idx _).mono ?_
    rintro e w1 ⟨g5, g3, g6, rfl, hc⟩
    replace hM := hM.frame hc
    clear hc hS
    go_wp2_with fail
    have hS := HeldM.of (hM.subL (L' := [⟨gb, 41, 16, ndC x⟩]) (List.Sublist.cons _ (List.Sublist.cons _ (List.Sublist.cons _ (List.Sublist.cons _ (List.Sublist.refl _))))))
    refine then_normal ⟨hS, ?_⟩
    refine wpAllH_one 4 rfl (by kernel_rfl) ?_
    refine lz hM ?_
    clear hM hS
    intro g8 wz hM
    have hS := HeldM.of (hM.subL (L' := [⟨gb, 41, 16, ndC x⟩]) (List.Sublist.cons _ (List.Sublist.cons _ (List.Sublist.cons _ (List.Sublist.cons _ (List.Sublist.cons _ (List.Sublist.refl _)))))))
    refine wpList_then ⟨hS, ?_⟩
    refine wpAllH_one 5 rfl (by kernel_rfl) ?_
    refine lw hM ?_
    clear hM hS
    intro wy hM
    have hS := HeldM.of (hM.subL (L' := [⟨gb, 41, 16, ndC x⟩]) (List.Sublist.cons _ (List.Sublist.cons _ (List.Sublist.cons _ (List.Sublist.cons _ (List.Sublist.cons _ (List.Sublist.refl _)))))))
    refine wpList_then ⟨hS, ?_⟩
    refine wpAllH_takes [6] (by kernel_rfl) (fun _ _ _ _ _ h => h) hS (by kernel_rfl) ?_
    simp only [pickOps, List.filterMap_cons, List.filterMap_nil, List.getElem?_cons_zero, List.getElem?_cons_succ]
    repeat ((with_reducible apply wpHeld_step); (· rfl); (· (intro w hSw; first | (go_simp; rfl) | (fail))); intro K hK; go_simp; (with_reducible refine hK _ ?_); clear hK K)
    refine wpHeld_nil ?_
    refine wpAllH_done (by kernel_rfl) ?_
    go_wp2_with fail
    have M0 := Lib.hid (hM.subL (L' := [_, _, _, _, _]) (List.Sublist.cons_cons _ (List.Sublist.cons_cons _ (List.Sublist.cons_cons _ (List.Sublist.cons_cons _ (List.Sublist.cons_cons _ (List.nil_sublist _)))))))
    clear hM hS
    go_loopw [32] (fun i wr => ∃ (k : Nat) (y : Nd), k ≤ n ∧ i = .int .i64 (k : Nat) ∧ Hid (climbs idx k y (path.drop k) = Z) ∧ Mem [] w [⟨g8, 41, 16, ndC y⟩, ⟨g5, 41, 16, ndC y⟩, ⟨g3, 3, 1, #[.int .i64 idx]⟩, ⟨g6, 3, 1, #[.int .i64 (k : Nat)]⟩, ⟨gr, 41, 16, ndC nd0⟩] (([] : List Thing) ++ []) wr) (fun i _ => n - (intOf i).toNat)
    case atStart => exact ⟨0, x, by omega, rfl, HZ, M0.out⟩
    case round =>
      clear M0
      obtain ⟨k, y, hk, rfl, HK, hM⟩ := hrel
      by_cases hlt : k < n
      · have hkl : k < path.length := by have := HL.out; omega
        obtain ⟨g, off, rfl, hgl, _⟩ := NIn.row HR.out k hkl
        have HC := Lib.hid (fun w' (hb : Below w.heap.size w w') => NIn.cell (HR.out.keep hb) k hkl)
        obtain ⟨s, hs⟩ : ∃ s, path[k] = s := ⟨_, rfl⟩
        have hd : path.drop k = s :: path.drop (k + 1) := by rw [List.drop_eq_getElem_cons hkl, hs]
        rw [hs] at HC
        have HK2 : Hid (climbs idx (k + 1) (stepN idx k y s) (path.drop (k + 1)) = Z) := Lib.hid (by have h := HK.out; rw [hd] at h; exact h)
        have HST := Lib.hid (fun (E1 E2 : Ent) (L : List Ent) (R : List Thing) w' (h : Mem [] w (E1 :: E2 :: ⟨g5, 41, 16, ndC y⟩ :: ⟨g3, 3, 1, #[.int .i64 idx]⟩ :: ⟨g6, 3, 1, #[.int .i64 (k : Nat)]⟩ :: L) R w') => climb_at (s := s) h (fun L R w' h => HT.out.keep h.below) h0 h2 (by omega) (by omega))
        generalize stepN idx k y s = y2 at HK2 HST
        have k0 : (0 : Int) ≤ (k : Int) := Int.natCast_nonneg _
        have k1 : (k : Int) < (n : Int) := by omega
        clear hd hs hgl HK
        go_wp2_with (first | ((with_reducible refine at_load ?_); refine lr (HC.out _ hM.below) ?_) | ((with_reducible refine (HST.out _ _ _ _ _ hM).mono ?_); clear hM; rintro e w1 ⟨rfl, hM⟩) | ((first | with_reducible refine at_load ?_ | ((with_reducible refine at_load_g ?_ ?_); (· rfl))); first | refine ll hM ?_ | refine lc hM ?_ | refine lp hM ?_) | ((with_reducible refine at_store ?_); first | (refine lw hM ?_; clear hM; intro wx hM) | (refine ls hM ?_; clear hM; intro wx hM) | (refine lt hM ?_; clear hM; intro wx hM)) | ((with_reducible refine at_alloc ?_); refine lz hM ?_; clear hM; intro gx wx hM) | ((with_reducible refine at_box ?_); refine lb hM ?_; clear hM; intro gx wx hM))
        exact ⟨⟨k + 1, y2, by omega, by go_num, HK2, by rw [show ((k + 1 : Nat) : Int) = (k : Int) + 1 by omega]; exact hM.subL (List.sublist_cons_self _ _)⟩, by simp [intOf]; omega⟩
      · obtain rfl : k = n := by omega
        have hz : y = Z := by have h := HK.out; rw [List.drop_of_length_le (by have := HL.out; omega)] at h; exact h
        subst hz
        clear HK hlt hk HZ
        go_wp2_with (first | ((first | with_reducible refine at_load ?_ | ((with_reducible refine at_load_g ?_ ?_); (· rfl))); first | refine ll hM ?_ | refine lc hM ?_ | refine lp hM ?_) | ((with_reducible refine at_store ?_); first | (refine lw hM ?_; clear hM; intro wx hM) | (refine ls hM ?_; clear hM; intro wx hM) | (refine lt hM ?_; clear hM; intro wx hM)) | ((with_reducible refine at_alloc ?_); refine lz hM ?_; clear hM; intro gx wx hM) | ((with_reducible refine at_box ?_); refine lb hM ?_; clear hM; intro gx wx hM))
        exact bodyPost_ret (results_mem_cell_tmp hM rfl (by rfl) (by repeat (first | exact List.Mem.head _ | apply List.Mem.tail)) (by first | exact row_nd | exact row_n | exact row_half | exact row_a32 | exact row_nd2 | exact row_n2 | exact row_two | exact row_claim | exact row_bld | exact row_bnds) (by rfl)) rfl ⟨rfl, hM.below⟩
  · refine lz hM ?_
    clear hM hS
    intro g8 wz hM
    have hS := HeldM.of (hM.subL (L' := [⟨gb, 41, 16, ndC x⟩]) (List.Sublist.cons _ (List.Sublist.cons _ (List.Sublist.refl _))))
    refine wpList_then ⟨hS, ?_⟩
    refine wpAllH_one 3 rfl (by kernel_rfl) ?_
    go_wp2_with fail
    refine (climb_any x idx _).mono ?_
    rintro e w1 ⟨g5, g3, g6, rfl, hc⟩
    replace hM := hM.frame hc
    clear hc hS
    go_wp2_with fail
    have hS := HeldM.of (hM.subL (L' := [⟨gb, 41, 16, ndC x⟩]) (List.Sublist.cons _ (List.Sublist.cons _ (List.Sublist.cons _ (List.Sublist.cons _ (List.Sublist.cons _ (List.Sublist.refl _)))))))
    refine then_normal ⟨hS, ?_⟩
    replace hM := hM.permL (L' := _ :: _ :: _ :: _ :: _) (List.perm_middle (l₁ := [_, _, _])).symm
    refine wpAllH_one 5 rfl (by kernel_rfl) ?_
    refine lw hM ?_
    clear hM hS
    intro wy hM
    have hS := HeldM.of (hM.subL (L' := [⟨gb, 41, 16, ndC x⟩]) (List.Sublist.cons _ (List.Sublist.cons _ (List.Sublist.cons _ (List.Sublist.cons _ (List.Sublist.cons _ (List.Sublist.refl _)))))))
    refine wpList_then ⟨hS, ?_⟩
    refine wpAllH_takes [6] (by kernel_rfl) (fun _ _ _ _ _ h => h) hS (by kernel_rfl) ?_
    simp only [pickOps, List.filterMap_cons, List.filterMap_nil, List.getElem?_cons_zero, List.getElem?_cons_succ]
    repeat ((with_reducible apply wpHeld_step); (· rfl); (· (intro w hSw; first | (go_simp; rfl) | (fail))); intro K hK; go_simp; (with_reducible refine hK _ ?_); clear hK K)
    refine wpHeld_nil ?_
    refine wpAllH_done (by kernel_rfl) ?_
    go_wp2_with fail
    have M0 := Lib.hid (hM.subL (L' := [_, _, _, _, _]) (List.Sublist.cons_cons _ (List.Sublist.cons_cons _ (List.Sublist.cons_cons _ (List.Sublist.cons_cons _ (List.Sublist.cons_cons _ (List.nil_sublist _)))))))
    clear hM hS
    go_loopw [32] (fun i wr => ∃ (k : Nat) (y : Nd), k ≤ n ∧ i = .int .i64 (k : Nat) ∧ Hid (climbs idx k y (path.drop k) = Z) ∧ Mem [] w [⟨g8, 41, 16, ndC y⟩, ⟨g5, 41, 16, ndC y⟩, ⟨g3, 3, 1, #[.int .i64 idx]⟩, ⟨g6, 3, 1, #[.int .i64 (k : Nat)]⟩, ⟨gr, 41, 16, ndC nd0⟩] (([] : List Thing) ++ []) wr) (fun i _ => n - (intOf i).toNat)
    case atStart => exact ⟨0, x, by omega, rfl, HZ, M0.out⟩
    case round =>
      clear M0
      obtain ⟨k, y, hk, rfl, HK, hM⟩ := hrel
      by_cases hlt : k < n
      · have hkl : k < path.length := by have := HL.out; omega
        obtain ⟨g, off, rfl, hgl, _⟩ := NIn.row HR.out k hkl
        have HC := Lib.hid (fun w' (hb : Below w.heap.size w w') => NIn.cell (HR.out.keep hb) k hkl)
        obtain ⟨s, hs⟩ : ∃ s, path[k] = s := ⟨_, rfl⟩
        have hd : path.drop k = s :: path.drop (k + 1) := by rw [List.drop_eq_getElem_cons hkl, hs]
        rw [hs] at HC
        have HK2 : Hid (climbs idx (k + 1) (stepN idx k y s) (path.drop (k + 1)) = Z) := Lib.hid (by have h := HK.out; rw [hd] at h; exact h)
        have HST := Lib.hid (fun (E1 E2 : Ent) (L : List Ent) (R : List Thing) w' (h : Mem [] w (E1 :: E2 :: ⟨g5, 41, 16, ndC y⟩ :: ⟨g3, 3, 1, #[.int .i64 idx]⟩ :: ⟨g6, 3, 1, #[.int .i64 (k : Nat)]⟩ :: L) R w') => climb_at (s := s) h (fun L R w' h => HT.out.keep h.below) h0 h2 (by omega) (by omega))
        generalize stepN idx k y s = y2 at HK2 HST
        have k0 : (0 : Int) ≤ (k : Int) := Int.natCast_nonneg _
        have k1 : (k : Int) < (n : Int) := by omega
        clear hd hs hgl HK
        go_wp2_with (first | ((with_reducible refine at_load ?_); refine lr (HC.out _ hM.below) ?_) | ((with_reducible refine (HST.out _ _ _ _ _ hM).mono ?_); clear hM; rintro e w1 ⟨rfl, hM⟩) | ((first | with_reducible refine at_load ?_ | ((with_reducible refine at_load_g ?_ ?_); (· rfl))); first | refine ll hM ?_ | refine lc hM ?_ | refine lp hM ?_) | ((with_reducible refine at_store ?_); first | (refine lw hM ?_; clear hM; intro wx hM) | (refine ls hM ?_; clear hM; intro wx hM) | (refine lt hM ?_; clear hM; intro wx hM)) | ((with_reducible refine at_alloc ?_); refine lz hM ?_; clear hM; intro gx wx hM) | ((with_reducible refine at_box ?_); refine lb hM ?_; clear hM; intro gx wx hM))
        exact ⟨⟨k + 1, y2, by omega, by go_num, HK2, by rw [show ((k + 1 : Nat) : Int) = (k : Int) + 1 by omega]; exact hM.subL (List.sublist_cons_self _ _)⟩, by simp [intOf]; omega⟩
      · obtain rfl : k = n := by omega
        have hz : y = Z := by have h := HK.out; rw [List.drop_of_length_le (by have := HL.out; omega)] at h; exact h
        subst hz
        clear HK hlt hk HZ
        go_wp2_with (first | ((first | with_reducible refine at_load ?_ | ((with_reducible refine at_load_g ?_ ?_); (· rfl))); first | refine ll hM ?_ | refine lc hM ?_ | refine lp hM ?_) | ((with_reducible refine at_store ?_); first | (refine lw hM ?_; clear hM; intro wx hM) | (refine ls hM ?_; clear hM; intro wx hM) | (refine lt hM ?_; clear hM; intro wx hM)) | ((with_reducible refine at_alloc ?_); refine lz hM ?_; clear hM; intro gx wx hM) | ((with_reducible refine at_box ?_); refine lb hM ?_; clear hM; intro gx wx hM))
        exact bodyPost_ret (results_mem_cell_tmp hM rfl (by rfl) (by repeat (first | exact List.Mem.head _ | apply List.Mem.tail)) (by first | exact row_nd | exact row_n | exact row_half | exact row_a32 | exact row_nd2 | exact row_n2 | exact row_two | exact row_claim | exact row_bld | exact row_bnds) (by rfl)) rfl ⟨rfl, hM.below⟩
end Go.Proofs.YtbbdnlcjjcmllaaDoor
namespace Go.Bul
open Go
theorem wpList_wanted {P : Program} {w : World} {ops : Array Oper} {rest : List Oper} {a : Act} {Q : Exit → Act → World → Prop} {dst : Option Tmp} {op : Op} {type : TypeId} {pos : String} {after : Array Edge} {g : Nat × Bool}
    (hw : Region.wanted ⟨dst, op, type, pos, after, some g⟩ (yielded ops a.tmps) = true) (h : wpList P ops Q (⟨dst, op, type, pos, after, none⟩ :: rest) a w) : wpList P ops Q (⟨dst, op, type, pos, after, some g⟩ :: rest) a w := by
  unfold wpList at h ⊢
  rw [if_pos hw]
  rw [if_pos (by simp [Region.wanted])] at h
  exact h
end Go.Bul
namespace Go.Proofs.YtbbdnlcjjcmllaaDoor
open Go Go.RowKit Go.Bul Go.Thg Go.Lin
theorem eq_nd (x y : Nd) (W : World) : (Op.equalIn 10000 41 (.agg (ndC x)) (.agg (ndC y))).run Tryd.prog W = .ok (decide (x = y)) W := by
  have h := run_equalIn_nums W 9998 x.val y.val Tryd.underlying41 Tryd.underlying5 (by kernel_rfl) x.len y.len
  have e : (x.val == y.val) = decide (x = y) := by
    by_cases hxy : x = y
    · subst hxy; simp
    · have : ¬ x.val = y.val := fun h => hxy (Nd.ext' h)
      simp [hxy, this]
  rw [e] at h
  exact h
end Go.Proofs.YtbbdnlcjjcmllaaDoor
namespace Go.Lin
open Go Go.Bul
/-- The 35 values of a one-time signature. -/
structure Ch where
  val : List Nat
  len : val.length = 560
  byt : Bytes val
theorem Ch.ext' {a b : Ch} (h : a.val = b.val) : a = b := by
  obtain ⟨x, _, _⟩ := a
  obtain ⟨y, _, _⟩ := b
  subst h
  rfl
instance : DecidableEq Ch := fun a b => if h : a.val = b.val then .isTrue (Ch.ext' h) else .isFalse fun e => h (by rw [e])
/-- The 32 bytes of a seed. -/
structure Sd where
  val : List Nat
  len : val.length = 32
  byt : Bytes val
abbrev chC (x : Ch) : Array Value := cellsOf .u8 x.val
theorem chC_size (x : Ch) : (chC x).size = 560 := by rw [cellsOf_size, x.len]
def ch0 : Ch := ⟨Go.Thg.zeros 560, List.length_replicate, by intro x hx; have := List.eq_of_mem_replicate hx; omega⟩
def pubC (h : Int) (r : Nd) : Array Value := (.int .i64 h :: vals .u8 r.val).toArray
def secC (s : Sd) (h : Int) : Array Value := (vals .u8 s.val ++ [Value.int .i64 h]).toArray
def sigC (leaf : Int) (ch : Ch) (A : Option Addr) (n c : Nat) : Array Value := (.int .i64 leaf :: (vals .u8 ch.val ++ [.slice A n c])).toArray
theorem nd_len (r : Nd) : (vals .u8 r.val).length = 16 := by rw [vals_length, r.len]
theorem sd_len (r : Sd) : (vals .u8 r.val).length = 32 := by rw [vals_length, r.len]
theorem ch_len (r : Ch) : (vals .u8 r.val).length = 560 := by rw [vals_length, r.len]
theorem pubC_size (h : Int) (r : Nd) : (pubC h r).size = 17 := by simp [pubC, r.len]
theorem secC_size (s : Sd) (h : Int) : (secC s h).size = 33 := by simp [secC, s.len]
theorem sigC_size (leaf : Int) (ch : Ch) (A : Option Addr) (n c : Nat) : (sigC leaf ch A n c).size = 562 := by simp [sigC, ch.len]
theorem pubC_one (h : Int) (r : Nd) : ∀ u ∈ (pubC h r).toList, u.oneCell' = true := by
  intro u hu
  rcases List.mem_cons.1 hu with rfl | hu
  · rfl
  · exact vals_one _ _ u hu
theorem secC_one (s : Sd) (h : Int) : ∀ u ∈ (secC s h).toList, u.oneCell' = true := by
  intro u hu
  rcases List.mem_append.1 hu with hu | hu
  · exact vals_one _ _ u hu
  · obtain rfl := List.mem_singleton.1 hu
    rfl
theorem sigC_one (leaf : Int) (ch : Ch) (A : Option Addr) (n c : Nat) : ∀ u ∈ (sigC leaf ch A n c).toList, u.oneCell' = true := by
  intro u hu
  rcases List.mem_cons.1 hu with rfl | hu
  · rfl
  · rcases List.mem_append.1 hu with hu | hu
    · exact vals_one _ _ u hu
    · obtain rfl := List.mem_singleton.1 hu
      rfl
theorem pubC_0 (h : Int) (r : Nd) : (pubC h r)[0]? = some (.int .i64 h) := rfl
theorem pubC_r (h : Int) (r : Nd) : (pubC h r).extract 1 (1 + 16) = ndC r := by
  have := nd_len r
  apply Array.ext'
  simp only [pubC, List.extract_toArray, ndC, cellsOf, List.extract_eq_take_drop, List.drop_succ_cons, List.drop_zero, Nat.add_sub_cancel_left]
  exact List.take_of_length_le (by omega)
theorem secC_h (s : Sd) (h : Int) : (secC s h)[32]? = some (.int .i64 h) := by
  have := sd_len s
  simp only [secC, List.getElem?_toArray]
  rw [List.getElem?_append_right (by omega), this]
  rfl
theorem secC_s (s : Sd) (h : Int) : (secC s h).extract 0 (0 + 32) = cellsOf .u8 s.val := by
  have := sd_len s
  apply Array.ext'
  simp only [secC, List.extract_toArray, cellsOf, List.extract_eq_take_drop, List.drop_zero, Nat.sub_zero, Nat.zero_add]
  rw [List.take_append_of_le_length (by omega), List.take_of_length_le (by omega)]
theorem sigC_0 (leaf : Int) (ch : Ch) (A : Option Addr) (n c : Nat) : (sigC leaf ch A n c)[0]? = some (.int .i64 leaf) := rfl
theorem sigC_c (leaf : Int) (ch : Ch) (A : Option Addr) (n c : Nat) : (sigC leaf ch A n c).extract 1 (1 + 560) = chC ch := by
  have := ch_len ch
  apply Array.ext'
  simp only [sigC, List.extract_toArray, chC, cellsOf, List.extract_eq_take_drop, List.drop_succ_cons, List.drop_zero, Nat.add_sub_cancel_left]
  rw [List.take_append_of_le_length (by omega), List.take_of_length_le (by omega)]
theorem sigC_p (leaf : Int) (ch : Ch) (A : Option Addr) (n c : Nat) : (sigC leaf ch A n c)[561]? = some (.slice A n c) := by
  have := ch_len ch
  simp only [sigC, List.getElem?_toArray, List.getElem?_cons_succ]
  rw [List.getElem?_append_right (by omega), this]
  rfl
theorem sigC_setp (leaf : Int) (ch : Ch) (A B : Option Addr) (n c m d : Nat) : (sigC leaf ch A n c).setIfInBounds 561 (.slice B m d) = sigC leaf ch B m d := by
  have := ch_len ch
  apply Array.ext'
  simp only [sigC, List.setIfInBounds_toArray, List.set_cons_succ]
  rw [List.set_append_right _ _ (by omega), this]
  rfl
end Go.Lin
namespace Go.Proofs.YtbbdnlcjjcmllaaDoor
open Go Go.RowKit Go.Bul Go.Thg Go.Lin
theorem row_a16 : RowTy Tryd.prog 23 16 := ⟨⟨_, Tryd.underlying23, rfl, by kernel_rfl⟩⟩
theorem row_pub : RowTy Tryd.prog 30 17 := ⟨⟨_, Tryd.underlying30, rfl, by kernel_rfl⟩⟩
theorem row_sec : RowTy Tryd.prog 28 33 := ⟨⟨_, Tryd.underlying28, rfl, by kernel_rfl⟩⟩
theorem row_sgn : RowTy Tryd.prog 37 562 := ⟨⟨_, Tryd.underlying37, rfl, by kernel_rfl⟩⟩
theorem row_rsg : RowTy Tryd.prog 53 562 := ⟨⟨_, Tryd.underlying53, rfl, by kernel_rfl⟩⟩
theorem row_sgr : RowTy Tryd.prog 90 35 := ⟨⟨_, Tryd.underlying90, rfl, by kernel_rfl⟩⟩
theorem row_a560 : RowTy Tryd.prog 34 560 := ⟨⟨_, Tryd.underlying34, rfl, by kernel_rfl⟩⟩
theorem row_osg : RowTy Tryd.prog 77 560 := ⟨⟨_, Tryd.underlying77, rfl, by kernel_rfl⟩⟩
theorem one_s16 : OneTy Tryd.prog 35 := ⟨⟨_, Tryd.underlying35, rfl, by kernel_rfl⟩⟩
theorem one_psg : OneTy Tryd.prog 59 := ⟨⟨_, Tryd.underlying59, rfl, by kernel_rfl⟩⟩
theorem one_str : OneTy Tryd.prog 9 := ⟨⟨_, Tryd.underlying9, rfl, by kernel_rfl⟩⟩
theorem zero_a16 : ZeroTy Tryd.prog 23 16 (ndC nd0) := ⟨⟨.agg _, by kernel_rfl, rfl, by rw [cellsOf_size]; rfl⟩⟩
theorem zero_pub : ZeroTy Tryd.prog 30 17 (pubC 0 nd0) := ⟨⟨.agg _, by kernel_rfl, rfl, pubC_size _ _⟩⟩
set_option maxRecDepth 20000 in
theorem zero_sgn : ZeroTy Tryd.prog 37 562 (sigC 0 ch0 none 0 0) := ⟨⟨.agg _, by kernel_rfl, rfl, sigC_size _ _ _ _ _⟩⟩
set_option maxRecDepth 20000 in
theorem zero_rsg : ZeroTy Tryd.prog 53 562 (sigC 0 ch0 none 0 0) := ⟨⟨.agg _, by kernel_rfl, rfl, sigC_size _ _ _ _ _⟩⟩
set_option maxRecDepth 20000 in
theorem zero_osg : ZeroTy Tryd.prog 77 560 (chC ch0) := ⟨⟨.agg _, by kernel_rfl, rfl, chC_size _⟩⟩
set_option maxRecDepth 20000 in
theorem zero_a560 : ZeroTy Tryd.prog 34 560 (chC ch0) := ⟨⟨.agg _, by kernel_rfl, rfl, chC_size _⟩⟩
section
variable {w w0 : World} {G : List Nat} {L : List Ent} {R : List Thing} {ops : Array Oper} {rest : List Oper} {o : Oper} {a : Act} {Q : Exit → Act → World → Prop} {C : World → Prop} {ty : TypeId} {x y : Operand} {g i m n : Nat} {t : TypeId} {cs vs X : Array Value} {v : Value} {F : Array Value → List Ent}
theorem slc (hM : Mem G w0 L R w) (h : wpList Tryd.prog ops Q rest (a.put o.dst v) w) (hgd : o.guard = none := by rfl) (ho : o.op = .load ty x := by rfl) (hx : a.eval x = .pointer (some ⟨g, i, none⟩) := by rfl) (hL : ⟨g, t, n, cs⟩ ∈ L := by repeat (first | exact List.Mem.head _ | apply List.Mem.tail)) (hty : OneTy Tryd.prog ty := by first | exact one_int | exact one_bool | exact one_u8 | exact one_bytes | exact one_sN | exact one_sRN | exact one_ssN | exact one_errno | exact one_s16 | exact one_psg | exact one_str) (hv : cs[i]? = some v := by rfl) : wpList Tryd.prog ops Q (o :: rest) a w :=
  wpList_mem_cell hM hgd ty x ho g i hx t n cs hL hty v hv h
theorem sll (hM : Mem G w0 L R w) (h : wpList Tryd.prog ops Q rest (a.put o.dst (.agg cs)) w) (hgd : o.guard = none := by rfl) (ho : o.op = .load ty x := by rfl) (hx : a.eval x = .pointer (some ⟨g, 0, none⟩) := by rfl) (hL : ⟨g, t, n, cs⟩ ∈ L := by repeat (first | exact List.Mem.head _ | apply List.Mem.tail)) (hty : RowTy Tryd.prog ty n := by first | exact row_a16 | exact row_nd | exact row_n | exact row_half | exact row_a32 | exact row_pub | exact row_sec | exact row_sgn | exact row_rsg | exact row_sgr | exact row_a560 | exact row_osg | exact row_aut | exact row_rvl) : wpList Tryd.prog ops Q (o :: rest) a w :=
  wpList_mem_load hM hgd ty x ho g hx t n cs hL hty h
theorem slp (hM : Mem G w0 L R w) (h : wpList Tryd.prog ops Q rest (a.put o.dst (.agg X)) w) (hgd : o.guard = none := by rfl) (ho : o.op = .load ty x := by rfl) (hx : a.eval x = .pointer (some ⟨g, i, none⟩) := by rfl) (hL : ⟨g, t, n, cs⟩ ∈ L := by repeat (first | exact List.Mem.head _ | apply List.Mem.tail)) (hty : RowTy Tryd.prog ty m := by first | exact row_a16 | exact row_nd | exact row_n | exact row_half | exact row_a32 | exact row_pub | exact row_sec | exact row_sgn | exact row_rsg | exact row_sgr | exact row_a560 | exact row_osg | exact row_aut | exact row_rvl) (hm : i + m ≤ n := by omega) (hX : cs.extract i (i + m) = X := by rfl) : wpList Tryd.prog ops Q (o :: rest) a w :=
  wpList_mem_part hM hgd ty x ho g i hx t n cs hL m hty hm X hX h
theorem sls (hM : Mem G w0 L R w) (h : ∀ w', Mem G w0 (F X) R w' → wpList Tryd.prog ops Q rest a w') (hgd : o.guard = none := by rfl) (ho : o.op = .store ty x y := by rfl) (hx : a.eval x = .pointer (some ⟨g, i, none⟩) := by rfl) (hy : a.eval y = v := by rfl) (hL : UpdL g t n cs L F := by repeat (first | exact UpdL.head _ _ _ _ _ | apply UpdL.tail)) (hty : OneTy Tryd.prog ty := by first | exact one_int | exact one_bool | exact one_u8 | exact one_bytes | exact one_sN | exact one_sRN | exact one_ssN | exact one_errno | exact one_s16 | exact one_psg | exact one_str) (hi : i < n := by omega) (h1 : v.oneCell' = true := by rfl) (hdst : o.dst = none := by rfl) (hX : cs.setIfInBounds i v = X := by rfl) : wpList Tryd.prog ops Q (o :: rest) a w :=
  wpList_mem_set_to hM hgd ty x y ho g i hx v hy t n cs F hL hty hi h1 hdst X hX h
theorem slw (hM : Mem G w0 L R w) (h : ∀ w', Mem G w0 (F vs) R w' → wpList Tryd.prog ops Q rest a w') (hgd : o.guard = none := by rfl) (ho : o.op = .store ty x y := by rfl) (hx : a.eval x = .pointer (some ⟨g, 0, none⟩) := by rfl) (hy : a.eval y = .agg vs := by rfl) (hL : UpdL g t n cs L F := by repeat (first | exact UpdL.head _ _ _ _ _ | apply UpdL.tail)) (hty : RowTy Tryd.prog ty n := by first | exact row_a16 | exact row_nd | exact row_n | exact row_half | exact row_a32 | exact row_pub | exact row_sec | exact row_sgn | exact row_rsg | exact row_sgr | exact row_a560 | exact row_osg | exact row_aut | exact row_rvl) (hs : vs.size = n := by first | with_reducible exact ndC_size _ | with_reducible exact pubC_size _ _ | with_reducible exact secC_size _ _ | with_reducible exact sigC_size _ _ _ _ _ | with_reducible exact chC_size _ | rfl | (simp; done)) (h1 : ∀ v ∈ vs.toList, v.oneCell' = true := by first | with_reducible exact cellsOf_one _ _ | with_reducible exact pubC_one _ _ | with_reducible exact secC_one _ _ | with_reducible exact sigC_one _ _ _ _ _ | exact vals_one _ _ | (simp [Value.oneCell']; done)) (hdst : o.dst = none := by rfl) : wpList Tryd.prog ops Q (o :: rest) a w :=
  wpList_mem_store hM hgd ty x y ho g hx vs hy t n cs F hL hty hs h1 hdst h
theorem slt (hM : Mem G w0 L R w) (h : ∀ w', Mem G w0 (F X) R w' → wpList Tryd.prog ops Q rest a w') (hgd : o.guard = none := by rfl) (ho : o.op = .store ty x y := by rfl) (hx : a.eval x = .pointer (some ⟨g, i, none⟩) := by rfl) (hy : a.eval y = .agg vs := by rfl) (hL : UpdL g t n cs L F := by repeat (first | exact UpdL.head _ _ _ _ _ | apply UpdL.tail)) (hty : RowTy Tryd.prog ty m := by first | exact row_a16 | exact row_nd | exact row_n | exact row_half | exact row_a32 | exact row_pub | exact row_sec | exact row_sgn | exact row_rsg | exact row_sgr | exact row_a560 | exact row_osg | exact row_aut | exact row_rvl) (hs : vs.size = m := by first | with_reducible exact ndC_size _ | with_reducible exact pubC_size _ _ | with_reducible exact secC_size _ _ | with_reducible exact sigC_size _ _ _ _ _ | with_reducible exact chC_size _ | rfl | (simp; done)) (hm : i + m ≤ n := by omega) (h1 : ∀ v ∈ vs.toList, v.oneCell' = true := by first | with_reducible exact cellsOf_one _ _ | with_reducible exact pubC_one _ _ | with_reducible exact secC_one _ _ | with_reducible exact sigC_one _ _ _ _ _ | exact vals_one _ _ | (simp [Value.oneCell']; done)) (hdst : o.dst = none := by rfl) (hX : (splice cs.toList i vs.toList).toArray = X := by rfl) : wpList Tryd.prog ops Q (o :: rest) a w :=
  wpList_mem_store_part hM hgd ty x y ho g i hx vs hy t n cs F hL m hty hs hm h1 hdst X hX h
theorem slz (hM : Mem G w0 L R w) (h : ∀ g w', Mem G w0 (⟨g, ty, n, cs⟩ :: L) R w' → wpList Tryd.prog ops Q rest (a.put o.dst (.pointer (some ⟨g, 0, none⟩))) w') (hgd : o.guard = none := by rfl) (ho : o.op = .alloc ty := by rfl) (hz : ZeroTy Tryd.prog ty n cs := by first | exact zero_a16 | exact zero_nd | exact zero_n | exact zero_hlf | exact zero_a32 | exact zero_int | exact zero_pub | exact zero_sgn | exact zero_rsg | exact zero_osg | exact zero_aut | exact zero_rvl | exact zero_a560 | exact zero_errno) : wpList Tryd.prog ops Q (o :: rest) a w :=
  wpList_mem_zero hM hgd ty ho n cs hz h
theorem slb (hM : Mem G w0 L R w) (h : ∀ g w', Mem G w0 (⟨g, ty, n, cs⟩ :: L) R w' → wpList Tryd.prog ops Q rest (a.put o.dst (.pointer (some ⟨g, 0, none⟩))) w') (hgd : o.guard = none := by rfl) (ho : o.op = .box ty x := by rfl) (hx : a.eval x = .agg cs := by rfl) (hty : RowTy Tryd.prog ty n := by first | exact row_a16 | exact row_nd | exact row_n | exact row_half | exact row_a32 | exact row_pub | exact row_sec | exact row_sgn | exact row_rsg | exact row_sgr | exact row_a560 | exact row_osg | exact row_aut | exact row_rvl) (hn : cs.size = n := by first | with_reducible exact ndC_size _ | with_reducible exact pubC_size _ _ | with_reducible exact secC_size _ _ | with_reducible exact sigC_size _ _ _ _ _ | with_reducible exact chC_size _ | rfl | (simp; done)) : wpList Tryd.prog ops Q (o :: rest) a w :=
  wpList_mem_box hM hgd ty x ho cs hx n hty hn h
theorem sqc (hM : Mem G w0 L R w) (ho : o.op = .load ty x := by rfl) (hx : a.eval x = .pointer (some ⟨g, i, none⟩) := by rfl) (hL : ⟨g, t, n, cs⟩ ∈ L := by repeat (first | exact List.Mem.head _ | apply List.Mem.tail)) (hty : OneTy Tryd.prog ty := by first | exact one_int | exact one_bool | exact one_u8 | exact one_bytes | exact one_sN | exact one_sRN | exact one_ssN | exact one_errno | exact one_s16 | exact one_psg | exact one_str) (hv : cs[i]? = some v := by rfl) : o.quietAt Tryd.prog a C w v :=
  quietAt_mem_cell hM ty x ho g i hx t n cs hL hty v hv
theorem sql (hM : Mem G w0 L R w) (ho : o.op = .load ty x := by rfl) (hx : a.eval x = .pointer (some ⟨g, 0, none⟩) := by rfl) (hL : ⟨g, t, n, cs⟩ ∈ L := by repeat (first | exact List.Mem.head _ | apply List.Mem.tail)) (hty : RowTy Tryd.prog ty n := by first | exact row_a16 | exact row_nd | exact row_n | exact row_half | exact row_a32 | exact row_pub | exact row_sec | exact row_sgn | exact row_rsg | exact row_sgr | exact row_a560 | exact row_osg | exact row_aut | exact row_rvl) : o.quietAt Tryd.prog a C w (.agg cs) :=
  quietAt_mem_load hM ty x ho g hx t n cs hL hty
theorem sqp (hM : Mem G w0 L R w) (ho : o.op = .load ty x := by rfl) (hx : a.eval x = .pointer (some ⟨g, i, none⟩) := by rfl) (hL : ⟨g, t, n, cs⟩ ∈ L := by repeat (first | exact List.Mem.head _ | apply List.Mem.tail)) (hty : RowTy Tryd.prog ty m := by first | exact row_a16 | exact row_nd | exact row_n | exact row_half | exact row_a32 | exact row_pub | exact row_sec | exact row_sgn | exact row_rsg | exact row_sgr | exact row_a560 | exact row_osg | exact row_aut | exact row_rvl) (hm : i + m ≤ n := by omega) (hX : cs.extract i (i + m) = X := by rfl) : o.quietAt Tryd.prog a C w (.agg X) :=
  quietAt_mem_part hM ty x ho g i hx t n cs hL m hty hm X hX
end
end Go.Proofs.YtbbdnlcjjcmllaaDoor
