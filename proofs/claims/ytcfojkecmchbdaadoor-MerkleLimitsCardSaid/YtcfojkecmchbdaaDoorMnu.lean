/- MerkleBuilder: the walk. The three tables that a row of builders lists. -/
import Derived.Test.YtcfojkecmchbdaaDoorMnt
import Derived.Test.YtcfojkecmchbdaaDoorMng
import Derived.Test.YtcfojkecmchbdaaDoorMnq
import Derived.Test.YtcfojkecmchbdaaDoorMnw
import Derived.LaidSub
namespace Go.Proofs.YtcfojkecmchbdaaDoor
open Go Go.RowKit Go.Bul Go.Thg Go.Lin
theorem Dbj.keep {w w' : World} (h : Dbj w) (hb : Below w.heap.size w w') : Dbj w' := fun i hi => by
  have h0 := h i hi
  have hlt : 1 < w.heap.size := block_lt_of_cell (h 0 (by omega))
  rw [hb.cell (p := ⟨_, i, none⟩) hlt]
  exact h0
set_option maxRecDepth 20000 in
theorem zero_bld' : ZeroTy Tryd.prog 72 177 (bldC (List.replicate 11 nd0) (0 : Nat)) := ⟨⟨.agg _, by kernel_rfl, rfl, bldC_size _ rfl⟩⟩
set_option maxRecDepth 20000 in
set_option maxHeartbeats 4000000 in
theorem new_bld {w w0 : World} {L : List Ent} {R : List Thing} (hM : Mem [] w0 L R w) :
    Calls Tryd.prog 28 #[] w fun e w' => ∃ g, e = .returned (.pointer (some ⟨g, 0, none⟩)) ∧ Mem [] w0 (⟨g, 72, 177, bldC (List.replicate 11 nd0) (0 : Nat)⟩ :: L) R w' := by
  go_enter Tryd.func28, Tryd.ntmps28
  go_wp2_with ((with_reducible refine at_alloc ?_); refine lz hM ?_ (hz := zero_bld'); clear hM; intro g w1 hM)
  go_ret
  exact ⟨g, rfl, hM⟩
theorem add_snd {w0 w : World} {E : Ent} {L : List Ent} {R : List Thing} {g : Nat} (lv ns : List Nd) (x : Nd) (hM : Mem [] w0 (E :: ⟨g, 72, 177, bldC ns (lv.length : Nat)⟩ :: L) R w) (hB : BInv lv ns) (hl : lv.length < 1024) (hT : Tab w0) :
    Calls Tryd.prog 33 #[.pointer (some ⟨g, 0, none⟩), .agg (ndC x)] w fun e w' => ∃ ns', BInv (lv ++ [x]) ns' ∧ e = .returned (.int .i64 0) ∧ Mem [] w0 (E :: ⟨g, 72, 177, bldC ns' ((lv ++ [x]).length : Nat)⟩ :: L) R w' := by
  have hM2 := hM.permL (List.Perm.swap _ _ _)
  refine (add_any lv ns x hM2 hB hl hT).mono ?_
  rintro e w' ⟨ns', h1, h2, h3⟩
  exact ⟨ns', h1, h2, h3.permL (List.Perm.swap _ _ _)⟩
theorem held_slice_hi {a : Act} {o : Oper} {w : World} {x y : Operand} {A : Option Addr} {n c k : Nat} {T e : TypeId} {size : Nat} (ht : Tryd.prog.underlying T = some (.slice e)) (hs : (Tryd.prog.info? e).map (·.size) = some size) (hk : k ≤ c) (ho : o.op = .slice T x none (some y) none := by rfl) (hx : a.eval x = .slice A n c := by rfl) (hy : a.eval y = .int .i64 (k : Nat) := by rfl) : (execOp a.eval o).run Tryd.prog w = .ok (.value (.slice A k c)) w := by
  have hr := run_slice_hi T e size ht hs A n c k hk w
  rw [adv_0] at hr
  unfold execOp
  simp only [ho, hx, hy, Option.map_some, Option.map_none, Sem.run_bind, hr, Result.andThen_ok, Sem.run_pure]
set_option maxRecDepth 20000 in
set_option maxHeartbeats 8000000 in
theorem mbuilder_any (A : Option Addr) (n c : Nat) (leaves : List Nd) (w : World) (hr : NIn w A n leaves) (hn : n ≤ 9223372036854775807) (hnc : n ≤ c) (hT : Tab w) (hD : Dbj w) :
    Calls Tryd.prog 9 #[.slice A n c] w fun e w' => e = .returned (.bool true) ∧ Below w.heap.size w w' := by
  have hM := Mem.start [] w
  have HK := Lib.hid (fun w' (hb : Below w.heap.size w w') => known_any w' (hT.keep hb))
  by_cases h70 : 70 < n
  · have c1 : decide ((70 : Int) < (n : Int)) = true := decide_eq_true (by omega)
    have c2 : decide (70 < n) = true := decide_eq_true h70
    clear hr hn hnc hT hD h70
    go_enter Tryd.func9, Tryd.ntmps9
    go_wp2_with (first | ((with_reducible refine (HK.out _ hM.below).mono ?_); rintro e w1 ⟨rfl, hb⟩; replace hM := hM.step hb; clear hb) | ((first | with_reducible refine at_load ?_ | ((with_reducible refine at_load_g ?_ ?_); (· rfl))); first | refine ll hM ?_ | refine lc hM ?_ | refine lp hM ?_) | ((with_reducible refine at_store ?_); first | (refine lw hM ?_; clear hM; intro wx hM) | (refine ls hM ?_; clear hM; intro wx hM) | (refine lt hM ?_; clear hM; intro wx hM)) | ((with_reducible refine at_alloc ?_); refine lz hM ?_; clear hM; intro gx wx hM) | ((with_reducible refine at_box ?_); refine lb hM ?_; clear hM; intro gx wx hM))
    go_ret
    exact ⟨rfl, hM.below⟩
  · have c1 : decide ((70 : Int) < (n : Int)) = false := decide_eq_false (by omega)
    have c2 : decide (70 < n) = false := decide_eq_false h70
    have hl := hr.len
    have HRT := Lib.hid (fun g T ns w' (h1 : BldIn w' g ns T.length) (h2 : BInv T ns) (h3 : T.length ≤ 1024) (hb : Below w.heap.size w w') => root_bld g T ns w' h1 h2 h3 (fun w'' h => (hD.keep hb).keep h))
    have HRR := Lib.hid (fun k (hk : k ≤ n) w' (hb : Below w.heap.size w w') => rroot_any A k c (leaves.take k) w' ((hr.keep hb).take k hk) (by omega))
    have HRP := Lib.hid (fun k (hk : k ≤ n) w' (hb : Below w.heap.size w w') => rpend_any A k c (leaves.take k) w' ((hr.keep hb).take k hk) (by omega) (by omega))
    have HBP := Lib.hid (fun g T ns w' (h1 : BldIn w' g ns T.length) (h2 : BInv T ns) (h3 : T.length ≤ 1024) => h2.pend ▸ bpend_any g T.length ns w' h1 h2.len h3)
    have HLB := Lib.hid (fun g k ns w' (h1 : BldIn w' g ns k) (h2 : ns.length = 11) => len_bld g k ns w' h1 h2)
    have HSM := Lib.hid (fun T A' c' B' d' w' (h1 : NIn w' A' (pendF T).length (pendF T)) (h2 : NIn w' B' (pendF T).length (pendF T)) => same_yes A' (pendF T).length c' B' (pendF T).length d' (pendF T) w' h1 h2 (by have := pendL_length (fun k => nodeN T k (T.length / 2 ^ k - 1)) T.length 11; unfold pendF; omega))
    have HNX := Lib.hid (fun k (hk : k < leaves.length) => List.take_succ_eq_append_getElem hk)
    have HR := Lib.hid (fun w' (hb : Below w.heap.size w w') => hr.keep hb)
    have HT := Lib.hid hT
    have HL := Lib.hid hl
    have n0 : (n : Int) ≤ 70 := by omega
    have HNC := Lib.hid hnc
    clear hr hn hnc hT hD h70 hl
    go_enter Tryd.func9, Tryd.ntmps9
    go_wp2_with (first | ((with_reducible refine (HK.out _ hM.below).mono ?_); rintro e w1 ⟨rfl, hb⟩; replace hM := hM.step hb; clear hb) | ((with_reducible refine (new_bld hM).mono ?_); clear hM; rintro e w1 ⟨g3, rfl, hM⟩) | ((with_reducible refine at_alloc ?_); refine lz hM ?_ (hz := zero_bld'); clear hM; intro g4 w1 hM))
    have M0 := Lib.hid hM
    clear hM
    go_loopw [5] (fun i wr => ∃ (k : Nat) (ns zs : List Nd), k ≤ n + 1 ∧ i = .int .i64 (k : Nat) ∧ BInv (leaves.take k) ns ∧ BInv (leaves.take k) zs ∧ Mem [] w [⟨g4, 72, 177, bldC zs ((leaves.take k).length : Nat)⟩, ⟨g3, 72, 177, bldC ns ((leaves.take k).length : Nat)⟩] [] wr) (fun i _ => n + 1 - (intOf i).toNat)
    case atStart => exact ⟨0, _, _, by omega, rfl, BInv.nil, BInv.nil, M0.out⟩
    case round =>
      clear M0
      obtain ⟨k, ns, zs, hk, rfl, hB, hZ, hM⟩ := hrel
      by_cases hlt : k ≤ n
      · have htl : (leaves.take k).length = k := by rw [List.length_take]; have := HL.out; omega
        have HRTk := Lib.hid (fun w' (h1 : BldIn w' g3 ns (leaves.take k).length) hb => HRT.out g3 (leaves.take k) ns w' h1 hB (by omega) hb)
        have HRRk := Lib.hid (HRR.out k hlt)
        have HRPk := Lib.hid (HRP.out k hlt)
        have HP3 := Lib.hid (fun w' (h1 : BldIn w' g3 ns (leaves.take k).length) => HBP.out g3 (leaves.take k) ns w' h1 hB (by omega))
        have HLk := Lib.hid (fun w' (h1 : BldIn w' g3 ns k) => HLB.out g3 k ns w' h1 hB.len)
        have HSMk := Lib.hid (HSM.out (leaves.take k))
        have HTL := Lib.hid htl
        have HKC := Lib.hid (show k ≤ c by have := HNC.out; omega)
        have HBB := Lib.hid hB
        have HZZ := Lib.hid hZ
        have HLT := Lib.hid hlt
        rw [htl] at HRTk HP3 hM
        generalize rootN (leaves.take k) = Z at HRTk HRRk
        generalize pendF (leaves.take k) = P at HRPk HP3 HSMk
        have q1 := eq_nd Z Z
        rw [decide_eq_true rfl] at q1
        have j0 : (0 : Int) ≤ (k : Int) := Int.natCast_nonneg _
        have d1 : decide ((k : Int) ≤ (n : Int)) = true := decide_eq_true (by omega)
        have d2 : decide (k ≤ n) = true := decide_eq_true hlt
        by_cases hkn : k < n
        · have hkl : k < leaves.length := by have := HL.out; omega
          obtain ⟨go, oo, rfl, _, h5⟩ := (HR.out _ (Below.refl _ _)).row k hkl
          have HX := Lib.hid (fun w' (hb : Below w.heap.size w w') => NIn.cell (HR.out _ hb) k hkl)
          have HN1 := Lib.hid (HNX.out k hkl)
          obtain ⟨x, hx⟩ : ∃ x, leaves[k] = x := ⟨_, rfl⟩
          rw [hx] at HX HN1
          have HA1 := Lib.hid (fun E R w' (h : Mem [] w [E, ⟨g3, 72, 177, bldC ns ((leaves.take k).length : Nat)⟩] R w') => add_snd (leaves.take k) ns x h HBB.out (by omega) HT.out)
          have HA2 := Lib.hid (fun E R w' (h : Mem [] w [⟨g4, 72, 177, bldC zs ((leaves.take k).length : Nat)⟩, E] R w') => add_any (leaves.take k) zs x h HZZ.out (by omega) HT.out)
          rw [htl] at HA1 HA2
          rw [← HN1.out] at HA1 HA2
          have j1 : (k : Int) < (n : Int) := by omega
          have j2 : decide (k < n) = true := decide_eq_true hkn
          have HKN := Lib.hid hkn
          clear hkn hkl h5 hx hlt hB hZ htl hk
          by_cases hce : chkE k = 0
          · rw [hce] at HRTk HRRk
            simp only [if_true] at HRTk
            clear hce
            go_upto_region 12 with (first | ((with_reducible refine (HRTk.out _ (bld_in hM (List.Mem.tail _ (List.Mem.head _))) hM.below).mono ?_); rintro e w1 ⟨rfl, hb⟩; replace hM := hM.step hb; clear hb) | ((with_reducible refine (HRRk.out _ hM.below).mono ?_); rintro e w1 ⟨rfl, hb⟩; replace hM := hM.step hb; clear hb) | ((with_reducible refine at_slice ?_); refine lsl_hi Tryd.underlying33 size_n HKC.out (adv_0 _ _ _) ?_) | ((first | with_reducible refine at_load ?_ | ((with_reducible refine at_load_g ?_ ?_); (· rfl))); first | refine ll hM ?_ | refine lc hM ?_ | refine lp hM ?_) | ((with_reducible refine at_store ?_); first | (refine lw hM ?_; clear hM; intro wx hM) | (refine ls hM ?_; clear hM; intro wx hM) | (refine lt hM ?_; clear hM; intro wx hM)) | ((with_reducible refine at_alloc ?_); refine lz hM ?_; clear hM; intro gx wx hM) | ((with_reducible refine at_box ?_); refine lb hM ?_; clear hM; intro gx wx hM))
            replace hM := hM.subL (L' := [⟨g4, 72, 177, bldC zs (k : Nat)⟩, ⟨g3, 72, 177, bldC ns (k : Nat)⟩]) (List.Sublist.cons _ (List.Sublist.cons _ (List.Sublist.refl _)))
            refine wp_region_allHM hM (fun _ => True) (by kernel_rfl) ?_
            clear hM
            intro wd hM
            have hS : True := trivial
            refine wpAllH_takes [0, 2] (by kernel_rfl) (fun _ _ _ _ _ h => h) hS (by kernel_rfl) ?_
            simp only [pickOps, List.filterMap_cons, List.filterMap_nil, List.getElem?_cons_zero, List.getElem?_cons_succ]
            repeat (first | ((with_reducible apply wpHeld_stepG); (· rfl); (· (intro w hSw; first | (go_simp; rfl) | (fail))); intro K hK; go_simp; (with_reducible refine hK _ ?_); clear hK K) | ((with_reducible apply wpHeld_stepU); (· rfl); intro K hK; go_simp; (with_reducible refine hK _ ?_); clear hK K))
            refine wpHeld_nil ?_
            refine wpAllH_one 1 rfl (by kernel_rfl) ?_
            go_wp2_with fail
            refine (HLk.out _ (bld_in hM (List.Mem.tail _ (List.Mem.head _)))).mono ?_
            rintro e w1 ⟨rfl, rfl⟩
            go_wp2_with fail
            refine then_normal ⟨trivial, ?_⟩
            refine wpAllH_takes [3, 4, 5, 7, 8, 9] (by kernel_rfl) (fun _ _ _ _ _ h => h) hS (by kernel_rfl) ?_
            simp only [pickOps, List.filterMap_cons, List.filterMap_nil, List.getElem?_cons_zero, List.getElem?_cons_succ]
            repeat (first | ((with_reducible apply wpHeld_stepG); (· rfl); (· (intro w hSw; first | (go_simp; rfl) | (exact held_slice_hi Tryd.underlying33 size_n HKC.out))); intro K hK; go_simp; (with_reducible refine hK _ ?_); clear hK K) | ((with_reducible apply wpHeld_stepU); (· rfl); intro K hK; go_simp; (with_reducible refine hK _ ?_); clear hK K))
            refine wpHeld_nil ?_
            refine wpAllH_one 6 rfl (by kernel_rfl) ?_
            go_wp2_with fail
            refine (HP3.out _ (bld_in hM (List.Mem.tail _ (List.Mem.head _)))).mono ?_
            rintro e w1 ⟨A1, c1', rfl, hb⟩
            replace hM := hM.newThing hb
            clear hb
            go_wp2_with fail
            refine then_normal ⟨trivial, ?_⟩
            refine wpAllH_one 10 rfl (by kernel_rfl) ?_
            go_wp2_with fail
            refine (HRPk.out _ hM.below).mono ?_
            rintro e w1 ⟨A2, c2', rfl, hb⟩
            replace hM := hM.newThing hb
            clear hb
            go_wp2_with fail
            refine then_normal ⟨trivial, ?_⟩
            refine wpAllH_one 11 rfl (by kernel_rfl) ?_
            go_wp2_with fail
            refine (HSMk.out _ _ _ _ _ (ndT_in (hM.thing _ (List.Mem.tail _ (List.Mem.head _)))) (rnT_in (hM.thing _ (List.Mem.head _)))).mono ?_
            rintro e w1 ⟨rfl, hb⟩
            replace hM := hM.step hb
            clear hb
            go_wp2_with fail
            refine then_normal ⟨trivial, ?_⟩
            refine wpAllH_takes [12, 13] (by kernel_rfl) (fun _ _ _ _ _ h => h) hS (by kernel_rfl) ?_
            simp only [pickOps, List.filterMap_cons, List.filterMap_nil, List.getElem?_cons_zero, List.getElem?_cons_succ]
            repeat (first | ((with_reducible apply wpHeld_stepG); (· rfl); (· (intro w hSw; first | (go_simp; rfl) | (fail))); intro K hK; go_simp; (with_reducible refine hK _ ?_); clear hK K) | ((with_reducible apply wpHeld_stepU); (· rfl); intro K hK; go_simp; (with_reducible refine hK _ ?_); clear hK K))
            refine wpHeld_nil ?_
            refine wpAllH_done (by kernel_rfl) ?_
            first
              | (go_wp2_with (first | ((with_reducible refine at_load_g ?_ ?_); (· rfl); refine lr (HX.out _ hM.below) ?_ (hty := row_n)) | ((with_reducible refine (HA1.out _ _ _ hM).mono ?_); clear hM; rintro e w1 ⟨ns', hB', rfl, hM⟩) | ((with_reducible refine (HA2.out _ _ _ hM).mono ?_); clear hM; rintro e w1 ⟨zs', hZ', rfl, hM⟩)); exact ⟨⟨k + 1, ns', zs', by have := HKN.out; omega, by go_num, hB', hZ', hM.subR (List.nil_sublist _)⟩, by have := HKN.out; simp [intOf]; omega⟩)
              | (go_wp2_with fail; exact ⟨⟨k + 1, ns, zs, by omega, by go_num, by rw [HTT.out]; exact HBB.out, by rw [HTT.out]; exact HZZ.out, by rw [HTT.out, HTL.out]; exact hM.subR (List.nil_sublist _)⟩, by simp [intOf]⟩)
          · have q2 : (chkE k == 0) = false := by simpa using hce
            simp only [if_neg hce] at HRTk
            generalize chkE k = ce at HRRk q2
            clear hce
            go_upto_region 12 with (first | ((with_reducible refine (HRTk.out _ (bld_in hM (List.Mem.tail _ (List.Mem.head _))) hM.below).mono ?_); rintro e w1 ⟨rfl, hb⟩; replace hM := hM.step hb; clear hb) | ((with_reducible refine (HRRk.out _ hM.below).mono ?_); rintro e w1 ⟨rfl, hb⟩; replace hM := hM.step hb; clear hb) | ((with_reducible refine at_slice ?_); refine lsl_hi Tryd.underlying33 size_n HKC.out (adv_0 _ _ _) ?_) | ((first | with_reducible refine at_load ?_ | ((with_reducible refine at_load_g ?_ ?_); (· rfl))); first | refine ll hM ?_ | refine lc hM ?_ | refine lp hM ?_) | ((with_reducible refine at_store ?_); first | (refine lw hM ?_; clear hM; intro wx hM) | (refine ls hM ?_; clear hM; intro wx hM) | (refine lt hM ?_; clear hM; intro wx hM)) | ((with_reducible refine at_alloc ?_); refine lz hM ?_; clear hM; intro gx wx hM) | ((with_reducible refine at_box ?_); refine lb hM ?_; clear hM; intro gx wx hM))
            replace hM := hM.subL (L' := [⟨g4, 72, 177, bldC zs (k : Nat)⟩, ⟨g3, 72, 177, bldC ns (k : Nat)⟩]) (List.Sublist.cons _ (List.Sublist.cons _ (List.Sublist.refl _)))
            refine wp_region_allHM hM (fun _ => True) (by kernel_rfl) ?_
            clear hM
            intro wd hM
            have hS : True := trivial
            refine wpAllH_takes [0, 2] (by kernel_rfl) (fun _ _ _ _ _ h => h) hS (by kernel_rfl) ?_
            simp only [pickOps, List.filterMap_cons, List.filterMap_nil, List.getElem?_cons_zero, List.getElem?_cons_succ]
            repeat (first | ((with_reducible apply wpHeld_stepG); (· rfl); (· (intro w hSw; first | (go_simp; rfl) | (fail))); intro K hK; go_simp; (with_reducible refine hK _ ?_); clear hK K) | ((with_reducible apply wpHeld_stepU); (· rfl); intro K hK; go_simp; (with_reducible refine hK _ ?_); clear hK K))
            refine wpHeld_nil ?_
            refine wpAllH_one 1 rfl (by kernel_rfl) ?_
            go_wp2_with fail
            refine (HLk.out _ (bld_in hM (List.Mem.tail _ (List.Mem.head _)))).mono ?_
            rintro e w1 ⟨rfl, rfl⟩
            go_wp2_with fail
            refine then_normal ⟨trivial, ?_⟩
            refine wpAllH_takes [3, 4, 5, 7, 8, 9] (by kernel_rfl) (fun _ _ _ _ _ h => h) hS (by kernel_rfl) ?_
            simp only [pickOps, List.filterMap_cons, List.filterMap_nil, List.getElem?_cons_zero, List.getElem?_cons_succ]
            repeat (first | ((with_reducible apply wpHeld_stepG); (· rfl); (· (intro w hSw; first | (go_simp; rfl) | (exact held_slice_hi Tryd.underlying33 size_n HKC.out))); intro K hK; go_simp; (with_reducible refine hK _ ?_); clear hK K) | ((with_reducible apply wpHeld_stepU); (· rfl); intro K hK; go_simp; (with_reducible refine hK _ ?_); clear hK K))
            refine wpHeld_nil ?_
            refine wpAllH_one 6 rfl (by kernel_rfl) ?_
            go_wp2_with fail
            refine (HP3.out _ (bld_in hM (List.Mem.tail _ (List.Mem.head _)))).mono ?_
            rintro e w1 ⟨A1, c1', rfl, hb⟩
            replace hM := hM.newThing hb
            clear hb
            go_wp2_with fail
            refine then_normal ⟨trivial, ?_⟩
            refine wpAllH_one 10 rfl (by kernel_rfl) ?_
            go_wp2_with fail
            refine (HRPk.out _ hM.below).mono ?_
            rintro e w1 ⟨A2, c2', rfl, hb⟩
            replace hM := hM.newThing hb
            clear hb
            go_wp2_with fail
            refine then_normal ⟨trivial, ?_⟩
            refine wpAllH_one 11 rfl (by kernel_rfl) ?_
            go_wp2_with fail
            refine (HSMk.out _ _ _ _ _ (ndT_in (hM.thing _ (List.Mem.tail _ (List.Mem.head _)))) (rnT_in (hM.thing _ (List.Mem.head _)))).mono ?_
            rintro e w1 ⟨rfl, hb⟩
            replace hM := hM.step hb
            clear hb
            go_wp2_with fail
            refine then_normal ⟨trivial, ?_⟩
            refine wpAllH_takes [12, 13] (by kernel_rfl) (fun _ _ _ _ _ h => h) hS (by kernel_rfl) ?_
            simp only [pickOps, List.filterMap_cons, List.filterMap_nil, List.getElem?_cons_zero, List.getElem?_cons_succ]
            repeat (first | ((with_reducible apply wpHeld_stepG); (· rfl); (· (intro w hSw; first | (go_simp; rfl) | (fail))); intro K hK; go_simp; (with_reducible refine hK _ ?_); clear hK K) | ((with_reducible apply wpHeld_stepU); (· rfl); intro K hK; go_simp; (with_reducible refine hK _ ?_); clear hK K))
            refine wpHeld_nil ?_
            refine wpAllH_done (by kernel_rfl) ?_
            first
              | (go_wp2_with (first | ((with_reducible refine at_load_g ?_ ?_); (· rfl); refine lr (HX.out _ hM.below) ?_ (hty := row_n)) | ((with_reducible refine (HA1.out _ _ _ hM).mono ?_); clear hM; rintro e w1 ⟨ns', hB', rfl, hM⟩) | ((with_reducible refine (HA2.out _ _ _ hM).mono ?_); clear hM; rintro e w1 ⟨zs', hZ', rfl, hM⟩)); exact ⟨⟨k + 1, ns', zs', by have := HKN.out; omega, by go_num, hB', hZ', hM.subR (List.nil_sublist _)⟩, by have := HKN.out; simp [intOf]; omega⟩)
              | (go_wp2_with fail; exact ⟨⟨k + 1, ns, zs, by omega, by go_num, by rw [HTT.out]; exact HBB.out, by rw [HTT.out]; exact HZZ.out, by rw [HTT.out, HTL.out]; exact hM.subR (List.nil_sublist _)⟩, by simp [intOf]⟩)
        · obtain rfl : k = n := by omega
          have j2 : decide (k < k) = false := decide_eq_false (by omega)
          have j3 : decide ((k : Int) < (k : Int)) = false := decide_eq_false (by omega)
          have HTT := Lib.hid (show leaves.take (k + 1) = leaves.take k by rw [List.take_of_length_le (by have := HL.out; omega), List.take_of_length_le (by have := HL.out; omega)])
          clear hkn hlt hB hZ htl hk
          by_cases hce : chkE k = 0
          · rw [hce] at HRTk HRRk
            simp only [if_true] at HRTk
            clear hce
            go_upto_region 12 with (first | ((with_reducible refine (HRTk.out _ (bld_in hM (List.Mem.tail _ (List.Mem.head _))) hM.below).mono ?_); rintro e w1 ⟨rfl, hb⟩; replace hM := hM.step hb; clear hb) | ((with_reducible refine (HRRk.out _ hM.below).mono ?_); rintro e w1 ⟨rfl, hb⟩; replace hM := hM.step hb; clear hb) | ((with_reducible refine at_slice ?_); refine lsl_hi Tryd.underlying33 size_n HKC.out (adv_0 _ _ _) ?_) | ((first | with_reducible refine at_load ?_ | ((with_reducible refine at_load_g ?_ ?_); (· rfl))); first | refine ll hM ?_ | refine lc hM ?_ | refine lp hM ?_) | ((with_reducible refine at_store ?_); first | (refine lw hM ?_; clear hM; intro wx hM) | (refine ls hM ?_; clear hM; intro wx hM) | (refine lt hM ?_; clear hM; intro wx hM)) | ((with_reducible refine at_alloc ?_); refine lz hM ?_; clear hM; intro gx wx hM) | ((with_reducible refine at_box ?_); refine lb hM ?_; clear hM; intro gx wx hM))
            replace hM := hM.subL (L' := [⟨g4, 72, 177, bldC zs (k : Nat)⟩, ⟨g3, 72, 177, bldC ns (k : Nat)⟩]) (List.Sublist.cons _ (List.Sublist.cons _ (List.Sublist.refl _)))
            refine wp_region_allHM hM (fun _ => True) (by kernel_rfl) ?_
            clear hM
            intro wd hM
            have hS : True := trivial
            refine wpAllH_takes [0, 2] (by kernel_rfl) (fun _ _ _ _ _ h => h) hS (by kernel_rfl) ?_
            simp only [pickOps, List.filterMap_cons, List.filterMap_nil, List.getElem?_cons_zero, List.getElem?_cons_succ]
            repeat (first | ((with_reducible apply wpHeld_stepG); (· rfl); (· (intro w hSw; first | (go_simp; rfl) | (fail))); intro K hK; go_simp; (with_reducible refine hK _ ?_); clear hK K) | ((with_reducible apply wpHeld_stepU); (· rfl); intro K hK; go_simp; (with_reducible refine hK _ ?_); clear hK K))
            refine wpHeld_nil ?_
            refine wpAllH_one 1 rfl (by kernel_rfl) ?_
            go_wp2_with fail
            refine (HLk.out _ (bld_in hM (List.Mem.tail _ (List.Mem.head _)))).mono ?_
            rintro e w1 ⟨rfl, rfl⟩
            go_wp2_with fail
            refine then_normal ⟨trivial, ?_⟩
            refine wpAllH_takes [3, 4, 5, 7, 8, 9] (by kernel_rfl) (fun _ _ _ _ _ h => h) hS (by kernel_rfl) ?_
            simp only [pickOps, List.filterMap_cons, List.filterMap_nil, List.getElem?_cons_zero, List.getElem?_cons_succ]
            repeat (first | ((with_reducible apply wpHeld_stepG); (· rfl); (· (intro w hSw; first | (go_simp; rfl) | (exact held_slice_hi Tryd.underlying33 size_n HKC.out))); intro K hK; go_simp; (with_reducible refine hK _ ?_); clear hK K) | ((with_reducible apply wpHeld_stepU); (· rfl); intro K hK; go_simp; (with_reducible refine hK _ ?_); clear hK K))
            refine wpHeld_nil ?_
            refine wpAllH_one 6 rfl (by kernel_rfl) ?_
            go_wp2_with fail
            refine (HP3.out _ (bld_in hM (List.Mem.tail _ (List.Mem.head _)))).mono ?_
            rintro e w1 ⟨A1, c1', rfl, hb⟩
            replace hM := hM.newThing hb
            clear hb
            go_wp2_with fail
            refine then_normal ⟨trivial, ?_⟩
            refine wpAllH_one 10 rfl (by kernel_rfl) ?_
            go_wp2_with fail
            refine (HRPk.out _ hM.below).mono ?_
            rintro e w1 ⟨A2, c2', rfl, hb⟩
            replace hM := hM.newThing hb
            clear hb
            go_wp2_with fail
            refine then_normal ⟨trivial, ?_⟩
            refine wpAllH_one 11 rfl (by kernel_rfl) ?_
            go_wp2_with fail
            refine (HSMk.out _ _ _ _ _ (ndT_in (hM.thing _ (List.Mem.tail _ (List.Mem.head _)))) (rnT_in (hM.thing _ (List.Mem.head _)))).mono ?_
            rintro e w1 ⟨rfl, hb⟩
            replace hM := hM.step hb
            clear hb
            go_wp2_with fail
            refine then_normal ⟨trivial, ?_⟩
            refine wpAllH_takes [12, 13] (by kernel_rfl) (fun _ _ _ _ _ h => h) hS (by kernel_rfl) ?_
            simp only [pickOps, List.filterMap_cons, List.filterMap_nil, List.getElem?_cons_zero, List.getElem?_cons_succ]
            repeat (first | ((with_reducible apply wpHeld_stepG); (· rfl); (· (intro w hSw; first | (go_simp; rfl) | (fail))); intro K hK; go_simp; (with_reducible refine hK _ ?_); clear hK K) | ((with_reducible apply wpHeld_stepU); (· rfl); intro K hK; go_simp; (with_reducible refine hK _ ?_); clear hK K))
            refine wpHeld_nil ?_
            refine wpAllH_done (by kernel_rfl) ?_
            first
              | (go_wp2_with (first | ((with_reducible refine at_load_g ?_ ?_); (· rfl); refine lr (HX.out _ hM.below) ?_ (hty := row_n)) | ((with_reducible refine (HA1.out _ _ _ hM).mono ?_); clear hM; rintro e w1 ⟨ns', hB', rfl, hM⟩) | ((with_reducible refine (HA2.out _ _ _ hM).mono ?_); clear hM; rintro e w1 ⟨zs', hZ', rfl, hM⟩)); exact ⟨⟨k + 1, ns', zs', by have := HKN.out; omega, by go_num, hB', hZ', hM.subR (List.nil_sublist _)⟩, by have := HKN.out; simp [intOf]; omega⟩)
              | (go_wp2_with fail; exact ⟨⟨k + 1, ns, zs, by omega, by go_num, by rw [HTT.out]; exact HBB.out, by rw [HTT.out]; exact HZZ.out, by rw [HTT.out, HTL.out]; exact hM.subR (List.nil_sublist _)⟩, by simp [intOf]⟩)
          · have q2 : (chkE k == 0) = false := by simpa using hce
            simp only [if_neg hce] at HRTk
            generalize chkE k = ce at HRRk q2
            clear hce
            go_upto_region 12 with (first | ((with_reducible refine (HRTk.out _ (bld_in hM (List.Mem.tail _ (List.Mem.head _))) hM.below).mono ?_); rintro e w1 ⟨rfl, hb⟩; replace hM := hM.step hb; clear hb) | ((with_reducible refine (HRRk.out _ hM.below).mono ?_); rintro e w1 ⟨rfl, hb⟩; replace hM := hM.step hb; clear hb) | ((with_reducible refine at_slice ?_); refine lsl_hi Tryd.underlying33 size_n HKC.out (adv_0 _ _ _) ?_) | ((first | with_reducible refine at_load ?_ | ((with_reducible refine at_load_g ?_ ?_); (· rfl))); first | refine ll hM ?_ | refine lc hM ?_ | refine lp hM ?_) | ((with_reducible refine at_store ?_); first | (refine lw hM ?_; clear hM; intro wx hM) | (refine ls hM ?_; clear hM; intro wx hM) | (refine lt hM ?_; clear hM; intro wx hM)) | ((with_reducible refine at_alloc ?_); refine lz hM ?_; clear hM; intro gx wx hM) | ((with_reducible refine at_box ?_); refine lb hM ?_; clear hM; intro gx wx hM))
            replace hM := hM.subL (L' := [⟨g4, 72, 177, bldC zs (k : Nat)⟩, ⟨g3, 72, 177, bldC ns (k : Nat)⟩]) (List.Sublist.cons _ (List.Sublist.cons _ (List.Sublist.refl _)))
            refine wp_region_allHM hM (fun _ => True) (by kernel_rfl) ?_
            clear hM
            intro wd hM
            have hS : True := trivial
            refine wpAllH_takes [0, 2] (by kernel_rfl) (fun _ _ _ _ _ h => h) hS (by kernel_rfl) ?_
            simp only [pickOps, List.filterMap_cons, List.filterMap_nil, List.getElem?_cons_zero, List.getElem?_cons_succ]
            repeat (first | ((with_reducible apply wpHeld_stepG); (· rfl); (· (intro w hSw; first | (go_simp; rfl) | (fail))); intro K hK; go_simp; (with_reducible refine hK _ ?_); clear hK K) | ((with_reducible apply wpHeld_stepU); (· rfl); intro K hK; go_simp; (with_reducible refine hK _ ?_); clear hK K))
            refine wpHeld_nil ?_
            refine wpAllH_one 1 rfl (by kernel_rfl) ?_
            go_wp2_with fail
            refine (HLk.out _ (bld_in hM (List.Mem.tail _ (List.Mem.head _)))).mono ?_
            rintro e w1 ⟨rfl, rfl⟩
            go_wp2_with fail
            refine then_normal ⟨trivial, ?_⟩
            refine wpAllH_takes [3, 4, 5, 7, 8, 9] (by kernel_rfl) (fun _ _ _ _ _ h => h) hS (by kernel_rfl) ?_
            simp only [pickOps, List.filterMap_cons, List.filterMap_nil, List.getElem?_cons_zero, List.getElem?_cons_succ]
            repeat (first | ((with_reducible apply wpHeld_stepG); (· rfl); (· (intro w hSw; first | (go_simp; rfl) | (exact held_slice_hi Tryd.underlying33 size_n HKC.out))); intro K hK; go_simp; (with_reducible refine hK _ ?_); clear hK K) | ((with_reducible apply wpHeld_stepU); (· rfl); intro K hK; go_simp; (with_reducible refine hK _ ?_); clear hK K))
            refine wpHeld_nil ?_
            refine wpAllH_one 6 rfl (by kernel_rfl) ?_
            go_wp2_with fail
            refine (HP3.out _ (bld_in hM (List.Mem.tail _ (List.Mem.head _)))).mono ?_
            rintro e w1 ⟨A1, c1', rfl, hb⟩
            replace hM := hM.newThing hb
            clear hb
            go_wp2_with fail
            refine then_normal ⟨trivial, ?_⟩
            refine wpAllH_one 10 rfl (by kernel_rfl) ?_
            go_wp2_with fail
            refine (HRPk.out _ hM.below).mono ?_
            rintro e w1 ⟨A2, c2', rfl, hb⟩
            replace hM := hM.newThing hb
            clear hb
            go_wp2_with fail
            refine then_normal ⟨trivial, ?_⟩
            refine wpAllH_one 11 rfl (by kernel_rfl) ?_
            go_wp2_with fail
            refine (HSMk.out _ _ _ _ _ (ndT_in (hM.thing _ (List.Mem.tail _ (List.Mem.head _)))) (rnT_in (hM.thing _ (List.Mem.head _)))).mono ?_
            rintro e w1 ⟨rfl, hb⟩
            replace hM := hM.step hb
            clear hb
            go_wp2_with fail
            refine then_normal ⟨trivial, ?_⟩
            refine wpAllH_takes [12, 13] (by kernel_rfl) (fun _ _ _ _ _ h => h) hS (by kernel_rfl) ?_
            simp only [pickOps, List.filterMap_cons, List.filterMap_nil, List.getElem?_cons_zero, List.getElem?_cons_succ]
            repeat (first | ((with_reducible apply wpHeld_stepG); (· rfl); (· (intro w hSw; first | (go_simp; rfl) | (fail))); intro K hK; go_simp; (with_reducible refine hK _ ?_); clear hK K) | ((with_reducible apply wpHeld_stepU); (· rfl); intro K hK; go_simp; (with_reducible refine hK _ ?_); clear hK K))
            refine wpHeld_nil ?_
            refine wpAllH_done (by kernel_rfl) ?_
            first
              | (go_wp2_with (first | ((with_reducible refine at_load_g ?_ ?_); (· rfl); refine lr (HX.out _ hM.below) ?_ (hty := row_n)) | ((with_reducible refine (HA1.out _ _ _ hM).mono ?_); clear hM; rintro e w1 ⟨ns', hB', rfl, hM⟩) | ((with_reducible refine (HA2.out _ _ _ hM).mono ?_); clear hM; rintro e w1 ⟨zs', hZ', rfl, hM⟩)); exact ⟨⟨k + 1, ns', zs', by have := HKN.out; omega, by go_num, hB', hZ', hM.subR (List.nil_sublist _)⟩, by have := HKN.out; simp [intOf]; omega⟩)
              | (go_wp2_with fail; exact ⟨⟨k + 1, ns, zs, by omega, by go_num, by rw [HTT.out]; exact HBB.out, by rw [HTT.out]; exact HZZ.out, by rw [HTT.out, HTL.out]; exact hM.subR (List.nil_sublist _)⟩, by simp [intOf]⟩)
      · obtain rfl : k = n + 1 := by omega
        have htl : leaves.take (n + 1) = leaves := List.take_of_length_le (by have := HL.out; omega)
        have hlen := HL.out
        rw [htl] at hB hZ hM
        have HRPk := Lib.hid (HRP.out n (Nat.le_refl _))
        rw [List.take_of_length_le (by omega)] at HRPk
        have HP4 := Lib.hid (fun w' (h1 : BldIn w' g4 zs leaves.length) => HBP.out g4 leaves zs w' h1 hZ (by omega))
        have HL4 := Lib.hid (fun w' (h1 : BldIn w' g4 zs leaves.length) => HLB.out g4 leaves.length zs w' h1 hZ.len)
        have HSMk := Lib.hid (HSM.out leaves)
        rw [← hlen] at HP4 HL4 hM
        generalize pendF leaves = P at HRPk HP4 HSMk
        have d1 : decide (((n + 1 : Nat) : Int) ≤ (n : Int)) = false := decide_eq_false (by omega)
        have d2 : decide (n + 1 ≤ n) = false := decide_eq_false (by omega)
        have d3 : decide ((n : Int) + 1 ≤ (n : Int)) = false := decide_eq_false (by omega)
        clear hB hZ htl hlen hlt hk
        go_wp2_with (first | ((with_reducible refine (HL4.out _ (bld_in hM (List.Mem.head _))).mono ?_); rintro e w1 ⟨rfl, rfl⟩) | ((with_reducible refine (HP4.out _ (bld_in hM (List.Mem.head _))).mono ?_); rintro e w1 ⟨A1, c1', rfl, hb⟩; replace hM := hM.newThing hb; clear hb) | ((with_reducible refine (HRPk.out _ hM.below).mono ?_); rintro e w1 ⟨A2, c2', rfl, hb⟩; replace hM := hM.newThing hb; clear hb) | ((with_reducible refine (HSMk.out _ _ _ _ _ (ndT_in (hM.thing _ (List.Mem.tail _ (List.Mem.head _)))) (rnT_in (hM.thing _ (List.Mem.head _)))).mono ?_); rintro e w1 ⟨rfl, hb⟩; replace hM := hM.step hb; clear hb))
        go_ret
        exact ⟨rfl, hM.below⟩
end Go.Proofs.YtcfojkecmchbdaaDoor
namespace Go.Proofs.YtcfojkecmchbdaaDoor
open Go Go.RowKit Go.WideShapes Go.ChangeShapes Go.ChangeAt Go.Bul
abbrev laid3 : List (String × DataW Unit) := [("math/bits.deBruijn32tab", Rows.laid_math_bits_deBruijn32tab), ("math/bits.deBruijn64tab", Rows.laid_math_bits_deBruijn64tab), ("bulletin/sha256.constants", Rows.laid_bulletin_sha256_constants)]
theorem tab_of3 {W : World} (h : laidMetH Tryd.prog laid3 W) : Tab W := by
  have h1 := laidMetH.filter (fun x => x.1 == "bulletin/sha256.constants") h
  have e : laid3.filter (fun x => x.1 == "bulletin/sha256.constants") = [("bulletin/sha256.constants", Rows.laid_bulletin_sha256_constants)] := by simp [laid3]
  rw [e] at h1
  exact tab_of h1
theorem gDbj : Tryd.prog.globalNamed "math/bits.deBruijn64tab" = some 1 := by kernel_rfl
theorem gDbjType : (Tryd.prog.globals[1]?).map (·.type) = some 118 := by kernel_rfl
theorem dbj_of3 {W : World} (h : laidMetH Tryd.prog laid3 W) : Dbj W := by
  have h1 := laidMetH.filter (fun x => x.1 == "math/bits.deBruijn64tab") h
  have e : laid3.filter (fun x => x.1 == "math/bits.deBruijn64tab") = [("math/bits.deBruijn64tab", Rows.laid_math_bits_deBruijn64tab)] := by simp [laid3]
  rw [e] at h1
  have ht : Lib.TabIs Tryd.prog W "math/bits.deBruijn64tab" .u8 (dbjL.map fun (n : Nat) => (n : Int)) := Lib.tabIs_of_head (rest := []) gDbj gDbjType Tryd.underlying118 Tryd.underlying5 cells_u8 (by kernel_rfl) h1
  intro i hi
  have hl : dbjL.length = 64 := rfl
  rw [ht.cell gDbj i (by simp [hl]; exact hi)]
  simp [List.getD, hl, hi]
/-- A world for the witnesses: the settled one, the tables holding what their initialisers lay. -/
noncomputable def laidWorld3 (os : Os) : World :=
  let w := World.holding Tryd.prog os ⟨#[], #[], []⟩
  { w with heap := ((w.heap.modify 2 fun
      | .cells _ t frozen => .cells #[.int .u32 1116352408, .int .u32 1899447441, .int .u32 3049323471, .int .u32 3921009573, .int .u32 961987163, .int .u32 1508970993, .int .u32 2453635748, .int .u32 2870763221, .int .u32 3624381080, .int .u32 310598401, .int .u32 607225278, .int .u32 1426881987, .int .u32 1925078388, .int .u32 2162078206, .int .u32 2614888103, .int .u32 3248222580, .int .u32 3835390401, .int .u32 4022224774, .int .u32 264347078, .int .u32 604807628, .int .u32 770255983, .int .u32 1249150122, .int .u32 1555081692, .int .u32 1996064986, .int .u32 2554220882, .int .u32 2821834349, .int .u32 2952996808, .int .u32 3210313671, .int .u32 3336571891, .int .u32 3584528711, .int .u32 113926993, .int .u32 338241895, .int .u32 666307205, .int .u32 773529912, .int .u32 1294757372, .int .u32 1396182291, .int .u32 1695183700, .int .u32 1986661051, .int .u32 2177026350, .int .u32 2456956037, .int .u32 2730485921, .int .u32 2820302411, .int .u32 3259730800, .int .u32 3345764771, .int .u32 3516065817, .int .u32 3600352804, .int .u32 4094571909, .int .u32 275423344, .int .u32 430227734, .int .u32 506948616, .int .u32 659060556, .int .u32 883997877, .int .u32 958139571, .int .u32 1322822218, .int .u32 1537002063, .int .u32 1747873779, .int .u32 1955562222, .int .u32 2024104815, .int .u32 2227730452, .int .u32 2361852424, .int .u32 2428436474, .int .u32 2756734187, .int .u32 3204031479, .int .u32 3329325298] t frozen
      | o => o).modify 1 fun
      | .cells _ t frozen => .cells #[.int .u8 0, .int .u8 1, .int .u8 56, .int .u8 2, .int .u8 57, .int .u8 49, .int .u8 28, .int .u8 3, .int .u8 61, .int .u8 58, .int .u8 42, .int .u8 50, .int .u8 38, .int .u8 29, .int .u8 17, .int .u8 4, .int .u8 62, .int .u8 47, .int .u8 59, .int .u8 36, .int .u8 45, .int .u8 43, .int .u8 51, .int .u8 22, .int .u8 53, .int .u8 39, .int .u8 33, .int .u8 30, .int .u8 24, .int .u8 18, .int .u8 12, .int .u8 5, .int .u8 63, .int .u8 55, .int .u8 48, .int .u8 27, .int .u8 60, .int .u8 41, .int .u8 37, .int .u8 16, .int .u8 46, .int .u8 35, .int .u8 44, .int .u8 21, .int .u8 52, .int .u8 32, .int .u8 23, .int .u8 11, .int .u8 54, .int .u8 26, .int .u8 40, .int .u8 15, .int .u8 34, .int .u8 20, .int .u8 31, .int .u8 10, .int .u8 25, .int .u8 14, .int .u8 19, .int .u8 9, .int .u8 13, .int .u8 8, .int .u8 7, .int .u8 6] t frozen
      | o => o).modify 0 fun
      | .cells _ t frozen => .cells #[.int .u8 0, .int .u8 1, .int .u8 28, .int .u8 2, .int .u8 29, .int .u8 14, .int .u8 24, .int .u8 3, .int .u8 30, .int .u8 22, .int .u8 20, .int .u8 15, .int .u8 25, .int .u8 17, .int .u8 4, .int .u8 8, .int .u8 31, .int .u8 27, .int .u8 13, .int .u8 23, .int .u8 21, .int .u8 19, .int .u8 16, .int .u8 7, .int .u8 26, .int .u8 12, .int .u8 18, .int .u8 6, .int .u8 11, .int .u8 5, .int .u8 10, .int .u8 9] t frozen
      | o => o }
open Go.Thg Go.Lin in
theorem mbuilder_row (A : Option Addr) (n c : Nat) (bs : List Nat) (w : World) (hr : RdArr w A n 16 bs) (hn : n ≤ c) (hc : c ≤ 9223372036854775807) (hT : Tab w) (hD : Dbj w) :
    Calls Tryd.prog 9 #[.slice A n c] w fun e w' => e = .returned (.bool true) ∧ Below w.heap.size w w' := by
  obtain ⟨l, hl⟩ := nin_of hr
  exact mbuilder_any A n c l w hl (by omega) hn hT hD
end Go.Proofs.YtcfojkecmchbdaaDoor
