/- The reference: ParsePublic. -/
import Derived.Test.YtdnnjgjaffkdfaaDoorXh
import Derived.Test.YtdnnjgjaffkdfaaDoorXg
namespace Go.Thg
open Go Go.RowKit Go.Bul
theorem results_tct {fn : Func} {p u u2 : Tmp} {ty : TypeId} (h : fn.results = #[.tmp u, .cell p ty, .tmp u2]) (tmps : Array Value) (P : Program) (w : World) :
    (results fn tmps).run P w =
      ((asAddr (tmps.getD p undef)).run P w).andThen fun a w₁ => ((loadVar ty a).run P w₁).andThen fun v w₂ => .ok (.tuple #[tmps.getD u undef, v, tmps.getD u2 undef]) w₂ := by
  simp only [results, h]
  simp [Sem.run_bind, Result.andThen]
theorem results_mem_tct {P : Program} {w w0 : World} {G : List Nat} {L : List Ent} {R : List Thing} (hM : Mem G w0 L R w) {fn : Func} {p u u2 : Tmp} {ty : TypeId} (h : fn.results = #[.tmp u, .cell p ty, .tmp u2]) {tmps : Array Value} {g : Nat} {e e2 : Value} (he : tmps.getD u undef = e) (hp : tmps.getD p undef = .pointer (some ⟨g, 0, none⟩)) {t : TypeId} {n : Nat} {cs : Array Value}
    (hL : ⟨g, t, n, cs⟩ ∈ L) (hty : RowTy P ty n) (he2 : tmps.getD u2 undef = e2) : (results fn tmps).run P w = .ok (.tuple #[e, .agg cs, e2]) w := by
  obtain ⟨d, hu, hd, hi⟩ := hty.ex
  have hl := run_loadVar_row (P := P) w g t ty cs (0, 0) d (hM.blk hL) hu (by cases d <;> simp_all [isRow]) (by rw [hi, hM.size hL])
  rw [results_tct h, hp, he, he2]
  simp [asAddr, hl]
end Go.Thg
namespace Go.Proofs.YtdnnjgjaffkdfaaDoor
open Go Go.RowKit Go.Bul Go.Thg Go.Lin
theorem bT_cell {w : World} {sg so n c : Nat} {xs : List Nat} (h : (bT (.slice (some ⟨sg, so, none⟩) n c) xs).P w) (k : Nat) (hk : k < n) : w.cell? ⟨sg, so + k, none⟩ = some (.int .u8 (xs.getD k 0 : Nat)) := by
  obtain ⟨hr, hn, _⟩ := bT_reads h
  obtain ⟨g, o, he, _, hc⟩ := hr.2 (by omega)
  have e1 : sg = g := by injection he with he; injection he
  have e2 : so = o := by injection he with he; injection he
  subst e1 e2
  exact hc k _ (by simp [vals, List.getD, List.getElem?_eq_getElem (by omega : k < xs.length)])
/-- The first bytes of a node, the rest not yet set. -/
def ndPc (y : Nd) (j : Nat) : Array Value := cellsOf .u8 (y.val.take j ++ Go.Thg.zeros (16 - j))
theorem ndPc_0 (y : Nd) : ndPc y 0 = ndC nd0 := by simp [ndPc, nd0, ndC, Go.Thg.zeros]
theorem ndPc_16 (y : Nd) : ndPc y 16 = ndC y := by
  unfold ndPc
  rw [List.take_of_length_le (by rw [y.len]; decide)]
  simp [Go.Thg.zeros]
theorem ndPc_set (y : Nd) (j : Nat) (h : j < 16) : (ndPc y j).setIfInBounds j (.int .u8 (y.val.getD j 0 : Nat)) = ndPc y (j + 1) := by
  have hl : (vals .u8 (y.val.take j)).length = j := by rw [vals_length, List.length_take, y.len]; omega
  have e1 : (Go.Thg.zeros (16 - j)) = 0 :: Go.Thg.zeros (16 - (j + 1)) := by
    unfold Go.Thg.zeros
    rw [show 16 - j = (16 - (j + 1)) + 1 by omega, List.replicate_succ]
  have e2 : y.val.take (j + 1) = y.val.take j ++ [y.val.getD j 0] := by
    rw [List.take_add_one, List.getD_eq_getElem?_getD, List.getElem?_eq_getElem (by rw [y.len]; exact h)]
    rfl
  apply Array.ext'
  simp only [ndPc, cellsOf]
  rw [e2, e1]
  simp only [vals, List.map_append, List.map_cons, List.append_assoc, List.cons_append, List.nil_append, List.setIfInBounds_toArray]
  have hl2 : (List.map (fun (n : Nat) => Value.int .u8 (n : Int)) (y.val.take j)).length = j := by rw [List.length_map, List.length_take, y.len]; omega
  rw [List.set_append_right _ _ (by omega), hl2, Nat.sub_self]
  rfl
set_option maxRecDepth 20000 in
set_option maxHeartbeats 4000000 in
theorem rppub_any (s : ByteArray) (w : World) (hs : s.size ≤ 90000) :
    Calls Tryd.prog 45 #[.string s] w fun e w' => ∃ h r er, e = .returned (.tuple #[.int .i64 h, .agg (ndC r), .int .i64 (er : Nat)]) ∧ PP (decB (nums s)) (decE (nums s)) h r er ∧ Below w.heap.size w w' := by
  have hM := Mem.start [] w
  have HD := Lib.hid (fun w => rDecode_any s w hs)
  have hBy := decB_bytes (bytes_of_nums s)
  generalize decB (nums s) = ys at HD hBy ⊢
  generalize decE (nums s) = e0 at HD ⊢
  clear hs
  by_cases h0 : e0 = 0
  · subst h0
    by_cases h1 : ys.length < 17
    · have hPP : Hid (PP ys 0 0 nd0 4) := Lib.hid ⟨by unfold ppE; rw [if_neg (by simp), if_pos h1], fun _ => ⟨rfl, rfl⟩, fun h => absurd h (by decide)⟩
      have h1' := Lib.hid h1
      clear h1 hBy
      go_enter Tryd.func45, Tryd.ntmps45
      go_upto_region 5 with (first | ((with_reducible refine at_alloc ?_); refine slz hM ?_ (hz := zero_a16); clear hM; intro g3 w1 hM) | ((with_reducible refine (HD.out _).mono ?_); rintro e w1 ⟨A, n, c, off, rfl, hb⟩; replace hM := hM.newThing hb; clear hb))
      have hn := (bT_reads (hM.thing _ (List.Mem.head _))).2.1
      have n1 : n < 17 := by have := h1'.out; omega
      have n2 : (n : Int) < 17 := by omega
      clear hn
      go_upto_region 6 with fail
      obtain ⟨g5, hg5⟩ := hM.name1
      subst hg5
      refine wp_region_allHM hM (HeldM [⟨g5, 22, 16, ndC nd0⟩]) (by kernel_rfl) ?_
      clear hM
      intro wd hM
      have hS := HeldM.of (hM.subL (L' := [⟨g5, 22, 16, ndC nd0⟩]) (List.Sublist.cons_cons _ (List.nil_sublist _)))
      refine wpAllH_takes [1, 0] (by kernel_rfl) (fun _ _ _ _ _ h => h) hS (by kernel_rfl) ?_
      simp only [pickOps, List.filterMap_cons, List.filterMap_nil, List.getElem?_cons_zero, List.getElem?_cons_succ]
      repeat ((with_reducible apply wpHeld_step); (· rfl); (· (intro w hSw; first | (go_simp; rfl) | ((obtain ⟨_, _, _, hM'⟩ := hSw; exact yields_load (C := fun _ => True) (sql hM' (hty := row_a16)) rfl)))); intro K hK; go_simp; (with_reducible refine hK _ ?_); clear hK K)
      refine wpHeld_nil ?_
      refine wpAllH_one 2 rfl (by kernel_rfl) ?_
      refine slw hM ?_ (hs := ndC_size _) (hty := row_a16)
      clear hM hS
      intro wx hM
      have hS := HeldM.of (hM.subL (L' := [⟨g5, 22, 16, ndC nd0⟩]) (List.Sublist.cons_cons _ (List.nil_sublist _)))
      refine wpList_then ⟨hS, ?_⟩
      refine wpAllH_takes [3] (by kernel_rfl) (fun _ _ _ _ _ h => h) hS (by kernel_rfl) ?_
      simp only [pickOps, List.filterMap_cons, List.filterMap_nil, List.getElem?_cons_zero, List.getElem?_cons_succ]
      repeat ((with_reducible apply wpHeld_step); (· rfl); (· (intro w hSw; first | (go_simp; rfl) | (fail))); intro K hK; go_simp; (with_reducible refine hK _ ?_); clear hK K)
      refine wpHeld_nil ?_
      refine wpAllH_done (by kernel_rfl) ?_
      go_wp2_with fail
      exact bodyPost_ret (results_mem_tct hM rfl (by rfl) (by rfl) (by repeat (first | exact List.Mem.head _ | apply List.Mem.tail)) row_a16 (by rfl)) rfl ⟨_, _, _, rfl, hPP.out, hM.below⟩
    · by_cases h2 : 17 < ys.length
      · have hPP : Hid (PP ys 0 0 nd0 5) := Lib.hid ⟨by unfold ppE; rw [if_neg (by simp), if_neg h1, if_pos h2], fun _ => ⟨rfl, rfl⟩, fun h => absurd h (by decide)⟩
        have h2' := Lib.hid h2
        clear h1 h2 hBy
        go_enter Tryd.func45, Tryd.ntmps45
        go_upto_region 5 with (first | ((with_reducible refine at_alloc ?_); refine slz hM ?_ (hz := zero_a16); clear hM; intro g3 w1 hM) | ((with_reducible refine (HD.out _).mono ?_); rintro e w1 ⟨A, n, c, off, rfl, hb⟩; replace hM := hM.newThing hb; clear hb))
        have hn := (bT_reads (hM.thing _ (List.Mem.head _))).2.1
        have n1 : ¬ (n < 17) := by have := h2'.out; omega
        have n2 : ¬ ((n : Int) < 17) := by omega
        have n3 : 17 < n := by have := h2'.out; omega
        have n4 : 17 < (n : Int) := by omega
        clear hn
        go_upto_region 8 with fail
        obtain ⟨g5, hg5⟩ := hM.name1
        subst hg5
        refine wp_region_allHM hM (HeldM [⟨g5, 22, 16, ndC nd0⟩]) (by kernel_rfl) ?_
        clear hM
        intro wd hM
        have hS := HeldM.of (hM.subL (L' := [⟨g5, 22, 16, ndC nd0⟩]) (List.Sublist.cons_cons _ (List.nil_sublist _)))
        refine wpAllH_takes [1, 0] (by kernel_rfl) (fun _ _ _ _ _ h => h) hS (by kernel_rfl) ?_
        simp only [pickOps, List.filterMap_cons, List.filterMap_nil, List.getElem?_cons_zero, List.getElem?_cons_succ]
        repeat ((with_reducible apply wpHeld_step); (· rfl); (· (intro w hSw; first | (go_simp; rfl) | ((obtain ⟨_, _, _, hM'⟩ := hSw; exact yields_load (C := fun _ => True) (sql hM' (hty := row_a16)) rfl)))); intro K hK; go_simp; (with_reducible refine hK _ ?_); clear hK K)
        refine wpHeld_nil ?_
        refine wpAllH_one 2 rfl (by kernel_rfl) ?_
        refine slw hM ?_ (hs := ndC_size _) (hty := row_a16)
        clear hM hS
        intro wx hM
        have hS := HeldM.of (hM.subL (L' := [⟨g5, 22, 16, ndC nd0⟩]) (List.Sublist.cons_cons _ (List.nil_sublist _)))
        refine wpList_then ⟨hS, ?_⟩
        refine wpAllH_takes [3] (by kernel_rfl) (fun _ _ _ _ _ h => h) hS (by kernel_rfl) ?_
        simp only [pickOps, List.filterMap_cons, List.filterMap_nil, List.getElem?_cons_zero, List.getElem?_cons_succ]
        repeat ((with_reducible apply wpHeld_step); (· rfl); (· (intro w hSw; first | (go_simp; rfl) | (fail))); intro K hK; go_simp; (with_reducible refine hK _ ?_); clear hK K)
        refine wpHeld_nil ?_
        refine wpAllH_done (by kernel_rfl) ?_
        go_wp2_with fail
        exact bodyPost_ret (results_mem_tct hM rfl (by rfl) (by rfl) (by repeat (first | exact List.Mem.head _ | apply List.Mem.tail)) row_a16 (by rfl)) rfl ⟨_, _, _, rfl, hPP.out, hM.below⟩
      · have h17 := Lib.hid (show ys.length = 17 by omega)
        obtain ⟨x0, hx0⟩ : ∃ x0, ys.getD 0 0 = x0 := ⟨_, rfl⟩
        obtain ⟨y, hy⟩ : ∃ y : Nd, y.val = ys.drop 1 := ⟨⟨_, by rw [List.length_drop]; omega, fun x hx => hBy x (List.drop_subset _ _ hx)⟩, rfl⟩
        have HYJ := Lib.hid (fun (j : Nat) => show ys.getD (j + 1) 0 = y.val.getD j 0 by rw [hy, List.getD_eq_getElem?_getD, List.getD_eq_getElem?_getD, List.getElem?_drop, Nat.add_comm])
        have hx9 : x0 < 256 := by rw [← hx0, List.getD_eq_getElem?_getD, List.getElem?_eq_getElem (by omega)]; exact hBy _ (List.getElem_mem _)
        have HX0 := Lib.hid (fun (sg so n c : Nat) (w' : World) (h : (bT (.slice (some ⟨sg, so, none⟩) n c) ys).P w') (hn : 0 < n) => show w'.cell? ⟨sg, so, none⟩ = some (.int .u8 (x0 : Nat)) by rw [← hx0]; exact bT_cell h 0 hn)
        by_cases h8 : 1 ≤ x0 ∧ x0 ≤ 8
        · have hPP : Hid (PP ys 0 (x0 : Nat) y 0) := Lib.hid ⟨by unfold ppE; rw [if_neg (by simp), if_neg h1, if_neg h2, hx0, if_pos h8], fun h => absurd rfl h, fun _ => ⟨by rw [hx0], hy⟩⟩
          have u1 : decide ((x0 : Int) < 1) = false := decide_eq_false (by omega)
          have u2 : decide (8 < (x0 : Int)) = false := decide_eq_false (by omega)
          have u3 : (0 : Int) ≤ (x0 : Int) := Int.natCast_nonneg _
          have u4 : (x0 : Int) < 256 := by omega
          have uw : IntKind.i64.wrap (x0 : Int) = (x0 : Int) := IntWalk.i64_in _ ⟨by omega, by omega⟩
          clear h1 h2 hBy hx0 hy hx9 h8
          go_enter Tryd.func45, Tryd.ntmps45
          go_upto_region 5 with (first | ((with_reducible refine at_alloc ?_); refine slz hM ?_ (hz := zero_a16); clear hM; intro g3 w1 hM) | ((with_reducible refine (HD.out _).mono ?_); rintro e w1 ⟨A, n, c, off, rfl, hb⟩; replace hM := hM.newThing hb; clear hb))
          obtain ⟨g3, hg3⟩ := hM.name1
          obtain ⟨g2, hg2⟩ := (hM.subL (List.sublist_cons_self _ _)).name1
          subst hg3 hg2
          have hn := (bT_reads (hM.thing _ (List.Mem.head _))).2.1
          rw [h17.out] at hn
          subst hn
          obtain ⟨sg, so, rfl, _, _⟩ := (bT_reads (hM.thing _ (List.Mem.head _))).1.2 (by decide)
          have HX := Lib.hid (fun w' (h : (bT (.slice (some ⟨sg, so, none⟩) 17 c) ys).P w') => HX0.out _ _ _ _ _ h (by decide))
          go_wp2_with (first | ((first | with_reducible refine at_load ?_ | ((with_reducible refine at_load_g ?_ ?_); (· rfl))); refine lo (HX.out _ (hM.thing _ (List.Mem.head _))) ?_ (hty := one_u8)))
          have M0 := Lib.hid hM
          clear hM
          go_loopw [9] (fun i wr => ∃ j : Nat, j ≤ 16 ∧ i = .int .i64 (j : Nat) ∧ Mem [] w [⟨g3, 22, 16, ndPc y j⟩, ⟨g2, 22, 16, ndC nd0⟩] [bT (.slice (some ⟨sg, so, none⟩) 17 c) ys] wr) (fun i _ => 16 - (intOf i).toNat)
          case atStart => exact ⟨0, by omega, rfl, by rw [ndPc_0]; exact M0.out⟩
          case round =>
            clear M0
            obtain ⟨j, hj, rfl, hM⟩ := hrel
            have k0 : (0 : Int) ≤ (j : Int) := Int.natCast_nonneg _
            by_cases hlt : j < 16
            · have k1 : (j : Int) < 16 := by omega
              have hcl := bT_cell (hM.thing _ (List.Mem.head _)) (j + 1) (by omega)
              rw [HYJ.out j] at hcl
              have hset := ndPc_set y j hlt
              generalize y.val.getD j 0 = v at hcl hset
              replace hcl := Lib.hid hcl
              replace hset := Lib.hid hset
              go_wp2_with (first | ((with_reducible refine at_load ?_); refine lo hcl.out ?_ (hty := one_u8)) | ((with_reducible refine at_store ?_); refine sls hM ?_ (hty := one_u8) (hX := hset.out); clear hM; intro wx hM))
              exact ⟨⟨j + 1, by omega, by go_num, hM⟩, by simp [intOf]; omega⟩
            · have hj16 : j = 16 := by omega
              rw [hj16, ndPc_16] at hM
              obtain ⟨zz, hzz⟩ : ∃ zz : Int, zz = (j : Int) := ⟨_, rfl⟩
              rw [← hzz]
              have z9 : ¬ (zz < 16) := by omega
              clear hzz hlt hj hj16 k0
              go_upto_region 15 with fail
              refine wp_region_allHM hM (fun w' => HeldM [⟨g3, 22, 16, ndC y⟩] w' ∧ (bT (.slice (some ⟨sg, so, none⟩) 17 c) ys).P w') (by kernel_rfl) ?_
              clear hM
              intro wd hM
              have hS := And.intro (HeldM.of (hM.subL (L' := [⟨g3, 22, 16, ndC y⟩]) (List.Sublist.cons_cons _ (List.nil_sublist _)))) (hM.thing _ (List.Mem.head _))
              refine wpAllH_takes [0, 1, 2, 3, 4, 5] (by kernel_rfl) (fun _ _ _ _ _ h => h) hS (by kernel_rfl) ?_
              simp only [pickOps, List.filterMap_cons, List.filterMap_nil, List.getElem?_cons_zero, List.getElem?_cons_succ]
              repeat ((with_reducible apply wpHeld_step); (· rfl); (· (intro w hSw; first | (go_simp; rfl) | ((obtain ⟨⟨_, _, _, hM'⟩, hT'⟩ := hSw; first | exact yields_load (C := fun _ => True) (sql hM' (hty := row_a16)) rfl | exact yields_load (C := fun _ => True) (qo (HX.out _ hT') (hty := one_u8)) rfl)))); intro K hK; go_simp; (with_reducible refine hK _ ?_); clear hK K)
              refine wpHeld_nil ?_
              refine wpAllH_one 6 rfl (by kernel_rfl) ?_
              refine slw hM ?_ (hs := ndC_size _) (hty := row_a16)
              clear hM hS
              intro wx hM
              have hS := And.intro (HeldM.of (hM.subL (L' := [⟨g3, 22, 16, ndC y⟩]) (List.Sublist.cons_cons _ (List.nil_sublist _)))) (hM.thing _ (List.Mem.head _))
              refine wpList_then ⟨hS, ?_⟩
              refine wpAllH_takes [7] (by kernel_rfl) (fun _ _ _ _ _ h => h) hS (by kernel_rfl) ?_
              simp only [pickOps, List.filterMap_cons, List.filterMap_nil, List.getElem?_cons_zero, List.getElem?_cons_succ]
              repeat ((with_reducible apply wpHeld_step); (· rfl); (· (intro w hSw; first | (go_simp; rfl) | (fail))); intro K hK; go_simp; (with_reducible refine hK _ ?_); clear hK K)
              refine wpHeld_nil ?_
              refine wpAllH_done (by kernel_rfl) ?_
              go_wp2_with fail
              exact bodyPost_ret (results_mem_tct hM rfl (by rfl) (by rfl) (by repeat (first | exact List.Mem.head _ | apply List.Mem.tail)) row_a16 (by rfl)) rfl ⟨_, _, _, rfl, hPP.out, hM.below⟩
        · have hPP : Hid (PP ys 0 0 nd0 2) := Lib.hid ⟨by unfold ppE; rw [if_neg (by simp), if_neg h1, if_neg h2, hx0, if_neg h8], fun _ => ⟨rfl, rfl⟩, fun h => absurd h (by decide)⟩
          have u3 : (0 : Int) ≤ (x0 : Int) := Int.natCast_nonneg _
          have u4 : (x0 : Int) < 256 := by omega
          by_cases h9 : x0 < 1
          · have u1 : decide ((x0 : Int) < 1) = true := decide_eq_true (by omega)
            clear h1 h2 hBy hx0 hy hx9 h8 h9
            go_enter Tryd.func45, Tryd.ntmps45
            go_upto_region 5 with (first | ((with_reducible refine at_alloc ?_); refine slz hM ?_ (hz := zero_a16); clear hM; intro g3 w1 hM) | ((with_reducible refine (HD.out _).mono ?_); rintro e w1 ⟨A, n, c, off, rfl, hb⟩; replace hM := hM.newThing hb; clear hb))
            have hn := (bT_reads (hM.thing _ (List.Mem.head _))).2.1
            rw [h17.out] at hn
            subst hn
            obtain ⟨sg, so, rfl, _, _⟩ := (bT_reads (hM.thing _ (List.Mem.head _))).1.2 (by decide)
            have HX := Lib.hid (fun w' (h : (bT (.slice (some ⟨sg, so, none⟩) 17 c) ys).P w') => HX0.out _ _ _ _ _ h (by decide))
            go_upto_region 10 with (first | ((first | with_reducible refine at_load ?_ | ((with_reducible refine at_load_g ?_ ?_); (· rfl))); refine lo (HX.out _ (hM.thing _ (List.Mem.head _))) ?_ (hty := one_u8)))
            obtain ⟨g5, hg5⟩ := hM.name1
            subst hg5
            refine wp_region_allHM hM (HeldM [⟨g5, 22, 16, ndC nd0⟩]) (by kernel_rfl) ?_
            clear hM
            intro wd hM
            have hS := HeldM.of (hM.subL (L' := [⟨g5, 22, 16, ndC nd0⟩]) (List.Sublist.cons_cons _ (List.nil_sublist _)))
            refine wpAllH_takes [1, 0] (by kernel_rfl) (fun _ _ _ _ _ h => h) hS (by kernel_rfl) ?_
            simp only [pickOps, List.filterMap_cons, List.filterMap_nil, List.getElem?_cons_zero, List.getElem?_cons_succ]
            repeat ((with_reducible apply wpHeld_step); (· rfl); (· (intro w hSw; first | (go_simp; rfl) | ((obtain ⟨_, _, _, hM'⟩ := hSw; exact yields_load (C := fun _ => True) (sql hM' (hty := row_a16)) rfl)))); intro K hK; go_simp; (with_reducible refine hK _ ?_); clear hK K)
            refine wpHeld_nil ?_
            refine wpAllH_one 2 rfl (by kernel_rfl) ?_
            refine slw hM ?_ (hs := ndC_size _) (hty := row_a16)
            clear hM hS
            intro wx hM
            have hS := HeldM.of (hM.subL (L' := [⟨g5, 22, 16, ndC nd0⟩]) (List.Sublist.cons_cons _ (List.nil_sublist _)))
            refine wpList_then ⟨hS, ?_⟩
            refine wpAllH_takes [3] (by kernel_rfl) (fun _ _ _ _ _ h => h) hS (by kernel_rfl) ?_
            simp only [pickOps, List.filterMap_cons, List.filterMap_nil, List.getElem?_cons_zero, List.getElem?_cons_succ]
            repeat ((with_reducible apply wpHeld_step); (· rfl); (· (intro w hSw; first | (go_simp; rfl) | (fail))); intro K hK; go_simp; (with_reducible refine hK _ ?_); clear hK K)
            refine wpHeld_nil ?_
            refine wpAllH_done (by kernel_rfl) ?_
            go_wp2_with fail
            exact bodyPost_ret (results_mem_tct hM rfl (by rfl) (by rfl) (by repeat (first | exact List.Mem.head _ | apply List.Mem.tail)) row_a16 (by rfl)) rfl ⟨_, _, _, rfl, hPP.out, hM.below⟩
          · have u1 : decide ((x0 : Int) < 1) = false := decide_eq_false (by omega)
            have u2 : decide (8 < (x0 : Int)) = true := decide_eq_true (by omega)
            clear h1 h2 hBy hx0 hy hx9 h8 h9
            go_enter Tryd.func45, Tryd.ntmps45
            go_upto_region 5 with (first | ((with_reducible refine at_alloc ?_); refine slz hM ?_ (hz := zero_a16); clear hM; intro g3 w1 hM) | ((with_reducible refine (HD.out _).mono ?_); rintro e w1 ⟨A, n, c, off, rfl, hb⟩; replace hM := hM.newThing hb; clear hb))
            have hn := (bT_reads (hM.thing _ (List.Mem.head _))).2.1
            rw [h17.out] at hn
            subst hn
            obtain ⟨sg, so, rfl, _, _⟩ := (bT_reads (hM.thing _ (List.Mem.head _))).1.2 (by decide)
            have HX := Lib.hid (fun w' (h : (bT (.slice (some ⟨sg, so, none⟩) 17 c) ys).P w') => HX0.out _ _ _ _ _ h (by decide))
            go_upto_region 10 with (first | ((first | with_reducible refine at_load ?_ | ((with_reducible refine at_load_g ?_ ?_); (· rfl))); refine lo (HX.out _ (hM.thing _ (List.Mem.head _))) ?_ (hty := one_u8)))
            obtain ⟨g5, hg5⟩ := hM.name1
            subst hg5
            refine wp_region_allHM hM (HeldM [⟨g5, 22, 16, ndC nd0⟩]) (by kernel_rfl) ?_
            clear hM
            intro wd hM
            have hS := HeldM.of (hM.subL (L' := [⟨g5, 22, 16, ndC nd0⟩]) (List.Sublist.cons_cons _ (List.nil_sublist _)))
            refine wpAllH_takes [1, 0] (by kernel_rfl) (fun _ _ _ _ _ h => h) hS (by kernel_rfl) ?_
            simp only [pickOps, List.filterMap_cons, List.filterMap_nil, List.getElem?_cons_zero, List.getElem?_cons_succ]
            repeat ((with_reducible apply wpHeld_step); (· rfl); (· (intro w hSw; first | (go_simp; rfl) | ((obtain ⟨_, _, _, hM'⟩ := hSw; exact yields_load (C := fun _ => True) (sql hM' (hty := row_a16)) rfl)))); intro K hK; go_simp; (with_reducible refine hK _ ?_); clear hK K)
            refine wpHeld_nil ?_
            refine wpAllH_one 2 rfl (by kernel_rfl) ?_
            refine slw hM ?_ (hs := ndC_size _) (hty := row_a16)
            clear hM hS
            intro wx hM
            have hS := HeldM.of (hM.subL (L' := [⟨g5, 22, 16, ndC nd0⟩]) (List.Sublist.cons_cons _ (List.nil_sublist _)))
            refine wpList_then ⟨hS, ?_⟩
            refine wpAllH_takes [3] (by kernel_rfl) (fun _ _ _ _ _ h => h) hS (by kernel_rfl) ?_
            simp only [pickOps, List.filterMap_cons, List.filterMap_nil, List.getElem?_cons_zero, List.getElem?_cons_succ]
            repeat ((with_reducible apply wpHeld_step); (· rfl); (· (intro w hSw; first | (go_simp; rfl) | (fail))); intro K hK; go_simp; (with_reducible refine hK _ ?_); clear hK K)
            refine wpHeld_nil ?_
            refine wpAllH_done (by kernel_rfl) ?_
            go_wp2_with fail
            exact bodyPost_ret (results_mem_tct hM rfl (by rfl) (by rfl) (by repeat (first | exact List.Mem.head _ | apply List.Mem.tail)) row_a16 (by rfl)) rfl ⟨_, _, _, rfl, hPP.out, hM.below⟩
  · have hPP : Hid (PP ys e0 0 nd0 e0) := Lib.hid ⟨by unfold ppE; rw [if_pos h0], fun _ => ⟨rfl, rfl⟩, fun h => absurd h h0⟩
    have r1 : ¬ ((e0 : Int) = 0) := by omega
    clear h0 hBy
    go_enter Tryd.func45, Tryd.ntmps45
    go_upto_region 4 with (first | ((with_reducible refine at_alloc ?_); refine slz hM ?_ (hz := zero_a16); clear hM; intro g3 w1 hM) | ((with_reducible refine (HD.out _).mono ?_); rintro e w1 ⟨A, n, c, off, rfl, hb⟩; replace hM := hM.newThing hb; clear hb))
    obtain ⟨g5, hg5⟩ := hM.name1
    subst hg5
    refine wp_region_allHM hM (HeldM [⟨g5, 22, 16, ndC nd0⟩]) (by kernel_rfl) ?_
    clear hM
    intro wd hM
    have hS := HeldM.of (hM.subL (L' := [⟨g5, 22, 16, ndC nd0⟩]) (List.Sublist.cons_cons _ (List.nil_sublist _)))
    refine wpAllH_takes [1, 2, 0] (by kernel_rfl) (fun _ _ _ _ _ h => h) hS (by kernel_rfl) ?_
    simp only [pickOps, List.filterMap_cons, List.filterMap_nil, List.getElem?_cons_zero, List.getElem?_cons_succ]
    repeat ((with_reducible apply wpHeld_step); (· rfl); (· (intro w hSw; first | (go_simp; rfl) | ((obtain ⟨_, _, _, hM'⟩ := hSw; exact yields_load (C := fun _ => True) (sql hM' (hty := row_a16)) rfl)))); intro K hK; go_simp; (with_reducible refine hK _ ?_); clear hK K)
    refine wpHeld_nil ?_
    refine wpAllH_one 3 rfl (by kernel_rfl) ?_
    refine slw hM ?_ (hs := ndC_size _) (hty := row_a16)
    clear hM hS
    intro wx hM
    have hS := HeldM.of (hM.subL (L' := [⟨g5, 22, 16, ndC nd0⟩]) (List.Sublist.cons_cons _ (List.nil_sublist _)))
    refine wpList_then ⟨hS, ?_⟩
    refine wpAllH_takes [4] (by kernel_rfl) (fun _ _ _ _ _ h => h) hS (by kernel_rfl) ?_
    simp only [pickOps, List.filterMap_cons, List.filterMap_nil, List.getElem?_cons_zero, List.getElem?_cons_succ]
    repeat ((with_reducible apply wpHeld_step); (· rfl); (· (intro w hSw; first | (go_simp; rfl) | (fail))); intro K hK; go_simp; (with_reducible refine hK _ ?_); clear hK K)
    refine wpHeld_nil ?_
    refine wpAllH_done (by kernel_rfl) ?_
    go_wp2_with fail
    exact bodyPost_ret (results_mem_tct hM rfl (by rfl) (by rfl) (by repeat (first | exact List.Mem.head _ | apply List.Mem.tail)) row_a16 (by rfl)) rfl ⟨_, _, _, rfl, hPP.out, hM.below⟩
end Go.Proofs.YtdnnjgjaffkdfaaDoor
