/- MerklePaths: the walk. MerklePaths' arguments. -/
import Derived.Test.YtcfojkecmchbdaaDoorMeb
import Derived.Test.YtcfojkecmchbdaaDoorMnq
namespace Go.Proofs.YtcfojkecmchbdaaDoor
open Go Go.RowKit Go.Bul Go.Thg Go.Lin
theorem zero_bool : ZeroTy Tryd.prog 4 1 #[.bool false] := ⟨⟨.bool false, by kernel_rfl, rfl, rfl⟩⟩
theorem lbxs {w w0 : World} {G : List Nat} {L : List Ent} {R : List Thing} {ops : Array Oper} {rest : List Oper} {o : Oper} {a : Act} {Q : Exit → Act → World → Prop} {ty : TypeId} {x : Operand} {A : Option Addr} {n c : Nat} (hM : Mem G w0 L R w) (h : ∀ g w', Mem G w0 (⟨g, ty, 1, #[.slice A n c]⟩ :: L) R w' → wpList Tryd.prog ops Q rest (a.put o.dst (.pointer (some ⟨g, 0, none⟩))) w') (hgd : o.guard = none := by rfl) (ho : o.op = .box ty x := by rfl) (hx : a.eval x = .slice A n c := by rfl) : wpList Tryd.prog ops Q (o :: rest) a w := by
  refine wpList_plain hgd fun K hK => ?_
  unfold Oper.wp execOp
  simp only [ho, hx, Instr.box, newVar, newRow, newObj, Sem.run_bind, Sem.run_pure, Value.cells]
  exact hK _ _ (h _ _ (hM.alloc _ _ rfl))
theorem results_mem_one {P : Program} {w w0 : World} {G : List Nat} {L : List Ent} {R : List Thing} (hM : Mem G w0 L R w) {fn : Func} {p : Tmp} {ty : TypeId} (h : fn.results = #[.cell p ty]) {tmps : Array Value} {g : Nat} (hp : tmps.getD p undef = .pointer (some ⟨g, 0, none⟩)) {t : TypeId} {n : Nat} {cs : Array Value}
    (hL : ⟨g, t, n, cs⟩ ∈ L) (hty : OneTy P ty) {v : Value} (hv : cs[0]? = some v) : (results fn tmps).run P w = .ok v w := by
  have hc : w.cell? ⟨g, 0, none⟩ = some v := ((hM.blk hL).cell 0).trans hv
  have hl := run_one_load (P := P) hty hc
  rw [Array.getD_eq_getD_getElem?] at hp
  simp [results, h, hp, asAddr, hl]
theorem NIn.putObj {W : World} {A : Option Addr} {n l : Nat} {xs : List Nd} {r : Loop} (h : NIn W A n xs) (hl : W.heap[l]? = some (.loop r)) (o : Obj) : NIn (W.putObj l o) A n xs :=
  ⟨h.1, fun hn => by
    obtain ⟨g, off, h1, h2, h3⟩ := h.2 hn
    refine ⟨g, off, h1, by simpa using h2, fun j u hu => ?_⟩
    have h4 := h3 j u hu
    have hne : g ≠ l := by
      rintro rfl
      simp [World.cell?, hl] at h4
    exact (World.cell?_of_block (a := ⟨g, off + j, none⟩) (World.putObj_heap_other hne)).trans h4⟩
attribute [local go_sem] Oper.semAt_some
set_option maxRecDepth 100000 in
set_option maxHeartbeats 4000000 in
theorem mpaths_any (A : Option Addr) (n c : Nat) (leaves : List Nd) (stop : Int) (w : World) (hr : NIn w A n leaves) (hn : n ≤ 9223372036854775807) (hT : Tab w) :
    Calls Tryd.prog 7 #[.slice A n c, .int .i64 stop] w fun e w' => e = .returned (.bool true) ∧ Below w.heap.size w w' := by
  have hM := Mem.start [] w
  have HK := Lib.hid (fun w' (hb : Below w.heap.size w w') => known_any w' (hT.keep hb))
  by_cases h64 : 64 < n
  · have c1 : decide ((64 : Int) < (n : Int)) = true := decide_eq_true (by omega)
    have c2 : decide (64 < n) = true := decide_eq_true h64
    clear hr hn hT h64
    refine (callsIn_wide (n := 3)).1 ?_
    refine callsIn_of_wp_marks Tryd.func7 rfl trivial ?_ rfl
    refine wpIn_wide.2 ?_
    simp only [Tryd.ntmps7, List.size_toArray, List.length_cons, List.length_nil, Nat.reduceAdd, Nat.reduceSub, Array.replicate_succ, Array.replicate_zero, List.push_toArray, List.append_toArray, List.nil_append, List.cons_append]
    go_wp2_with (first | ((with_reducible refine (HK.out _ hM.below).mono ?_); rintro e w1 ⟨rfl, hb⟩; replace hM := hM.step hb; clear hb) | ((with_reducible refine at_box ?_); first | (refine lbxs hM ?_; clear hM; intro g2 w2 hM) | (refine lbi hM ?_; clear hM; intro g3 w3 hM)) | ((with_reducible refine at_alloc ?_); refine lz hM ?_ (hz := zero_bool); clear hM; intro g4 w4 hM) | ((first | with_reducible refine at_load ?_ | ((with_reducible refine at_load_g ?_ ?_); (· rfl))); first | refine ll hM ?_ | refine lc hM ?_ | refine lp hM ?_) | ((with_reducible refine at_store ?_); first | (refine lw hM ?_; clear hM; intro wx hM) | (refine ls hM ?_; clear hM; intro wx hM) | (refine lt hM ?_; clear hM; intro wx hM)) | ((with_reducible refine at_alloc ?_); refine lz hM ?_; clear hM; intro gx wx hM) | ((with_reducible refine at_box ?_); refine lb hM ?_; clear hM; intro gx wx hM))
    exact ⟨_, results_mem_one hM rfl (by rfl) (by repeat (first | exact List.Mem.head _ | apply List.Mem.tail)) one_bool rfl, rfl, hM.below⟩
  · have c1 : decide ((64 : Int) < (n : Int)) = false := decide_eq_false (by omega)
    have c2 : decide (64 < n) = false := decide_eq_false h64
    have hl := hr.len
    have HO := Lib.hid (fun w' (hb : Below w.heap.size w w') => own_any A n c leaves w' (hr.keep hb) (by omega))
    have HRR := Lib.hid (fun w' (hb : Below w.heap.size w w') => rroot_any A n c leaves w' (hr.keep hb) (by omega))
    generalize rootN leaves = Z at HRR
    by_cases hce : chkE n = 0
    · obtain ⟨h, hh, he, hlog⟩ := chkE_yes hce
      have hln : leaves.length = 2 ^ h := by omega
      have hp : 2 ^ h ≤ 2 ^ 10 := Nat.pow_le_pow_right (by decide) hh
      have HPY := Lib.hid (fun A' c' w' (hin : NIn w' A' n leaves) (hb : Below w.heap.size w w') => paths_yes A' n c' h leaves w' hin hln hh (hT.keep hb))
      have HRP := Lib.hid (fun (k : Nat) (hk : k < n) w' (hb : Below w.heap.size w w') => show Calls Tryd.prog 20 #[.slice A n c, .int .i64 (k : Nat)] w' fun e w'' => ∃ A' c', e = .returned (.tuple #[.slice A' h c', .int .i64 0]) ∧ Becomes [] w' (rnT (.slice A' h c') (sibsF leaves k h)) w'' from by
        have h1 := rpath_any A n c leaves (k : Int) w' (hr.keep hb) (by omega)
        have hpe : pathF leaves (k : Int) = (sibsF leaves k h, 0) := by
          unfold pathF
          rw [if_neg (by rw [← hl, hce]; decide), if_neg (by omega), ← hl, hlog]
          simp
        rw [hpe] at h1
        simp only [sibsF_length] at h1
        exact h1)
      have HL1 := Lib.hid (show (lvl leaves h).length = 1 by rw [lvl_length, hln]; exact Nat.div_self (Nat.pow_pos (by decide)))
      have HLN := Lib.hid hln
      have HH := Lib.hid hh
      have HL := Lib.hid hl
      have H1000 := Lib.hid (show h ≤ 1000000 by omega)
      rw [hce] at HRR
      have n0 : (n : Int) ≤ 64 := by omega
      clear hce hr hn hT h64 hl hln hp he hlog hh
      refine (callsIn_wide (n := 3)).1 ?_
      refine callsIn_of_wp_marks Tryd.func7 rfl trivial ?_ rfl
      refine wpIn_wide.2 ?_
      simp only [Tryd.ntmps7, List.size_toArray, List.length_cons, List.length_nil, Nat.reduceAdd, Nat.reduceSub, Array.replicate_succ, Array.replicate_zero, List.push_toArray, List.append_toArray, List.nil_append, List.cons_append]
      go_wp2_with (first | ((with_reducible refine (HK.out _ hM.below).mono ?_); rintro e w1 ⟨rfl, hb⟩; replace hM := hM.step hb; clear hb) | ((with_reducible refine (HO.out _ hM.below).mono ?_); rintro e w1 ⟨A1, c1, rfl, hb⟩; replace hM := hM.newThing hb; clear hb) | ((with_reducible refine (HPY.out _ _ _ (ndT_in (hM.thing _ (List.Mem.head _))) hM.below).mono ?_); rintro e w1 ⟨Bs, B, d, vs, C, e', rfl, hvl, hG⟩; have HVL := Lib.hid hvl; replace hM := hM.frame hG; clear hG hvl) | ((with_reducible refine at_box ?_); first | (refine lbxs hM ?_; clear hM; intro g2 w2 hM) | (refine lbi hM ?_; clear hM; intro g3 w3 hM)) | ((with_reducible refine at_alloc ?_); first | (refine lz hM ?_ (hz := zero_bool); clear hM; intro g4 w4 hM) | (refine lz hM ?_ (hz := zero_int); clear hM; intro g6 w4 hM)) | ((with_reducible refine at_store ?_); refine ls hM ?_ (v := .int .i64 0); clear hM; intro wx hM) | ((first | with_reducible refine at_load ?_ | ((with_reducible refine at_load_g ?_ ?_); (· rfl))); first | refine ll hM ?_ | refine lc hM ?_ | refine lp hM ?_) | ((with_reducible refine at_store ?_); first | (refine lw hM ?_; clear hM; intro wx hM) | (refine ls hM ?_; clear hM; intro wx hM) | (refine lt hM ?_; clear hM; intro wx hM)) | ((with_reducible refine at_alloc ?_); refine lz hM ?_; clear hM; intro gx wx hM) | ((with_reducible refine at_box ?_); refine lb hM ?_; clear hM; intro gx wx hM))
      replace hM := hM.subR (R' := slT (.slice B (h + 1) d) (vs ++ [.slice C 1 e']) :: ndT (.slice C 1 e') (lvl leaves h) :: ndRows vs (lvls leaves h)) (by simp)
      obtain ⟨TR, hTR⟩ : ∃ TR, slT (.slice B (h + 1) d) (vs ++ [.slice C 1 e']) :: ndT (.slice C 1 e') (lvl leaves h) :: ndRows vs (lvls leaves h) = TR := ⟨_, rfl⟩
      have HTREE := Lib.hid (fun W (hm : Mem [] w [] TR W) => tree_in (w0 := w) (w := W) (by rw [← hTR] at hm; exact hm) HVL.out HL1.out)
      rw [hTR] at hM
      clear hTR HVL
      simp only [List.cons_append, List.nil_append] at hM
      obtain ⟨D, hD⟩ : ∃ D, w1.heap.size = D := ⟨_, rfl⟩
      refine (wpIn_wide (n := 3)).1 ?_
      refine rangeFunc_of 2 rfl (enters_of Tryd.func44 (by kernel_rfl) rfl) ?_
      intro rec hR
      have hM2 : Mem [] w [⟨Bs, 87, 1, #[.slice B (h + 1) d]⟩, ⟨g6, 3, 1, #[.int .i64 (0 : Nat)]⟩, ⟨g4, 4, 1, #[.bool false]⟩, ⟨g3, 3, 1, #[.int .i64 stop]⟩, ⟨g2, 33, 1, #[.slice A n c]⟩] (objT (w1.heap.size + 1) (.loop (rec .ready none)) :: objT w1.heap.size (.deferred (some [])) :: TR) _ := hM.loopNew (rec .ready none)
      clear hM
      rw [hD] at hM2 ⊢
      clear hD
      obtain ⟨l, hl⟩ : ∃ l, D + 1 = l := ⟨_, rfl⟩
      rw [hl] at hM2 ⊢
      clear hl
      refine (paths2_in 2 (by decide) l Bs d h B leaves HLN.out HH.out (fun k W => Mem [] w [⟨Bs, 87, 1, #[.slice B (h + 1) d]⟩, ⟨g6, 3, 1, #[.int .i64 (k : Nat)]⟩, ⟨g4, 4, 1, #[.bool false]⟩, ⟨g3, 3, 1, #[.int .i64 stop]⟩, ⟨g2, 33, 1, #[.slice A n c]⟩] (objT l (.loop (rec .ready none)) :: objT D (.deferred (some [])) :: TR) W)
        (fun k W => (k : Int) = stop ∧ Mem [] w [⟨Bs, 87, 1, #[.slice B (h + 1) d]⟩, ⟨g6, 3, 1, #[.int .i64 (k : Nat)]⟩, ⟨g4, 4, 1, #[.bool false]⟩, ⟨g3, 3, 1, #[.int .i64 stop]⟩, ⟨g2, 33, 1, #[.slice A n c]⟩] (objT l (.loop (rec .done (some (.exit 0)))) :: objT D (.deferred (some [])) :: TR) W)
        (fun k W hm => ⟨(hm.blk (List.Mem.head _)).cell 0, HTREE.out W ((hm.subL (List.nil_sublist _)).subR (List.Sublist.cons _ (List.Sublist.cons _ (List.Sublist.refl _))))⟩)
        (fun k W W' hm hb => hm.step hb) ?yield _ hM2).mono ?after
      case yield =>
        intro k A' c' W hM hk hin
        rw [← HL.out] at hk
        have hP := HRP.out k hk
        have hS := fun A2 c2 w' (h1 : NIn w' A' h (sibsF leaves k h)) (h2 : NIn w' A2 h (sibsF leaves k h)) => same_yes A' h c' A2 h c2 (sibsF leaves k h) w' h1 h2 H1000.out
        refine round_goes hR hM.loopAt rfl ?_
        gi_wp2
        refine ⟨hM.loopAt, ?_⟩
        have hml := hM.loopAt
        replace hM := hM.loopPut (rec .busy none)
        have hin2 : NIn (W.putObj l (.loop (rec .busy none))) A' h (sibsF leaves k h) := hin.putObj hml _
        obtain ⟨wy, hwy⟩ : ∃ wy, W.putObj l (Obj.loop (rec LoopState.busy none)) = wy := ⟨_, rfl⟩
        rw [hwy] at hM hin2 ⊢
        clear hwy hin hml
        have k0 : (0 : Int) ≤ (k : Int) := Int.natCast_nonneg _
        have hw : IntKind.i64.wrap ((k : Int) + 1) = (k : Int) + 1 := IntWalk.i64_in _ ⟨by omega, by omega⟩
        have c2 : wy.cell? ⟨g2, 0, none⟩ = some (.slice A n c) := (hM.blk (List.Mem.tail _ (List.Mem.tail _ (List.Mem.tail _ (List.Mem.tail _ (List.Mem.head _)))))).cell 0
        by_cases hst : (k : Int) + 1 = stop
        · have r1 : ((k : Int) + 1 == stop) = true := by simpa using hst
          have HST := Lib.hid hst
          clear hst
          gi_wp2_with (first | (refine ⟨trivial, ?_⟩; gi_at_call 20; refine (CallsIn.inRound l (callsIn_wide.2 (hP _ hM.below))).mono ?_; rintro e W1 ⟨A2, c2', rfl, hb⟩; replace hM := hM.newThing hb; replace hin2 := hin2.keep hb.kept.below; clear hb c2; have e6 : W1.cell? ⟨g6, 0, none⟩ = some (.int .i64 (k : Nat)) := (hM.blk (List.Mem.tail _ (List.Mem.head _))).cell 0) | (refine ⟨trivial, ?_⟩; gi_at_call 21; refine (CallsIn.inRound l (callsIn_wide.2 (hS _ _ _ hin2 (rnT_in (hM.thing _ (List.Mem.head _)))))).mono ?_; rintro e W2 ⟨rfl, hb⟩; replace hM := (hM.step hb).subR (List.sublist_cons_self _ _); clear hb e6 hin2; have f6 : W2.cell? ⟨g6, 0, none⟩ = some (.int .i64 (k : Nat)) := (hM.blk (List.Mem.tail _ (List.Mem.head _))).cell 0; have fz : W2.frozen? ⟨g6, 0, none⟩ = false := (hM.blk (List.Mem.tail _ (List.Mem.head _))).free 0; have hMs := hM.setCell (UpdL.tail _ (UpdL.head _ _ _ _ _)) 0 (.int .i64 ((k : Int) + 1)); have s6 : (W2.setCell ⟨g6, 0, none⟩ (.int .i64 ((k : Int) + 1))).cell? ⟨g6, 0, none⟩ = some (.int .i64 ((k : Int) + 1)) := (hMs.blk (List.Mem.tail _ (List.Mem.head _))).cell 0; have s3 : (W2.setCell ⟨g6, 0, none⟩ (.int .i64 ((k : Int) + 1))).cell? ⟨g3, 0, none⟩ = some (.int .i64 stop) := (hMs.blk (List.Mem.tail _ (List.Mem.tail _ (List.Mem.tail _ (List.Mem.head _))))).cell 0))
          exact ⟨hMs.loopAt, .inr ⟨rfl, HST.out, hMs.loopPut _⟩⟩
        · have r1 : ((k : Int) + 1 == stop) = false := by simpa using hst
          clear hst
          gi_wp2_with (first | (refine ⟨trivial, ?_⟩; gi_at_call 20; refine (CallsIn.inRound l (callsIn_wide.2 (hP _ hM.below))).mono ?_; rintro e W1 ⟨A2, c2', rfl, hb⟩; replace hM := hM.newThing hb; replace hin2 := hin2.keep hb.kept.below; clear hb c2; have e6 : W1.cell? ⟨g6, 0, none⟩ = some (.int .i64 (k : Nat)) := (hM.blk (List.Mem.tail _ (List.Mem.head _))).cell 0) | (refine ⟨trivial, ?_⟩; gi_at_call 21; refine (CallsIn.inRound l (callsIn_wide.2 (hS _ _ _ hin2 (rnT_in (hM.thing _ (List.Mem.head _)))))).mono ?_; rintro e W2 ⟨rfl, hb⟩; replace hM := (hM.step hb).subR (List.sublist_cons_self _ _); clear hb e6 hin2; have f6 : W2.cell? ⟨g6, 0, none⟩ = some (.int .i64 (k : Nat)) := (hM.blk (List.Mem.tail _ (List.Mem.head _))).cell 0; have fz : W2.frozen? ⟨g6, 0, none⟩ = false := (hM.blk (List.Mem.tail _ (List.Mem.head _))).free 0; have hMs := hM.setCell (UpdL.tail _ (UpdL.head _ _ _ _ _)) 0 (.int .i64 ((k : Int) + 1)); have s6 : (W2.setCell ⟨g6, 0, none⟩ (.int .i64 ((k : Int) + 1))).cell? ⟨g6, 0, none⟩ = some (.int .i64 ((k : Int) + 1)) := (hMs.blk (List.Mem.tail _ (List.Mem.head _))).cell 0; have s3 : (W2.setCell ⟨g6, 0, none⟩ (.int .i64 ((k : Int) + 1))).cell? ⟨g3, 0, none⟩ = some (.int .i64 stop) := (hMs.blk (List.Mem.tail _ (List.Mem.tail _ (List.Mem.tail _ (List.Mem.head _))))).cell 0))
          exact ⟨hMs.loopAt, .inl ⟨rfl, hMs.loopPut _⟩⟩
      case after =>
        rintro e W ⟨⟨v, rfl⟩, hM | ⟨k, hks, hM⟩⟩
        · refine ⟨⟨v, rfl⟩, .inl ⟨hM.loopAt, ?_⟩⟩
          replace hM := hM.loopPut (rec .exhausted none)
          obtain ⟨wy, hwy⟩ : ∃ wy, W.putObj l (Obj.loop (rec LoopState.exhausted none)) = wy := ⟨_, rfl⟩
          rw [hwy] at hM ⊢
          clear hwy
          rw [← HL.out] at hM
          have r1 : ((n : Int) == (n : Int)) = true := by simp
          go_wp2_with (first | ((with_reducible refine (HRR.out _ hM.below).mono ?_); rintro e w1 ⟨rfl, hb⟩; replace hM := hM.step hb; clear hb) | ((first | with_reducible refine at_load ?_ | ((with_reducible refine at_load_g ?_ ?_); (· rfl))); refine lc hM ?_) | ((with_reducible refine at_alloc ?_); refine lz hM ?_; clear hM; intro g9 w9 hM) | ((with_reducible refine at_store ?_); first | (refine lw hM ?_; clear hM; intro wx hM) | (refine ls hM ?_; clear hM; intro wx hM)))
          refine ⟨by simp, .inl ⟨_, _, rfl, run_takeDeferred hM.markAt, ?_⟩⟩
          replace hM := hM.markPut (.deferred none)
          exact ⟨_, results_mem_one hM rfl (by rfl) (by repeat (first | exact List.Mem.head _ | apply List.Mem.tail)) one_bool rfl, rfl, hM.below⟩
        · refine ⟨⟨v, rfl⟩, .inr ⟨_, hM.loopAt, ?_⟩⟩
          replace hM := hM.loopPut (rec .exhausted (some (.exit 0)))
          obtain ⟨wy, hwy⟩ : ∃ wy, W.putObj l (Obj.loop (rec LoopState.exhausted (some (.exit 0)))) = wy := ⟨_, rfl⟩
          rw [hwy] at hM ⊢
          clear hwy
          subst hks
          refine wpIn_wide.2 ?_
          by_cases hkn : k = n
          · subst hkn
            have r1 : ((k : Int) == (k : Int)) = true := by simp
            go_wp2_with (first | ((with_reducible refine (HRR.out _ hM.below).mono ?_); rintro e w1 ⟨rfl, hb⟩; replace hM := hM.step hb; clear hb) | ((first | with_reducible refine at_load ?_ | ((with_reducible refine at_load_g ?_ ?_); (· rfl))); refine lc hM ?_) | ((with_reducible refine at_alloc ?_); refine lz hM ?_; clear hM; intro g9 w9 hM) | ((with_reducible refine at_store ?_); first | (refine lw hM ?_; clear hM; intro wx hM) | (refine ls hM ?_; clear hM; intro wx hM)))
            refine ⟨by simp, .inl ⟨_, _, rfl, run_takeDeferred hM.markAt, ?_⟩⟩
            replace hM := hM.markPut (.deferred none)
            exact ⟨_, results_mem_one hM rfl (by rfl) (by repeat (first | exact List.Mem.head _ | apply List.Mem.tail)) one_bool rfl, rfl, hM.below⟩
          · have r1 : ((k : Int) == (n : Int)) = false := by simp; omega
            have r2 : (k == n) = false := by simpa using hkn
            go_wp2_with (first | ((with_reducible refine (HRR.out _ hM.below).mono ?_); rintro e w1 ⟨rfl, hb⟩; replace hM := hM.step hb; clear hb) | ((first | with_reducible refine at_load ?_ | ((with_reducible refine at_load_g ?_ ?_); (· rfl))); refine lc hM ?_) | ((with_reducible refine at_alloc ?_); refine lz hM ?_; clear hM; intro g9 w9 hM) | ((with_reducible refine at_store ?_); first | (refine lw hM ?_; clear hM; intro wx hM) | (refine ls hM ?_; clear hM; intro wx hM)))
            refine ⟨by simp, .inl ⟨_, _, rfl, run_takeDeferred hM.markAt, ?_⟩⟩
            replace hM := hM.markPut (.deferred none)
            exact ⟨_, results_mem_one hM rfl (by rfl) (by repeat (first | exact List.Mem.head _ | apply List.Mem.tail)) one_bool rfl, rfl, hM.below⟩
    · have HPN := Lib.hid (fun A' c' w' => paths_no A' n c' w' (by omega) hce)
      have q2 : (chkE n != 0) = true := by simpa using hce
      generalize chkE n = ce at q2 HRR
      clear hce hr hn hT h64 hl
      refine (callsIn_wide (n := 3)).1 ?_
      refine callsIn_of_wp_marks Tryd.func7 rfl trivial ?_ rfl
      refine wpIn_wide.2 ?_
      simp only [Tryd.ntmps7, List.size_toArray, List.length_cons, List.length_nil, Nat.reduceAdd, Nat.reduceSub, Array.replicate_succ, Array.replicate_zero, List.push_toArray, List.append_toArray, List.nil_append, List.cons_append]
      go_wp2_with (first | ((with_reducible refine (HK.out _ hM.below).mono ?_); rintro e w1 ⟨rfl, hb⟩; replace hM := hM.step hb; clear hb) | ((with_reducible refine (HO.out _ hM.below).mono ?_); rintro e w1 ⟨A1, c1, rfl, hb⟩; replace hM := hM.newThing hb; clear hb) | ((with_reducible refine (HPN.out _ _ _).mono ?_); rintro e w1 ⟨rfl, hb⟩; replace hM := hM.step hb; clear hb) | ((with_reducible refine at_box ?_); first | (refine lbxs hM ?_; clear hM; intro g2 w2 hM) | (refine lbi hM ?_; clear hM; intro g3 w3 hM)) | ((with_reducible refine at_alloc ?_); refine lz hM ?_ (hz := zero_bool); clear hM; intro g4 w4 hM) | ((with_reducible refine at_store ?_); refine ls hM ?_ (v := .int .i64 0); clear hM; intro wx hM) | ((first | with_reducible refine at_load ?_ | ((with_reducible refine at_load_g ?_ ?_); (· rfl))); first | refine ll hM ?_ | refine lc hM ?_ | refine lp hM ?_) | ((with_reducible refine at_store ?_); first | (refine lw hM ?_; clear hM; intro wx hM) | (refine ls hM ?_; clear hM; intro wx hM) | (refine lt hM ?_; clear hM; intro wx hM)) | ((with_reducible refine at_alloc ?_); refine lz hM ?_; clear hM; intro gx wx hM) | ((with_reducible refine at_box ?_); refine lb hM ?_; clear hM; intro gx wx hM))
      obtain ⟨D, hD⟩ : ∃ D, w1.heap.size = D := ⟨_, rfl⟩
      refine (wpIn_wide (n := 3)).1 ?_
      refine rangeFunc_of 2 rfl (enters_of Tryd.func43 (by kernel_rfl) rfl) ?_
      intro rec hR
      have hM2 := hM.loopNew (rec .ready none)
      refine (paths1_in 2 _ _).mono ?_
      rintro e W ⟨⟨v, rfl⟩, rfl⟩
      refine ⟨⟨v, rfl⟩, .inl ⟨hM2.loopAt, ?_⟩⟩
      replace hM2 := hM2.loopPut (rec .exhausted none)
      clear hM
      rw [hD] at hM2 ⊢
      obtain ⟨wy, hwy⟩ : ∃ wy, ((w1.alloc (Obj.deferred (some []))).alloc (Obj.loop (rec LoopState.ready none))).putObj (D + 1) (Obj.loop (rec LoopState.exhausted none)) = wy := ⟨_, rfl⟩
      rw [hwy] at hM2 ⊢
      clear hwy hD
      go_wp2_with (first | ((with_reducible refine (HRR.out _ hM2.below).mono ?_); rintro e w1 ⟨rfl, hb⟩; replace hM2 := hM2.step hb; clear hb) | ((with_reducible refine at_load ?_); refine lc hM2 ?_) | ((with_reducible refine at_alloc ?_); refine lz hM2 ?_; clear hM2; intro g4 w4 hM2) | ((with_reducible refine at_store ?_); first | (refine lw hM2 ?_; clear hM2; intro wx hM2) | (refine ls hM2 ?_; clear hM2; intro wx hM2)))
      refine ⟨by simp, .inl ⟨_, _, rfl, run_takeDeferred hM2.markAt, ?_⟩⟩
      have hM3 := hM2.markPut (.deferred none)
      exact ⟨_, results_mem_one hM3 rfl (by rfl) (by repeat (first | exact List.Mem.head _ | apply List.Mem.tail)) one_bool rfl, rfl, hM3.below⟩
end Go.Proofs.YtcfojkecmchbdaaDoor
namespace Go.Proofs.YtcfojkecmchbdaaDoor
open Go Go.RowKit Go.Bul Go.Lin
theorem mpaths_row (A : Option Addr) (n c : Nat) (bs : List Nat) (stop : Int) (w : World) (hr : RdArr w A n 16 bs) (hn : n ≤ c) (hc : c ≤ 9223372036854775807) (hT : Tab w) :
    Calls Tryd.prog 7 #[.slice A n c, .int .i64 stop] w fun e w' => e = .returned (.bool true) ∧ Below w.heap.size w w' := by
  obtain ⟨l, hl⟩ := nin_of hr
  exact mpaths_any A n c l stop w hl (by omega) hT
end Go.Proofs.YtcfojkecmchbdaaDoor
