/- Seat c: UTF-8: Printable. -/
import Derived.Test.YtlidpdjainmaiaaGreatDoorGl
namespace Go.Proofs.YtlidpdjainmaiaaGreatDoor
open Go Go.RowKit Go.Bul Go.Thg Go.Lin Go.Cht
theorem vl_uni {cs : List (List Nat)} (h : Vl cs) : ∀ ds, Vl ds → cs.flatten = ds.flatten → cs = ds := by
  induction h with
  | nil =>
    intro ds hd e
    cases hd with
    | nil => rfl
    | cons d ds h1 _ => simp [h1.pos] at e
  | cons c cs h1 h2 ih =>
    intro ds hd e
    obtain ⟨es, e1, e2, e3⟩ := vl_split (n := c.length) (by rw [List.flatten_cons]; exact meas_code h1 _) hd e
    rw [List.flatten_cons] at e1 e3
    rw [e1, List.take_left, ih es e2 (by rw [← e3, List.drop_left])]
theorem results_mem_one {P : Program} {w w0 : World} {G : List Nat} {L : List Ent} {R : List Thing} (hM : Mem G w0 L R w) {fn : Func} {p : Tmp} {ty : TypeId} (h : fn.results = #[.cell p ty]) {tmps : Array Value} {g : Nat} (hp : tmps.getD p undef = .pointer (some ⟨g, 0, none⟩)) {t : TypeId} {n : Nat} {cs : Array Value}
    (hL : ⟨g, t, n, cs⟩ ∈ L) (hty : OneTy P ty) {v : Value} (hv : cs[0]? = some v) : (results fn tmps).run P w = .ok v w := by
  have hc : w.cell? ⟨g, 0, none⟩ = some v := ((hM.blk hL).cell 0).trans hv
  have hl := run_one_load (P := P) hty hc
  rw [Array.getD_eq_getD_getElem?] at hp
  simp [results, h, hp, asAddr, hl]
set_option maxRecDepth 100000 in
set_option maxHeartbeats 4000000 in
theorem printable_any (s : ByteArray) (w : World) (hsz : s.size ≤ 1000000000) : Calls Tryz.prog 39 #[.string s] w fun e w' => e = .returned (.bool (prtB (nums s))) ∧ Below w.heap.size w w' := by
  have hM := Mem.start [] w
  have HVL := Lib.hid (fun w => valid_any s w hsz)
  have HRU := Lib.hid (runes_any s)
  cases hv : vldB (nums s) with
  | false =>
    rw [hv] at HVL
    rw [prt_vld hv]
    refine (callsIn_wide (n := 3)).1 ?_
    refine callsIn_of_wp_marks Tryz.func39 rfl trivial ?_ rfl
    refine wpIn_wide.2 ?_
    simp only [Tryz.ntmps39, List.size_toArray, List.length_cons, List.length_nil, Nat.reduceAdd, Nat.reduceSub, Array.replicate_succ, Array.replicate_zero, List.push_toArray, List.append_toArray, List.nil_append, List.cons_append]
    go_wp2_with (first | ((with_reducible refine (HVL.out _).mono ?_); rintro e w1 ⟨rfl, hb⟩; replace hM := hM.step hb; clear hb) | ((with_reducible refine (HRU.out _).mono ?_); rintro e w1 ⟨gs, rfl, hA1⟩; replace hM := hM.frame hA1; clear hA1; simp only [List.cons_append, List.nil_append] at hM) | ((with_reducible refine at_alloc ?_); refine nlz hM ?_ (hz := zero_bool); clear hM; intro g2 w2 hM) | ((first | with_reducible refine at_load ?_ | ((with_reducible refine at_load_g ?_ ?_); (· rfl))); first | refine nll hM ?_ | refine nlc hM ?_ | refine nlp hM ?_) | ((with_reducible refine at_store ?_); first | (refine nlw hM ?_; clear hM; intro wx hM) | (refine nls hM ?_; clear hM; intro wx hM) | (refine nlt hM ?_; clear hM; intro wx hM)) | ((with_reducible refine at_alloc ?_); refine nlz hM ?_; clear hM; intro gx wx hM) | ((with_reducible refine at_box ?_); first | (refine nlb hM ?_; clear hM; intro gx wx hM) | (refine nlx hM ?_; clear hM; intro gx wx hM)))
    exact ⟨_, results_mem_one hM rfl (by rfl) (by repeat (first | exact List.Mem.head _ | assumption | apply List.Mem.tail)) one_bool rfl, rfl, hM.below⟩
  | true =>
    rw [hv] at HVL
    obtain ⟨cs, hcs, hfl⟩ := (vldB_iff _).1 hv
    have HCD := Lib.hid hcs.mem
    have HCS := Lib.hid hcs
    have HFL := Lib.hid hfl
    clear hcs hfl hv
    refine (callsIn_wide (n := 3)).1 ?_
    refine callsIn_of_wp_marks Tryz.func39 rfl trivial ?_ rfl
    refine wpIn_wide.2 ?_
    simp only [Tryz.ntmps39, List.size_toArray, List.length_cons, List.length_nil, Nat.reduceAdd, Nat.reduceSub, Array.replicate_succ, Array.replicate_zero, List.push_toArray, List.append_toArray, List.nil_append, List.cons_append]
    go_wp2_with (first | ((with_reducible refine (HVL.out _).mono ?_); rintro e w1 ⟨rfl, hb⟩; replace hM := hM.step hb; clear hb) | ((with_reducible refine (HRU.out _).mono ?_); rintro e w1 ⟨gs, rfl, hA1⟩; replace hM := hM.frame hA1; clear hA1; simp only [List.cons_append, List.nil_append] at hM) | ((with_reducible refine at_alloc ?_); refine nlz hM ?_ (hz := zero_bool); clear hM; intro g2 w2 hM) | ((first | with_reducible refine at_load ?_ | ((with_reducible refine at_load_g ?_ ?_); (· rfl))); first | refine nll hM ?_ | refine nlc hM ?_ | refine nlp hM ?_) | ((with_reducible refine at_store ?_); first | (refine nlw hM ?_; clear hM; intro wx hM) | (refine nls hM ?_; clear hM; intro wx hM) | (refine nlt hM ?_; clear hM; intro wx hM)) | ((with_reducible refine at_alloc ?_); refine nlz hM ?_; clear hM; intro gx wx hM) | ((with_reducible refine at_box ?_); first | (refine nlb hM ?_; clear hM; intro gx wx hM) | (refine nlx hM ?_; clear hM; intro gx wx hM)))
    obtain ⟨D, hD⟩ : ∃ D, w1.heap.size = D := ⟨_, rfl⟩
    refine (wpIn_wide (n := 3)).1 ?_
    refine rangeFunc_of 2 rfl (enters_of Tryz.func81 (by kernel_rfl) rfl) ?_
    intro rec hR2
    have hM2 := hM.loopNew (rec .ready none)
    clear hM
    rw [hD] at hM2 ⊢
    clear hD
    obtain ⟨l, hl⟩ : ∃ l, D + 1 = l := ⟨_, rfl⟩
    rw [hl] at hM2 ⊢
    clear hl
    refine (runes_in l gs s cs HFL.out HCD.out hsz (fun _ : Unit => ⟨gs, 9, 1, #[.string s]⟩ :: ⟨g2, 4, 1, #[.bool false]⟩ :: []) (fun _ => objT l (.loop (rec .ready none)) :: objT D (.deferred (some [])) :: []) (fun _ k => ∀ i (hi : i < cs.length), i < k → ctlB (valB cs[i]) = false) (fun W => prtB (nums s) = false ∧ Mem [] w (⟨gs, 9, 1, #[.string s]⟩ :: ⟨g2, 4, 1, #[.bool false]⟩ :: []) (objT l (.loop (rec .done (some .ret))) :: objT D (.deferred (some [])) :: []) W) () (fun i hi h => by omega) hM2 (fun _ => .head _) ?yield).mono ?after
    case yield =>
      intro _ k W hk hinv hM
      refine round_goes hR2 hM.loopAt rfl ?_
      refine wpIn_round_lit (k := l) (by rintro ⟨_, _, h⟩; exact h) (by rfl) ?_
      go_wp2_with fail
      refine ⟨hM.loopAt, ?_⟩
      replace hM := hM.loopPut (rec .busy none)
      generalize World.putObj _ l (Obj.loop (rec LoopState.busy none)) = wy at hM ⊢
      have HINV := Lib.hid hinv
      have HCT := Lib.hid (ctl_any (valB cs[k]))
      clear hinv
      cases hct : ctlB (valB cs[k]) with
      | true =>
        rw [hct] at HCT
        have HP := Lib.hid (show prtB (nums s) = false from by
          cases hp : prtB (nums s) with
          | false => rfl
          | true =>
            obtain ⟨ds, d1, d2, d3⟩ := (prtB_iff _).1 hp
            rw [HFL.out] at d2
            obtain rfl := vl_uni HCS.out ds d1 d2
            rw [d3 _ (List.getElem_mem hk)] at hct
            cases hct)
        clear hct
        go_simp
        gi_wp2_with (refine wpListIn_round (by rintro ⟨_, _, h⟩; exact h) _ _ _ (by rfl) ?_)
        go_wp2_with (first | ((with_reducible refine (HCT.out _).mono ?_); rintro e w3 ⟨rfl, rfl⟩) | ((first | with_reducible refine at_load ?_ | ((with_reducible refine at_load_g ?_ ?_); (· rfl))); first | refine nll hM ?_ | refine nlc hM ?_ | refine nlp hM ?_) | ((with_reducible refine at_store ?_); first | (refine nlw hM ?_; clear hM; intro wx hM) | (refine nls hM ?_; clear hM; intro wx hM) | (refine nlt hM ?_; clear hM; intro wx hM)) | ((with_reducible refine at_alloc ?_); refine nlz hM ?_; clear hM; intro gx wx hM) | ((with_reducible refine at_box ?_); first | (refine nlb hM ?_; clear hM; intro gx wx hM) | (refine nlx hM ?_; clear hM; intro gx wx hM)))
        gi_wp2_with (refine wpListIn_round (by rintro ⟨_, _, h⟩; exact h) _ _ _ (by rfl) ?_)
        go_wp2_with (first | ((first | with_reducible refine at_load ?_ | ((with_reducible refine at_load_g ?_ ?_); (· rfl))); first | refine nll hM ?_ | refine nlc hM ?_ | refine nlp hM ?_) | ((with_reducible refine at_store ?_); first | (refine nlw hM ?_; clear hM; intro wx hM) | (refine nls hM ?_; clear hM; intro wx hM) | (refine nlt hM ?_; clear hM; intro wx hM)) | ((with_reducible refine at_alloc ?_); refine nlz hM ?_; clear hM; intro gx wx hM) | ((with_reducible refine at_box ?_); first | (refine nlb hM ?_; clear hM; intro gx wx hM) | (refine nlx hM ?_; clear hM; intro gx wx hM)))
        gi_wp2_with fail
        exact ⟨hM.loopAt, .inr ⟨rfl, HP.out, hM.loopPut _⟩⟩
      | false =>
        rw [hct] at HCT
        have HC := Lib.hid hct
        clear hct
        go_simp
        gi_wp2_with (refine wpListIn_round (by rintro ⟨_, _, h⟩; exact h) _ _ _ (by rfl) ?_)
        go_wp2_with (first | ((with_reducible refine (HCT.out _).mono ?_); rintro e w3 ⟨rfl, rfl⟩) | ((first | with_reducible refine at_load ?_ | ((with_reducible refine at_load_g ?_ ?_); (· rfl))); first | refine nll hM ?_ | refine nlc hM ?_ | refine nlp hM ?_) | ((with_reducible refine at_store ?_); first | (refine nlw hM ?_; clear hM; intro wx hM) | (refine nls hM ?_; clear hM; intro wx hM) | (refine nlt hM ?_; clear hM; intro wx hM)) | ((with_reducible refine at_alloc ?_); refine nlz hM ?_; clear hM; intro gx wx hM) | ((with_reducible refine at_box ?_); first | (refine nlb hM ?_; clear hM; intro gx wx hM) | (refine nlx hM ?_; clear hM; intro gx wx hM)))
        gi_wp2_with fail
        refine ⟨hM.loopAt, .inl ⟨rfl, fun i hi h => ?_, hM.loopPut _⟩⟩
        by_cases e : i = k
        · subst e; exact HC.out
        · exact HINV.out i hi (by omega)
    case after =>
      rintro e W ⟨⟨v, rfl⟩, ⟨_, hinv, hM⟩ | ⟨hp, hM⟩⟩
      · refine ⟨⟨v, rfl⟩, .inl ⟨hM.loopAt, ?_⟩⟩
        replace hM := hM.loopPut (rec .exhausted none)
        generalize World.putObj _ l (Obj.loop (rec LoopState.exhausted none)) = wy at hM ⊢
        have HP := Lib.hid (show prtB (nums s) = true from (prtB_iff _).2 ⟨cs, HCS.out, HFL.out, fun c hc => by
          obtain ⟨i, hi, rfl⟩ := List.mem_iff_getElem.1 hc
          exact hinv i hi hi⟩)
        clear hinv
        go_wp2_with (first | ((first | with_reducible refine at_load ?_ | ((with_reducible refine at_load_g ?_ ?_); (· rfl))); first | refine nll hM ?_ | refine nlc hM ?_ | refine nlp hM ?_) | ((with_reducible refine at_store ?_); first | (refine nlw hM ?_; clear hM; intro wx hM) | (refine nls hM ?_; clear hM; intro wx hM) | (refine nlt hM ?_; clear hM; intro wx hM)) | ((with_reducible refine at_alloc ?_); refine nlz hM ?_; clear hM; intro gx wx hM) | ((with_reducible refine at_box ?_); first | (refine nlb hM ?_; clear hM; intro gx wx hM) | (refine nlx hM ?_; clear hM; intro gx wx hM)))
        refine leaves_marks (by simp) (fun w' hM' => ?_) [D] wx (hM.subR (List.sublist_cons_self _ _))
        exact ⟨_, results_mem_one hM' rfl (by rfl) (by repeat (first | exact List.Mem.head _ | assumption | apply List.Mem.tail)) one_bool rfl, by rw [HP.out]; rfl, hM'.below⟩
      · refine ⟨⟨v, rfl⟩, .inr ⟨_, hM.loopAt, ?_⟩⟩
        replace hM := hM.loopPut (rec .exhausted (some .ret))
        generalize World.putObj _ l (Obj.loop (rec LoopState.exhausted (some .ret))) = wy at hM ⊢
        refine wpIn_wide.2 ?_
        have HP := Lib.hid hp
        clear hp
        go_wp2_with (first | ((first | with_reducible refine at_load ?_ | ((with_reducible refine at_load_g ?_ ?_); (· rfl))); first | refine nll hM ?_ | refine nlc hM ?_ | refine nlp hM ?_) | ((with_reducible refine at_store ?_); first | (refine nlw hM ?_; clear hM; intro wx hM) | (refine nls hM ?_; clear hM; intro wx hM) | (refine nlt hM ?_; clear hM; intro wx hM)) | ((with_reducible refine at_alloc ?_); refine nlz hM ?_; clear hM; intro gx wx hM) | ((with_reducible refine at_box ?_); first | (refine nlb hM ?_; clear hM; intro gx wx hM) | (refine nlx hM ?_; clear hM; intro gx wx hM)))
        refine leaves_marks (by simp) (fun w' hM' => ?_) [D] wy (hM.subR (List.sublist_cons_self _ _))
        exact ⟨_, results_mem_one hM' rfl (by rfl) (by repeat (first | exact List.Mem.head _ | assumption | apply List.Mem.tail)) one_bool rfl, by rw [HP.out]; rfl, hM'.below⟩
end Go.Proofs.YtlidpdjainmaiaaGreatDoor
