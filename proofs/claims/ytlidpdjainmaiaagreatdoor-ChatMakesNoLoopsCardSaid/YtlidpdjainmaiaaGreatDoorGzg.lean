/- Seat c: Truncate at a text that is short enough. -/
import Derived.Test.YtlidpdjainmaiaaGreatDoorGzf
namespace Go.Proofs.YtlidpdjainmaiaaGreatDoor
open Go Go.RowKit Go.Bul Go.Thg Go.Lin Go.Cht
set_option maxRecDepth 100000 in
set_option maxHeartbeats 4000000 in
theorem trunc_any (s : ByteArray) (hv : vldB (nums s) = true) (h4 : s.size ≤ 400) (w : World) : Calls Tryz.prog 74 #[.string s, .int .i64 400] w fun e w' => e = .returned (.tuple #[.string s, .int .i64 0]) ∧ Below w.heap.size w w' := by
  have hM := Mem.start [] w
  have HC := Lib.hid (show ∀ w, Calls Tryz.prog 80 #[.string s] w fun e w' => (∃ a, e = .returned (.tuple #[.int .i64 a, .int .i64 0])) ∧ Below w.heap.size w w' from fun w => (check_any s w (by omega)).mono (by
    rintro e w' ⟨⟨a, z, rfl, hz⟩, hb⟩
    rw [hv] at hz
    have : z = 0 := by simpa using hz
    subst this
    exact ⟨⟨a, rfl⟩, hb⟩))
  obtain ⟨m, hm⟩ : ∃ m, s.size = m := ⟨_, rfl⟩
  have m0 : (0 : Int) ≤ (m : Int) := Int.natCast_nonneg _
  have m4 : (m : Int) ≤ 400 := by omega
  clear hv h4
  refine (callsIn_wide (n := 3)).1 ?_
  refine callsIn_of_wp_marks Tryz.func74 rfl trivial ?_ rfl
  refine wpIn_wide.2 ?_
  simp only [Tryz.ntmps74, List.size_toArray, List.length_cons, List.length_nil, Nat.reduceAdd, Nat.reduceSub, Array.replicate_succ, Array.replicate_zero, List.push_toArray, List.append_toArray, List.nil_append, List.cons_append]
  go_wp2_with (first | ((with_reducible refine (HC.out _).mono ?_); rintro e w1 ⟨⟨a, rfl⟩, hb⟩; replace hM := hM.step hb; clear hb) | ((with_reducible refine at_box ?_); refine nlx (v := .int .i64 400) hM ?_; clear hM; intro gx wx hM) | ((first | with_reducible refine at_load ?_ | ((with_reducible refine at_load_g ?_ ?_); (· rfl))); first | refine nll hM ?_ | refine nlc hM ?_ | refine nlp hM ?_) | ((with_reducible refine at_store ?_); first | (refine nlw hM ?_; clear hM; intro wx hM) | (refine nls hM ?_; clear hM; intro wx hM) | (refine nlt hM ?_; clear hM; intro wx hM)) | ((with_reducible refine at_alloc ?_); refine nlz hM ?_; clear hM; intro gx wx hM) | ((with_reducible refine at_box ?_); first | (refine nlb hM ?_; clear hM; intro gx wx hM) | (refine nlx hM ?_; clear hM; intro gx wx hM)))
  exact ⟨_, results_tmp2 rfl _ _ _, rfl, hM.below⟩
theorem pr_vld {l : List Nat} (h : Pr l) : vldB l = true := by
  cases hv : vldB l with
  | true => rfl
  | false =>
    have := prt_vld hv
    rw [(prtB_iff l).2 h] at this
    cases this
set_option maxRecDepth 100000 in
set_option maxHeartbeats 4000000 in
theorem plain_any (s : ByteArray) (b : Nat) (t : List Nat) (hs : nums s = b :: t) (hb : blk b = false) (hpr : Pr (b :: t)) (h4 : s.size ≤ 400) (w : World) (hB : Bnd w) : Calls Tryz.prog 53 #[.string s] w fun e w' => e = .returned (.string (bstr (rtr (b :: t)))) ∧ Below w.heap.size w w' := by
  have hM := Mem.start [] w
  obtain ⟨cs, hcs, hfl, hct⟩ := hpr
  have hsf : nums s = cs.flatten := hs.trans hfl
  have hs0 : 0 < s.size := by rw [← nums_length, hs]; simp
  have HREP := Lib.hid (fun w hB => repair_any s cs hsf hcs.mem hs0 (by omega) w hB)
  have HB := Lib.hid (fun w' hb => hB.keep (w' := w') hb)
  have HRU := Lib.hid (runes_any s)
  have HCD := Lib.hid hcs.mem
  have HCT := Lib.hid hct
  have hcl : cs.flatten.length ≤ 400 := by rw [← hsf, nums_length]; exact h4
  have hcl0 : 0 < cs.flatten.length := by rw [← hsf, nums_length]; exact hs0
  have hcb := flat_bytes hsf cs.length
  rw [List.take_length] at hcb
  have hpr : Pr (b :: t) := ⟨cs, hcs, hfl, hct⟩
  have hrb : Bytes (rtr (b :: t)) := fun x hx => (Pr.rtr _ _ rfl hpr).bytes x hx |>.2.2
  have hu : nums (bstr (rtr (b :: t))) = rtr (b :: t) := nums_bstr hrb
  have hul : (bstr (rtr (b :: t))).size ≤ 400 := by
    rw [bstr_size]
    have := rtr_len (b :: t)
    rw [hfl] at this ⊢
    omega
  have HT1 := Lib.hid (show ∀ w, Calls Tryz.prog 75 #[.string (bstr cs.flatten)] w fun e w' => e = .returned (.string (bstr (rtr (b :: t)))) ∧ Below w.heap.size w w' from fun w => by
    have h1 := trim_any (bstr cs.flatten) (by rw [bstr_size]; omega) w
    rw [show trm (nums (bstr cs.flatten)) = rtr (b :: t) by rw [nums_bstr hcb.2, ← hfl, trm_head hb]] at h1
    exact h1)
  have HT2 := Lib.hid (show ∀ w, Calls Tryz.prog 75 #[.string (bstr (rtr (b :: t)))] w fun e w' => e = .returned (.string (bstr (rtr (b :: t)))) ∧ Below w.heap.size w w' from fun w => by
    have h1 := trim_any (bstr (rtr (b :: t))) (by omega) w
    rw [show trm (nums (bstr (rtr (b :: t)))) = rtr (b :: t) by rw [hu, trm_trm hb]] at h1
    exact h1)
  have HTR := Lib.hid (fun w => trunc_any (bstr (rtr (b :: t))) (by rw [hu]; exact pr_vld (Pr.rtr _ _ rfl hpr)) hul w)
  generalize bstr (rtr (b :: t)) = u at HT1 HT2 HTR ⊢
  have hsz9 : s.size ≤ 1000000000 := by omega
  have HFL := Lib.hid hsf
  have HCL := Lib.hid (And.intro hcl (And.intro hcl0 hcb.2))
  clear hsf hs0 hcs hfl hct hs hb hpr h4 hcl hcl0 hcb hrb hu hul
  refine (callsIn_wide (n := 3)).1 ?_
  refine callsIn_of_wp_marks Tryz.func53 rfl trivial ?_ rfl
  refine wpIn_wide.2 ?_
  simp only [Tryz.ntmps53, List.size_toArray, List.length_cons, List.length_nil, Nat.reduceAdd, Nat.reduceSub, Array.replicate_succ, Array.replicate_zero, List.push_toArray, List.append_toArray, List.nil_append, List.cons_append]
  go_wp2_with (first | ((with_reducible refine at_alloc ?_); refine nlz hM ?_ (hz := zero_bld); clear hM; intro gb wb hM) | ((with_reducible refine (HREP.out _ (HB.out _ hM.below)).mono ?_); rintro e w1 ⟨rfl, hb⟩; replace hM := hM.step hb; clear hb) | ((with_reducible refine (HRU.out _).mono ?_); rintro e w1 ⟨gs, rfl, hA1⟩; replace hM := hM.frame hA1; clear hA1; simp only [List.cons_append, List.nil_append] at hM) | ((first | with_reducible refine at_load ?_ | ((with_reducible refine at_load_g ?_ ?_); (· rfl))); first | refine nll hM ?_ | refine nlc hM ?_ | refine nlp hM ?_) | ((with_reducible refine at_store ?_); first | (refine nlw hM ?_; clear hM; intro wx hM) | (refine nls hM ?_; clear hM; intro wx hM) | (refine nlt hM ?_; clear hM; intro wx hM)) | ((with_reducible refine at_alloc ?_); refine nlz hM ?_; clear hM; intro gx wx hM) | ((with_reducible refine at_box ?_); first | (refine nlb hM ?_; clear hM; intro gx wx hM) | (refine nlx hM ?_; clear hM; intro gx wx hM)))
  obtain ⟨D, hD⟩ : ∃ D, w1.heap.size = D := ⟨_, rfl⟩
  refine (wpIn_wide (n := 3)).1 ?_
  refine rangeFunc_of 2 rfl (enters_of Tryz.func81 (by kernel_rfl) rfl) ?_
  intro rec hR2
  have hM1 := Mem.gNil hM 5 1 byF
  have hM2 := hM1.loopNew (rec .ready none)
  clear hM hM1
  rw [hD] at hM2 ⊢
  clear hD
  obtain ⟨l, hl⟩ : ∃ l, D + 1 = l := ⟨_, rfl⟩
  rw [hl] at hM2 ⊢
  clear hl
  refine (runes_in l gs s cs HFL.out HCD.out hsz9 (fun st : Value × Value × List Nat => ⟨gs, 9, 1, #[.string s]⟩ :: ⟨gb, 63, 2, #[st.1, st.2.1]⟩ :: []) (fun st => objT l (.loop (rec .ready none)) :: objT D (.deferred (some [])) :: bT st.2.1 st.2.2 :: []) (fun st k => Hid (PB gb st.1 ∧ Zf st.2.1 ∧ st.2.2 = (cs.take k).flatten)) (fun _ => False) (.pointer none, .slice none 0 0, []) (Lib.hid ⟨.inl rfl, Zf.nil, rfl⟩) hM2 (fun _ => .head _) ?yield).mono ?after
  case yield =>
    rintro ⟨p, V, q⟩ k W hk hinv hM
    refine round_goes hR2 hM.loopAt rfl ?_
    refine wpIn_round_lit (k := l) (by rintro ⟨_, _, h⟩; exact h) (by rfl) ?_
    go_wp2_with fail
    refine ⟨hM.loopAt, ?_⟩
    replace hM := hM.loopPut (rec .busy none)
    generalize World.putObj _ l (Obj.loop (rec LoopState.busy none)) = wy at hM ⊢
    obtain ⟨hp, hz, hq⟩ : PB gb p ∧ Zf V ∧ q = (cs.take k).flatten := hinv.out
    try simp only at hM
    subst hq
    have hcd := HCD.out cs[k] (List.getElem_mem hk)
    have HCTL := Lib.hid (gctl_any (valB cs[k]))
    rw [HCT.out _ (List.getElem_mem hk)] at HCTL
    have hlq : (cs.take k).flatten.length + 4 ≤ 1000000000 := by
      have := flat_len (cs := cs) k
      have := HCL.out.1
      omega
    have HFT := Lib.hid (flat_take hk)
    have HW := Lib.hid (And.intro hcd (And.intro hp (And.intro hz hlq)))
    clear hp hz hcd hinv hlq
    go_simp
    gi_wp2_with (refine wpListIn_round (by rintro ⟨_, _, h⟩; exact h) _ _ _ (by rfl) ?_)
    go_wp2_with (first | ((with_reducible refine (HCTL.out _).mono ?_); rintro e w3 ⟨rfl, rfl⟩) | ((first | with_reducible refine at_load ?_ | ((with_reducible refine at_load_g ?_ ?_); (· rfl))); first | refine nll hM ?_ | refine nlc hM ?_ | refine nlp hM ?_) | ((with_reducible refine at_store ?_); first | (refine nlw hM ?_; clear hM; intro wx hM) | (refine nls hM ?_; clear hM; intro wx hM) | (refine nlt hM ?_; clear hM; intro wx hM)) | ((with_reducible refine at_alloc ?_); refine nlz hM ?_; clear hM; intro gx wx hM) | ((with_reducible refine at_box ?_); first | (refine nlb hM ?_; clear hM; intro gx wx hM) | (refine nlx hM ?_; clear hM; intro gx wx hM)))
    gi_wp2_with (refine wpListIn_round (by rintro ⟨_, _, h⟩; exact h) _ _ _ (by rfl) ?_)
    go_wp2_with (first | ((with_reducible refine (wrune_any gb p V _ _ HW.out.1 HW.out.2.1 HW.out.2.2.1 hM (UpdL.tail _ (UpdL.head _ _ _ _ _)) (UpdR.tail _ (UpdR.tail _ (UpdR.head _ _))) HW.out.2.2.2).mono ?_); rintro e w1 ⟨⟨v1, rfl⟩, A2, N2, c2, hz2, hM2⟩; clear hM; have hM := hM2; clear hM2) | ((first | with_reducible refine at_load ?_ | ((with_reducible refine at_load_g ?_ ?_); (· rfl))); first | refine nll hM ?_ | refine nlc hM ?_ | refine nlp hM ?_) | ((with_reducible refine at_store ?_); first | (refine nlw hM ?_; clear hM; intro wx hM) | (refine nls hM ?_; clear hM; intro wx hM) | (refine nlt hM ?_; clear hM; intro wx hM)) | ((with_reducible refine at_alloc ?_); refine nlz hM ?_; clear hM; intro gx wx hM) | ((with_reducible refine at_box ?_); first | (refine nlb hM ?_; clear hM; intro gx wx hM) | (refine nlx hM ?_; clear hM; intro gx wx hM)))
    gi_wp2_with fail
    refine ⟨hM.loopAt, rfl, pbl gb, .slice A2 N2 c2, (cs.take (k + 1)).flatten, Lib.hid ⟨.inr rfl, hz2, rfl⟩, ?_⟩
    rw [HFT.out]
    exact hM.loopPut _
  case after =>
    rintro e W ⟨⟨v, rfl⟩, ⟨⟨p, V, q⟩, hinv, hM⟩ | hF⟩
    · refine ⟨⟨v, rfl⟩, .inl ⟨hM.loopAt, ?_⟩⟩
      replace hM := hM.loopPut (rec .exhausted none)
      generalize World.putObj _ l (Obj.loop (rec LoopState.exhausted none)) = wy at hM ⊢
      obtain ⟨hp, hz, hq⟩ : PB gb p ∧ Zf V ∧ q = (cs.take cs.length).flatten := hinv.out
      try simp only at hM
      rw [List.take_length] at hq
      subst hq
      obtain ⟨Ab, cb, rfl, _⟩ := gT_form (hM.thing _ (List.Mem.tail _ (List.Mem.tail _ (List.Mem.head _))))
      obtain ⟨g3, ob, rfl, _, _⟩ := gT_at cf_by (hM.thing _ (List.Mem.tail _ (List.Mem.tail _ (List.Mem.head _)))) HCL.out.2.1
      obtain rfl : ob = 0 := hz _ _ _ rfl
      have hl9 : cs.flatten.length ≤ 1000000000 := by have := HCL.out.1; omega
      clear hp hz hinv
      go_wp2_with (first | ((with_reducible refine (bstring_any gb g3 _ cb p cs.flatten hM (List.Mem.tail _ (List.Mem.head _)) (UpdR.tail _ (UpdR.tail _ (UpdR.head _ _))) HCL.out.2.2 HCL.out.2.1 hl9).mono ?_); rintro e w1 ⟨rfl, hM2⟩; clear hM; have hM := hM2; clear hM2) | ((with_reducible refine (HT1.out _).mono ?_); rintro e w1 ⟨rfl, hb⟩; replace hM := hM.step hb; clear hb) | ((with_reducible refine (HTR.out _).mono ?_); rintro e w1 ⟨rfl, hb⟩; replace hM := hM.step hb; clear hb) | ((with_reducible refine (HT2.out _).mono ?_); rintro e w1 ⟨rfl, hb⟩; replace hM := hM.step hb; clear hb) | ((first | with_reducible refine at_load ?_ | ((with_reducible refine at_load_g ?_ ?_); (· rfl))); first | refine nll hM ?_ | refine nlc hM ?_ | refine nlp hM ?_) | ((with_reducible refine at_store ?_); first | (refine nlw hM ?_; clear hM; intro wx hM) | (refine nls hM ?_; clear hM; intro wx hM) | (refine nlt hM ?_; clear hM; intro wx hM)) | ((with_reducible refine at_alloc ?_); refine nlz hM ?_; clear hM; intro gx wx hM) | ((with_reducible refine at_box ?_); first | (refine nlb hM ?_; clear hM; intro gx wx hM) | (refine nlx hM ?_; clear hM; intro gx wx hM)))
      refine leaves_marks (by simp) (fun w' hM' => ?_) [D] _ (hM.subR (.cons _ (.cons_cons _ (List.nil_sublist _))))
      exact ⟨_, results_tmp rfl _ _ _, rfl, hM'.below⟩
    · exact hF.elim
end Go.Proofs.YtlidpdjainmaiaaGreatDoor
