/- Seat n: All's iterator, the history's: every round is told one of the entries; each once. -/
import Derived.Test.YtpjphjokhccdaaaGreatNie
import Derived.Test.YtpjphjokhccdaaaGreatNib
namespace Go.Bul
open Go Go.RowKit Go.Thg
theorem wpListIn_valh {n : Nat} {P : Program} {ops : Array Oper} {Q : Exit → Act → World → Prop} {a : Act} {w : World} {rest : List Oper} {o : Oper} {v : Value} (hg : o.guard = none) (hr : (execOp a.eval o).run P w = .ok (.value v) w)
    (hs : (o.semAt Fence.wide.round a.eval) = execOp a.eval o) (h : wpListIn Fence.wide n P ops Q rest (a.put o.dst v) w) : wpListIn Fence.wide n P ops Q (o :: rest) a w :=
  wpListIn_plain hg fun K hK => ⟨fun _ _ => trivial, by rw [hs, hr]; exact hK _ _ h⟩
end Go.Bul
namespace Go.Proofs.YtpjphjokhccdaaaGreat
open Go Go.RowKit Go.Bul Go.Thg Go.Lin Go.Maps
section
variable {w w0 : World} {G : List Nat} {F : Thing → List Thing}
set_option maxRecDepth 100000 in
set_option maxHeartbeats 4000000 in
theorem hall_in {σ : Type} (l gh h b : Nat) (cut : Int) (mp : Nat → Option Value) (hm : HistM mp) (LL : σ → List Ent) (RR : σ → List Thing) (Inv : σ → List El → Prop) (s0 : σ) (h0 : Inv s0 []) (hM : Mem G w0 (LL s0) (RR s0) w)
    (hgh : ⟨gh, 26, 1, #[.pointer (some ⟨h, 0, none⟩)]⟩ ∈ LL s0) (hL : ⟨h, 71, 2, hist b cut⟩ ∈ LL s0) (hR : UpdR (mapT b mp) (RR s0) F)
    (hY : ∀ (s : σ) (done : List El) (x : El) (T : Thing) (W : World), Inv s done → mp x.1 = some (.agg (elC x)) → x.1 < 11 → x.1 ∉ done.map (·.1) → Mem G w0 (LL s) (T :: RR s) W → YieldAt Fence.wide 1 Tryz.prog l #[.agg (elC x)] W fun e W' => e = .returned (.bool true) ∧ ∃ s', Inv s' (done ++ [x]) ∧ Mem G w0 (LL s') (T :: RR s') W') :
    CallsIn Fence.wide 2 Tryz.prog 31 #[.func (.yield l) #[] #[], .pointer (some ⟨gh, 0, none⟩)] w fun e W' => (∃ v, e = .returned v) ∧ ∃ s' ls, ((∃ lf, Come mp lf ls ∧ ∀ j, j < 11 → lf j = false) ∧ ∀ x ∈ ls, mp x.1 = some (.agg (elC x))) ∧ Inv s' ls ∧ Mem G w0 (LL s') (RR s') W' := by
  have HS := Lib.hid (fun w (hM : Mem G w0 (LL s0) (RR s0) w) => hsorted_any h b cut mp hm hM hL hR)
  have HY := Lib.hid hY
  have H0 := Lib.hid h0
  clear hY h0 hm
  refine callsIn_wide.2 ?_
  go_enter Tryz.func31, Tryz.ntmps31
  go_wp2_with (first | ((with_reducible refine (HS.out _ hM).mono ?_); rintro e w2 ⟨A, c, ls, rfl, hc, hv, hM2⟩; clear hM; have hM := hM2; clear hM2) | ((first | with_reducible refine at_load ?_ | ((with_reducible refine at_load_g ?_ ?_); (· rfl))); first | refine nll hM ?_ | refine nlc hM ?_ | refine nlp hM ?_) | ((with_reducible refine at_store ?_); first | (refine nlw hM ?_; clear hM; intro wx hM) | (refine nls hM ?_; clear hM; intro wx hM) | (refine nlt hM ?_; clear hM; intro wx hM)) | ((with_reducible refine at_alloc ?_); refine nlz hM ?_; clear hM; intro gx wx hM) | ((with_reducible refine at_box ?_); first | (refine nlb hM ?_; clear hM; intro gx wx hM) | (refine nlx hM ?_; clear hM; intro gx wx hM)))
  obtain ⟨n, hn⟩ : ∃ n, ls.length = n := ⟨_, rfl⟩
  rw [hn] at hM ⊢
  have HN := Lib.hid hn
  have HC := Lib.hid hc
  have HV := Lib.hid hv
  have hl := hc.choose_spec.1.len
  have hn11 : n ≤ 11 := by omega
  have M0 := Lib.hid hM
  clear hM hc hn hl hv
  go_loopw [8] (fun i wr => ∃ k : Nat, k ≤ n ∧ i = .int .i64 (k : Nat) ∧ ∃ s, Hid (Inv s (ls.take k)) ∧ Mem G w0 (LL s) (elT 40 4 (.slice A n c) ls :: RR s) wr) (fun i _ => n - (intOf i).toNat)
  case atStart => exact ⟨0, Nat.zero_le _, rfl, s0, Lib.hid (by rw [List.take_zero]; exact H0.out), M0.out⟩
  case round =>
    clear M0
    obtain ⟨k, hk, rfl, s, hi, hM⟩ := hrel
    have k0 : (0 : Int) ≤ (k : Int) := Int.natCast_nonneg _
    have k1 : (k : Int) ≤ 11 := by omega
    by_cases hlt : k < n
    · have hlt' : (k : Int) < (n : Int) := by omega
      have hkl : k < ls.length := by have := HN.out; omega
      obtain ⟨g, off, rfl, _, hcell⟩ := elT_at (hM.thing _ (List.Mem.head _)) k hkl
      have HX := Lib.hid (hcell k hkl)
      have HZ := Lib.hid (show (elC ls[k]).size = 36 by rw [stC_size, ((hM.thing _ (List.Mem.head _)).2 _ (List.getElem_mem hkl)).1])
      have HZ1 := Lib.hid (show ∀ u ∈ (elC ls[k]).toList, u.oneCell' = true from stC_one (j := (ls[k]).1) ((hM.thing _ (List.Mem.head _)).2 _ (List.getElem_mem hkl)).2)
      have HXI := Lib.hid (List.getElem_mem hkl)
      have HTK := Lib.hid (List.take_succ_eq_append_getElem hkl)
      have HND := Lib.hid (show (ls[k]).1 ∉ (ls.take k).map (·.1) by
        obtain ⟨lf, hcm, _⟩ := HC.out
        have h1 := hcm.nd
        have e : ls = ls.take k ++ (ls[k] :: ls.drop (k + 1)) := by rw [List.getElem_cons_drop, List.take_append_drop]
        rw [e, List.map_append, List.nodup_append] at h1
        intro hin
        exact h1.2.2 _ hin _ (List.mem_map.2 ⟨_, List.Mem.head _, rfl⟩) rfl)
      generalize ls[k] = x at HX HZ HZ1 HXI HTK HND
      clear hcell hkl
      go_upto_region 3 with (first | ((with_reducible refine at_load ?_); refine nlr HX.out ?_ (hs := HZ.out)) | ((with_reducible refine at_store ?_); refine nlw hM ?_ (hs := HZ.out) (h1 := HZ1.out); clear hM; intro wx hM) | ((first | with_reducible refine at_load ?_ | ((with_reducible refine at_load_g ?_ ?_); (· rfl))); first | refine nll hM ?_ | refine nlc hM ?_ | refine nlp hM ?_) | ((with_reducible refine at_store ?_); first | (refine nlw hM ?_; clear hM; intro wx hM) | (refine nls hM ?_; clear hM; intro wx hM) | (refine nlt hM ?_; clear hM; intro wx hM)) | ((with_reducible refine at_alloc ?_); refine nlz hM ?_; clear hM; intro gx wx hM) | ((with_reducible refine at_box ?_); first | (refine nlb hM ?_; clear hM; intro gx wx hM) | (refine nlx hM ?_; clear hM; intro gx wx hM)))
      have HF := Lib.hid (show mp x.1 = some (.agg (elC x)) ∧ x.1 < 11 from ⟨HV.out x HXI.out, (HC.out.choose_spec.1.val x HXI.out).1⟩)
      clear HXI HX
      obtain ⟨fn, tmps, assign, body, hy, hRd⟩ := HY.out s (ls.take k) x _ wx hi.out HF.out.1 HF.out.2 HND.out (hM.subL (List.sublist_cons_self _ _))
      rw [← HTK.out] at hRd
      refine (wpIn_wide (n := 2)).1 ?_
      refine wpIn_region_lit ?_
      refine wpListIn_valh rfl (by (go_simp; rfl)) rfl ?_
      go_simp
      refine wpListIn_valh rfl (yields_load (C := fun _ => True) (nql hM) rfl) rfl ?_
      go_simp
      gi_wp2
      refine hRd.mono ?_
      rintro e W3 ⟨rfl, s', hi3, hM3⟩
      clear hM
      gi_wp2
      go_wp2_with fail
      exact ⟨⟨k + 1, by omega, by go_num, s', Lib.hid hi3, hM3⟩, by simp [intOf]; omega⟩
    · obtain rfl : k = n := by omega
      go_wp2_with fail
      exact bodyPost_end (results_none rfl _ _ _) rfl ⟨⟨_, rfl⟩, s, ls, ⟨HC.out, HV.out⟩, by have := hi.out; rw [List.take_of_length_le (by have := HN.out; omega)] at this; exact this, hM.subR (List.sublist_cons_self _ _)⟩
end
end Go.Proofs.YtpjphjokhccdaaaGreat
