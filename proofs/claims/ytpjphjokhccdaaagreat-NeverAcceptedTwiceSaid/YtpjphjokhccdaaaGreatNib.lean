/- Seat n: the history's sorted: all entries, each once. -/
import Derived.Test.YtpjphjokhccdaaaGreatNia
import Derived.Test.YtpjphjokhccdaaaGreatNh3
namespace Go.Lin
open Go Go.Bul
/-- The structs of a list, of a map: those that have come; all. -/
structure Come (mp : Nat → Option Value) (lf : Nat → Bool) (l : List El) : Prop where
  nd : (l.map (·.1)).Nodup
  left : ∀ j, j < 11 → lf j = ((mp j).isSome && !decide (j ∈ l.map (·.1)))
  val : ∀ x ∈ l, x.1 < 11 ∧ (mp x.1).isSome = true
theorem Come.start (mp : Nat → Option Value) : Come mp (fun j => (mp j).isSome) [] := ⟨by simp, fun j _ => by simp, fun x h => by cases h⟩
theorem Come.more {mp : Nat → Option Value} {lf : Nat → Bool} {l : List El} (h : Come mp lf l) {j : Nat} (hj : j < 11) (hl : lf j = true) {tl : List Value} {v : Value} (hv : mp j = some v) : Come mp (fun i => lf i && !decide (i = j)) (l ++ [(j, tl)]) := by
  have h1 := h.left j hj
  rw [hl] at h1
  simp only [Bool.true_eq, Bool.and_eq_true, Bool.not_eq_true', decide_eq_false_iff_not] at h1
  refine ⟨?_, fun i hi => ?_, fun x hx => ?_⟩
  · rw [List.map_append, List.nodup_append]
    refine ⟨h.nd, by simp, fun a ha b hb => ?_⟩
    simp only [List.map_cons, List.map_nil, List.mem_singleton] at hb
    subst hb
    rintro rfl
    exact h1.2 ha
  · rw [h.left i hi]
    simp only [List.map_append, List.map_cons, List.map_nil, List.mem_append, List.mem_singleton, Bool.and_assoc]
    congr 1
    by_cases h2 : i ∈ l.map (·.1) <;> by_cases h3 : i = j <;> simp [h2, h3]
  · rcases List.mem_append.1 hx with hx | hx
    · exact h.val x hx
    · obtain rfl := List.mem_singleton.1 hx
      exact ⟨hj, by simp [hv]⟩
theorem nodup_below : ∀ (n : Nat) (l : List Nat), l.Nodup → (∀ x ∈ l, x < n) → l.length ≤ n
  | 0, l, _, h => by
    cases l with
    | nil => exact Nat.le_refl _
    | cons x l => exact absurd (h x (List.Mem.head _)) (by omega)
  | n + 1, l, hn, h => by
    by_cases hm : n ∈ l
    · have h1 := nodup_below n (l.erase n) (hn.erase n) (fun x hx => by
        have h2 := (hn.mem_erase_iff).1 hx
        have := h x h2.2
        omega)
      rw [List.length_erase_of_mem hm] at h1
      omega
    · have h1 := nodup_below n l hn (fun x hx => by
        have := h x hx
        have : x ≠ n := fun e => hm (e ▸ hx)
        omega)
      omega
theorem Come.len {mp : Nat → Option Value} {lf : Nat → Bool} {l : List El} (h : Come mp lf l) : l.length ≤ 11 := by
  have h1 := nodup_below 11 (l.map (·.1)) h.nd (fun x hx => by
    obtain ⟨y, hy, rfl⟩ := List.mem_map.1 hx
    exact (h.val y hy).1)
  simpa using h1
theorem Come.perm {mp : Nat → Option Value} {lf : Nat → Bool} {l l' : List El} (h : Come mp lf l) (hp : l'.Perm l) : Come mp lf l' :=
  ⟨(hp.map _).nodup_iff.2 h.nd, fun j hj => by rw [h.left j hj]; congr 2; exact decide_eq_decide.2 ((hp.map _).mem_iff.symm), fun x hx => h.val x (hp.mem_iff.1 hx)⟩
end Go.Lin
namespace Go.Proofs.YtpjphjokhccdaaaGreat
open Go Go.RowKit Go.Bul Go.Thg Go.Lin Go.Maps
set_option maxRecDepth 20000 in
theorem accepts_any (x : El) (w : World) (hx : x.2.length = 4) : Calls Tryz.prog 33 #[.agg (elC x)] w fun e w' => e = .returned (.bool true) ∧ Below w.heap.size w w' := by
  have hM := Mem.start [] w
  have s1 := Lib.hid (show (elC x).size = 36 by rw [stC_size, hx])
  clear hx
  go_enter Tryz.func33, Tryz.ntmps33
  go_wp2_with ((with_reducible refine at_box ?_); refine nlb hM ?_ (hn := s1.out); clear hM; intro gx wx hM)
  go_ret
  exact ⟨rfl, hM.below⟩
section
variable {w w0 : World} {G : List Nat} {L : List Ent} {R : List Thing} {F : Thing → List Thing}
/-- A history's map. -/
def HistM (mp : Nat → Option Value) : Prop := ∀ j v, j < 11 → mp j = some v → ∃ a d s p, v = hentV j a d s p
set_option maxRecDepth 20000 in
set_option maxHeartbeats 4000000 in
theorem hsorted_any (h b : Nat) (cut : Int) (mp : Nat → Option Value) (hm : HistM mp) (hM : Mem G w0 L R w) (hL : ⟨h, 71, 2, hist b cut⟩ ∈ L) (hR : UpdR (mapT b mp) R F) :
    Calls Tryz.prog 32 #[.pointer (some ⟨h, 0, none⟩), .func (.func 33) #[] #[]] w fun e w' => ∃ A c l, e = .returned (.slice A l.length c) ∧ (∃ lf, Come mp lf l ∧ ∀ j, j < 11 → lf j = false) ∧ (∀ x ∈ l, mp x.1 = some (.agg (elC x))) ∧ Mem G w0 L (elT 40 4 (.slice A l.length c) l :: R) w' := by
  have HR := Lib.hid hR
  have HM := Lib.hid hm
  have HA := Lib.hid (fun x w hx => accepts_any x w hx)
  have e0 : F (mapT b mp) = R := by obtain ⟨P, B, h1, h2⟩ := hR; rw [h2, h1]
  have HE := Lib.hid e0
  clear hm e0
  go_enter Tryz.func32, Tryz.ntmps32
  go_wp2_with (first | ((with_reducible refine at_rng ?_); refine nmr hM mty_hist ?_ (hR := hR); clear hM; intro r wr0 hM) | ((first | with_reducible refine at_load ?_ | ((with_reducible refine at_load_g ?_ ?_); (· rfl))); first | refine nll hM ?_ | refine nlc hM ?_ | refine nlp hM ?_) | ((with_reducible refine at_store ?_); first | (refine nlw hM ?_; clear hM; intro wx hM) | (refine nls hM ?_; clear hM; intro wx hM) | (refine nlt hM ?_; clear hM; intro wx hM)) | ((with_reducible refine at_alloc ?_); refine nlz hM ?_; clear hM; intro gx wx hM) | ((with_reducible refine at_box ?_); first | (refine nlb hM ?_; clear hM; intro gx wx hM) | (refine nlx hM ?_; clear hM; intro gx wx hM)))
  go_frame
  have M0 := Lib.hid (Mem.elNil hM 40 4)
  clear hM
  go_loopw [5] (fun s wr => ∃ A n c l lf cnt, s = .slice A n c ∧ Hid (Come mp lf l ∧ n = l.length ∧ ∀ x ∈ l, mp x.1 = some (.agg (elC x))) ∧ Mem G w0 L (elT 40 4 (.slice A n c) l :: F (rngT b r mp lf cnt)) wr) (fun _ wr => wr.rangeLeft b r)
  case atStart => exact ⟨none, 0, 0, [], _, _, rfl, Lib.hid ⟨Come.start mp, rfl, fun x hx => by cases hx⟩, M0.out⟩
  case round =>
    clear M0
    obtain ⟨A, n, c, l, lf, cnt, rfl, hc, hM⟩ := hrel
    have hU := UpdR.tail (elT 40 4 (.slice A n c) l) (HR.out.again (rngT b r mp lf cnt))
    go_wp2_with (first | ((with_reducible refine at_nxt ?_); refine Hid.out (?_ : Hid _)) | ((first | with_reducible refine at_load ?_ | ((with_reducible refine at_load_g ?_ ?_); (· rfl))); first | refine nll hM ?_ | refine nlc hM ?_ | refine nlp hM ?_) | ((with_reducible refine at_store ?_); first | (refine nlw hM ?_; clear hM; intro wx hM) | (refine nls hM ?_; clear hM; intro wx hM) | (refine nlt hM ?_; clear hM; intro wx hM)) | ((with_reducible refine at_alloc ?_); refine nlz hM ?_; clear hM; intro gx wx hM) | ((with_reducible refine at_box ?_); first | (refine nlb hM ?_; clear hM; intro gx wx hM) | (refine nlx hM ?_; clear hM; intro gx wx hM)))
    refine Lib.hid ?_
    refine nmx hM rfl hU ?_ ?_
    · intro hd
      obtain ⟨hcc, rfl, hv⟩ := hc.out
      clear hc
      have hM1 := Mem.unrange hM hU
      rw [HE.out] at hM1
      have HS := Lib.hid (fun w1 (hM : Mem G w0 L (elT 40 4 (.slice A l.length c) l :: R) w1) => sort3_any A l.length c l (by have := hcc.len; omega) hM (UpdR.head _ _) (fun x y w' l' _ hM' hx hy => cmpIds_any x y w' ((hM.thing _ (List.Mem.head _)).2 _ hx).1 ((hM.thing _ (List.Mem.head _)).2 _ hy).1))
      have HC := Lib.hid hcc
      have HV := Lib.hid hv
      have HD := Lib.hid hd
      clear hM hd hv hcc
      go_wp2_with (first | ((with_reducible refine (HS.out _ hM1).mono ?_); rintro e w2 ⟨⟨v, rfl⟩, l', hp, hM2⟩; have HP := Lib.hid hp; have HM2 := Lib.hid hM2; clear hM1 hp hM2))
      go_ret
      have hp := HP.out
      refine ⟨A, c, l', by rw [hp.length_eq]; rfl, ⟨lf, HC.out.perm hp, HD.out⟩, fun x hx => HV.out x (hp.mem_iff.1 hx), ?_⟩
      have := HM2.out
      rw [hp.length_eq]
      exact this
    · intro j v w1 cnt' hj hl hv hcn hM1 hen
      have HRL := Lib.hid (rng_left (hM.thing _ (mem_of_updR hU)))
      clear hM
      have hM := hM1
      clear hM1
      obtain ⟨ea, ed, es, ep, rfl⟩ := HM.out j v hj hv
      have HC := hc
      have HJ := Lib.hid hj
      have HLF := Lib.hid hl
      have HV := Lib.hid hv
      have HCN := Lib.hid hcn
      have hcl := hc.out.1.len
      have hcn2 := hc.out.2.1
      have HLN := Lib.hid (show l.length < 1000000 by omega)
      clear hc hj hl hv hcn hcl hcn2 hU
      go_upto_region 7 with (first | ((first | with_reducible refine at_load ?_ | ((with_reducible refine at_load_g ?_ ?_); (· rfl))); first | refine nll hM ?_ | refine nlc hM ?_ | refine nlp hM ?_) | ((with_reducible refine at_store ?_); first | (refine nlw hM ?_; clear hM; intro wx hM) | (refine nls hM ?_; clear hM; intro wx hM) | (refine nlt hM ?_; clear hM; intro wx hM)) | ((with_reducible refine at_alloc ?_); refine nlz hM ?_; clear hM; intro gx wx hM) | ((with_reducible refine at_box ?_); first | (refine nlb hM ?_; clear hM; intro gx wx hM) | (refine nlx hM ?_; clear hM; intro gx wx hM)))
      go_wp2_with (first | ((with_reducible refine (HA.out (j, [.int .i64 ea, .int .i64 ed, .int .i64 es, .bool ep]) _ rfl).mono ?_); rintro e w2 ⟨rfl, hb⟩; replace hM := hM.step hb; clear hb) | ((with_reducible refine at_bslice ?_); refine nbs hM ely_hent ?_; clear hM; intro gb wb hM) | ((with_reducible refine at_append ?_); refine nap (l := l) hM ely_hent HLN.out ?_; clear hM; intro A' N' c' wz HN hM) | ((first | with_reducible refine at_load ?_ | ((with_reducible refine at_load_g ?_ ?_); (· rfl))); first | refine nll hM ?_ | refine nlc hM ?_ | refine nlp hM ?_) | ((with_reducible refine at_store ?_); first | (refine nlw hM ?_; clear hM; intro wx hM) | (refine nls hM ?_; clear hM; intro wx hM) | (refine nlt hM ?_; clear hM; intro wx hM)) | ((with_reducible refine at_alloc ?_); refine nlz hM ?_; clear hM; intro gx wx hM) | ((with_reducible refine at_box ?_); first | (refine nlb hM ?_; clear hM; intro gx wx hM) | (refine nlx hM ?_; clear hM; intro gx wx hM)))
      refine ⟨⟨A', N', c', _, _, cnt', rfl, Lib.hid ⟨HC.out.1.more HJ.out HLF.out HV.out, by rw [HN.out, List.length_append]; rfl, fun x hx => ?_⟩, hM.subL (by repeat (first | exact List.Sublist.refl _ | exact List.nil_sublist _ | apply List.Sublist.cons_cons | apply List.Sublist.cons))⟩, ?_⟩
      · rcases List.mem_append.1 hx with hx | hx
        · exact HC.out.2.2 x hx
        · obtain rfl := List.mem_singleton.1 hx
          exact HV.out
      · have h1 := rng_left (hM.thing _ (mem_of_updR (UpdR.tail _ (HR.out.again _))))
        rw [h1, HRL.out]
        exact HCN.out
end
end Go.Proofs.YtpjphjokhccdaaaGreat
