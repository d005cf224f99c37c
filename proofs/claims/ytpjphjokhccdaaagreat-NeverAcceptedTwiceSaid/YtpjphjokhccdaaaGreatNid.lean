/- Seat n: the spool's entries: all of them, each once. -/
import Derived.Test.YtpjphjokhccdaaaGreatNib
import Derived.Test.YtpjphjokhccdaaaGreatNic
import Derived.Test.YtpjphjokhccdaaaGreatNh1
namespace Go.Proofs.YtpjphjokhccdaaaGreat
open Go Go.RowKit Go.Bul Go.Thg Go.Lin Go.Maps
section
variable {w w0 : World} {G : List Nat} {L : List Ent} {R : List Thing} {F : Thing → List Thing}
/-- A spool's map. -/
def SpoolM (mp : Nat → Option Value) : Prop := ∀ j v, j < 11 → mp j = some v → ∃ t a p, v = artV t a p
set_option maxRecDepth 20000 in
set_option maxHeartbeats 4000000 in
theorem sentries_any (s b : Nat) (bud byt nxt : Int) (mp : Nat → Option Value) (hm : SpoolM mp) (hM : Mem G w0 L R w) (hL : ⟨s, 74, 4, splC bud byt nxt b⟩ ∈ L) (hR : UpdR (mapT b mp) R F) :
    Calls Tryz.prog 25 #[.pointer (some ⟨s, 0, none⟩)] w fun e w' => ∃ A c l, e = .returned (.slice A l.length c) ∧ (∃ lf, Come mp lf l ∧ ∀ j, j < 11 → lf j = false) ∧ Mem G w0 L (elT 56 2 (.slice A l.length c) l :: R) w' := by
  have HR := Lib.hid hR
  have HM := Lib.hid hm
  have e0 : F (mapT b mp) = R := by obtain ⟨P, B, h1, h2⟩ := hR; rw [h2, h1]
  have HE := Lib.hid e0
  have HRm := Lib.hid (mem_of_updR hR)
  clear hm e0
  go_enter Tryz.func25, Tryz.ntmps25
  go_wp2_with (first | ((with_reducible refine at_rng ?_); refine nmr hM mty_spool ?_ (hR := hR); clear hM; intro r wr0 hM) | ((first | with_reducible refine at_load ?_ | ((with_reducible refine at_load_g ?_ ?_); (· rfl))); first | refine nll hM ?_ | refine nlc hM ?_ | refine nlp hM ?_) | ((with_reducible refine at_store ?_); first | (refine nlw hM ?_; clear hM; intro wx hM) | (refine nls hM ?_; clear hM; intro wx hM) | (refine nlt hM ?_; clear hM; intro wx hM)) | ((with_reducible refine at_alloc ?_); refine nlz hM ?_; clear hM; intro gx wx hM) | ((with_reducible refine at_box ?_); first | (refine nlb hM ?_; clear hM; intro gx wx hM) | (refine nlx hM ?_; clear hM; intro gx wx hM)))
  go_frame
  obtain ⟨gs, hgs⟩ := hM.name1
  subst hgs
  have M0 := Lib.hid (Mem.elNil hM 56 2)
  clear hM
  go_loopw [3] (fun sl wr => ∃ A n c l lf cnt, sl = .slice A n c ∧ Hid (Come mp lf l ∧ n = l.length) ∧ Mem G w0 (⟨gs, 28, 1, #[.pointer (some ⟨s, 0, none⟩)]⟩ :: L) (elT 56 2 (.slice A n c) l :: F (rngT b r mp lf cnt)) wr) (fun _ wr => wr.rangeLeft b r)
  case atStart => exact ⟨none, 0, 0, [], _, _, rfl, Lib.hid ⟨Come.start mp, rfl⟩, M0.out⟩
  case round =>
    clear M0
    obtain ⟨A, n, c, l, lf, cnt, rfl, hc, hM⟩ := hrel
    have hU := UpdR.tail (elT 56 2 (.slice A n c) l) (HR.out.again (rngT b r mp lf cnt))
    go_wp2_with (first | ((with_reducible refine at_nxt ?_); refine Hid.out (?_ : Hid _)) | ((first | with_reducible refine at_load ?_ | ((with_reducible refine at_load_g ?_ ?_); (· rfl))); first | refine nll hM ?_ | refine nlc hM ?_ | refine nlp hM ?_) | ((with_reducible refine at_store ?_); first | (refine nlw hM ?_; clear hM; intro wx hM) | (refine nls hM ?_; clear hM; intro wx hM) | (refine nlt hM ?_; clear hM; intro wx hM)) | ((with_reducible refine at_alloc ?_); refine nlz hM ?_; clear hM; intro gx wx hM) | ((with_reducible refine at_box ?_); first | (refine nlb hM ?_; clear hM; intro gx wx hM) | (refine nlx hM ?_; clear hM; intro gx wx hM)))
    refine Lib.hid ?_
    refine nmx hM rfl hU ?_ ?_
    · intro hd
      obtain ⟨hcc, rfl⟩ := hc.out
      clear hc
      have hM1 := Mem.unrange hM hU
      rw [HE.out] at hM1
      have HS := Lib.hid (fun w1 (hM : Mem G w0 (⟨gs, 28, 1, #[.pointer (some ⟨s, 0, none⟩)]⟩ :: L) (elT 56 2 (.slice A l.length c) l :: R) w1) => sort1_any gs A l.length c l (by have := hcc.len; omega) hM (UpdR.head _ _) (fun x y w' l' _ hM' hx hy => by
        obtain ⟨x1, x2⟩ := hcc.val x hx
        obtain ⟨y1, y2⟩ := hcc.val y hy
        obtain ⟨v, hv⟩ := Option.isSome_iff_exists.1 x2
        obtain ⟨u, hu⟩ := Option.isSome_iff_exists.1 y2
        obtain ⟨t1, a1, p1, rfl⟩ := HM.out _ _ x1 hv
        obtain ⟨t2, a2, p2, rfl⟩ := HM.out _ _ y1 hu
        exact cmpSp_any gs s b bud byt nxt mp x y hM' ((hM.thing _ (List.Mem.head _)).2 _ hx).1 ((hM.thing _ (List.Mem.head _)).2 _ hy).1 x1 y1 t1 t2 a1 a2 p1 p2 hv hu (List.Mem.head _) (List.Mem.tail _ hL) (List.Mem.tail _ HRm.out)))
      have HC := Lib.hid hcc
      have HD := Lib.hid hd
      clear hM hd hcc
      go_wp2_with (first | ((with_reducible refine (HS.out _ hM1).mono ?_); rintro e w2 ⟨⟨v, rfl⟩, l', hp, hM2⟩; have HP := Lib.hid hp; have HM2 := Lib.hid hM2; clear hM1 hp hM2))
      go_ret
      have hp := HP.out
      refine ⟨A, c, l', by rw [hp.length_eq]; rfl, ⟨lf, HC.out.perm hp, HD.out⟩, ?_⟩
      have := HM2.out.subL (L' := L) (List.sublist_cons_self _ _)
      rw [hp.length_eq]
      exact this
    · intro j v w1 cnt' hj hl hv hcn hM1 hen
      have HRL := Lib.hid (rng_left (hM.thing _ (mem_of_updR hU)))
      clear hM
      have hM := hM1
      clear hM1
      obtain ⟨et, ea, ep, rfl⟩ := HM.out j v hj hv
      have HC := hc
      have HJ := Lib.hid hj
      have HLF := Lib.hid hl
      have HV := Lib.hid hv
      have HCN := Lib.hid hcn
      have hcl := hc.out.1.len
      have hcn2 := hc.out.2
      have HLN := Lib.hid (show l.length < 1000000 by omega)
      clear hc hj hl hv hcn hcl hcn2 hU
      go_wp2_with (first | ((with_reducible refine at_build ?_); refine nb_sent ?_) | ((with_reducible refine at_bslice ?_); refine nbs hM ely_sent ?_; clear hM; intro gb wb hM) | ((with_reducible refine at_append ?_); refine nap (l := l) hM ely_sent HLN.out ?_; clear hM; intro A' N' c' wz HN hM) | ((first | with_reducible refine at_load ?_ | ((with_reducible refine at_load_g ?_ ?_); (· rfl))); first | refine nll hM ?_ | refine nlc hM ?_ | refine nlp hM ?_) | ((with_reducible refine at_store ?_); first | (refine nlw hM ?_; clear hM; intro wx hM) | (refine nls hM ?_; clear hM; intro wx hM) | (refine nlt hM ?_; clear hM; intro wx hM)) | ((with_reducible refine at_alloc ?_); refine nlz hM ?_; clear hM; intro gx wx hM) | ((with_reducible refine at_box ?_); first | (refine nlb hM ?_; clear hM; intro gx wx hM) | (refine nlx hM ?_; clear hM; intro gx wx hM)))
      refine ⟨⟨_, _, _, _, _, _, _, _, _, _, _, _, _, _, _, _, _, _, ⟨A', N', c', _, _, cnt', rfl, Lib.hid ⟨HC.out.1.more HJ.out HLF.out HV.out, by rw [HN.out, List.length_append]; rfl⟩, hM.subL (by repeat (first | exact List.Sublist.refl _ | exact List.nil_sublist _ | apply List.Sublist.cons_cons | apply List.Sublist.cons))⟩, rfl⟩, ?_⟩
      have h1 := rng_left (hM.thing _ (mem_of_updR (UpdR.tail _ (HR.out.again _))))
      rw [h1, HRL.out]
      exact HCN.out
end
end Go.Proofs.YtpjphjokhccdaaaGreat
