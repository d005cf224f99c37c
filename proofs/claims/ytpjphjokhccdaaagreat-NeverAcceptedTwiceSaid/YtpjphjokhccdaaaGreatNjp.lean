/- Seat n: Plan. -/
import Derived.Test.YtpjphjokhccdaaaGreatNjo
import Derived.Test.YtpjphjokhccdaaaGreatNji
namespace Go.Proofs.YtpjphjokhccdaaaGreat
open Go Go.RowKit Go.Bul Go.Thg Go.Lin Go.Maps
def measP (pp : Nat) (w : World) : Nat := match w.cell? ⟨pp, 0, none⟩ with | some (.slice _ m _) => m | _ => 0
theorem ArtOk.mono {R R' : List Thing} {x : El} (h : ArtOk R x) (hs : ∀ r ∈ R, r ∈ R') : ArtOk R' x := by
  obtain ⟨d, a, gg, b, k, h1, h2, h3, h4, h5, h6⟩ := h.ex
  exact ⟨h.j, d, a, gg, b, k, h1, h2, h3, h4, h5, hs _ h6⟩
theorem CandOk.mono {R R' : List Thing} {x : El} (h : CandOk R x) (hs : ∀ r ∈ R, r ∈ R') : CandOk R' x := by
  obtain ⟨d, a, gg, b, k, f, o, m, h1, h2, h3⟩ := h.ex
  exact ⟨h.j, d, a, gg, b, k, f, o, m, h1, h2, hs _ h3⟩
/-- What a plan under way holds: reasons for some of the ids, candidates for the rest. -/
structure PlanL (R : List Thing) (l rl cl : List El) : Prop where
  ids : (rl.map (·.1) ++ cl.map (·.1)).Perm (l.map (·.1))
  tl : ∀ x ∈ rl, ∃ k : Int, x.2 = [.int .i64 k]
  ok : ∀ x ∈ cl, CandOk R x
theorem PlanL.step {R : List Thing} {l rl cl : List El} (h : PlanL R l rl cl) (i : Nat) (hi : i < cl.length) (k : Int) : PlanL R l (rl ++ [((cl[i]).1, [.int .i64 k])]) (cl.eraseIdx i) := by
  refine ⟨List.Perm.trans ?_ h.ids, fun x hx => ?_, fun x hx => h.ok x (List.mem_of_mem_eraseIdx hx)⟩
  · have hp : (cl.map (·.1)).Perm ((cl[i]).1 :: (cl.eraseIdx i).map (·.1)) := by
      have h1 : cl.Perm (cl[i] :: cl.eraseIdx i) := by
        rw [List.eraseIdx_eq_take_drop_succ]
        have h2 : cl = cl.take i ++ cl[i] :: cl.drop (i + 1) := by simp
        conv => lhs; rw [h2]
        exact List.perm_middle
      exact h1.map (·.1)
    rw [List.map_append, List.append_assoc]
    exact List.Perm.append_left _ hp.symm
  · rcases List.mem_append.1 hx with hx | hx
    · exact h.tl x hx
    · obtain rfl := List.mem_singleton.1 hx
      exact ⟨k, rfl⟩
section
variable {w w0 : World} {G : List Nat} {L : List Ent} {R : List Thing} {F : Thing → List Thing}
theorem measP_eq {pp m e bh : Nat} {B : Option Addr} {byt bud : Int} (hM : Mem G w0 L R w) (hL : ⟨pp, 108, 4, plC B m e bh byt bud⟩ ∈ L) : measP pp w = m := by
  have h := (hM.blk hL).cell 0
  unfold measP
  simp only [h]
  simp
set_option maxRecDepth 20000 in
set_option maxHeartbeats 20000000 in
theorem plan_any (gr : Nat) (lo hi now bud : Int) (A : Option Addr) (n cc : Nat) (l : List El) (h0 : 0 ≤ lo) (h1 : lo ≤ hi) (h2 : hi ≤ 36500) (h3 : 0 ≤ now) (h4 : now ≤ 1000000) (h5 : 0 ≤ bud) (hl : l.length ≤ 11) (hok : ∀ x ∈ l, ArtOk R x) (hnd : (l.map (·.1)).Nodup) (hM : Mem G w0 L R w)
    (hL : ⟨gr, 33, 3, ruleC lo hi⟩ ∈ L) (hT : elT 51 7 (.slice A n cc) l ∈ R) :
    Calls Tryz.prog 12 #[.slice (some ⟨gr, 0, none⟩) 1 1, .slice A n cc, .int .i64 now, .int .i64 bud] w fun e w' => ∃ A' N c' rl, e = .returned (.tuple #[.slice A' N c', .int .i64 0]) ∧ (rl.map (·.1)).Nodup ∧ (∀ x ∈ rl, x.1 ∈ l.map (·.1) ∧ ∃ k : Int, x.2 = [.int .i64 k]) ∧ Mem G w0 L (elT 62 1 (.slice A' N c') rl :: R) w' := by
  have HC := Lib.hid (fun w (hM : Mem G w0 L R w) => compile_any gr lo hi h0 h1 h2 hM hL)
  have HMI := Lib.hid (fun w => eMinute_yes now w h3 h4)
  have HCA := Lib.hid (fun (L' : List Ent) (r1 r2 : Thing) (w : World) (hM : Mem G w0 L' (r1 :: r2 :: R) w) => chkArts_any A n cc l hM hl (fun x hx => (hok x hx).mono fun r hr => .tail _ (.tail _ hr)) hnd (.tail _ (.tail _ hT)))
  have HNP := Lib.hid (fun (e1 : Ent) (w : World) (gp ge off c gq oq d : Nat) (hM : Mem G w0 (e1 :: ⟨gp, 128, 2, patC starB ge off c⟩ :: L) (patsT (some ⟨gq, oq, none⟩) d gp :: eleT (some ⟨ge, off, none⟩) c :: R) w) => newPl_any gr gp ge off c gq oq d lo hi now bud A n cc l h0 (by omega) hl (fun x hx => (hok x hx).mono fun r hr => .tail _ (.tail _ hr)) hM (.tail _ (.tail _ hL)) (.tail _ (.head _)) (.tail _ (.head _)) (.head _) (.tail _ (.tail _ hT)))
  have HND := Lib.hid hnd
  have HLL := Lib.hid hl
  have c1 : decide (bud < 0) = false := decide_eq_false (by omega)
  clear h0 h1 h2 h3 h4 h5 hok hL hT hl hnd
  go_enter Tryz.func12, Tryz.ntmps12
  go_wp2_with (first | ((with_reducible refine (HC.out _ hM).mono ?_); rintro e w1 ⟨gp, ge, off, c, P, d, rfl, hM1⟩; clear hM; obtain ⟨gq, oq, hP, _⟩ := OffRow.cells (hM1.thing _ (.head _)) (by omega); subst hP; have hM := hM1; clear hM1) | ((with_reducible refine (HMI.out _).mono ?_); rintro e w1 ⟨rfl, rfl⟩) | ((with_reducible refine (HCA.out _ _ _ _ hM).mono ?_); rintro e w1 ⟨rfl, hM1⟩; clear hM; have hM := hM1; clear hM1) | ((with_reducible refine (HNP.out _ _ _ _ _ _ _ _ _ hM).mono ?_); rintro e w1 ⟨pp, bh, B, m, e', cl, byt, rfl, hy, hp, hco, hM1⟩; clear hM; have hM := hM1; clear hM1) | ((first | with_reducible refine at_load ?_ | ((with_reducible refine at_load_g ?_ ?_); (· rfl))); first | refine nll hM ?_ | refine nlc hM ?_ | refine nlp hM ?_) | ((with_reducible refine at_store ?_); first | (refine nlw hM ?_; clear hM; intro wx hM) | (refine nls hM ?_; clear hM; intro wx hM) | (refine nlt hM ?_; clear hM; intro wx hM)) | ((with_reducible refine at_alloc ?_); refine nlz hM ?_; clear hM; intro gx wx hM) | ((with_reducible refine at_box ?_); first | (refine nlb hM ?_; clear hM; intro gx wx hM) | (refine nlx hM ?_; clear hM; intro gx wx hM)))
  replace hM := Mem.elNil hM 62 1
  have M0 := Lib.hid (hM.perm (List.perm_middle (l₁ := [_, _])))
  have HY := Lib.hid hy
  have HP := Lib.hid hp
  have HCO := Lib.hid hco
  clear hM hy hp hco
  go_simp
  go_loopw [14] (fun v wr => ∃ A' N c' B m e' rl cl byt mp, v = .slice A' N c' ∧ Hid (PlanL (patsT (some ⟨gq, oq, none⟩) d gp :: eleT (some ⟨ge, off, none⟩) c :: R) l rl cl ∧ m = cl.length ∧ N = rl.length ∧ -100 * (rl.length : Int) ≤ byt ∧ byt ≤ 1100) ∧ Mem G w0 (⟨pp, 108, 4, plC B m e' bh byt bud⟩ :: ⟨gx, 77, 2, rulesC gr (some ⟨gq, oq, none⟩) d⟩ :: ⟨gp, 128, 2, patC starB ge off c⟩ :: L) (elT 113 10 (.slice B m e') cl :: mapT bh mp :: elT 62 1 (.slice A' N c') rl :: patsT (some ⟨gq, oq, none⟩) d gp :: eleT (some ⟨ge, off, none⟩) c :: R) wr) (fun _ wr => measP pp wr)
  case atStart => exact ⟨none, 0, 0, B, m, e', [], cl, byt, _, rfl, Lib.hid ⟨⟨HP.out, fun x hx => (by cases hx), HCO.out⟩, (elT_len (M0.out.thing _ (.head _))).1, rfl, by have := HY.out; simp; omega, by have := HY.out; omega⟩, M0.out⟩
  case round =>
    clear M0
    obtain ⟨A', N, c', B, m, e', rl, cl, byt, mp, rfl, hh, hM⟩ := hrel
    have hms := Lib.hid (measP_eq hM (.head _))
    have hlen : rl.length + cl.length = l.length := by have := hh.out.1.ids.length_eq; simpa using this
    have hl11 := HLL.out
    have HS := Lib.hid (fun w (hM : Mem G w0 (⟨pp, 108, 4, plC B m e' bh byt bud⟩ :: ⟨gx, 77, 2, rulesC gr (some ⟨gq, oq, none⟩) d⟩ :: ⟨gp, 128, 2, patC starB ge off c⟩ :: L) (elT 113 10 (.slice B m e') cl :: mapT bh mp :: elT 62 1 (.slice A' N c') rl :: patsT (some ⟨gq, oq, none⟩) d gp :: eleT (some ⟨ge, off, none⟩) c :: R) w) => step_any pp bh B m e' byt bud cl mp (by omega) (fun x hx => (hh.out.1.ok x hx).mono fun r hr => .tail _ hr) (by have := hh.out.2.2.2; omega) (by have := hh.out.2.2.2; omega) hM)
    have HLN := Lib.hid (show rl.length < 1000000 by omega)
    clear hlen hl11
    go_wp2_with (first | ((with_reducible refine (HS.out _ hM).mono ?_); intro e w2 h2; clear hM; unfold StepEnd at h2; obtain ⟨rfl, mp', hM⟩ | ⟨i, hi, kd, byt', mp', rfl, hb1, hb2, hM⟩ := h2; rotate_left; (generalize hj : (cl[i]).1 = j; have HJ := Lib.hid (show ∃ hi : i < cl.length, (cl[i]).1 = j from ⟨hi, hj⟩); have HB := Lib.hid (And.intro hb1 hb2); clear hj hi hb1 hb2); rotate_left) | ((with_reducible refine at_bslice ?_); refine nbs hM ely_reas ?_; clear hM; intro gb wb hM) | ((with_reducible refine at_append ?_); refine nap (l := rl) hM ely_reas HLN.out ?_; clear hM; intro A2 N2 c2 wz HN hM) | ((first | with_reducible refine at_load ?_ | ((with_reducible refine at_load_g ?_ ?_); (· rfl))); first | refine nll hM ?_ | refine nlc hM ?_ | refine nlp hM ?_) | ((with_reducible refine at_store ?_); first | (refine nlw hM ?_; clear hM; intro wx hM) | (refine nls hM ?_; clear hM; intro wx hM) | (refine nlt hM ?_; clear hM; intro wx hM)) | ((with_reducible refine at_alloc ?_); refine nlz hM ?_; clear hM; intro gx wx hM) | ((with_reducible refine at_box ?_); first | (refine nlb hM ?_; clear hM; intro gx wx hM) | (refine nlx hM ?_; clear hM; intro gx wx hM)))
    · go_ret2
      refine ⟨A', N, c', rl, rfl, (List.nodup_append.1 (hh.out.1.ids.nodup_iff.2 HND.out)).1, fun x hx => ⟨hh.out.1.ids.mem_iff.1 (List.mem_append_left _ (List.mem_map_of_mem hx)), hh.out.1.tl x hx⟩, (hM.subL (by exact List.Sublist.cons _ (List.Sublist.cons _ (List.Sublist.cons _ (List.Sublist.cons _ (List.Sublist.refl _)))))).subR (by exact List.Sublist.cons _ (List.Sublist.cons _ (List.Sublist.cons_cons _ (List.Sublist.cons _ (List.Sublist.cons _ (List.Sublist.refl _))))))⟩
    · obtain ⟨hi, rfl⟩ := HJ.out
      have hM2 := hM.subL (by exact List.Sublist.cons _ (List.Sublist.cons _ (List.Sublist.refl _)))
      have hm := hh.out.2.1
      have hb := hh.out.2.2.2
      have hb2 := HB.out
      have he : (cl.eraseIdx i).length = cl.length - 1 := List.length_eraseIdx_of_lt hi
      have hr : (rl ++ [((cl[i]).1, [Value.int .i64 kd])]).length = rl.length + 1 := by rw [List.length_append]; rfl
      refine ⟨⟨A2, N2, c2, B, m - 1, e', rl ++ [((cl[i]).1, [Value.int .i64 kd])], cl.eraseIdx i, byt', mp', rfl, Lib.hid ⟨hh.out.1.step i hi kd, by omega, by rw [HN.out, hr], by rw [hr]; omega, by omega⟩, hM2⟩, ?_⟩
      rw [measP_eq hM2 (.head _), hms.out]
      omega
end
end Go.Proofs.YtpjphjokhccdaaaGreat
