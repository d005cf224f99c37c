/- LineConfigs: the walk. -/
import Derived.Test.YtenflgbaibjeoaaLnz
import Derived.Test.YtenflgbaibjeoaaLnw
import Derived.Test.YtenflgbaibjeoaaLcf
import Derived.Test.YtenflgbaibjeoaaLcd
namespace Go.Proofs.Ytenflgbaibjeoaa
open Go Go.RowKit Go.Bul Go.Thg Go.Lin
section
variable {G : List Nat} {w0 w : World} {L : List Ent} {R : List Thing}
theorem wT_in {A : Option Addr} {n c : Nat} {ws : List Win} (hM : Mem G w0 L R w) (h : wT (.slice A n c) ws ∈ R) : Wins w A n ws := wT_wins (hM.thing _ h)
theorem winT_in {A : Option Addr} {n c : Nat} {ws : List Win} (hM : Mem G w0 L R w) (h : winT (.slice A n c) ws ∈ R) : Wins w A n ws := winT_wins (hM.thing _ h)
end
/-- What a description's windows came in as. -/
structure WinsIn (w : World) (A : Option Addr) (n c : Nat) (ws : List Win) : Prop where
  wins : Wins w A n ws
  le : n ≤ c
  adv : advA A 0 c 2 = A
theorem WinsIn.keep {w w' : World} {A : Option Addr} {n c : Nat} {ws : List Win} (h : WinsIn w A n c ws) (hb : Below w.heap.size w w') : WinsIn w' A n c ws := ⟨h.wins.keep hb, h.le, h.adv⟩
theorem cut_in {r d p : Int} {A : Option Addr} {n c : Nat} {ws : List Win} {w : World} (h : WinsIn w A n c ws) :
    Calls Try.prog 20 #[cfgV r d p A n c] w fun e w' => ∃ A' c', e = .returned (cfgV r d p A' (ws.take 40).length c') ∧ Becomes [] w (wT (.slice A' (ws.take 40).length c') (ws.take 40)) w' := by
  refine (cut_any r d p A n c ws w h.wins h.le h.adv).mono ?_
  rintro e w' ⟨A', N, c', rfl, rfl, hb⟩
  exact ⟨A', c', rfl, hb⟩
theorem config_in {r d p : Int} {A : Option Addr} {c : Nat} {ws : List Win} {w : World} (hW : Wins w A ws.length ws) (hn : ws.length ≤ 40) :
    Calls Try.prog 21 #[cfgV r d p A ws.length c] w fun e w' => ∃ A' c', e = .returned (cfgV r d p A' ws.length c') ∧ Becomes [] w (winT (.slice A' ws.length c') ws) w' := by
  refine (config_any r d p A ws.length c ws w hW hn).mono ?_
  rintro e w' ⟨A', N, c', rfl, rfl, hb⟩
  exact ⟨A', c', rfl, hb⟩
theorem HasLine.ex {G : List Nat} {w0 w : World} {L : List Ent} {R : List Thing} {p : Nat} {S : Ln} (h : HasLine G w0 L R p S w) : ∃ fp, Mem G w0 L (lineT fp p S :: R) w := h
theorem HasLine.of {G : List Nat} {w0 w : World} {L : List Ent} {R : List Thing} {p : Nat} {S : Ln} {fp : List Nat} (h : Mem G w0 L (lineT fp p S :: R) w) : HasLine G w0 L R p S w := ⟨fp, h⟩
theorem newS_now {r d p : Int} {ws : List Win} : (newS r d p ws).now = 0 := by unfold newS; split <;> rfl
theorem newS_up {r d p : Int} {ws : List Win} (hc : chk r d p ws = 0) : (newS r d p ws).up = connected r d p ws 0 := by
  rw [connected_eq hc (Int.le_refl _)]
  unfold newS
  split <;> simp_all
attribute [local irreducible] HasLine newS chk connected
set_option maxRecDepth 20000 in
set_option maxHeartbeats 4000000 in
theorem configs_any (r d p m : Int) (A : Option Addr) (n c : Nat) (ws : List Win) (w : World) (hm2 : m ≤ 9223372036854775807) (hI : WinsIn w A n c ws) :
    Calls Try.prog 4 #[cfgV r d p A n c, .int .i64 m] w fun e w' => e = .returned (.bool true) ∧ Below w.heap.size w w' := by
  have hM := Mem.start [] w
  have HC := Lib.hid (fun w' hb => cut_in (r := r) (d := d) (p := p) (hI.keep (w' := w') hb))
  obtain ⟨us, hus⟩ : ∃ us, ws.take 40 = us := ⟨_, rfl⟩
  have hul : us.length ≤ 40 := by rw [← hus, List.length_take]; omega
  rw [hus] at HC
  have HU := Lib.hid hul
  clear hus hI
  by_cases hz : chk r d p us = 0
  · have HR := Lib.hid (fun (A : Option Addr) (c : Nat) w hW => rcheck_any r d p A us.length c us w (by omega) hW)
    have HN := Lib.hid (fun (A : Option Addr) (c : Nat) w hW => new_any (w := w) r d p A us.length c us hW (by omega) hz)
    have HK := Lib.hid (fun (A : Option Addr) (c : Nat) w hW => check_any r d p A us.length c us w (by omega) hW)
    have HQ := Lib.hid (fun (A : Option Addr) (c : Nat) w hW => conn_any r d p m A us.length c us w hm2 (by omega) hW)
    have HV := Lib.hid (fun (m0 : Int) (hm0 : m0 ≤ 9223372036854775807) (A : Option Addr) (c : Nat) w hW => rconn_any r d p m0 A us.length c us w hm0 (by omega) hW)
    have HM2 := Lib.hid hm2
    have HNO := Lib.hid (fun (w' w0 : World) (L : List Ent) (R : List Thing) (g : Nat) (h : HasLine [] w0 L R g (newS r d p us) w') => now_any h)
    have HUP := Lib.hid (fun (w' w0 : World) (L : List Ent) (R : List Thing) (g : Nat) (h : HasLine [] w0 L R g (newS r d p us) w') => up_any h)
    rw [hz] at HR HK
    rw [newS_now] at HNO
    rw [newS_up hz] at HUP
    generalize newS r d p us = S at HN HNO HUP
    clear hz hul hm2
    go_enter Try.func4, Try.ntmps4
    go_upto_region 5 with (first | ((with_reducible refine (HC.out _ hM.below).mono ?_); rintro e w1 ⟨A1, c1', rfl, hb⟩; replace hM := hM.newThing hb; clear hb) | ((with_reducible refine (config_in (wT_in hM (List.Mem.head _)) HU.out).mono ?_); rintro e w1 ⟨A2, c2, rfl, hb⟩; replace hM := hM.newThing hb; clear hb) | ((with_reducible refine (HR.out _ _ _ (wT_in hM (List.Mem.tail _ (List.Mem.head _)))).mono ?_); rintro e w1 ⟨rfl, hb⟩; replace hM := hM.step hb; clear hb) | ((with_reducible refine (HN.out _ _ _ (winT_in hM (List.Mem.head _))).mono ?_); rintro e w1 ⟨g, rfl, hH⟩; obtain ⟨fp, hM2⟩ := (HasLine.frame hM hH).ex; clear hM hH; have hM := hM2; clear hM2) | ((first | with_reducible refine at_load ?_ | ((with_reducible refine at_load_g ?_ ?_); (· rfl))); first | refine lc hM ?_ | refine ll hM ?_ | refine lp hM ?_) | ((with_reducible refine at_store ?_); first | (refine ls hM ?_; clear hM; intro wx hM) | (refine lw hM ?_; clear hM; intro wx hM) | (refine lt hM ?_; clear hM; intro wx hM)) | ((with_reducible refine at_alloc ?_); refine lz hM ?_; clear hM; intro gx wx hM) | ((with_reducible refine at_box ?_); refine lb hM ?_; clear hM; intro gx wx hM))
    refine Go.Bul.wp_region_class (Mem _ w _ _) (by kernel_rfl) (by kernel_rfl) hM.drew ?_
    repeat ((with_reducible refine wpQuiet_step (fun K hK => ?_)); (first | ((first | ((with_reducible refine quiet_some ?_ ?_); (· rfl)) | ((with_reducible refine quiet_wanted ?_ ?_); (· rfl))); apply Exists.intro; refine ⟨fun w' hM' => ?_, ?_⟩; (· first | (go_simp; rfl) | exact qc hM' | (go_simp; with_reducible refine at_calls ?_; first | exact quiet_mem_call hM' (known_any _) | exact quiet_mem_call hM' (HK.out _ _ _ (winT_in hM' (List.Mem.tail _ (List.Mem.head _)))) | exact quiet_mem_call hM' (HQ.out _ _ _ (winT_in hM' (List.Mem.tail _ (List.Mem.head _)))) | exact quiet_mem_call hM' (HV.out _ (by first | exact HM2.out | decide) _ _ _ (wT_in hM' (List.Mem.tail _ (List.Mem.tail _ (List.Mem.head _))))) | exact quiet_mem_call_same hM' (HNO.out _ _ _ _ _ (HasLine.of hM')) | exact quiet_mem_call_same hM' (HUP.out _ _ _ _ _ (HasLine.of hM'))) | exact ql hM' | exact qp hM')) | ((with_reducible refine quiet_unwanted ?_ ?_); (· rfl))); go_simp; (with_reducible refine hK _ ?_); clear hK K)
    refine wpQuiet_nil ?_
    intro wx hM
    go_wp2_with fail
    go_ret
    exact ⟨rfl, hM.below⟩
  · obtain ⟨z, hzz⟩ : ∃ z, chk r d p us = z := ⟨_, rfl⟩
    have c1 : (z == 0) = false := by rw [← hzz]; simpa using hz
    have HR := Lib.hid (fun (A : Option Addr) (c : Nat) w hW => rcheck_any r d p A us.length c us w (by omega) hW)
    have HN := Lib.hid (fun (A : Option Addr) (c : Nat) w hW => new_no (w := w) r d p A us.length c us hW (by omega) hz)
    have HK := Lib.hid (fun (A : Option Addr) (c : Nat) w hW => check_any r d p A us.length c us w (by omega) hW)
    have HQ := Lib.hid (fun (A : Option Addr) (c : Nat) w hW => conn_any r d p m A us.length c us w hm2 (by omega) hW)
    have HV := Lib.hid (fun (A : Option Addr) (c : Nat) w hW => rconn_any r d p m A us.length c us w hm2 (by omega) hW)
    rw [hzz] at HR HN HK
    generalize connected r d p us m = bb at HQ HV
    clear hz hzz hul hm2
    go_enter Try.func4, Try.ntmps4
    go_upto_region 5 with (first | ((with_reducible refine (HC.out _ hM.below).mono ?_); rintro e w1 ⟨A1, c1', rfl, hb⟩; replace hM := hM.newThing hb; clear hb) | ((with_reducible refine (config_in (wT_in hM (List.Mem.head _)) HU.out).mono ?_); rintro e w1 ⟨A2, c2, rfl, hb⟩; replace hM := hM.newThing hb; clear hb) | ((with_reducible refine (HR.out _ _ _ (wT_in hM (List.Mem.tail _ (List.Mem.head _)))).mono ?_); rintro e w1 ⟨rfl, hb⟩; replace hM := hM.step hb; clear hb) | ((with_reducible refine (HN.out _ _ _ (winT_in hM (List.Mem.head _))).mono ?_); rintro e w1 ⟨rfl, hb⟩; replace hM := hM.step hb; clear hb) | ((first | with_reducible refine at_load ?_ | ((with_reducible refine at_load_g ?_ ?_); (· rfl))); first | refine lc hM ?_ | refine ll hM ?_ | refine lp hM ?_) | ((with_reducible refine at_store ?_); first | (refine ls hM ?_; clear hM; intro wx hM) | (refine lw hM ?_; clear hM; intro wx hM) | (refine lt hM ?_; clear hM; intro wx hM)) | ((with_reducible refine at_alloc ?_); refine lz hM ?_; clear hM; intro gx wx hM) | ((with_reducible refine at_box ?_); refine lb hM ?_; clear hM; intro gx wx hM))
    refine Go.Bul.wp_region_class (Mem _ w _ _) (by kernel_rfl) (by kernel_rfl) hM.drew ?_
    repeat ((with_reducible refine wpQuiet_step (fun K hK => ?_)); (first | ((first | ((with_reducible refine quiet_some ?_ ?_); (· rfl)) | ((with_reducible refine quiet_wanted ?_ ?_); (· rfl))); apply Exists.intro; refine ⟨fun w' hM' => ?_, ?_⟩; (· first | (go_simp; rfl) | exact qc hM' | (go_simp; with_reducible refine at_calls ?_; first | exact quiet_mem_call hM' (known_any _) | exact quiet_mem_call hM' (HK.out _ _ _ (winT_in hM' (List.Mem.head _))) | exact quiet_mem_call hM' (HQ.out _ _ _ (winT_in hM' (List.Mem.head _))) | exact quiet_mem_call hM' (HV.out _ _ _ (wT_in hM' (List.Mem.tail _ (List.Mem.head _))))) | exact ql hM' | exact qp hM')) | ((with_reducible refine quiet_unwanted ?_ ?_); (· rfl))); go_simp; (with_reducible refine hK _ ?_); clear hK K)
    refine wpQuiet_nil ?_
    intro wx hM
    go_wp2_with fail
    go_ret
    exact ⟨rfl, hM.below⟩
end Go.Proofs.Ytenflgbaibjeoaa
