/- Seat c: UTF-8: Runes. -/
import Derived.Test.YtlidpdjainmaiaaGreatDoorXg
namespace Go.Cht
open Go Go.Bul
/-- How many bytes the first codes have. -/
def offC (cs : List (List Nat)) (k : Nat) : Nat := (cs.take k).flatten.length
theorem offC_succ {cs : List (List Nat)} {k : Nat} (h : k < cs.length) : offC cs (k + 1) = offC cs k + cs[k].length := by
  unfold offC
  rw [List.take_succ_eq_append_getElem h, List.flatten_append, List.length_append]
  simp
theorem offC_all (cs : List (List Nat)) : offC cs cs.length = cs.flatten.length := by
  unfold offC
  rw [List.take_length]
theorem offC_le (cs : List (List Nat)) (k : Nat) : offC cs k ≤ cs.flatten.length := by
  unfold offC
  conv => rhs; rw [← List.take_append_drop k cs]
  rw [List.flatten_append, List.length_append]
  omega
theorem offC_drop {cs : List (List Nat)} {k : Nat} (h : k < cs.length) : cs.flatten.drop (offC cs k) = cs[k] ++ (cs.drop (k + 1)).flatten := by
  have e : cs.flatten = (cs.take k).flatten ++ (cs[k] ++ (cs.drop (k + 1)).flatten) := by
    conv => lhs; rw [← List.take_append_drop k cs]
    rw [List.flatten_append, List.drop_eq_getElem_cons h, List.flatten_cons]
  rw [e]
  exact List.drop_left
end Go.Cht
namespace Go.Proofs.YtlidpdjainmaiaaGreatDoor
open Go Go.RowKit Go.Bul Go.Thg Go.Lin Go.Cht
theorem runes_any (s : ByteArray) (w : World) : Calls Tryz.prog 64 #[.string s] w fun e w' => ∃ gs, e = .returned (.func (.func 81) #[] #[.pointer (some ⟨gs, 0, none⟩)]) ∧ Mem [] w [⟨gs, 9, 1, #[.string s]⟩] [] w' := by
  have hM := Mem.start [] w
  go_enter Tryz.func64, Tryz.ntmps64
  go_wp2_with (first | ((with_reducible refine at_box ?_); refine nlx (v := .string s) hM ?_; clear hM; intro gb wb hM) | ((first | with_reducible refine at_load ?_ | ((with_reducible refine at_load_g ?_ ?_); (· rfl))); first | refine nll hM ?_ | refine nlc hM ?_ | refine nlp hM ?_) | ((with_reducible refine at_store ?_); first | (refine nlw hM ?_; clear hM; intro wx hM) | (refine nls hM ?_; clear hM; intro wx hM) | (refine nlt hM ?_; clear hM; intro wx hM)) | ((with_reducible refine at_alloc ?_); refine nlz hM ?_; clear hM; intro gx wx hM) | ((with_reducible refine at_box ?_); first | (refine nlb hM ?_; clear hM; intro gx wx hM) | (refine nlx hM ?_; clear hM; intro gx wx hM)))
  go_ret
  exact ⟨gb, rfl, hM⟩
section
variable {w w0 : World} {G : List Nat}
set_option maxRecDepth 100000 in
set_option maxHeartbeats 4000000 in
theorem runes_in {σ : Type} (l gs : Nat) (s : ByteArray) (cs : List (List Nat)) (hcs : nums s = cs.flatten) (hv : ∀ c ∈ cs, Cd c) (hsz : s.size ≤ 1000000000) (LL : σ → List Ent) (RR : σ → List Thing) (Inv : σ → Nat → Prop) (Stop : World → Prop) (s0 : σ) (h0 : Inv s0 0) (hM : Mem G w0 (LL s0) (RR s0) w)
    (hgs : ∀ st, ⟨gs, 9, 1, #[.string s]⟩ ∈ LL st)
    (hY : ∀ (st : σ) (k : Nat) (W : World) (hk : k < cs.length), Inv st k → Mem G w0 (LL st) (RR st) W → YieldAt Fence.wide 1 Tryz.prog l #[.int .i64 (offC cs k : Nat), .int .i32 (valB cs[k] : Nat)] W fun e W' => (e = .returned (.bool true) ∧ ∃ st', Inv st' (k + 1) ∧ Mem G w0 (LL st') (RR st') W') ∨ (e = .returned (.bool false) ∧ Stop W')) :
    CallsIn Fence.wide 2 Tryz.prog 81 #[.func (.yield l) #[] #[], .pointer (some ⟨gs, 0, none⟩)] w fun e W' => (∃ v, e = .returned v) ∧ ((∃ st', Inv st' cs.length ∧ Mem G w0 (LL st') (RR st') W') ∨ Stop W') := by
  have HY := Lib.hid hY
  have H0 := Lib.hid h0
  have HG := Lib.hid hgs
  have HCS := Lib.hid hcs
  have HV := Lib.hid hv
  obtain ⟨m, hm⟩ : ∃ m, s.size = m := ⟨_, rfl⟩
  have m1 : (m : Int) ≤ 1000000000 := by omega
  have hml : m = cs.flatten.length := by rw [← hm, ← nums_length, hcs]
  have HML := Lib.hid hml
  clear hY h0 hgs hcs hv hsz hml
  refine callsIn_wide.2 ?_
  go_enter Tryz.func81, Tryz.ntmps81
  go_wp2_with fail
  have M0 := Lib.hid hM
  clear hM
  go_loopw [3] (fun a wr => ∃ k : Nat, k ≤ cs.length ∧ a = .int .i64 (offC cs k : Nat) ∧ ∃ st, Hid (Inv st k) ∧ Mem G w0 (LL st) (RR st) wr) (fun a _ => m - (intOf a).toNat)
  case atStart => exact ⟨0, Nat.zero_le _, rfl, s0, H0, M0.out⟩
  case round =>
    clear M0
    obtain ⟨k, hk, rfl, st, hi, hM⟩ := hrel
    have hof := offC_le cs k
    obtain ⟨f, hf⟩ : ∃ f, offC cs k = f := ⟨_, rfl⟩
    have hgs := HG.out st
    by_cases hlt : k < cs.length
    · have hcd := HV.out cs[k] (List.getElem_mem hlt)
      obtain ⟨c1, c4⟩ := hcd.size
      have hdr := offC_drop hlt
      have hsu := offC_succ hlt
      have hof2 := offC_le cs (k + 1)
      rw [hf] at hdr hsu hof ⊢
      have hx : nums (s.extract f m) = cs[k] ++ (cs.drop (k + 1)).flatten := by
        rw [nums_extract, List.take_of_length_le (by rw [nums_length, hm]; exact Nat.le_refl _), HCS.out, hdr]
      have hme := meas_code hcd (cs.drop (k + 1)).flatten
      have HD := Lib.hid (fun w => decode_yes (s.extract f m) w (by rw [hx, hme]))
      rw [hx, hme] at HD
      simp only [List.take_left] at HD
      have HYY := Lib.hid (fun W hM => HY.out st k W hlt hi.out hM)
      rw [hf] at HYY
      obtain ⟨z, hz⟩ : ∃ z, cs[k].length = z := ⟨_, rfl⟩
      rw [hz] at HD hsu c1 c4
      have j0 : (f : Int) < (m : Int) := by have := HML.out; omega
      have j1 : (0 : Int) ≤ (f : Int) := Int.natCast_nonneg _
      have j2 : (z : Int) ≤ 4 := by omega
      have j3 : (0 : Int) ≤ (z : Int) := Int.natCast_nonneg _
      have HE := Lib.hid (And.intro hsu (show f + z ≤ m ∧ 1 ≤ z by have := HML.out; omega))
      clear hcd hdr hsu hof2 hx hme hof hz c1 c4 hf
      go_upto_region 3 with (first | ((with_reducible refine (HD.out _).mono ?_); rintro e w1 ⟨rfl, hb⟩; replace hM := hM.step hb; clear hb) | ((first | with_reducible refine at_load ?_ | ((with_reducible refine at_load_g ?_ ?_); (· rfl))); first | refine nll hM ?_ | refine nlc hM ?_ | refine nlp hM ?_) | ((with_reducible refine at_store ?_); first | (refine nlw hM ?_; clear hM; intro wx hM) | (refine nls hM ?_; clear hM; intro wx hM) | (refine nlt hM ?_; clear hM; intro wx hM)) | ((with_reducible refine at_alloc ?_); refine nlz hM ?_; clear hM; intro gx wx hM) | ((with_reducible refine at_box ?_); first | (refine nlb hM ?_; clear hM; intro gx wx hM) | (refine nlx hM ?_; clear hM; intro gx wx hM)))
      obtain ⟨fn, tmps, assign, body, hy, hRd⟩ := HYY.out w1 hM
      refine (wpIn_wide (n := 2)).1 ?_
      refine wpIn_region_lit ?_
      gi_wp2
      refine hRd.mono ?_
      rintro e W3 (⟨rfl, st', hi3, hM3⟩ | ⟨rfl, hst⟩)
      · clear hM
        gi_wp2
        go_wp2_with fail
        refine ⟨⟨k + 1, by omega, ?_, st', Lib.hid hi3, hM3⟩, by have := HE.out; simp [intOf]; omega⟩
        have := HE.out.1
        rw [this]
        go_num
      · gi_wp2
        go_wp2_with fail
        exact bodyPost_ret (results_none rfl _ _ _) rfl ⟨⟨_, rfl⟩, .inr hst⟩
    · obtain rfl : k = cs.length := by omega
      have hfm : f = m := by rw [← hf, offC_all, ← HML.out]
      rw [hf]
      subst hfm
      clear hof hf
      go_wp2_with (first | ((first | with_reducible refine at_load ?_ | ((with_reducible refine at_load_g ?_ ?_); (· rfl))); first | refine nll hM ?_ | refine nlc hM ?_ | refine nlp hM ?_) | ((with_reducible refine at_store ?_); first | (refine nlw hM ?_; clear hM; intro wx hM) | (refine nls hM ?_; clear hM; intro wx hM) | (refine nlt hM ?_; clear hM; intro wx hM)) | ((with_reducible refine at_alloc ?_); refine nlz hM ?_; clear hM; intro gx wx hM) | ((with_reducible refine at_box ?_); first | (refine nlb hM ?_; clear hM; intro gx wx hM) | (refine nlx hM ?_; clear hM; intro gx wx hM)))
      exact bodyPost_end (results_none rfl _ _ _) rfl ⟨⟨_, rfl⟩, .inl ⟨st, hi.out, hM⟩⟩
end
end Go.Proofs.YtlidpdjainmaiaaGreatDoor
