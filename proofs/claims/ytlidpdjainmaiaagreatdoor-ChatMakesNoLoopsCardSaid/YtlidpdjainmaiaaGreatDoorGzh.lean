/- Seat c: article.Lines over a body of printed lines; Level. -/
import Derived.Test.YtlidpdjainmaiaaGreatDoorGzg
namespace Go.Cht
open Go Go.Bul
theorem body_step {ls : List Ln} {k : Nat} (hk : k < ls.length) : bodyL (ls.drop k) = prL ls[k] ++ 10 :: bodyL (ls.drop (k + 1)) := by
  rw [List.drop_eq_getElem_cons hk, bodyL_cons]
end Go.Cht
namespace Go.Proofs.YtlidpdjainmaiaaGreatDoor
open Go Go.RowKit Go.Bul Go.Thg Go.Lin Go.Cht
theorem alines_any (s : ByteArray) (w : World) : Calls Tryz.prog 55 #[.string s] w fun e w' => ∃ gs, e = .returned (.func (.func 76) #[] #[.pointer (some ⟨gs, 0, none⟩)]) ∧ Mem [] w [⟨gs, 9, 1, #[.string s]⟩] [] w' := by
  have hM := Mem.start [] w
  go_enter Tryz.func55, Tryz.ntmps55
  go_wp2_with (first | ((with_reducible refine at_box ?_); refine nlx (v := .string s) hM ?_; clear hM; intro gb wb hM) | ((first | with_reducible refine at_load ?_ | ((with_reducible refine at_load_g ?_ ?_); (· rfl))); first | refine nll hM ?_ | refine nlc hM ?_ | refine nlp hM ?_) | ((with_reducible refine at_store ?_); first | (refine nlw hM ?_; clear hM; intro wx hM) | (refine nls hM ?_; clear hM; intro wx hM) | (refine nlt hM ?_; clear hM; intro wx hM)) | ((with_reducible refine at_alloc ?_); refine nlz hM ?_; clear hM; intro gx wx hM) | ((with_reducible refine at_box ?_); first | (refine nlb hM ?_; clear hM; intro gx wx hM) | (refine nlx hM ?_; clear hM; intro gx wx hM)))
  go_ret
  exact ⟨gb, rfl, hM⟩
section
variable {w w0 : World} {G : List Nat}
set_option maxRecDepth 100000 in
set_option maxHeartbeats 4000000 in
theorem alines_in {σ : Type} (l gs : Nat) (s : ByteArray) (ls : List Ln) (hs : nums s = bodyL ls) (hok : ∀ l ∈ ls, OkL l) (hsz : s.size ≤ 1000000000) (LL : σ → List Ent) (RR : σ → List Thing) (Inv : σ → Nat → Prop) (Stop : World → Prop) (s0 : σ) (h0 : Inv s0 0) (hM : Mem G w0 (LL s0) (RR s0) w)
    (hgs : ∀ st, ⟨gs, 9, 1, #[.string s]⟩ ∈ LL st)
    (hY : ∀ (st : σ) (k : Nat) (W : World) (hk : k < ls.length), Inv st k → Mem G w0 (LL st) (RR st) W → YieldAt Fence.wide 1 Tryz.prog l #[.int .i64 (k : Nat), .string (bstr (prL ls[k]))] W fun e W' => (e = .returned (.bool true) ∧ ∃ st', Inv st' (k + 1) ∧ Mem G w0 (LL st') (RR st') W') ∨ (e = .returned (.bool false) ∧ Stop W')) :
    CallsIn Fence.wide 2 Tryz.prog 76 #[.func (.yield l) #[] #[], .pointer (some ⟨gs, 0, none⟩)] w fun e W' => (∃ v, e = .returned v) ∧ ((∃ st', Inv st' ls.length ∧ Mem G w0 (LL st') (RR st') W') ∨ Stop W') := by
  have HY := Lib.hid hY
  have H0 := Lib.hid h0
  have HG := Lib.hid hgs
  have HG0 := hgs s0
  have HOK := Lib.hid hok
  have HS := Lib.hid (show s = bstr (bodyL (ls.drop 0)) by rw [List.drop_zero, ← hs, bstr_of_nums])
  have HLN := Lib.hid (show (bodyL ls).length ≤ 1000000000 by rw [← hs, nums_length]; exact hsz)
  have HLL := Lib.hid (show ls.length ≤ 1000000000 by have := body_many ls; rw [← hs, nums_length] at this; omega)
  clear hY h0 hgs hs hok hsz
  refine callsIn_wide.2 ?_
  go_enter Tryz.func76, Tryz.ntmps76
  go_wp2_with (first | ((first | with_reducible refine at_load ?_ | ((with_reducible refine at_load_g ?_ ?_); (· rfl))); first | refine nll hM ?_ | refine nlc hM ?_ | refine nlp hM ?_) | ((with_reducible refine at_store ?_); first | (refine nlw hM ?_; clear hM; intro wx hM) | (refine nls hM ?_; clear hM; intro wx hM) | (refine nlt hM ?_; clear hM; intro wx hM)) | ((with_reducible refine at_alloc ?_); refine nlz hM ?_; clear hM; intro gx wx hM) | ((with_reducible refine at_box ?_); first | (refine nlb hM ?_; clear hM; intro gx wx hM) | (refine nlx hM ?_; clear hM; intro gx wx hM)))
  have M0 := Lib.hid hM
  clear hM
  go_loopw [3, 4] (fun a b wr => ∃ k : Nat, k ≤ ls.length ∧ a = .string (bstr (bodyL (ls.drop k))) ∧ b = .int .i64 (k : Nat) ∧ ∃ st, Hid (Inv st k) ∧ Mem G w0 (LL st) (RR st) wr) (fun a _ _ => sLen a)
  case atStart => exact ⟨0, Nat.zero_le _, by rw [← HS.out], rfl, s0, H0, M0.out⟩
  case round =>
    clear M0
    obtain ⟨k, hk, rfl, rfl, st, hi, hM⟩ := hrel
    have hgs := HG.out st
    obtain ⟨u, hu⟩ : ∃ u, bstr (bodyL (ls.drop k)) = u := ⟨_, rfl⟩
    have hun : nums u = bodyL (ls.drop k) := by rw [← hu, nums_bstr (bodyL_bytes _)]
    have hul : u.size ≤ 1000000000 := by
      rw [← nums_length, hun]
      have h1 := HLN.out
      have h2 : (bodyL ls).length = (bodyL (ls.take k)).length + (bodyL (ls.drop k)).length := by
        conv => lhs; rw [← List.take_append_drop k ls]
        simp only [bodyL, List.map_append, List.flatten_append, List.length_append]
      omega
    rw [hu]
    by_cases hlt : k < ls.length
    · rw [body_step hlt] at hun
      have HC := Lib.hid (fun w => cut_at u ⟨#[10]⟩ _ _ 10 rfl hun (prL_no10 (HOK.out _ (List.getElem_mem hlt))) hul w)
      have hus : 0 < u.size := by rw [← nums_length, hun, List.length_append, List.length_cons]; omega
      have hse : u.toList.isEmpty = false := isEmpty_no hus
      have HYY := Lib.hid (fun W hM => HY.out st k W hlt hi.out hM)
      have HD := Lib.hid (show (bstr (bodyL (ls.drop (k + 1)))).size < u.size by
        rw [bstr_size, ← nums_length u, hun, List.length_append, List.length_cons]
        omega)
      have k0 : (0 : Int) ≤ (k : Int) := Int.natCast_nonneg _
      have k9 : (k : Int) ≤ 1000000000 := by have := HLL.out; omega
      clear hun hul hus hu
      go_upto_region 5 with (first | ((with_reducible refine (HC.out _).mono ?_); rintro e w1 ⟨rfl, hb⟩; replace hM := hM.step hb; clear hb) | ((first | with_reducible refine at_load ?_ | ((with_reducible refine at_load_g ?_ ?_); (· rfl))); first | refine nll hM ?_ | refine nlc hM ?_ | refine nlp hM ?_) | ((with_reducible refine at_store ?_); first | (refine nlw hM ?_; clear hM; intro wx hM) | (refine nls hM ?_; clear hM; intro wx hM) | (refine nlt hM ?_; clear hM; intro wx hM)) | ((with_reducible refine at_alloc ?_); refine nlz hM ?_; clear hM; intro gx wx hM) | ((with_reducible refine at_box ?_); first | (refine nlb hM ?_; clear hM; intro gx wx hM) | (refine nlx hM ?_; clear hM; intro gx wx hM)))
      obtain ⟨fn, tmps, assign, body, hy, hRd⟩ := HYY.out w1 hM
      refine (wpIn_wide (n := 2)).1 ?_
      refine wpIn_region_lit ?_
      gi_wp2
      refine hRd.mono ?_
      rintro e W3 (⟨rfl, st', hi3, hM3⟩ | ⟨rfl, hst⟩)
      · clear hM
        gi_wp2
        go_wp2_with fail
        refine ⟨⟨k + 1, by omega, rfl, by go_num, st', Lib.hid hi3, hM3⟩, ?_⟩
        exact HD.out
      · gi_wp2
        go_wp2_with fail
        exact bodyPost_ret (results_none rfl _ _ _) rfl ⟨⟨_, rfl⟩, .inr hst⟩
    · have hu0 : u = ⟨#[]⟩ := nums_inj (by rw [hun, List.drop_of_length_le (by omega)]; rfl)
      have hkl : k = ls.length := by omega
      subst hkl
      subst hu0
      clear hun hu hul hk hlt
      go_wp2_with (first | ((first | with_reducible refine at_load ?_ | ((with_reducible refine at_load_g ?_ ?_); (· rfl))); first | refine nll hM ?_ | refine nlc hM ?_ | refine nlp hM ?_) | ((with_reducible refine at_store ?_); first | (refine nlw hM ?_; clear hM; intro wx hM) | (refine nls hM ?_; clear hM; intro wx hM) | (refine nlt hM ?_; clear hM; intro wx hM)) | ((with_reducible refine at_alloc ?_); refine nlz hM ?_; clear hM; intro gx wx hM) | ((with_reducible refine at_box ?_); first | (refine nlb hM ?_; clear hM; intro gx wx hM) | (refine nlx hM ?_; clear hM; intro gx wx hM)))
      exact bodyPost_end (results_none rfl _ _ _) rfl ⟨⟨_, rfl⟩, .inl ⟨st, hi.out, hM⟩⟩
end
set_option maxRecDepth 20000 in
set_option maxHeartbeats 2000000 in
theorem level_any (s : ByteArray) (b : Nat) (t : List Nat) (hs : nums s = b :: t) (hb : b ≠ 62) (w : World) : Calls Tryz.prog 56 #[.string s] w fun e w' => (∃ u, e = .returned (.tuple #[.int .i64 0, .string u])) ∧ Below w.heap.size w w' := by
  have hM := Mem.start [] w
  obtain ⟨m, hm⟩ : ∃ m, s.size = m := ⟨_, rfl⟩
  have hm1 : 1 ≤ m := by rw [← hm, ← nums_length, hs]; simp
  have m1 : (1 : Int) ≤ (m : Int) := by omega
  have hz0 : 0 < s.size := by omega
  have hc : (nums s).getD 0 0 = b := by rw [hs]; rfl
  have hc0 : (s[0]'hz0).toNat = b := by rw [← num_at s 0 hz0]; exact hc
  have hne : (((b : Nat) : Int) == 62) = false := by simp; omega
  clear hs hb hc hm1
  go_enter Tryz.func56, Tryz.ntmps56
  go_wp2_with fail
  refine wp_loop_rounds 1 ?_
  rw [rounds_succ]
  go_wp2_with fail
  go_ret2
  exact ⟨⟨_, rfl⟩, hM.below⟩
end Go.Proofs.YtlidpdjainmaiaaGreatDoor
