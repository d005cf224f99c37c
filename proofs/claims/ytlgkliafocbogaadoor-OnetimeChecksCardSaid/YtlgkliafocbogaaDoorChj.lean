/- The walk of bulletinlaw07.OnetimeChecks: all its ways together. -/
import Derived.Test.YtlgkliafocbogaaDoorChba
import Derived.Test.YtlgkliafocbogaaDoorChbb
import Derived.Test.YtlgkliafocbogaaDoorChga
import Derived.Test.YtlgkliafocbogaaDoorChgb
namespace Go.Bul
open Go Go.RowKit
theorem k6_eq {f : Int} (h0 : 0 ≤ f) (h1 : f ≤ 14) : ∃ r : Int, 0 ≤ r ∧ r < 7 ∧ wrap64 (4 + (wrap64 (f * f)).tmod 7) = 4 + r := by
  have h2 : 0 ≤ f * f := Int.mul_nonneg h0 h0
  have h3 : f * f ≤ 14 * 14 := Int.mul_le_mul h1 h1 h0 (by decide)
  have h4 : wrap64 (f * f) = f * f := IntWalk.wrap64_in _ ⟨by omega, by omega⟩
  rw [h4]
  have h5 : (f * f).tmod 7 = (f * f) % 7 := Int.tmod_eq_emod_of_nonneg h2
  rw [h5]
  have h6 := Int.emod_nonneg (f * f) (b := 7) (by decide)
  have h7 := Int.emod_lt_of_pos (f * f) (b := 7) (by decide)
  exact ⟨_, h6, h7, IntWalk.wrap64_in _ ⟨by omega, by omega⟩⟩
theorem k7_eq {x : Nat} (hx : x < 256) : ∃ j : Nat, j < 35 ∧ (wrap64 ((wrap64 (x : Int)).tdiv 8)).tmod 35 = (j : Int) := by
  have h1 : wrap64 (x : Int) = (x : Int) := IntWalk.wrap64_in _ ⟨by omega, by omega⟩
  rw [h1]
  have h2 : (x : Int).tdiv 8 = ((x / 8 : Nat) : Int) := by rw [Int.tdiv_eq_ediv_of_nonneg (by omega)]; rfl
  rw [h2]
  have h3 : wrap64 ((x / 8 : Nat) : Int) = ((x / 8 : Nat) : Int) := IntWalk.wrap64_in _ ⟨by omega, by omega⟩
  rw [h3]
  have h4 : ((x / 8 : Nat) : Int).tmod 35 = ((x / 8 % 35 : Nat) : Int) := by rw [Int.tmod_eq_emod_of_nonneg (by omega)]; rfl
  exact ⟨x / 8 % 35, Nat.mod_lt _ (by decide), h4⟩
theorem tmod8 (x : Nat) : (x : Int).tmod 8 = 0 ∨ (x : Int).tmod 8 = 1 ∨ (x : Int).tmod 8 = 2 ∨ (x : Int).tmod 8 = 3 ∨ (x : Int).tmod 8 = 4 ∨ (x : Int).tmod 8 = 5 ∨ (x : Int).tmod 8 = 6 ∨ (x : Int).tmod 8 = 7 := by
  rw [Int.tmod_eq_emod_of_nonneg (by omega)]
  omega
end Go.Bul
namespace Go.Proofs.YtlgkliafocbogaaDoor
open Go Go.RowKit Go.Bul
theorem bad_adv {y c f t : Int} (h : (inB y 65535 && inB c 34 && inB f 14 && inB t 15 && decide (f < t)) = false) : ¬ f < t ∨ advB y c f t = false := by
  by_cases h1 : f < t
  · refine .inr ?_
    cases h2 : advB y c f t with
    | false => rfl
    | true =>
      exfalso
      simp only [advB, leafB, chainB, Bool.and_eq_true, decide_eq_true_eq] at h2
      rw [← Bool.not_eq_true] at h
      refine h ?_
      simp only [inB, Bool.and_eq_true, decide_eq_true_eq]
      omega
  · exact .inl h1
theorem stp_of {y c f : Int} (h : stpB y c f = true) : leafB y = true ∧ ∃ chain m : Nat, chain < 35 ∧ m < 15 ∧ c = (chain : Int) ∧ f = (m : Int) := by
  simp only [stpB, Bool.and_eq_true, decide_eq_true_eq] at h
  obtain ⟨⟨⟨h1, h2⟩, h3⟩, h4⟩ := h
  obtain ⟨chain, hz, hc⟩ := chain_nat h2
  exact ⟨h1, chain, f.toNat, hc, by omega, hz, by omega⟩
theorem bytes_ends {v : List Nat} (hb : Bytes v) : Bytes (v ++ zeros 544) := by
  intro x hx
  rcases List.mem_append.1 hx with h | h
  · exact hb x h
  · exact bytes_zeros 544 x h
theorem checks_any (y c f t s : Int) (v : List Nat) (w : World) (hv : v.length = 16) (hb : Bytes v) (hT : Tab w) :
    Calls Tryd.prog 10 #[.agg #[.int .i64 y, .int .i64 c], .agg #[.int .i64 f, .int .i64 t, .int .i64 s], .agg (cellsOf .u8 v)] w fun e w' => e = .returned (.bool true) ∧ Below w.heap.size w w' := by
  obtain ⟨x, hx, hw⟩ : ∃ x : Nat, x < 256 ∧ IntKind.u8.wrap s = (x : Int) := ⟨(IntKind.u8.wrap s).toNat, by rw [IntKind.wrap_u8]; omega, by rw [IntKind.wrap_u8]; omega⟩
  have hz16 : (zeros 16).length = 16 := zeros_length _
  have hz5 : (zeros 560).length = 560 := zeros_length _
  have hok : EvOk v (zeros 16) (zeros 560) (zeros 560) := ⟨hv, hz16, hz5, hz5⟩
  have hF : (v ++ zeros 544).length = 560 := by rw [List.length_append, hv, zeros_length]
  have ends := fun w hT => chk3_same y 0 0 0 (zeros 16) (zeros 16) (v ++ zeros 544) w ⟨hz16, hz16, hF, hF⟩ (bytes_ends hb) hT
  obtain ⟨j, hj, hje⟩ := k7_eq hx
  by_cases hall : (inB y 65535 && inB c 34 && inB f 14 && inB t 15 && decide (f < t)) = true
  · have hp := hall
    simp only [Bool.and_eq_true] at hp
    obtain ⟨⟨⟨⟨p1, p2⟩, p3⟩, p4⟩, p5⟩ := hp
    have h1 := ins_any y 65535
    have h2 := ins_any c 34
    have h3 := ins_any f 14
    have h4 := ins_any t 15
    rw [p1] at h1
    rw [p2] at h2
    rw [p3] at h3
    rw [p4] at h4
    simp only [inB, Bool.and_eq_true, decide_eq_true_eq] at p1 p2 p3 p4 p5
    obtain ⟨leaf, hy⟩ : ∃ n : Nat, y = (n : Int) := ⟨y.toNat, by omega⟩
    obtain ⟨chain, hc⟩ : ∃ n : Nat, c = (n : Int) := ⟨c.toNat, by omega⟩
    obtain ⟨m, hm⟩ : ∃ n : Nat, f = (n : Int) := ⟨f.toNat, by omega⟩
    obtain ⟨n, hn⟩ : ∃ n : Nat, t = (n : Int) := ⟨t.toNat, by omega⟩
    have q1 : leaf ≤ 65535 := by omega
    have q2 : chain < 35 := by omega
    have q3 : m < 15 := by omega
    have q4 : n ≤ 15 := by omega
    have q5 : m < n := by omega
    have hR := fun w => radvance_any v leaf chain m n y c f t w hv hb q1 q2 (by omega) q4 hy hc hm hn
    have hlu := advV_length (leaf := leaf) (chain := chain) (n - m) m hv
    have hbu := bytes_advV (leaf := leaf) (chain := chain) (n - m) m hb
    have d5 : decide (f < t) = true := by simpa using p5
    have C1 := fun (A B : List Nat) (hA : A.length = 16) (hB : B.length = 16) (hAb : Bytes A) w hT => chk1_yes y c f t leaf chain m n A B w hA hB hAb q1 q2 q5 q4 hy hc hm hn hT
    have hff : ∀ F : List Nat, F.length = 560 → (F == zeros 560) = false → ∀ (B : List Nat), B.length = 16 → ∀ w, Tab w → Calls Tryd.prog 34 #[.agg (evc 1 c f t v B F (zeros 560)), .int .i64 y] w fun e w' => e = .returned (.bool false) ∧ Below w.heap.size w w' := fun F hF2 hne B hB w hT =>
      chk1_no y c f t v B F (zeros 560) w ⟨hv, hB, hF2, hz5⟩ hb hT (.inl (by rw [hne]; rfl))
    rcases tmod8 x with hk | hk | hk | hk | hk | hk | hk | hk
    · refine good_k0 y c f t s v _ w hv hb hlu hT h1 h2 h3 h4 d5 hR x hw hk fun w hT => ?_
      have := C1 v _ hv hlu hb w hT
      simpa using this
    · exact good_k1 y c f t s v _ w hv hb hlu hT h1 h2 h3 h4 d5 hR x hw hk fun B hB w hT => C1 v B hv hB hb w hT
    · exact good_k2 y c f t s v _ w hv hb hlu hT h1 h2 h3 h4 d5 hR x hw hk fun A hA hAb =>
        ⟨_, advV_length (leaf := leaf) (chain := chain) (n - m) m hA, fun w => radvance_any A leaf chain m n y c f t w hA hAb q1 q2 (by omega) q4 hy hc hm hn, fun w hT => C1 A _ hA hlu hAb w hT⟩
    · exact good_k3 y c f t s v _ w hv hb hlu hT h1 h2 h3 h4 d5 hR x hw hk (t == f + 1) (IntWalk.i64_in _ ⟨by omega, by omega⟩) rfl
        ⟨_, fun w => collides_any y c f leaf chain m v _ w hv hlu hb hbu q1 q2 q3 hy hc hm, fun w hT => chk2_yes y c f t leaf chain m v _ w hv hlu hb hbu q1 q2 q3 hy hc hm hT⟩
    · refine good_k4 y c f t s v _ w hv hb hlu hT h1 h2 h3 h4 d5 hR x hw hk fun w hT => ?_
      have := chk2_yes y c f t leaf chain m v v w hv hv hb hb q1 q2 q3 hy hc hm hT
      simpa using this
    · exact good_k5 y c f t s v _ w hv hb hlu hT h1 h2 h3 h4 d5 hR x hw hk ends
    · obtain ⟨r, r1, r2, r3⟩ := k6_eq (f := f) (by omega) (by omega)
      refine good_k6 y c f t s v _ w hv hb hlu hT h1 h2 h3 h4 d5 hR x hw hk fun w _ => ?_
      rw [r3]
      exact chk_other _ y c f t v _ _ _ w ⟨hv, hlu, hz5, hz5⟩ (by omega) (by omega) (by omega)
    · exact good_k7 y c f t s v _ w hv hb hlu hT h1 h2 h3 h4 d5 hR x hw hk j hje hj fun F hF2 hne => hff F hF2 hne _ hlu
  · have hbad := Bool.eq_false_iff.2 hall
    have hna := bad_adv hbad
    have h1 := ins_any y 65535
    have h2 := ins_any c 34
    have h3 := ins_any f 14
    have h4 := ins_any t 15
    have C1 := fun (A B F : List Nat) (hA : A.length = 16) (hB : B.length = 16) (hF2 : F.length = 560) (hAb : Bytes A) w hT => chk1_no y c f t A B F (zeros 560) w ⟨hA, hB, hF2, hz5⟩ hAb hT (.inr hna)
    have C2 : ∀ B : List Nat, B.length = 16 → Bytes B → (t == f + 1 && (!(v == B) && true)) = false → ∀ w, Tab w → Calls Tryd.prog 34 #[.agg (evc 2 c f t v B (zeros 560) (zeros 560)), .int .i64 y] w fun e w' => e = .returned (.bool false) ∧ Below w.heap.size w w' := fun B hB hBb hf w hT => by
      cases hs : stpB y c f with
      | false => exact chk2_no y c f t v B w hv hB hs hT
      | true =>
        obtain ⟨hl, chain, m, hc, hm, ec, ef⟩ := stp_of hs
        obtain ⟨leaf, hl2, hy⟩ := leaf_no hl
        have := chk2_yes y c f t leaf chain m v B w hv hB hb hBb hl2 hc hm hy ec ef hT
        have e : (t == f + 1 && (!(v == B) && stepV leaf chain m v == stepV leaf chain m B)) = false := by
          cases h7 : (t == f + 1)
          · rfl
          · rw [h7] at hf
            cases h8 : (v == B)
            · rw [h8] at hf; cases hf
            · rfl
        rw [e] at this
        exact this
    have hne : inB y 65535 = true → inB c 34 = true → inB f 14 = true → (t == f + 1) = false := fun a1 a2 a3 => by
      rw [beq_eq_false_iff_ne]
      intro ht
      rw [a1, a2, a3] at hbad
      simp only [inB, Bool.and_eq_true, decide_eq_true_eq] at a3
      rw [← Bool.not_eq_true] at hbad
      refine hbad ?_
      simp only [inB, Bool.and_eq_true, decide_eq_true_eq, true_and]
      omega
    rcases tmod8 x with hk | hk | hk | hk | hk | hk | hk | hk
    · exact bad_k0 _ _ _ _ _ y c f t s v w hv hb hT h1 h2 h3 h4 rfl hbad x hw hk fun w hT => C1 v _ _ hv hz16 hz5 hb w hT
    · exact bad_k1 _ _ _ _ _ y c f t s v w hv hb hT h1 h2 h3 h4 rfl hbad x hw hk fun B hB w hT => C1 v B _ hv hB hz5 hb w hT
    · exact bad_k2 _ _ _ _ _ y c f t s v w hv hb hT h1 h2 h3 h4 rfl hbad x hw hk fun A hA hAb w hT => C1 A _ _ hA hz16 hz5 hAb w hT
    · refine bad_k3 _ _ _ _ _ y c f t s v w hv hb hT h1 h2 h3 h4 rfl hbad x hw hk (fun a1 a2 a3 => ⟨IntWalk.i64_in _ (by simp only [inB, Bool.and_eq_true, decide_eq_true_eq] at a3; omega), hne a1 a2 a3⟩) fun w hT => ?_
      cases hs : stpB y c f with
      | false => exact chk2_no y c f t v _ w hv hz16 hs hT
      | true =>
        refine C2 _ hz16 (bytes_zeros 16) ?_ w hT
        obtain ⟨hl, chain, m, hc, hm, ec, ef⟩ := stp_of hs
        obtain ⟨leaf, hl2, hy⟩ := leaf_no hl
        rw [hne (by simp [inB]; omega) (by simp [inB]; omega) (by simp [inB]; omega)]
        rfl
    · exact bad_k4 _ _ _ _ _ y c f t s v w hv hb hT h1 h2 h3 h4 rfl hbad x hw hk (C2 v hv hb (by simp))
    · exact bad_k5 _ _ _ _ _ y c f t s v w hv hb hT h1 h2 h3 h4 rfl hbad x hw hk ends
    · refine bad_k6 _ _ _ _ _ y c f t s v w hv hb hT h1 h2 h3 h4 rfl hbad x hw hk fun w hT => ?_
      obtain ⟨K, hK⟩ : ∃ K, K = wrap64 (4 + (wrap64 (f * f)).tmod 7) := ⟨_, rfl⟩
      rw [← hK]
      by_cases k1 : K = 1
      · rw [k1]; exact C1 v _ _ hv hz16 hz5 hb w hT
      · by_cases k3 : K = 3
        · rw [k3]; exact chk3_same y c f t v (zeros 16) (zeros 560) w hok (bytes_zeros _) hT
        · by_cases k2 : K = 2
          · rw [k2]
            cases hs : stpB y c f with
            | false => exact chk2_no y c f t v _ w hv hz16 hs hT
            | true =>
              obtain ⟨hl, chain, m, hc, hm, ec, ef⟩ := stp_of hs
              obtain ⟨r, r1, r2, r3⟩ := k6_eq (f := f) (by omega) (by omega)
              omega
          · exact chk_other _ y c f t v _ _ _ w hok k1 k2 k3
    · exact bad_k7 _ _ _ _ _ y c f t s v w hv hb hT h1 h2 h3 h4 rfl hbad x hw hk j hje hj fun F hF2 hne2 w hT => C1 v _ F hv hz16 hF2 hb w hT
end Go.Proofs.YtlgkliafocbogaaDoor
