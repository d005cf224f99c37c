/- Seat n: the law's walk. (Printed by mknkd.py.) -/
import Derived.Test.YtpjphjokhccdaaaGreatNkc
import Derived.Test.YtpjphjokhccdaaaGreatNke
namespace Go.Proofs.YtpjphjokhccdaaaGreat
open Go Go.RowKit Go.Bul Go.Thg Go.Lin Go.Maps
/-- The offers, as they lie in memory. -/
structure OffsIn (w : World) (A : Option Addr) (n : Nat) : Prop where
  ex : 0 < n → ∃ g off, A = some ⟨g, off, none⟩ ∧ g < w.heap.size ∧ ∀ i, i < n → ∃ a h : Nat, a < 256 ∧ h < 256 ∧ w.cell? ⟨g, off + i * 2, none⟩ = some (.int .u8 (a : Nat)) ∧ w.cell? ⟨g, off + i * 2 + 1, none⟩ = some (.int .u8 (h : Nat))
/-- What is gathered of the articles that the spool has. -/
structure GathI (GS : List Nat) (dt : Nat → Int) (s : Option Addr × Nat × Nat × List El) (done : List El) : Prop where
  len : s.2.1 = s.2.2.2.length
  ids : s.2.2.2.map (·.1) = done.map (·.1)
  nd : (done.map (·.1)).Nodup ∧ ∀ x ∈ done.map (·.1), x < 11
  art : ∀ x ∈ s.2.2.2, x.1 < 11 ∧ ∃ a gg, x.2 = artTl (dt x.1) a gg (x.1 : Nat) (kd x.1) ∧ (0 ≤ a ∧ a ≤ 1000000) ∧ gg ∈ GS
theorem GathI.small {GS : List Nat} {dt : Nat → Int} {s : Option Addr × Nat × Nat × List El} {done : List El} (h : GathI GS dt s done) : s.2.2.2.length ≤ 11 := by
  have h1 := nodup_len 11 _ h.nd.1 h.nd.2
  have h2 := congrArg List.length h.ids
  rw [List.length_map] at h2
  omega
theorem GathI.more {GS : List Nat} {dt : Nat → Int} {A A2 : Option Addr} {N N2 c c2 : Nat} {il done : List El} (h : GathI GS dt (A, N, c, il) done) (x : El) (hx : x.1 < 11) (hn : x.1 ∉ done.map (·.1)) (hN : N2 = il.length + 1) {a : Int} {gg : Nat} (ha : 0 ≤ a ∧ a ≤ 1000000) (hg : gg ∈ GS) : GathI GS dt (A2, N2, c2, il ++ [(x.1, artTl (dt x.1) a gg (x.1 : Nat) (kd x.1))]) (done ++ [x]) := by
  refine ⟨by simp only [List.length_append, List.length_cons, List.length_nil]; exact hN, ?_, ⟨?_, fun y hy => ?_⟩, fun y hy => ?_⟩
  · have := h.ids
    simp only at this
    simp only [List.map_append, this, List.map_cons, List.map_nil]
  · rw [List.map_append]
    refine List.nodup_append.2 ⟨h.nd.1, by simp, fun a ha b hb => ?_⟩
    obtain rfl := List.mem_singleton.1 hb
    rintro rfl
    exact hn ha
  · rw [List.map_append] at hy
    rcases List.mem_append.1 hy with hy | hy
    · exact h.nd.2 y hy
    · obtain rfl := List.mem_singleton.1 hy
      exact hx
  · rcases List.mem_append.1 hy with hy | hy
    · exact h.art y hy
    · obtain rfl := List.mem_singleton.1 hy
      exact ⟨hx, a, gg, rfl, ha, hg⟩
/-- How many entries were here, of those that the history has shown. -/
structure CntI (ms : Nat → Option Value) (c : Nat) (done : List El) : Prop where
  cnt : c = cntE ms (done.map (·.1))
  nd : (done.map (·.1)).Nodup ∧ ∀ x ∈ done.map (·.1), x < 11
theorem CntI.small {ms : Nat → Option Value} {c : Nat} {done : List El} (h : CntI ms c done) : c ≤ 11 := by
  have h1 := nodup_len 11 _ h.nd.1 h.nd.2
  have h2 := cntE_le ms (done.map (·.1))
  have h3 := h.cnt
  omega
theorem CntI.more {ms : Nat → Option Value} {c : Nat} {done : List El} (h : CntI ms c done) (x : El) (hx : x.1 < 11) (hn : x.1 ∉ done.map (·.1)) {b : Bool} (hb : (ms x.1).isSome = b) {c2 : Nat} (hc : c2 = c + if b then 1 else 0) : CntI ms c2 (done ++ [x]) := by
  refine ⟨?_, ?_, fun y hy => ?_⟩
  · rw [List.map_append, List.map_cons, List.map_nil, cntE_snoc, hb, ← h.cnt]
    exact hc
  · rw [List.map_append]
    refine List.nodup_append.2 ⟨h.nd.1, by simp, fun a ha b hb => ?_⟩
    obtain rfl := List.mem_singleton.1 hb
    rintro rfl
    exact hn ha
  · rw [List.map_append] at hy
    rcases List.mem_append.1 hy with hy | hy
    · exact h.nd.2 y hy
    · obtain rfl := List.mem_singleton.1 hy
      exact hx
set_option maxRecDepth 100000 in
set_option maxHeartbeats 8000000 in
theorem never_any (A : Option Addr) (n c : Nat) (dcs : Array Value) (dt : Nat → Int) (s0 s1 s2 : Int) (w : World) (hA : OffsIn w A n) (hn : n ≤ 9223372036854775807) (hsz : dcs.size = 10) (hd : ∀ k, k < 10 → dcs[k]? = some (.int .u16 (dt (k + 1)))) (hdt : ∀ k, k < 10 → 0 ≤ dt (k + 1) ∧ dt (k + 1) < 65536)
    (a0 : 0 ≤ s0) (a1 : s0 < 256) (b0 : 0 ≤ s1) (b1 : s1 < 256) (c0 : 0 ≤ s2) (c1 : s2 < 256) :
    Calls Tryz.prog 3 #[.slice A n c, .agg dcs, .agg #[.int .u8 s0, .int .u8 s1, .int .u8 s2]] w fun e w' => e = .returned (.bool true) ∧ Below w.heap.size w w' := by
  have hM := Mem.start [] w
  have HD10 := Lib.hid hsz
  have HNW := Lib.hid hnew_any
  have HSN := Lib.hid (fun w => snew_any (20 + s0) w (by omega) (by omega))
  have HCK := Lib.hid (fun gr L R wc (hM : Mem [] w (⟨gr, 33, 3, ruleC (s1 % 4) (s1 % 4 + s2 % 30)⟩ :: L) R wc) => echeck_any gr (s1 % 4) (s1 % 4 + s2 % 30) (by omega) (by omega) (by omega) hM (.head _))
  have HAD := Lib.hid (fun h bh e1 e2 e3 r1 L R wc (hM : Mem [] w (e1 :: e2 :: e3 :: ⟨h, 71, 2, hist bh 0⟩ :: L) (r1 :: mapT bh (fun _ => none) :: R) wc) => hadd_yes h bh 0 0 0 0 false (fun _ => none) hM (by omega) rfl (by omega) (by omega) (by omega) (by omega) (.tail _ (.tail _ (.tail _ (.head _)))) (UpdR.tail _ (UpdR.head _ _)))
  have HLN := Lib.hid (fun h bh e1 e2 e3 r1 L R wc (hM : Mem [] w (e1 :: e2 :: e3 :: ⟨h, 71, 2, hist bh 0⟩ :: L) (r1 :: mapT bh (updM (fun _ => none) 0 (some (hentV 0 0 0 0 false))) :: R) wc) => (show Calls Tryz.prog 8 #[.pointer (some ⟨h, 0, none⟩)] wc fun e w' => e = .returned (.int .i64 1) ∧ wc = w' from (hlen_any h bh 0 (updM (fun _ => none) 0 (some (hentV 0 0 0 0 false))) hM (.tail _ (.tail _ (.tail _ (.head _)))) (.tail _ (.head _)))))
  by_cases h60 : 60 < n
  · have n60 : (60 : Int) < (n : Int) := by omega
    clear hA hsz hdt hd hn
    refine (callsIn_wide (n := 3)).1 ?_
    refine callsIn_of_wp_marks Tryz.func3 rfl trivial ?_ rfl
    refine wpIn_wide.2 ?_
    simp only [Tryz.ntmps3, List.size_toArray, List.length_cons, List.length_nil, Nat.reduceAdd, Nat.reduceSub, Array.replicate_succ, Array.replicate_zero, List.push_toArray, List.append_toArray, List.nil_append, List.cons_append]
    go_wp2_with (first | ((with_reducible refine at_box ?_); first | (refine nlb hM ?_ (hty := row_u10) (hn := HD10.out); clear hM; intro gd w1 hM) | (refine nlb hM ?_ (hty := row_u3) (hn := rfl); clear hM; intro gz w1 hM)) | ((with_reducible refine (HNW.out _).mono ?_); rintro e w1 ⟨hh, bh, rfl, hA1⟩; replace hM := hM.frame hA1; clear hA1; simp only [List.cons_append, List.nil_append] at hM) | ((with_reducible refine (HSN.out _).mono ?_); rintro e w1 ⟨sp, bs, rfl, hA1⟩; replace hM := hM.frame hA1; clear hA1; simp only [List.cons_append, List.nil_append] at hM) | ((first | with_reducible refine at_build ?_ | ((with_reducible refine at_build_g ?_ ?_); (· rfl))); first | refine wpList_build_run rfl _ _ rfl _ rfl _ (run_ruleC _ _ _) ?_ | refine wpList_build_run rfl _ _ rfl #[] (by simp) _ (run_hent0 _) ?_) | ((with_reducible refine at_bslice ?_); refine nrl1 hM ?_; clear hM; intro gr w1 hM) | ((with_reducible refine (HCK.out _ _ _ _ hM).mono ?_); rintro e w1 ⟨rfl, hM1⟩; clear hM; have hM := hM1; clear hM1) | ((with_reducible refine (HAD.out _ _ _ _ _ _ _ _ _ hM).mono ?_); rintro e w1 ⟨rfl, hM1⟩; clear hM; have hM := hM1; clear hM1) | ((with_reducible refine (HLN.out _ _ _ _ _ _ _ _ _ hM).mono ?_); rintro e w1 ⟨rfl, rfl⟩) | ((with_reducible refine at_mslice ?_); refine nmk10 hM ?_; clear hM; intro gac w1 hM) | ((with_reducible refine at_mmake ?_); refine nmm hM ?_; clear hM; intro ba w1 hM) | ((with_reducible refine at_alloc ?_); first | (refine nlz hM ?_ (hz := zero_bool); clear hM; intro gt w1 hM) | (refine nlz hM ?_ (hz := zero_pspool); clear hM; intro gs w1 hM) | (refine nlz hM ?_ (hz := zero_mart); clear hM; intro gm w1 hM)) | ((first | with_reducible refine at_load ?_ | ((with_reducible refine at_load_g ?_ ?_); (· rfl))); first | refine nll hM ?_ | refine nlc hM ?_ | refine nlp hM ?_) | ((with_reducible refine at_store ?_); first | (refine nlw hM ?_; clear hM; intro wx hM) | (refine nls hM ?_; clear hM; intro wx hM) | (refine nlt hM ?_; clear hM; intro wx hM)) | ((with_reducible refine at_alloc ?_); refine nlz hM ?_; clear hM; intro gx wx hM) | ((with_reducible refine at_box ?_); first | (refine nlb hM ?_; clear hM; intro gx wx hM) | (refine nlx hM ?_; clear hM; intro gx wx hM)))
    exact ⟨_, results_mem_one hM rfl (by rfl) (by repeat (first | exact List.Mem.head _ | assumption | apply List.Mem.tail)) one_bool rfl, rfl, hM.below⟩
  · have n60 : (n : Int) ≤ 60 := by omega
    have n61 : n ≤ 60 := by omega
    have HA := Lib.hid hA
    have HDD := Lib.hid (fun k (hk : k < 10) => And.intro (hd k hk) (hdt k hk))
    clear hA hsz hdt hd
    refine (callsIn_wide (n := 3)).1 ?_
    refine callsIn_of_wp_marks Tryz.func3 rfl trivial ?_ rfl
    refine wpIn_wide.2 ?_
    simp only [Tryz.ntmps3, List.size_toArray, List.length_cons, List.length_nil, Nat.reduceAdd, Nat.reduceSub, Array.replicate_succ, Array.replicate_zero, List.push_toArray, List.append_toArray, List.nil_append, List.cons_append]
    go_wp2_with (first | ((with_reducible refine at_box ?_); first | (refine nlb hM ?_ (hty := row_u10) (hn := HD10.out); clear hM; intro gd w1 hM) | (refine nlb hM ?_ (hty := row_u3) (hn := rfl); clear hM; intro gz w1 hM)) | ((with_reducible refine (HNW.out _).mono ?_); rintro e w1 ⟨hh, bh, rfl, hA1⟩; replace hM := hM.frame hA1; clear hA1; simp only [List.cons_append, List.nil_append] at hM) | ((with_reducible refine (HSN.out _).mono ?_); rintro e w1 ⟨sp, bs, rfl, hA1⟩; replace hM := hM.frame hA1; clear hA1; simp only [List.cons_append, List.nil_append] at hM) | ((first | with_reducible refine at_build ?_ | ((with_reducible refine at_build_g ?_ ?_); (· rfl))); first | refine wpList_build_run rfl _ _ rfl _ rfl _ (run_ruleC _ _ _) ?_ | refine wpList_build_run rfl _ _ rfl #[] (by simp) _ (run_hent0 _) ?_) | ((with_reducible refine at_bslice ?_); refine nrl1 hM ?_; clear hM; intro gr w1 hM) | ((with_reducible refine (HCK.out _ _ _ _ hM).mono ?_); rintro e w1 ⟨rfl, hM1⟩; clear hM; have hM := hM1; clear hM1) | ((with_reducible refine (HAD.out _ _ _ _ _ _ _ _ _ hM).mono ?_); rintro e w1 ⟨rfl, hM1⟩; clear hM; have hM := hM1; clear hM1) | ((with_reducible refine (HLN.out _ _ _ _ _ _ _ _ _ hM).mono ?_); rintro e w1 ⟨rfl, rfl⟩) | ((with_reducible refine at_mslice ?_); refine nmk10 hM ?_; clear hM; intro gac w1 hM) | ((with_reducible refine at_mmake ?_); refine nmm hM ?_; clear hM; intro ba w1 hM) | ((with_reducible refine at_alloc ?_); first | (refine nlz hM ?_ (hz := zero_bool); clear hM; intro gt w1 hM) | (refine nlz hM ?_ (hz := zero_pspool); clear hM; intro gs w1 hM) | (refine nlz hM ?_ (hz := zero_mart); clear hM; intro gm w1 hM)) | ((first | with_reducible refine at_load ?_ | ((with_reducible refine at_load_g ?_ ?_); (· rfl))); first | refine nll hM ?_ | refine nlc hM ?_ | refine nlp hM ?_) | ((with_reducible refine at_store ?_); first | (refine nlw hM ?_; clear hM; intro wx hM) | (refine nls hM ?_; clear hM; intro wx hM) | (refine nlt hM ?_; clear hM; intro wx hM)) | ((with_reducible refine at_alloc ?_); refine nlz hM ?_; clear hM; intro gx wx hM) | ((with_reducible refine at_box ?_); first | (refine nlb hM ?_; clear hM; intro gx wx hM) | (refine nlx hM ?_; clear hM; intro gx wx hM)))
    have M0 := Lib.hid hM
    clear hM HD10 HNW HSN HCK HAD HLN
    refine wp_loop (fun a' w' => ∃ (k : Nat) (now byt nxt cut : Int) (ac : List Bool) (mh ms ma : Nat → Option Value) (GS Ds : List Nat), Hid (k ≤ n ∧ (0 ≤ now ∧ now ≤ 15300 * k) ∧ (0 ≤ nxt ∧ nxt ≤ k) ∧ (-200 * k ≤ byt ∧ byt ≤ 10 * k) ∧ (0 ≤ cut ∧ cut ≤ 1000000) ∧ St GS dt cut ac mh ms ma) ∧ Mem [] w (⟨gm, 43, 1, #[.map (some ba)]⟩ :: ⟨gac, 4, 10, boolC ac⟩ :: ⟨gr, 33, 3, ruleC (s1 % 4) (s1 % 4 + s2 % 30)⟩ :: ⟨gs, 28, 1, #[.pointer (some ⟨sp, 0, none⟩)]⟩ :: ⟨sp, 74, 4, splC (20 + s0) byt nxt bs⟩ :: ⟨hh, 71, 2, hist bh cut⟩ :: ⟨gt, 4, 1, #[.bool false]⟩ :: ⟨gz, 25, 3, #[.int .u8 s0, .int .u8 s1, .int .u8 s2]⟩ :: ⟨gd, 24, 10, dcs⟩ :: []) (mapT ba ma :: mapT bs ms :: mapT bh mh :: (GS.map grpT ++ Ds.map markT)) w' ∧ a'.defers = Ds.map markD ∧ a'.tmps.size = 242 ∧ Keeps a'.tmps [(0, .slice A n c), (4, .pointer (some ⟨gd, 0, none⟩)), (5, .pointer (some ⟨gz, 0, none⟩)), (6, .pointer (some ⟨gt, 0, none⟩)), (7, .pointer (some ⟨hh, 0, none⟩)), (8, .pointer (some ⟨gs, 0, none⟩)), (10, .slice (some ⟨gr, 0, none⟩) 1 1), (11, .slice (some ⟨gac, 0, none⟩) 10 10), (12, .pointer (some ⟨gm, 0, none⟩)), (13, .int .i64 now), (14, .int .i64 (k : Nat))]) (fun a' _ => n - (intOf (a'.tmps.getD 14 undef)).toNat) ?_ ?_
    · refine ⟨0, 0, 0, 0, 0, List.replicate 10 false, _, _, _, [], [], Lib.hid ⟨by omega, by omega, by omega, by omega, by omega, St.start dt⟩, M0.out, rfl, rfl, rfl, rfl, rfl, rfl, rfl, rfl, rfl, rfl, rfl, rfl, rfl, trivial⟩
    clear M0
    rintro a' wr ⟨k, now, byt, nxt, cut, ac, mh, ms, ma, GS, Ds, hc, hM, hd1, hd2, hd3⟩
    obtain ⟨u, rfl⟩ := frL hd1 hd2 hd3
    clear hd1 hd2 hd3
    dsimp only
    by_cases hlt : k < n
    · obtain ⟨gA, oA, rfl, hgA, hcell⟩ := HA.out.ex (by omega)
      obtain ⟨av, hv, hav, hhv, e1, e2⟩ := hcell k hlt
      replace e1 := (hM.below.cell (p := ⟨gA, oA + k * 2, none⟩) hgA).trans e1
      replace e2 := (hM.below.cell (p := ⟨gA, oA + k * 2 + 1, none⟩) hgA).trans e2
      obtain ⟨q, hq⟩ : ∃ q, av % 10 = q := ⟨_, rfl⟩
      have hq10 : q < 10 := by omega
      have eq1 : ((av : Nat) : Int) % 10 = ((q : Nat) : Int) := by omega
      have HC := Lib.hid hc
      obtain ⟨_, ⟨n0, n1⟩, _⟩ := hc.out
      have k0 : (0 : Int) ≤ (k : Int) := Int.natCast_nonneg _
      have k1 : (k : Int) ≤ 59 := by omega
      have hlt' : (k : Int) < (n : Int) := by omega
      replace n1 : now ≤ 918000 := by omega
      have h0 : (0 : Int) ≤ (hv : Int) := Int.natCast_nonneg _
      have h1 : (hv : Int) ≤ 255 := by omega
      have q0 : (0 : Int) ≤ (q : Int) := Int.natCast_nonneg _
      have q1 : (q : Int) ≤ 9 := by omega
      have av0 : (0 : Int) ≤ (av : Int) := Int.natCast_nonneg _
      have av1 : (av : Int) ≤ 255 := by omega
      have HQ := Lib.hid hq10
      clear hc hcell hav hhv hq hq10 hgA
      go_upto_region 18 with (first | ((with_reducible refine at_load ?_); first | refine nlo e1 ?_ | refine nlo e2 ?_) | ((with_reducible refine at_build ?_); refine wpList_build_run rfl _ _ rfl _ rfl _ (run_id q _) ?_) | ((first | with_reducible refine at_load ?_ | ((with_reducible refine at_load_g ?_ ?_); (· rfl))); first | refine nll hM ?_ | refine nlc hM ?_ | refine nlp hM ?_) | ((with_reducible refine at_store ?_); first | (refine nlw hM ?_; clear hM; intro wx hM) | (refine nls hM ?_; clear hM; intro wx hM) | (refine nlt hM ?_; clear hM; intro wx hM)) | ((with_reducible refine at_alloc ?_); refine nlz hM ?_; clear hM; intro gx wx hM) | ((with_reducible refine at_box ?_); first | (refine nlb hM ?_; clear hM; intro gx wx hM) | (refine nlx hM ?_; clear hM; intro gx wx hM)))
      obtain ⟨nw, hnw⟩ : ∃ nw, now + 60 * (hv : Int) = nw := ⟨_, rfl⟩
      have m0 : 0 ≤ nw := by omega
      have HNW := Lib.hid (show nw ≤ 15300 * ((k : Int) + 1) by have := HC.out.2.1; omega)
      have m1 : nw ≤ 918000 := by have := HNW.out; omega
      rw [hnw]
      clear hnw n0 n1 h0 h1 e1 e2 av0 av1 eq1
      go_upto_if 109 with fail
      refine wp_cut (fun a' w' => Mem [] w (⟨gx, 38, 32, stC (q + 1) []⟩ :: ⟨gm, 43, 1, #[.map (some ba)]⟩ :: ⟨gac, 4, 10, boolC ac⟩ :: ⟨gr, 33, 3, ruleC (s1 % 4) (s1 % 4 + s2 % 30)⟩ :: ⟨gs, 28, 1, #[.pointer (some ⟨sp, 0, none⟩)]⟩ :: ⟨sp, 74, 4, splC (20 + s0) byt nxt bs⟩ :: ⟨hh, 71, 2, hist bh cut⟩ :: ⟨gt, 4, 1, #[.bool false]⟩ :: ⟨gz, 25, 3, #[.int .u8 s0, .int .u8 s1, .int .u8 s2]⟩ :: ⟨gd, 24, 10, dcs⟩ :: []) (mapT ba ma :: mapT bs ms :: mapT bh mh :: (GS.map grpT ++ Ds.map markT)) w' ∧ a'.defers = Ds.map markD ∧ a'.tmps.size = 242 ∧ Keeps a'.tmps [(0, .slice (some ⟨gA, oA, none⟩) n c), (4, .pointer (some ⟨gd, 0, none⟩)), (5, .pointer (some ⟨gz, 0, none⟩)), (6, .pointer (some ⟨gt, 0, none⟩)), (7, .pointer (some ⟨hh, 0, none⟩)), (8, .pointer (some ⟨gs, 0, none⟩)), (10, .slice (some ⟨gr, 0, none⟩) 1 1), (11, .slice (some ⟨gac, 0, none⟩) 10 10), (12, .pointer (some ⟨gm, 0, none⟩)), (13, .int .i64 nw), (14, .int .i64 (k : Nat)), (15, .int .i64 (q : Nat)), (16, .pointer (some ⟨gx, 0, none⟩)), (17, .int .i64 (kd (q + 1)))]) ?_ ?_
      rotate_left
      · intro J K' hJ hK
        by_cases h8 : 8 ≤ q
        · have c8 : (8 : Int) ≤ (q : Int) := by omega
          have ek : 3 + (q : Int) % 2 = kd (q + 1) := by
            unfold kd
            rw [if_neg (by omega)]
            omega
          go_wp2_with fail
          exact Met.intro (hJ _ _ ⟨hM, rfl, rfl, rfl, rfl, rfl, rfl, rfl, rfl, rfl, rfl, rfl, rfl, rfl, rfl, rfl, rfl, trivial⟩)
        · have c8 : ¬ (8 : Int) ≤ (q : Int) := by omega
          have ek : kd (q + 1) = 0 := by
            unfold kd
            rw [if_pos (by omega)]
          rw [ek] at hJ
          go_wp2_with fail
          exact Met.intro (hJ _ _ ⟨hM, rfl, rfl, rfl, rfl, rfl, rfl, rfl, rfl, rfl, rfl, rfl, rfl, rfl, rfl, rfl, rfl, trivial⟩)
      clear hM
      rintro a' wc ⟨hM, hd1, hd2, hd3⟩
      obtain ⟨u', rfl⟩ := frK hd1 hd2 hd3
      clear hd1 hd2 hd3
      have hkr := kd_range (q + 1)
      have hkp := kd_pm (q + 1)
      obtain ⟨kq, hkq⟩ : ∃ kq, kd (q + 1) = kq := ⟨_, rfl⟩
      rw [hkq] at hkr hkp
      have HKQ := Lib.hid hkq
      have hdq := HDD.out q HQ.out
      obtain ⟨d, hdd⟩ : ∃ d, dt (q + 1) = d := ⟨_, rfl⟩
      rw [hdd] at hdq
      obtain ⟨hdq, d0, d1⟩ := hdq
      have HDT := Lib.hid hdd
      rw [hkq]
      clear hkq hdd
      obtain ⟨p, hp⟩ : ∃ p, pm (q + 1) = p := ⟨_, rfl⟩
      rw [hp] at hkp
      have HP := Lib.hid hp
      clear hp
      have e10 : 1 + (q : Int) ≤ 10 := by omega
      have e11 : (1 + (q : Int)).toNat = q + 1 := by omega
      have etx : ByteArray.extract { data := #[48, 49, 50, 51, 52, 53, 54, 55, 56, 57] } 0 (q + 1) = tx (q + 1) := rfl
      go_upto_region 22 with (first | ((with_reducible refine at_load ?_); refine nlc hM ?_ (hv := hdq)) | ((first | with_reducible refine at_load ?_ | ((with_reducible refine at_load_g ?_ ?_); (· rfl))); first | refine nll hM ?_ | refine nlc hM ?_ | refine nlp hM ?_) | ((with_reducible refine at_store ?_); first | (refine nlw hM ?_; clear hM; intro wx hM) | (refine nls hM ?_; clear hM; intro wx hM) | (refine nlt hM ?_; clear hM; intro wx hM)) | ((with_reducible refine at_alloc ?_); refine nlz hM ?_; clear hM; intro gx wx hM) | ((with_reducible refine at_box ?_); first | (refine nlb hM ?_; clear hM; intro gx wx hM) | (refine nlx hM ?_; clear hM; intro gx wx hM)))
      have HM0 := Lib.hid (fun mv (h : mh (q + 1) = some mv) => show ∃ a s p, mv = hentV (q + 1) a (dt (q + 1)) s p from by
        rcases HC.out.2.2.2.2.2.each q HQ.out with ⟨_, h1, _⟩ | ⟨_, _, ⟨a, p, h1, _⟩ | ⟨a, h1, _⟩ | ⟨h1, _⟩⟩
        · rw [h1] at h; cases h
        · rw [h1] at h; injection h with h; exact ⟨_, _, _, h.symm⟩
        · rw [h1] at h; injection h with h; exact ⟨_, _, _, h.symm⟩
        · rw [h1] at h; cases h)
      refine wp_cut (fun a' w' => ∃ (b : Bool) (ms' : Nat → Option Value) (byt' nxt' : Int), Hid ((byt ≤ byt' ∧ byt' ≤ byt + 10) ∧ (nxt ≤ nxt' ∧ nxt' ≤ nxt + 1) ∧ ((b = false ∧ ms' = ms) ∨ (b = true ∧ mh (q + 1) = none ∧ ac[q]? = some false ∧ ms' = updM ms (q + 1) (some (artV (tx (q + 1)) nw nxt))))) ∧ Mem [] w (⟨gx, 38, 32, stC (q + 1) []⟩ :: ⟨gm, 43, 1, #[.map (some ba)]⟩ :: ⟨gac, 4, 10, boolC ac⟩ :: ⟨gr, 33, 3, ruleC (s1 % 4) (s1 % 4 + s2 % 30)⟩ :: ⟨gs, 28, 1, #[.pointer (some ⟨sp, 0, none⟩)]⟩ :: ⟨sp, 74, 4, splC (20 + s0) byt' nxt' bs⟩ :: ⟨hh, 71, 2, hist bh cut⟩ :: ⟨gt, 4, 1, #[.bool false]⟩ :: ⟨gz, 25, 3, #[.int .u8 s0, .int .u8 s1, .int .u8 s2]⟩ :: ⟨gd, 24, 10, dcs⟩ :: []) (mapT ba ma :: mapT bs ms' :: mapT bh mh :: (GS.map grpT ++ Ds.map markT)) w' ∧ a'.defers = Ds.map markD ∧ a'.tmps.size = 242 ∧ Keeps a'.tmps [(0, .slice (some ⟨gA, oA, none⟩) n c), (4, .pointer (some ⟨gd, 0, none⟩)), (5, .pointer (some ⟨gz, 0, none⟩)), (6, .pointer (some ⟨gt, 0, none⟩)), (7, .pointer (some ⟨hh, 0, none⟩)), (8, .pointer (some ⟨gs, 0, none⟩)), (10, .slice (some ⟨gr, 0, none⟩) 1 1), (11, .slice (some ⟨gac, 0, none⟩) 10 10), (12, .pointer (some ⟨gm, 0, none⟩)), (13, .int .i64 nw), (14, .int .i64 (k : Nat)), (15, .int .i64 (q : Nat)), (16, .pointer (some ⟨gx, 0, none⟩)), (17, .int .i64 kq), (18, .int .i64 d), (19, .string (tx (q + 1))), (135, .bool b)]) ?_ ?_
      rotate_left
      · intro J K' hJ hK
        cases hmh : mh (q + 1) with
        | some v =>
          obtain ⟨ha, hs, hp, rfl⟩ := HM0.out v hmh
          have HJ := Lib.hid (fun wv (hM : Mem [] w (⟨gx, 38, 32, stC (q + 1) []⟩ :: ⟨gm, 43, 1, #[.map (some ba)]⟩ :: ⟨gac, 4, 10, boolC ac⟩ :: ⟨gr, 33, 3, ruleC (s1 % 4) (s1 % 4 + s2 % 30)⟩ :: ⟨gs, 28, 1, #[.pointer (some ⟨sp, 0, none⟩)]⟩ :: ⟨sp, 74, 4, splC (20 + s0) byt nxt bs⟩ :: ⟨hh, 71, 2, hist bh cut⟩ :: ⟨gt, 4, 1, #[.bool false]⟩ :: ⟨gz, 25, 3, #[.int .u8 s0, .int .u8 s1, .int .u8 s2]⟩ :: ⟨gd, 24, 10, dcs⟩ :: []) (mapT ba ma :: mapT bs ms :: mapT bh mh :: (GS.map grpT ++ Ds.map markT)) wv) => hjudge_known hh bh (q + 1) cut ha (dt (q + 1)) hs d nw hp p mh hM (by omega) hmh m0 (by omega) d0 (by omega))
          go_wp2_with (first | ((with_reducible refine (HJ.out _ hM).mono ?_); rintro e w1 ⟨rfl, hM1⟩; clear hM; have hM := hM1; clear hM1) | ((first | with_reducible refine at_load ?_ | ((with_reducible refine at_load_g ?_ ?_); (· rfl))); first | refine nll hM ?_ | refine nlc hM ?_ | refine nlp hM ?_) | ((with_reducible refine at_store ?_); first | (refine nlw hM ?_; clear hM; intro wx hM) | (refine nls hM ?_; clear hM; intro wx hM) | (refine nlt hM ?_; clear hM; intro wx hM)) | ((with_reducible refine at_alloc ?_); refine nlz hM ?_; clear hM; intro gx wx hM) | ((with_reducible refine at_box ?_); first | (refine nlb hM ?_; clear hM; intro gx wx hM) | (refine nlx hM ?_; clear hM; intro gx wx hM)))
          exact Met.intro (hJ _ _ ⟨false, ms, byt, nxt, Lib.hid ⟨by omega, by omega, .inl ⟨rfl, rfl⟩⟩, hM, rfl, rfl, rfl, rfl, rfl, rfl, rfl, rfl, rfl, rfl, rfl, rfl, rfl, rfl, rfl, rfl, rfl, rfl, rfl, trivial⟩)
        | none =>
          have hcc := HC.out.2.2.2.2.1
          have HJ := Lib.hid (fun wv (hM : Mem [] w (⟨gx, 38, 32, stC (q + 1) []⟩ :: ⟨gm, 43, 1, #[.map (some ba)]⟩ :: ⟨gac, 4, 10, boolC ac⟩ :: ⟨gr, 33, 3, ruleC (s1 % 4) (s1 % 4 + s2 % 30)⟩ :: ⟨gs, 28, 1, #[.pointer (some ⟨sp, 0, none⟩)]⟩ :: ⟨sp, 74, 4, splC (20 + s0) byt nxt bs⟩ :: ⟨hh, 71, 2, hist bh cut⟩ :: ⟨gt, 4, 1, #[.bool false]⟩ :: ⟨gz, 25, 3, #[.int .u8 s0, .int .u8 s1, .int .u8 s2]⟩ :: ⟨gd, 24, 10, dcs⟩ :: []) (mapT ba ma :: mapT bs ms :: mapT bh mh :: (GS.map grpT ++ Ds.map markT)) wv) => hjudge_new hh bh (q + 1) cut d nw p mh hM (by omega) hmh m0 (by omega) d0 (by omega) (by omega) (by omega))
          have HFR := Lib.hid (fun (h : judgeE d nw cut p = 0) => HC.out.2.2.2.2.2.fresh (now := nw) HQ.out hmh (by rw [HDT.out, HP.out]; exact h))
          generalize judgeE d nw cut p = je at HJ HFR
          clear hcc
          by_cases hje : je = 0
          · subst hje
            obtain ⟨hac, hms⟩ := HFR.out rfl
            have hsz := tx_size (j := q + 1) (by omega)
            have hby := HC.out.2.2.2.1
            have hnx := HC.out.2.2.1
            by_cases hf : 20 + s0 - byt < (tx (q + 1)).size
            · have HPT := Lib.hid (fun wv (hM : Mem [] w (⟨gx, 38, 32, stC (q + 1) []⟩ :: ⟨gm, 43, 1, #[.map (some ba)]⟩ :: ⟨gac, 4, 10, boolC ac⟩ :: ⟨gr, 33, 3, ruleC (s1 % 4) (s1 % 4 + s2 % 30)⟩ :: ⟨gs, 28, 1, #[.pointer (some ⟨sp, 0, none⟩)]⟩ :: ⟨sp, 74, 4, splC (20 + s0) byt nxt bs⟩ :: ⟨hh, 71, 2, hist bh cut⟩ :: ⟨gt, 4, 1, #[.bool false]⟩ :: ⟨gz, 25, 3, #[.int .u8 s0, .int .u8 s1, .int .u8 s2]⟩ :: ⟨gd, 24, 10, dcs⟩ :: []) (mapT ba ma :: mapT bs ms :: mapT bh mh :: (GS.map grpT ++ Ds.map markT)) wv) => sput_full sp bs (q + 1) (20 + s0) byt nxt nw (tx (q + 1)) ms hM (by omega) (by omega) hms m0 (by omega) (tx_te HQ.out) (by omega) hf (by omega) (by omega) (by omega) (by omega))
              clear hf hsz hby hnx
              go_wp2_with (first | ((with_reducible refine (HJ.out _ hM).mono ?_); rintro e w1 ⟨rfl, hM1⟩; clear hM; have hM := hM1; clear hM1) | ((with_reducible refine (HPT.out _ hM).mono ?_); rintro e w1 ⟨rfl, hM1⟩; clear hM; have hM := hM1; clear hM1) | ((first | with_reducible refine at_load ?_ | ((with_reducible refine at_load_g ?_ ?_); (· rfl))); first | refine nll hM ?_ | refine nlc hM ?_ | refine nlp hM ?_) | ((with_reducible refine at_store ?_); first | (refine nlw hM ?_; clear hM; intro wx hM) | (refine nls hM ?_; clear hM; intro wx hM) | (refine nlt hM ?_; clear hM; intro wx hM)) | ((with_reducible refine at_alloc ?_); refine nlz hM ?_; clear hM; intro gx wx hM) | ((with_reducible refine at_box ?_); first | (refine nlb hM ?_; clear hM; intro gx wx hM) | (refine nlx hM ?_; clear hM; intro gx wx hM)))
              exact Met.intro (hJ _ _ ⟨false, ms, byt, nxt, Lib.hid ⟨by omega, by omega, .inl ⟨rfl, rfl⟩⟩, hM, rfl, rfl, rfl, rfl, rfl, rfl, rfl, rfl, rfl, rfl, rfl, rfl, rfl, rfl, rfl, rfl, rfl, rfl, rfl, trivial⟩)
            · have HPT := Lib.hid (fun wv (hM : Mem [] w (⟨gx, 38, 32, stC (q + 1) []⟩ :: ⟨gm, 43, 1, #[.map (some ba)]⟩ :: ⟨gac, 4, 10, boolC ac⟩ :: ⟨gr, 33, 3, ruleC (s1 % 4) (s1 % 4 + s2 % 30)⟩ :: ⟨gs, 28, 1, #[.pointer (some ⟨sp, 0, none⟩)]⟩ :: ⟨sp, 74, 4, splC (20 + s0) byt nxt bs⟩ :: ⟨hh, 71, 2, hist bh cut⟩ :: ⟨gt, 4, 1, #[.bool false]⟩ :: ⟨gz, 25, 3, #[.int .u8 s0, .int .u8 s1, .int .u8 s2]⟩ :: ⟨gd, 24, 10, dcs⟩ :: []) (mapT ba ma :: mapT bs ms :: mapT bh mh :: (GS.map grpT ++ Ds.map markT)) wv) => sput_ok sp bs (q + 1) (20 + s0) byt nxt nw (tx (q + 1)) ms hM (by omega) (by omega) hms m0 (by omega) (tx_te HQ.out) (by omega) (by omega) (by omega) (by omega) (by omega) (by omega) (by omega) (by omega))
              have HSZ := Lib.hid hsz
              clear hf hsz hby hnx
              go_wp2_with (first | ((with_reducible refine (HJ.out _ hM).mono ?_); rintro e w1 ⟨rfl, hM1⟩; clear hM; have hM := hM1; clear hM1) | ((with_reducible refine (HPT.out _ hM).mono ?_); rintro e w1 ⟨rfl, hM1⟩; clear hM; have hM := hM1; clear hM1) | ((first | with_reducible refine at_load ?_ | ((with_reducible refine at_load_g ?_ ?_); (· rfl))); first | refine nll hM ?_ | refine nlc hM ?_ | refine nlp hM ?_) | ((with_reducible refine at_store ?_); first | (refine nlw hM ?_; clear hM; intro wx hM) | (refine nls hM ?_; clear hM; intro wx hM) | (refine nlt hM ?_; clear hM; intro wx hM)) | ((with_reducible refine at_alloc ?_); refine nlz hM ?_; clear hM; intro gx wx hM) | ((with_reducible refine at_box ?_); first | (refine nlb hM ?_; clear hM; intro gx wx hM) | (refine nlx hM ?_; clear hM; intro gx wx hM)))
              exact Met.intro (hJ _ _ ⟨true, _, _, _, Lib.hid ⟨by have := HSZ.out; omega, by omega, .inr ⟨rfl, hmh, hac, rfl⟩⟩, hM, rfl, rfl, rfl, rfl, rfl, rfl, rfl, rfl, rfl, rfl, rfl, rfl, rfl, rfl, rfl, rfl, rfl, rfl, rfl, trivial⟩)
          · have hjb : (je == 0) = false := by simpa using hje
            clear hje
            go_wp2_with (first | ((with_reducible refine (HJ.out _ hM).mono ?_); rintro e w1 ⟨rfl, hM1⟩; clear hM; have hM := hM1; clear hM1) | ((first | with_reducible refine at_load ?_ | ((with_reducible refine at_load_g ?_ ?_); (· rfl))); first | refine nll hM ?_ | refine nlc hM ?_ | refine nlp hM ?_) | ((with_reducible refine at_store ?_); first | (refine nlw hM ?_; clear hM; intro wx hM) | (refine nls hM ?_; clear hM; intro wx hM) | (refine nlt hM ?_; clear hM; intro wx hM)) | ((with_reducible refine at_alloc ?_); refine nlz hM ?_; clear hM; intro gx wx hM) | ((with_reducible refine at_box ?_); first | (refine nlb hM ?_; clear hM; intro gx wx hM) | (refine nlx hM ?_; clear hM; intro gx wx hM)))
            exact Met.intro (hJ _ _ ⟨false, ms, byt, nxt, Lib.hid ⟨by omega, by omega, .inl ⟨rfl, rfl⟩⟩, hM, rfl, rfl, rfl, rfl, rfl, rfl, rfl, rfl, rfl, rfl, rfl, rfl, rfl, rfl, rfl, rfl, rfl, rfl, rfl, trivial⟩)
      clear hM
      rintro a' wc ⟨b, ms', byt', nxt', hcut, hM, hd1, hd2, hd3⟩
      obtain ⟨u', rfl⟩ := frJ hd1 hd2 hd3
      clear hd1 hd2 hd3
      go_upto_if 135 with fail
      refine wp_cut (fun a' w' => ∃ (byt nxt : Int) (ac : List Bool) (mh ms ma : Nat → Option Value) (GS : List Nat), Hid ((0 ≤ nxt ∧ nxt ≤ k + 1) ∧ (-200 * k ≤ byt ∧ byt ≤ 10 * (k + 1)) ∧ St GS dt cut ac mh ms ma) ∧ Mem [] w (⟨gx, 38, 32, stC (q + 1) []⟩ :: ⟨gm, 43, 1, #[.map (some ba)]⟩ :: ⟨gac, 4, 10, boolC ac⟩ :: ⟨gr, 33, 3, ruleC (s1 % 4) (s1 % 4 + s2 % 30)⟩ :: ⟨gs, 28, 1, #[.pointer (some ⟨sp, 0, none⟩)]⟩ :: ⟨sp, 74, 4, splC (20 + s0) byt nxt bs⟩ :: ⟨hh, 71, 2, hist bh cut⟩ :: ⟨gt, 4, 1, #[.bool false]⟩ :: ⟨gz, 25, 3, #[.int .u8 s0, .int .u8 s1, .int .u8 s2]⟩ :: ⟨gd, 24, 10, dcs⟩ :: []) (mapT ba ma :: mapT bs ms :: mapT bh mh :: (GS.map grpT ++ Ds.map markT)) w' ∧ a'.defers = Ds.map markD ∧ a'.tmps.size = 242 ∧ Keeps a'.tmps [(0, .slice (some ⟨gA, oA, none⟩) n c), (4, .pointer (some ⟨gd, 0, none⟩)), (5, .pointer (some ⟨gz, 0, none⟩)), (6, .pointer (some ⟨gt, 0, none⟩)), (7, .pointer (some ⟨hh, 0, none⟩)), (8, .pointer (some ⟨gs, 0, none⟩)), (10, .slice (some ⟨gr, 0, none⟩) 1 1), (11, .slice (some ⟨gac, 0, none⟩) 10 10), (12, .pointer (some ⟨gm, 0, none⟩)), (13, .int .i64 nw), (14, .int .i64 (k : Nat))]) ?_ ?_
      rotate_left
      · intro J K' hJ hK
        have HCU := Lib.hid hcut.out
        cases b with
        | false =>
          clear hcut
          go_wp2_with fail
          obtain ⟨h1, h2, ⟨_, rfl⟩ | ⟨h3, _⟩⟩ := HCU.out
          · exact Met.intro (hJ _ _ ⟨byt', nxt', ac, mh, ms', ma, GS, Lib.hid ⟨by have := HC.out.2.2.1; omega, by have := HC.out.2.2.2.1; omega, HC.out.2.2.2.2.2⟩, hM, rfl, rfl, rfl, rfl, rfl, rfl, rfl, rfl, rfl, rfl, rfl, rfl, rfl, trivial⟩)
          · cases h3
        | true =>
          obtain ⟨_, _, ⟨h3, _⟩ | ⟨_, hmh, hac, rfl⟩⟩ := hcut.out
          · cases h3
          have hsz := tx_size (j := q + 1) (by omega)
          have hac2 := boolC_get hac
          have hcc := HC.out.2.2.2.2.1
          have HADD := Lib.hid (fun wv (hM : Mem [] w (⟨gx, 38, 32, stC (q + 1) []⟩ :: ⟨gm, 43, 1, #[.map (some ba)]⟩ :: ⟨gac, 4, 10, boolC ac⟩ :: ⟨gr, 33, 3, ruleC (s1 % 4) (s1 % 4 + s2 % 30)⟩ :: ⟨gs, 28, 1, #[.pointer (some ⟨sp, 0, none⟩)]⟩ :: ⟨sp, 74, 4, splC (20 + s0) byt' nxt' bs⟩ :: ⟨hh, 71, 2, hist bh cut⟩ :: ⟨gt, 4, 1, #[.bool false]⟩ :: ⟨gz, 25, 3, #[.int .u8 s0, .int .u8 s1, .int .u8 s2]⟩ :: ⟨gd, 24, 10, dcs⟩ :: []) (mapT ba ma :: mapT bs (updM ms (q + 1) (some (artV (tx (q + 1)) nw nxt))) :: mapT bh mh :: (GS.map grpT ++ Ds.map markT)) wv) => hadd_yes hh bh (q + 1) cut nw d p mh hM (by omega) hmh m0 (by omega) d0 (by omega))
          have HQ1 := Lib.hid (show q + 1 < 11 by omega)
          clear hcut hcc hmh hac
          go_wp2_with (first | ((with_reducible refine at_load ?_); refine nlc hM ?_ (hv := hac2)) | ((with_reducible refine at_store ?_); refine nls hM ?_ (i := q) (hX := boolC_set _ _ _); clear hM; intro wx hM) | ((with_reducible refine at_build_g ?_ ?_); (· rfl); refine nb_hent ?_) | ((with_reducible refine at_build ?_); refine nb_artc ?_) | ((with_reducible refine at_bslice ?_); refine ngrp hM ?_; clear hM; intro gg w1 hM) | ((with_reducible refine at_mput ?_); refine nmu hM mty_art HQ1.out ?_ (v := .agg (stC (q + 1) (artTl d nw gg ((q : Int) + 1) kq))); clear hM; intro wx hM) | ((with_reducible refine (HADD.out _ hM).mono ?_); rintro e w1 ⟨rfl, hM1⟩; clear hM; have hM := hM1; clear hM1) | ((first | with_reducible refine at_load ?_ | ((with_reducible refine at_load_g ?_ ?_); (· rfl))); first | refine nll hM ?_ | refine nlc hM ?_ | refine nlp hM ?_) | ((with_reducible refine at_store ?_); first | (refine nlw hM ?_; clear hM; intro wx hM) | (refine nls hM ?_; clear hM; intro wx hM) | (refine nlt hM ?_; clear hM; intro wx hM)) | ((with_reducible refine at_alloc ?_); refine nlz hM ?_; clear hM; intro gx wx hM) | ((with_reducible refine at_box ?_); first | (refine nlb hM ?_; clear hM; intro gx wx hM) | (refine nlx hM ?_; clear hM; intro gx wx hM)))
          have hst := HC.out.2.2.2.2.2.accept (now := nw) (gg := gg) (p := nxt) HQ.out m0 (by omega)
          rw [HDT.out, HP.out, HKQ.out, show ((q + 1 : Nat) : Int) = (q : Int) + 1 by omega] at hst
          exact Met.intro (hJ _ _ ⟨byt', nxt', ac.set q true, _, _, _, gg :: GS, Lib.hid ⟨by have := HC.out.2.2.1; have := HCU.out.2.1; omega, by have := HC.out.2.2.2.1; have := HCU.out.1; omega, hst⟩, hM.perm (grp_perm _ _ _ _ _ _), rfl, rfl, rfl, rfl, rfl, rfl, rfl, rfl, rfl, rfl, rfl, rfl, rfl, trivial⟩)
      have hcc := HC.out.2.2.2.2.1
      have HCC := Lib.hid hcc
      clear hM hcut HC HM0 HKQ HDT HP hdq hkr hkp d0 d1 etx e10 e11 hcc HQ
      rintro a' wc ⟨byt, nxt, ac, mh, ms, ma, GS, hc, hM, hd1, hd2, hd3⟩
      obtain ⟨u', rfl⟩ := frL hd1 hd2 hd3
      clear hd1 hd2 hd3
      have HCS := Lib.hid hc.out
      clear hc
      replace hM := hM.subL (List.sublist_cons_self _ _)
      clear HA
      have HSA := Lib.hid (sallf_any sp)
      go_wp2_with (first | ((with_reducible refine (HSA.out _).mono ?_); rintro e w1 ⟨gsc, rfl, hA1⟩; replace hM := hM.frame hA1; clear hA1; simp only [List.cons_append, List.nil_append] at hM) | ((with_reducible refine at_alloc ?_); refine nlz hM ?_ (hz := zero_sart); clear hM; intro ga w1 hM) | ((first | with_reducible refine at_load ?_ | ((with_reducible refine at_load_g ?_ ?_); (· rfl))); first | refine nll hM ?_ | refine nlc hM ?_ | refine nlp hM ?_) | ((with_reducible refine at_store ?_); first | (refine nlw hM ?_; clear hM; intro wx hM) | (refine nls hM ?_; clear hM; intro wx hM) | (refine nlt hM ?_; clear hM; intro wx hM)) | ((with_reducible refine at_alloc ?_); refine nlz hM ?_; clear hM; intro gx wx hM) | ((with_reducible refine at_box ?_); first | (refine nlb hM ?_; clear hM; intro gx wx hM) | (refine nlx hM ?_; clear hM; intro gx wx hM)))
      obtain ⟨D, hD⟩ : ∃ D, w1.heap.size = D := ⟨_, rfl⟩
      refine (wpIn_wide (n := 3)).1 ?_
      refine rangeFunc_of 2 rfl (enters_of Tryz.func24 (by kernel_rfl) rfl) ?_
      intro rec hR2
      replace hM := Mem.elNil hM 51 7
      have hM2 := hM.loopNew (rec .ready none)
      clear hM
      rw [hD] at hM2 ⊢
      clear hD
      obtain ⟨l, hl⟩ : ∃ l, D + 1 = l := ⟨_, rfl⟩
      rw [hl] at hM2 ⊢
      clear hl
      refine (sall_in l gsc sp bs (20 + s0) byt nxt ms HCS.out.2.2.spoolM (fun s : Option Addr × Nat × Nat × List El => ⟨gsc, 28, 1, #[.pointer (some ⟨sp, 0, none⟩)]⟩ :: ⟨ga, 52, 1, #[.slice s.1 s.2.1 s.2.2.1]⟩ :: ⟨gm, 43, 1, #[.map (some ba)]⟩ :: ⟨gac, 4, 10, boolC ac⟩ :: ⟨gr, 33, 3, ruleC (s1 % 4) (s1 % 4 + s2 % 30)⟩ :: ⟨gs, 28, 1, #[.pointer (some ⟨sp, 0, none⟩)]⟩ :: ⟨sp, 74, 4, splC (20 + s0) byt nxt bs⟩ :: ⟨hh, 71, 2, hist bh cut⟩ :: ⟨gt, 4, 1, #[.bool false]⟩ :: ⟨gz, 25, 3, #[.int .u8 s0, .int .u8 s1, .int .u8 s2]⟩ :: ⟨gd, 24, 10, dcs⟩ :: []) (fun s => objT l (.loop (rec .ready none)) :: objT D (.deferred (some [])) :: elT 51 7 (.slice s.1 s.2.1 s.2.2.1) s.2.2.2 :: mapT ba ma :: mapT bs ms :: mapT bh mh :: (GS.map grpT ++ Ds.map markT)) (GathI GS dt) (none, 0, 0, []) ⟨rfl, rfl, ⟨by simp, by simp⟩, fun x hx => by cases hx⟩ hM2 (.head _) (by repeat (first | exact List.Mem.head _ | assumption | apply List.Mem.tail)) (by repeat (first | exact UpdR.head _ _ | assumption | apply UpdR.tail)) ?yield).mono ?after
      case yield =>
        rintro ⟨A', N, c', il⟩ done x T W hinv hsm ⟨hx11, hsz34, hone⟩ hnd hM
        obtain ⟨_, ⟨aa, gg, hma, ha, hgg⟩, _⟩ := HCS.out.2.2.here hx11 hsm
        replace hM := hM.perm (List.Perm.swap _ _ _)
        refine round_goes hR2 hM.loopAt rfl ?_
        refine wpIn_round_lit (k := l) (by rintro ⟨_, _, h⟩; exact h) (by rfl) ?_
        go_simp
        refine nlz hM ?_ (hz := zero_sent)
        clear hM
        intro g6 w6 hM
        refine nlw (vs := elC x) hM ?_ (hs := hsz34) (h1 := hone)
        clear hM
        intro w7 hM
        refine ⟨hM.loopAt, ?_⟩
        replace hM := hM.loopPut (rec .busy none)
        generalize World.putObj _ l (Obj.loop (rec LoopState.busy none)) = wy at hM ⊢
        have HINV := Lib.hid hinv
        have HX := Lib.hid (show x.1 < 11 ∧ x.1 ∉ done.map (·.1) from ⟨hx11, hnd⟩)
        have HLN := Lib.hid (show il.length < 1000000 by have := hinv.small; simp only at this; omega)
        have HV := Lib.hid (show (ma x.1).getD (.agg (stC 0 [.int .i64 0, .int .i64 0, .slice none 0 0, .int .i64 0, .int .i64 0, .slice none 0 0, .bool false])) = .agg (stC x.1 (artTl (dt x.1) aa gg (x.1 : Nat) (kd x.1))) by rw [hma]; rfl)
        have HAG := Lib.hid (And.intro ha hgg)
        clear hinv hx11 hsz34 hone hnd hsm hma ha hgg
        go_simp
        gi_wp2_with fail
        refine wpIn_region_allB hM 6 (by rintro ⟨_, _, h⟩; exact h) (by kernel_rfl) (by rfl) ?_
        clear hM
        intro wd hM
        have HM0 := Lib.hid hM
        have hS := Below.refl wd.heap.size wd
        refine wpAllT_takes [2, 0, 1, 3] (by kernel_rfl) (fun _ _ _ _ _ h => h) hS (by kernel_rfl) ?_
        simp only [pickOps, List.filterMap_cons, List.filterMap_nil, List.getElem?_cons_zero, List.getElem?_cons_succ]
        repeat ((with_reducible apply wpHeld_step); (· rfl); (· (intro wq hSw; first | (go_simp; rfl) | (have hM' := HM0.out.step hSw; first | exact yields_load (C := fun _ => True) (nqc hM') rfl | exact yields_load (C := fun _ => True) (nql hM') rfl | exact yields_load (C := fun _ => True) (nqp hM') rfl | fail))); intro K hK; go_simp; (with_reducible refine hK _ ?_); clear hK K)
        refine wpHeld_nil ?_
        refine wpAllT_takes [4] (by kernel_rfl) (fun _ _ _ _ _ h => h) hS (by kernel_rfl) ?_
        simp only [pickOps, List.filterMap_cons, List.filterMap_nil, List.getElem?_cons_zero, List.getElem?_cons_succ]
        (with_reducible apply wpHeld_step); (· rfl); (· (intro wq hSw; exact yml mty_art (HM0.out.step hSw) HX.out.1 HV.out)); intro K hK; go_simp; (with_reducible refine hK _ ?_); clear hK K
        refine wpHeld_nil ?_
        refine wpAllT_one 5 rfl (by kernel_rfl) ?_
        refine nbs (Mem.start [] _) ely_artc ?_
        intro gb wb hF
        replace hM := hM.frame hF
        simp only [List.cons_append, List.nil_append] at hM
        replace hS := Below.step hS hF.below
        clear hF
        refine wpList_then ⟨.inr hS, ?_⟩
        refine wpAllT_one 6 rfl (by kernel_rfl) ?_
        refine nap (l := il) hM ely_artc HLN.out ?_
        clear hM hS HM0
        intro A2 N2 c2 wz HNN hM
        refine wpList_then ⟨.inl (by kernel_rfl), wpAllT_drop (by kernel_rfl) ?_⟩
        refine wpAll_one 7 rfl (by kernel_rfl) ?_
        refine nls hM ?_
        clear hM
        intro wx hM
        refine wpList_then (wpAll_done (by kernel_rfl) ?_)
        gi_wp2_with fail
        exact ⟨hM.loopAt, rfl, A2, N2, c2, _, HINV.out.more x HX.out.1 HX.out.2 HNN.out HAG.out.1 HAG.out.2, ((hM.subL (by exact List.Sublist.cons _ (List.Sublist.cons _ (List.Sublist.refl _)))).loopPut _).perm (List.Perm.swap _ _ _)⟩
      case after =>
        rintro e W ⟨⟨v, rfl⟩, ⟨A', N, c', il⟩, ls, ⟨lf, hcm, _⟩, hinv, hM⟩
        refine ⟨⟨v, rfl⟩, .inl ⟨hM.loopAt, ?_⟩⟩
        replace hM := hM.loopPut (rec .exhausted none)
        generalize World.putObj _ l (Obj.loop (rec LoopState.exhausted none)) = wy at hM ⊢
        have HINV := Lib.hid hinv
        have HCM := Lib.hid hcm
        clear hinv hcm HSA
        simp only at hM
        replace hM : Mem [] w (⟨gsc, 28, 1, #[.pointer (some ⟨sp, 0, none⟩)]⟩ :: ⟨ga, 52, 1, #[.slice A' N c']⟩ :: ⟨gm, 43, 1, #[.map (some ba)]⟩ :: ⟨gac, 4, 10, boolC ac⟩ :: ⟨gr, 33, 3, ruleC (s1 % 4) (s1 % 4 + s2 % 30)⟩ :: ⟨gs, 28, 1, #[.pointer (some ⟨sp, 0, none⟩)]⟩ :: ⟨sp, 74, 4, splC (20 + s0) byt nxt bs⟩ :: ⟨hh, 71, 2, hist bh cut⟩ :: ⟨gt, 4, 1, #[.bool false]⟩ :: ⟨gz, 25, 3, #[.int .u8 s0, .int .u8 s1, .int .u8 s2]⟩ :: ⟨gd, 24, 10, dcs⟩ :: []) (elT 51 7 (.slice A' N c') il :: mapT ba ma :: mapT bs ms :: mapT bh mh :: (GS.map grpT ++ (D :: Ds).map markT)) wy := (hM.subR (List.sublist_cons_self _ _)).perm (markL_perm [_, _, _, _] _ _ _)
        have HPL := Lib.hid (fun wv (hM : Mem [] w (⟨gsc, 28, 1, #[.pointer (some ⟨sp, 0, none⟩)]⟩ :: ⟨ga, 52, 1, #[.slice A' N c']⟩ :: ⟨gm, 43, 1, #[.map (some ba)]⟩ :: ⟨gac, 4, 10, boolC ac⟩ :: ⟨gr, 33, 3, ruleC (s1 % 4) (s1 % 4 + s2 % 30)⟩ :: ⟨gs, 28, 1, #[.pointer (some ⟨sp, 0, none⟩)]⟩ :: ⟨sp, 74, 4, splC (20 + s0) byt nxt bs⟩ :: ⟨hh, 71, 2, hist bh cut⟩ :: ⟨gt, 4, 1, #[.bool false]⟩ :: ⟨gz, 25, 3, #[.int .u8 s0, .int .u8 s1, .int .u8 s2]⟩ :: ⟨gd, 24, 10, dcs⟩ :: []) (elT 51 7 (.slice A' N c') il :: mapT ba ma :: mapT bs ms :: mapT bh mh :: (GS.map grpT ++ (D :: Ds).map markT)) wv) => plan_any gr (s1 % 4) (s1 % 4 + s2 % 30) nw 20 A' N c' il (by omega) (by omega) (by omega) m0 (by omega) (by omega) HINV.out.small (fun x hx => by
          obtain ⟨h1, aa, gg, h2, h3, h4⟩ := HINV.out.art x hx
          have h5 : x.1 ∈ ls.map (·.1) := by rw [← HINV.out.ids]; exact List.mem_map_of_mem hx
          obtain ⟨y, hy, hyx⟩ := List.mem_map.1 h5
          have h6 := (HCM.out.val y hy).2
          rw [hyx] at h6
          have h7 := (HCS.out.2.2.here h1 h6).1.1
          have h8 := (HDD.out (x.1 - 1) (by omega)).2
          rw [show x.1 - 1 + 1 = x.1 by omega] at h8
          have h9 := kd_range x.1
          exact ⟨h1, _, _, _, _, _, h2, ⟨h8.1, by omega⟩, h3, ⟨by omega, by omega⟩, h9, .tail _ (.tail _ (.tail _ (.tail _ (List.mem_append_left _ (List.mem_map_of_mem h4)))))⟩) (by have h := HINV.out.nd.1; rw [← HINV.out.ids] at h; exact h) hM (.tail _ (.tail _ (.tail _ (.tail _ (.head _))))) (.head _))
        go_wp2_with (first | ((with_reducible refine (HPL.out _ hM).mono ?_); rintro e w1 ⟨A3, N3, c3, rl, rfl, hrn, hrx, hM1⟩; clear hM; have hM := hM1; clear hM1) | ((first | with_reducible refine at_load ?_ | ((with_reducible refine at_load_g ?_ ?_); (· rfl))); first | refine nll hM ?_ | refine nlc hM ?_ | refine nlp hM ?_) | ((with_reducible refine at_store ?_); first | (refine nlw hM ?_; clear hM; intro wx hM) | (refine nls hM ?_; clear hM; intro wx hM) | (refine nlt hM ?_; clear hM; intro wx hM)) | ((with_reducible refine at_alloc ?_); refine nlz hM ?_; clear hM; intro gx wx hM) | ((with_reducible refine at_box ?_); first | (refine nlb hM ?_; clear hM; intro gx wx hM) | (refine nlx hM ?_; clear hM; intro gx wx hM)))
        have hN3 := (elT_len (hM.thing _ (.head _))).1
        have HIL := Lib.hid (fun (j : Nat) (hj : j ∈ il.map (·.1)) => show j < 11 ∧ (ms j).isSome = true from by
          rw [HINV.out.ids] at hj
          obtain ⟨y, hy, rfl⟩ := List.mem_map.1 hj
          exact HCM.out.val y hy)
        have hrl : rl.length ≤ 11 := by
          have h1 := nodup_len 11 _ hrn (fun x hx => by
            obtain ⟨y, hy, rfl⟩ := List.mem_map.1 hx
            exact (HIL.out _ (hrx y hy).1).1)
          rw [List.length_map] at h1
          exact h1
        have n3 : (N3 : Int) ≤ 11 := by omega
        have HN3 := Lib.hid hN3
        have HRN := Lib.hid hrn
        have HRX := Lib.hid hrx
        have M0 := Lib.hid hM
        clear hM hN3 hrn hrx hrl HPL
        go_loopw [24] (fun i wr => ∃ (m : Nat) (byt2 : Int) (mh2 ms2 : Nat → Option Value), m ≤ N3 ∧ i = .int .i64 (m : Nat) ∧ Hid (St GS dt cut ac mh2 ms2 ma ∧ (byt - 10 * m ≤ byt2 ∧ byt2 ≤ byt) ∧ ∀ x ∈ rl.drop m, x.1 < 11 ∧ (ms2 x.1).isSome = true) ∧ Mem [] w (⟨gsc, 28, 1, #[.pointer (some ⟨sp, 0, none⟩)]⟩ :: ⟨ga, 52, 1, #[.slice A' N c']⟩ :: ⟨gm, 43, 1, #[.map (some ba)]⟩ :: ⟨gac, 4, 10, boolC ac⟩ :: ⟨gr, 33, 3, ruleC (s1 % 4) (s1 % 4 + s2 % 30)⟩ :: ⟨gs, 28, 1, #[.pointer (some ⟨sp, 0, none⟩)]⟩ :: ⟨sp, 74, 4, splC (20 + s0) byt2 nxt bs⟩ :: ⟨hh, 71, 2, hist bh cut⟩ :: ⟨gt, 4, 1, #[.bool false]⟩ :: ⟨gz, 25, 3, #[.int .u8 s0, .int .u8 s1, .int .u8 s2]⟩ :: ⟨gd, 24, 10, dcs⟩ :: []) (elT 62 1 (.slice A3 N3 c3) rl :: elT 51 7 (.slice A' N c') il :: mapT ba ma :: mapT bs ms2 :: mapT bh mh2 :: (GS.map grpT ++ (D :: Ds).map markT)) wr) (fun i _ => N3 - (intOf i).toNat)
        case atStart => exact ⟨0, byt, mh, ms, Nat.zero_le _, rfl, Lib.hid ⟨HCS.out.2.2, by omega, fun x hx => HIL.out _ (HRX.out x hx).1⟩, M0.out⟩
        case round =>
          clear M0
          obtain ⟨m, byt2, mh2, ms2, hm, rfl, hrel2, hM⟩ := hrel
          have m0' : (0 : Int) ≤ (m : Int) := Int.natCast_nonneg _
          have m1' : (m : Int) ≤ 11 := by omega
          by_cases hmn : m < N3
          · skip
            have hmn' : (m : Int) < (N3 : Int) := by omega
            have hml : m < rl.length := by have := HN3.out; omega
            obtain ⟨g, off, rfl, _, _⟩ := elT_at (hM.thing _ (.head _)) m hml
            obtain ⟨hS2, hby, hdr⟩ := hrel2.out
            have hdm : rl[m] ∈ rl.drop m := by rw [List.drop_eq_getElem_cons hml]; exact .head _
            obtain ⟨hj11, hjs⟩ := hdr _ hdm
            obtain ⟨kk, hkk⟩ := (HRX.out _ (List.getElem_mem hml)).2
            have HCELL := Lib.hid (fun wv (h : (elT 62 1 (.slice (some ⟨g, off, none⟩) N3 c3) rl).P wv) i u hu => elT_cell h hml i u hu)
            rw [show elC rl[m] = stC (rl[m]).1 [.int .i64 kk] from by unfold elC; rw [hkk]] at HCELL
            generalize hjj : (rl[m]).1 = j at HCELL hj11 hjs
            have HJ2 := Lib.hid (show ∃ hi : m < rl.length, (rl[m]).1 = j from ⟨hml, hjj⟩)
            have HID := Lib.hid (fun wv h i u (hu : (stC j [])[i]? = some u) => show wv.cell? ⟨g, off + m * 33 + i, none⟩ = some u from HCELL.out wv h i u (stC_pre hu))
            obtain ⟨_, _, aj, pj, hmj, hsj⟩ := hS2.here hj11 hjs
            have htx := tx_size (j := j) (by omega)
            have hby0 := HCS.out.2.1
            have HRE := Lib.hid (fun wv (hM : Mem [] w (⟨gsc, 28, 1, #[.pointer (some ⟨sp, 0, none⟩)]⟩ :: ⟨ga, 52, 1, #[.slice A' N c']⟩ :: ⟨gm, 43, 1, #[.map (some ba)]⟩ :: ⟨gac, 4, 10, boolC ac⟩ :: ⟨gr, 33, 3, ruleC (s1 % 4) (s1 % 4 + s2 % 30)⟩ :: ⟨gs, 28, 1, #[.pointer (some ⟨sp, 0, none⟩)]⟩ :: ⟨sp, 74, 4, splC (20 + s0) byt2 nxt bs⟩ :: ⟨hh, 71, 2, hist bh cut⟩ :: ⟨gt, 4, 1, #[.bool false]⟩ :: ⟨gz, 25, 3, #[.int .u8 s0, .int .u8 s1, .int .u8 s2]⟩ :: ⟨gd, 24, 10, dcs⟩ :: []) (elT 62 1 (.slice (some ⟨g, off, none⟩) N3 c3) rl :: elT 51 7 (.slice A' N c') il :: mapT ba ma :: mapT bs ms2 :: mapT bh mh2 :: (GS.map grpT ++ (D :: Ds).map markT)) wv) => sremove_yes sp bs j (20 + s0) byt2 nxt aj pj (tx j) ms2 hM hj11 hsj (by omega) (by omega) (by omega))
            have HGO := Lib.hid (fun wv (hM : Mem [] w (⟨gsc, 28, 1, #[.pointer (some ⟨sp, 0, none⟩)]⟩ :: ⟨ga, 52, 1, #[.slice A' N c']⟩ :: ⟨gm, 43, 1, #[.map (some ba)]⟩ :: ⟨gac, 4, 10, boolC ac⟩ :: ⟨gr, 33, 3, ruleC (s1 % 4) (s1 % 4 + s2 % 30)⟩ :: ⟨gs, 28, 1, #[.pointer (some ⟨sp, 0, none⟩)]⟩ :: ⟨sp, 74, 4, splC (20 + s0) (byt2 - (tx j).size) nxt bs⟩ :: ⟨hh, 71, 2, hist bh cut⟩ :: ⟨gt, 4, 1, #[.bool false]⟩ :: ⟨gz, 25, 3, #[.int .u8 s0, .int .u8 s1, .int .u8 s2]⟩ :: ⟨gd, 24, 10, dcs⟩ :: []) (elT 62 1 (.slice (some ⟨g, off, none⟩) N3 c3) rl :: elT 51 7 (.slice A' N c') il :: mapT ba ma :: mapT bs (updM ms2 j none) :: mapT bh mh2 :: (GS.map grpT ++ (D :: Ds).map markT)) wv) => hgone_yes hh bh j cut aj (dt j) (pm j) mh2 hM hj11 hmj)
            have HT := Lib.hid (And.intro htx (And.intro hby0 (And.intro hj11 hjs)))
            clear hjj hml hS2 hby hdr hdm hkk hmj hsj htx hby0 hj11 hjs
            go_upto_region 37 with fail
            refine wp_onlyN ?_
            have HF := Lib.hid (fun w' (r : Thing) (e1 e2 e3 e4 e5 e6 : Ent) L' R' (h : Mem [] w (e1 :: e2 :: e3 :: e4 :: e5 :: e6 :: L') (r :: R') w') => (h.subL (show [e6].Sublist (e1 :: e2 :: e3 :: e4 :: e5 :: e6 :: L') from List.Sublist.cons _ (List.Sublist.cons _ (List.Sublist.cons _ (List.Sublist.cons _ (List.Sublist.cons _ (List.Sublist.cons_cons _ (List.nil_sublist _)))))))).subR (show [r].Sublist (r :: R') from List.Sublist.cons_cons _ (List.nil_sublist _)))
            refine Go.Bul.wp_region_allT (fun w' => Mem [] w [⟨gs, 28, 1, #[.pointer (some ⟨sp, 0, none⟩)]⟩] [elT 62 1 (.slice (some ⟨g, off, none⟩) N3 c3) rl] w') 17 (by kernel_rfl) ?_
            replace hM := hM.drew
            generalize World.drew _ = wd at hM ⊢
            have hS := HF.out _ _ _ _ _ _ _ _ _ _ hM
            refine wpAllT_takes [1, 2, 3, 4, 0, 5] (by kernel_rfl) (fun _ _ _ _ _ h => h) hS (by kernel_rfl) ?_
            simp only [pickOps, List.filterMap_cons, List.filterMap_nil, List.getElem?_cons_zero, List.getElem?_cons_succ]
            repeat ((with_reducible apply wpHeld_step); (· rfl); (· (intro wq hSw; first | (go_simp; rfl) | (first | exact yields_load (C := fun _ => True) (nqc hSw) rfl | exact held_reads (HID.out _ (hSw.thing _ (.head _))) row_id (stC_size _ _)))); intro K hK; go_simp; (with_reducible refine hK _ ?_); clear hK K)
            refine wpHeld_nil ?_
            refine wpAllT_one 6 rfl (by kernel_rfl) ?_
            go_wp2_with fail
            refine (HRE.out _ hM).mono ?_
            rintro e1 w2 ⟨rfl, hM1⟩
            clear hM
            have hM := hM1
            clear hM1
            go_wp2_with fail
            clear hS
            have hS := HF.out _ _ _ _ _ _ _ _ _ _ hM
            refine then_normal ⟨.inr hS, ?_⟩
            refine wpAllT_takes [7, 8, 9, 10, 11, 12, 13, 14] (by kernel_rfl) (fun _ _ _ _ _ h => h) hS (by kernel_rfl) ?_
            simp only [pickOps, List.filterMap_cons, List.filterMap_nil, List.getElem?_cons_zero, List.getElem?_cons_succ]
            repeat (first | ((with_reducible apply wpHeld_stepG); (· rfl); (· (intro wq hSw; first | (go_simp; rfl) | (exact held_reads (HID.out _ (hSw.thing _ (.head _))) row_id (stC_size _ _)))); intro K hK; go_simp; (with_reducible refine hK _ ?_); clear hK K) | ((with_reducible apply wpHeld_stepU); (· rfl); intro K hK; go_simp; (with_reducible refine hK _ ?_); clear hK K))
            refine wpHeld_nil ?_
            refine wpAllT_one 15 rfl (by kernel_rfl) ?_
            refine wpList_wanted rfl ?_
            go_wp2_with fail
            refine (HGO.out _ hM).mono ?_
            rintro e1 w3 ⟨rfl, hM1⟩
            clear hM
            have hM := hM1
            clear hM1
            go_wp2_with fail
            clear hS
            have hS := HF.out _ _ _ _ _ _ _ _ _ _ hM
            refine then_normal ⟨.inr hS, ?_⟩
            refine wpAllT_takes [16] (by kernel_rfl) (fun _ _ _ _ _ h => h) hS (by kernel_rfl) ?_
            simp only [pickOps, List.filterMap_cons, List.filterMap_nil, List.getElem?_cons_zero, List.getElem?_cons_succ]
            repeat (first | ((with_reducible apply wpHeld_stepG); (· rfl); (· (intro wq hSw; first | (go_simp; rfl) | (fail))); intro K hK; go_simp; (with_reducible refine hK _ ?_); clear hK K) | ((with_reducible apply wpHeld_stepU); (· rfl); intro K hK; go_simp; (with_reducible refine hK _ ?_); clear hK K))
            refine wpHeld_nil ?_
            refine wpAllT_one 17 rfl (by kernel_rfl) ?_
            (with_reducible apply wpList_pure); (· rfl); (· (go_simp; rfl))
            refine wpList_then ⟨.inl (by kernel_rfl), wpAllT_drop (by kernel_rfl) (wpAll_done (by kernel_rfl) ?_)⟩
            simp only [onlyN]
            clear hS HF HRE HGO
            go_wp2_with fail
            obtain ⟨hml, rfl⟩ := HJ2.out
            obtain ⟨hS2, hby, hdr⟩ := hrel2.out
            obtain ⟨htx, hby0, hj11, hjs⟩ := HT.out
            refine ⟨⟨m + 1, _, _, _, by omega, by go_num, Lib.hid ⟨hS2.remove hj11 hjs aj, by omega, fun x hx => ?_⟩, hM⟩, by simp [intOf]; omega⟩
            have hnd := HRN.out
            have e0 : rl = rl.take m ++ (rl[m] :: rl.drop (m + 1)) := by rw [List.getElem_cons_drop, List.take_append_drop]
            rw [e0, List.map_append, List.nodup_append, List.map_cons] at hnd
            have hne : x.1 ≠ (rl[m]).1 := by
              intro e
              exact (List.nodup_cons.1 hnd.2.1).1 (by rw [← e]; exact List.mem_map_of_mem hx)
            have h1 := hdr x (by rw [List.drop_eq_getElem_cons hml]; exact .tail _ hx)
            exact ⟨h1.1, by unfold updM; rw [if_neg hne]; exact h1.2⟩
          · obtain rfl : m = N3 := by omega
            obtain ⟨hS2, hby, _⟩ := hrel2.out
            replace hM := (hM.subL (by exact List.Sublist.cons _ (List.Sublist.cons _ (List.Sublist.refl _)))).subR (by exact List.Sublist.cons _ (List.Sublist.cons _ (List.Sublist.refl _)))
            have HS2 := Lib.hid hS2
            have HBY := Lib.hid (show -200 * ((k : Int) + 1) ≤ byt2 ∧ byt2 ≤ 10 * ((k : Int) + 1) by have := HCS.out.2.1; omega)
            clear hrel2 hS2 hby HRX HRN HIL HN3 HCM HINV hm hmn m0' m1' n3
            have hcc := HCC.out
            have HFG := Lib.hid (fun wv (hM : Mem [] w (⟨gm, 43, 1, #[.map (some ba)]⟩ :: ⟨gac, 4, 10, boolC ac⟩ :: ⟨gr, 33, 3, ruleC (s1 % 4) (s1 % 4 + s2 % 30)⟩ :: ⟨gs, 28, 1, #[.pointer (some ⟨sp, 0, none⟩)]⟩ :: ⟨sp, 74, 4, splC (20 + s0) byt2 nxt bs⟩ :: ⟨hh, 71, 2, hist bh cut⟩ :: ⟨gt, 4, 1, #[.bool false]⟩ :: ⟨gz, 25, 3, #[.int .u8 s0, .int .u8 s1, .int .u8 s2]⟩ :: ⟨gd, 24, 10, dcs⟩ :: []) (mapT ba ma :: mapT bs ms2 :: mapT bh mh2 :: (GS.map grpT ++ (D :: Ds).map markT)) wv) => hforget_any hh bh cut nw mh2 HS2.out.histM m0 (by omega) hcc.1 hcc.2 hM (by repeat (first | exact UpdL.head _ _ _ _ _ | assumption | apply UpdL.tail)) (by repeat (first | exact UpdR.head _ _ | assumption | apply UpdR.tail)))
            clear hcc
            go_upto_region 40 with (first | ((with_reducible refine (HFG.out _ hM).mono ?_); rintro e w4 ⟨v4, ids, cut', rfl, hids, hcut', hM1⟩; clear hM; have hM := hM1; clear hM1))
            have HS3 := Lib.hid (HS2.out.forget hids hcut')
            have HC3 := Lib.hid (show 0 ≤ cut' ∧ cut' ≤ 1000000 by have := HCC.out; rcases hcut' with ⟨h, _⟩ | h <;> omega)
            clear HFG hids hcut' HS2
            obtain ⟨mh3, hmh3⟩ : ∃ mh3, lessM mh2 ids = mh3 := ⟨_, rfl⟩
            rw [hmh3] at hM HS3
            clear hmh3
            have HAL := Lib.hid (hallf_any hh)
            go_wp2_with (first | ((with_reducible refine (HAL.out _).mono ?_); rintro e w5 ⟨ghc, rfl, hA1⟩; replace hM := hM.frame hA1; clear hA1; simp only [List.cons_append, List.nil_append] at hM) | ((with_reducible refine at_alloc ?_); refine nlz hM ?_ (hz := zero_int); clear hM; intro gct w1 hM) | ((first | with_reducible refine at_load ?_ | ((with_reducible refine at_load_g ?_ ?_); (· rfl))); first | refine nll hM ?_ | refine nlc hM ?_ | refine nlp hM ?_) | ((with_reducible refine at_store ?_); first | (refine nlw hM ?_; clear hM; intro wx hM) | (refine nls hM ?_; clear hM; intro wx hM) | (refine nlt hM ?_; clear hM; intro wx hM)) | ((with_reducible refine at_alloc ?_); refine nlz hM ?_; clear hM; intro gx wx hM) | ((with_reducible refine at_box ?_); first | (refine nlb hM ?_; clear hM; intro gx wx hM) | (refine nlx hM ?_; clear hM; intro gx wx hM)))
            obtain ⟨D2, hD2⟩ : ∃ D, w5.heap.size = D := ⟨_, rfl⟩
            refine (wpIn_wide (n := 3)).1 ?_
            refine rangeFunc_of 2 rfl (enters_of Tryz.func31 (by kernel_rfl) rfl) ?_
            intro rec2 hR3
            have hM2 := hM.loopNew (rec2 .ready none)
            clear hM
            rw [hD2] at hM2 ⊢
            clear hD2
            obtain ⟨l2, hl2⟩ : ∃ l, D2 + 1 = l := ⟨_, rfl⟩
            rw [hl2] at hM2 ⊢
            clear hl2
            refine (hall_in l2 ghc hh bh cut' mh3 HS3.out.histM (fun s : Nat => ⟨ghc, 26, 1, #[.pointer (some ⟨hh, 0, none⟩)]⟩ :: ⟨gct, 3, 1, #[.int .i64 (s : Nat)]⟩ :: ⟨gm, 43, 1, #[.map (some ba)]⟩ :: ⟨gac, 4, 10, boolC ac⟩ :: ⟨gr, 33, 3, ruleC (s1 % 4) (s1 % 4 + s2 % 30)⟩ :: ⟨gs, 28, 1, #[.pointer (some ⟨sp, 0, none⟩)]⟩ :: ⟨sp, 74, 4, splC (20 + s0) byt2 nxt bs⟩ :: ⟨hh, 71, 2, hist bh cut'⟩ :: ⟨gt, 4, 1, #[.bool false]⟩ :: ⟨gz, 25, 3, #[.int .u8 s0, .int .u8 s1, .int .u8 s2]⟩ :: ⟨gd, 24, 10, dcs⟩ :: []) (fun s => objT l2 (.loop (rec2 .ready none)) :: objT D2 (.deferred (some [])) :: mapT ba ma :: mapT bs ms2 :: mapT bh mh3 :: (GS.map grpT ++ (D :: Ds).map markT)) (CntI ms2) 0 ⟨rfl, by simp, by simp⟩ hM2 (.head _) (by repeat (first | exact List.Mem.head _ | assumption | apply List.Mem.tail)) (by repeat (first | exact UpdR.head _ _ | assumption | apply UpdR.tail)) ?yield2).mono ?after2
            case yield2 =>
              intro cn done x T W hinv hmx hx11 hnd hM
              obtain ⟨ha, hdd, st, p2, hex⟩ := HS3.out.histM x.1 _ hx11 hmx
              rw [hex] at hmx
              obtain ⟨hz, hnz⟩ := HS3.out.shown hx11 hmx
              have HHE := Lib.hid (fun (h : (ms2 x.1).isSome = true) => HS3.out.here hx11 h)
              rw [show Value.agg (elC x) = .agg (stC x.1 [.int .i64 ha, .int .i64 hdd, .int .i64 st, .bool p2]) from hex]
              have HINV := Lib.hid hinv
              have HX := Lib.hid (show x.1 < 11 ∧ x.1 ∉ done.map (·.1) from ⟨hx11, hnd⟩)
              have hcs := hinv.small
              generalize hj : x.1 = j at hmx hex hx11 hnd hz hnz HHE ⊢
              replace hM := hM.perm (List.Perm.swap _ _ _)
              refine round_goes hR3 hM.loopAt rfl ?_
              refine wpIn_round_lit (k := l2) (by rintro ⟨_, _, h⟩; exact h) (by rfl) ?_
              go_simp
              refine nlz hM ?_ (hz := zero_hent)
              clear hM
              intro g6 w6 hM
              refine nlw (vs := stC j [.int .i64 ha, .int .i64 hdd, .int .i64 st, .bool p2]) hM ?_
              clear hM
              intro w7 hM
              refine ⟨hM.loopAt, ?_⟩
              replace hM := hM.loopPut (rec2 .busy none)
              generalize World.putObj _ l2 (Obj.loop (rec2 LoopState.busy none)) = wy at hM ⊢
              have HJ := Lib.hid hj
              have HJ11 := Lib.hid hx11
              have cn0 : (0 : Int) ≤ (cn : Int) := Int.natCast_nonneg _
              have cn1 : (cn : Int) ≤ 11 := by omega
              clear hinv hmx hex hx11 hnd hj hcs
              go_simp
              by_cases hj0 : j = 0
              · obtain rfl : st = 0 := hz hj0
                subst hj0
                have hq := fun W => eq_id 0 0 W
                rw [decide_eq_true rfl] at hq
                gi_wp2_with (refine wpListIn_round (by rintro ⟨_, _, h⟩; exact h) _ _ _ (by rfl) ?_)
                go_wp2_with (first | ((first | with_reducible refine at_build ?_ | ((with_reducible refine at_build_g ?_ ?_); (· rfl))); refine wpList_build_zero rfl _ (by rfl) _ _ zero_id arr_id ?_) | ((first | with_reducible refine at_load ?_ | ((with_reducible refine at_load_g ?_ ?_); (· rfl))); first | refine nll hM ?_ | refine nlc hM ?_ | refine nlp hM ?_) | ((with_reducible refine at_store ?_); first | (refine nlw hM ?_; clear hM; intro wx hM) | (refine nls hM ?_; clear hM; intro wx hM) | (refine nlt hM ?_; clear hM; intro wx hM)) | ((with_reducible refine at_alloc ?_); refine nlz hM ?_; clear hM; intro gx wx hM) | ((with_reducible refine at_box ?_); first | (refine nlb hM ?_; clear hM; intro gx wx hM) | (refine nlx hM ?_; clear hM; intro gx wx hM)))
                gi_wp2_with fail
                refine wpIn_region_allB hM 13 (by rintro ⟨_, _, h⟩; exact h) (by kernel_rfl) (by rfl) ?_
                clear hM
                intro wd hM
                have HM0 := Lib.hid hM
                have hS := Below.refl wd.heap.size wd
                refine wpAllT_takes [0, 1] (by kernel_rfl) (fun _ _ _ _ _ h => h) hS (by kernel_rfl) ?_
                simp only [pickOps, List.filterMap_cons, List.filterMap_nil, List.getElem?_cons_zero, List.getElem?_cons_succ]
                repeat ((with_reducible apply wpHeld_step); (· rfl); (· (intro wq hSw; first | (go_simp; rfl) | (have hM' := HM0.out.step hSw; first | exact yields_load (C := fun _ => True) (nqc hM') rfl | exact yields_load (C := fun _ => True) (nql hM') rfl | exact yields_load (C := fun _ => True) (nqp hM') rfl | fail))); intro K hK; go_simp; (with_reducible refine hK _ ?_); clear hK K)
                refine wpHeld_nil ?_
                refine wpAllT_takes [2] (by kernel_rfl) (fun _ _ _ _ _ h => h) hS (by kernel_rfl) ?_
                simp only [pickOps, List.filterMap_cons, List.filterMap_nil, List.getElem?_cons_zero, List.getElem?_cons_succ]
                (with_reducible apply wpHeld_step); (· rfl); (· (intro wq hSw; exact yb_id0)); intro K hK; go_simp; (with_reducible refine hK _ ?_); clear hK K
                refine wpHeld_nil ?_
                refine wpAllT_takes [3] (by kernel_rfl) (fun _ _ _ _ _ h => h) hS (by kernel_rfl) ?_
                simp only [pickOps, List.filterMap_cons, List.filterMap_nil, List.getElem?_cons_zero, List.getElem?_cons_succ]
                (with_reducible apply wpHeld_step); (· rfl); (· (intro wq hSw; exact yne_id (i := 0) (j := 0) (b := false) (by decide))); intro K hK; go_simp; (with_reducible refine hK _ ?_); clear hK K
                refine wpHeld_nil ?_
                refine wpAllT_takes [4, 5, 6, 7, 8, 9, 10, 11, 12] (by kernel_rfl) (fun _ _ _ _ _ h => h) hS (by kernel_rfl) ?_
                simp only [pickOps, List.filterMap_cons, List.filterMap_nil, List.getElem?_cons_zero, List.getElem?_cons_succ]
                repeat (first | ((with_reducible apply wpHeld_stepG); (· rfl); (· (intro wq hSw; first | (go_simp; rfl) | (have hM' := HM0.out.step hSw; first | exact yields_load (C := fun _ => True) (nqc hM') rfl | exact yields_load (C := fun _ => True) (nql hM') rfl | exact yields_load (C := fun _ => True) (nqp hM') rfl | fail))); intro K hK; go_simp; (with_reducible refine hK _ ?_); clear hK K) | ((with_reducible apply wpHeld_stepU); (· rfl); intro K hK; go_simp; (with_reducible refine hK _ ?_); clear hK K))
                refine wpHeld_nil ?_
                refine wpAllT_one 13 rfl (by kernel_rfl) ?_
                (with_reducible apply wpList_pure); (· rfl); (· (go_simp; rfl))
                refine wpList_then ⟨.inl (by kernel_rfl), wpAllT_drop (by kernel_rfl) (wpAll_done (by kernel_rfl) ?_)⟩
                gi_wp2_with fail
                refine ⟨hM.loopAt, rfl, cn, ?_, ((hM.subL (by exact List.Sublist.cons _ (List.Sublist.refl _))).loopPut _).perm (List.Perm.swap _ _ _)⟩
                exact HINV.out.more x HX.out.1 HX.out.2 (b := false) (by rw [HJ.out, HS3.out.zs]; rfl) rfl
              · have hns := hnz hj0
                cases hsm : (ms2 j).isSome with
                | true =>
                  rw [hsm] at hns
                  obtain rfl : st = 0 := of_decide_eq_true hns.symm
                  obtain ⟨_, _, aj, pj, _, hsj⟩ := HHE.out hsm
                  have hq := fun W => eq_id j 0 W
                  rw [decide_eq_false hj0] at hq
                  have HHS := Lib.hid (fun wv (hM : Mem [] w (⟨g6, 40, 36, stC j [.int .i64 ha, .int .i64 hdd, .int .i64 0, .bool p2]⟩ :: ⟨ghc, 26, 1, #[.pointer (some ⟨hh, 0, none⟩)]⟩ :: ⟨gct, 3, 1, #[.int .i64 ((cn : Int) + 1)]⟩ :: ⟨gm, 43, 1, #[.map (some ba)]⟩ :: ⟨gac, 4, 10, boolC ac⟩ :: ⟨gr, 33, 3, ruleC (s1 % 4) (s1 % 4 + s2 % 30)⟩ :: ⟨gs, 28, 1, #[.pointer (some ⟨sp, 0, none⟩)]⟩ :: ⟨sp, 74, 4, splC (20 + s0) byt2 nxt bs⟩ :: ⟨hh, 71, 2, hist bh cut'⟩ :: ⟨gt, 4, 1, #[.bool false]⟩ :: ⟨gz, 25, 3, #[.int .u8 s0, .int .u8 s1, .int .u8 s2]⟩ :: ⟨gd, 24, 10, dcs⟩ :: []) (objT l2 (.loop (rec2 .busy none)) :: T :: objT D2 (.deferred (some [])) :: mapT ba ma :: mapT bs ms2 :: mapT bh mh3 :: (GS.map grpT ++ (D :: Ds).map markT)) wv) => shas_yes sp bs j (20 + s0) byt2 nxt aj pj (tx j) ms2 hM HJ11.out hsj)
                  have HSM := Lib.hid hsm
                  have HJ0 := Lib.hid (show (!decide (j = 0)) = true by rw [decide_eq_false hj0]; rfl)
                  clear hns hsm hsj hj0 hz hnz
                  gi_wp2_with (refine wpListIn_round (by rintro ⟨_, _, h⟩; exact h) _ _ _ (by rfl) ?_)
                  go_wp2_with (first | ((first | with_reducible refine at_build ?_ | ((with_reducible refine at_build_g ?_ ?_); (· rfl))); refine wpList_build_zero rfl _ (by rfl) _ _ zero_id arr_id ?_) | ((first | with_reducible refine at_load ?_ | ((with_reducible refine at_load_g ?_ ?_); (· rfl))); first | refine nll hM ?_ | refine nlc hM ?_ | refine nlp hM ?_) | ((with_reducible refine at_store ?_); first | (refine nlw hM ?_; clear hM; intro wx hM) | (refine nls hM ?_; clear hM; intro wx hM) | (refine nlt hM ?_; clear hM; intro wx hM)) | ((with_reducible refine at_alloc ?_); refine nlz hM ?_; clear hM; intro gx wx hM) | ((with_reducible refine at_box ?_); first | (refine nlb hM ?_; clear hM; intro gx wx hM) | (refine nlx hM ?_; clear hM; intro gx wx hM)))
                  gi_wp2_with (refine wpListIn_round (by rintro ⟨_, _, h⟩; exact h) _ _ _ (by rfl) ?_)
                  go_wp2_with (first | ((first | with_reducible refine at_load ?_ | ((with_reducible refine at_load_g ?_ ?_); (· rfl))); first | refine nll hM ?_ | refine nlc hM ?_ | refine nlp hM ?_) | ((with_reducible refine at_store ?_); first | (refine nlw hM ?_; clear hM; intro wx hM) | (refine nls hM ?_; clear hM; intro wx hM) | (refine nlt hM ?_; clear hM; intro wx hM)) | ((with_reducible refine at_alloc ?_); refine nlz hM ?_; clear hM; intro gx wx hM) | ((with_reducible refine at_box ?_); first | (refine nlb hM ?_; clear hM; intro gx wx hM) | (refine nlx hM ?_; clear hM; intro gx wx hM)))
                  obtain ⟨st, hst⟩ : ∃ st : Int, st = 0 := ⟨_, rfl⟩
                  rw [← hst] at hM HHS
                  have HST := Lib.hid hst
                  have hst2 : (st == 0) = true := by rw [hst]; rfl
                  clear hst
                  gi_wp2_with fail
                  have HF := Lib.hid (fun w' (e1 e2 e3 e4 e5 e6 e7 : Ent) L' R' (h : Mem [] w (e1 :: e2 :: e3 :: e4 :: e5 :: e6 :: e7 :: L') R' w') => (h.subL (show [e1, e7].Sublist (e1 :: e2 :: e3 :: e4 :: e5 :: e6 :: e7 :: L') from List.Sublist.cons_cons _ (List.Sublist.cons _ (List.Sublist.cons _ (List.Sublist.cons _ (List.Sublist.cons _ (List.Sublist.cons _ (List.Sublist.cons_cons _ (List.nil_sublist _))))))))).subR (List.nil_sublist R'))
                  refine wpIn_region_allT (fun w' => Mem [] w [⟨g6, 40, 36, stC j [.int .i64 ha, .int .i64 hdd, .int .i64 st, .bool p2]⟩, ⟨gs, 28, 1, #[.pointer (some ⟨sp, 0, none⟩)]⟩] [] w') 13 (by rintro ⟨_, _, h⟩; exact h) (by kernel_rfl) (by rfl) ?_
                  replace hM := hM.drew
                  generalize World.drew _ = wd at hM ⊢
                  have hS := HF.out _ _ _ _ _ _ _ _ _ _ hM
                  refine wpAllT_takes [0, 1] (by kernel_rfl) (fun _ _ _ _ _ h => h) hS (by kernel_rfl) ?_
                  simp only [pickOps, List.filterMap_cons, List.filterMap_nil, List.getElem?_cons_zero, List.getElem?_cons_succ]
                  repeat ((with_reducible apply wpHeld_step); (· rfl); (· (intro wq hSw; first | (go_simp; rfl) | (exact yields_load (C := fun _ => True) (nqp hSw) rfl))); intro K hK; go_simp; (with_reducible refine hK _ ?_); clear hK K)
                  refine wpHeld_nil ?_
                  refine wpAllT_takes [2] (by kernel_rfl) (fun _ _ _ _ _ h => h) hS (by kernel_rfl) ?_
                  simp only [pickOps, List.filterMap_cons, List.filterMap_nil, List.getElem?_cons_zero, List.getElem?_cons_succ]
                  (with_reducible apply wpHeld_step); (· rfl); (· (intro wq hSw; exact yb_id0)); intro K hK; go_simp; (with_reducible refine hK _ ?_); clear hK K
                  refine wpHeld_nil ?_
                  refine wpAllT_takes [3] (by kernel_rfl) (fun _ _ _ _ _ h => h) hS (by kernel_rfl) ?_
                  simp only [pickOps, List.filterMap_cons, List.filterMap_nil, List.getElem?_cons_zero, List.getElem?_cons_succ]
                  (with_reducible apply wpHeld_step); (· rfl); (· (intro wq hSw; exact yne_id HJ0.out)); intro K hK; go_simp; (with_reducible refine hK _ ?_); clear hK K
                  refine wpHeld_nil ?_
                  refine wpAllT_takes [4, 5, 6, 7, 9, 10, 11] (by kernel_rfl) (fun _ _ _ _ _ h => h) hS (by kernel_rfl) ?_
                  simp only [pickOps, List.filterMap_cons, List.filterMap_nil, List.getElem?_cons_zero, List.getElem?_cons_succ]
                  repeat (first | ((with_reducible apply wpHeld_stepG); (· rfl); (· (intro wq hSw; first | (go_simp; rfl) | (first | exact yields_load (C := fun _ => True) (nqc hSw (hv := (stC_get _ _ (by decide)).trans rfl)) rfl | exact yields_load (C := fun _ => True) (nqc hSw) rfl | exact yields_load (C := fun _ => True) (nqp hSw) rfl))); intro K hK; go_simp; (with_reducible refine hK _ ?_); clear hK K) | ((with_reducible apply wpHeld_stepU); (· rfl); intro K hK; go_simp; (with_reducible refine hK _ ?_); clear hK K))
                  refine wpHeld_nil ?_
                  refine wpAllT_one 8 rfl (by kernel_rfl) ?_
                  refine wpList_wanted rfl ?_
                  go_wp2_with fail
                  refine (HHS.out _ hM).mono ?_
                  rintro e1 w8 ⟨rfl, hM1⟩
                  clear hM
                  have hM := hM1
                  clear hM1
                  go_wp2_with fail
                  clear hS
                  have hS := HF.out _ _ _ _ _ _ _ _ _ _ hM
                  refine then_normal ⟨.inr hS, ?_⟩
                  refine wpAllT_takes [12] (by kernel_rfl) (fun _ _ _ _ _ h => h) hS (by kernel_rfl) ?_
                  simp only [pickOps, List.filterMap_cons, List.filterMap_nil, List.getElem?_cons_zero, List.getElem?_cons_succ]
                  repeat (first | ((with_reducible apply wpHeld_stepG); (· rfl); (· (intro wq hSw; first | (go_simp; rfl) | (fail))); intro K hK; go_simp; (with_reducible refine hK _ ?_); clear hK K) | ((with_reducible apply wpHeld_stepU); (· rfl); intro K hK; go_simp; (with_reducible refine hK _ ?_); clear hK K))
                  refine wpHeld_nil ?_
                  refine wpAllT_one 13 rfl (by kernel_rfl) ?_
                  (with_reducible apply wpList_pure); (· rfl); (· (go_simp; rfl))
                  refine wpList_then ⟨.inl (by kernel_rfl), wpAllT_drop (by kernel_rfl) (wpAll_done (by kernel_rfl) ?_)⟩
                  clear hS HF
                  gi_wp2_with fail
                  refine ⟨hM.loopAt, rfl, cn + 1, ?_, ((hM.subL (by exact List.Sublist.cons _ (List.Sublist.refl _))).loopPut _).perm (List.Perm.swap _ _ _)⟩
                  exact HINV.out.more x HX.out.1 HX.out.2 (b := true) (by rw [HJ.out]; exact HSM.out) rfl
                | false =>
                  rw [hsm] at hns
                  have hst2 : (st == 0) = false := by simpa using hns.symm
                  have hsn : ms2 j = none := by simpa using hsm
                  have HHS := Lib.hid (fun wv (hM : Mem [] w (⟨g6, 40, 36, stC j [.int .i64 ha, .int .i64 hdd, .int .i64 st, .bool p2]⟩ :: ⟨ghc, 26, 1, #[.pointer (some ⟨hh, 0, none⟩)]⟩ :: ⟨gct, 3, 1, #[.int .i64 (cn : Nat)]⟩ :: ⟨gm, 43, 1, #[.map (some ba)]⟩ :: ⟨gac, 4, 10, boolC ac⟩ :: ⟨gr, 33, 3, ruleC (s1 % 4) (s1 % 4 + s2 % 30)⟩ :: ⟨gs, 28, 1, #[.pointer (some ⟨sp, 0, none⟩)]⟩ :: ⟨sp, 74, 4, splC (20 + s0) byt2 nxt bs⟩ :: ⟨hh, 71, 2, hist bh cut'⟩ :: ⟨gt, 4, 1, #[.bool false]⟩ :: ⟨gz, 25, 3, #[.int .u8 s0, .int .u8 s1, .int .u8 s2]⟩ :: ⟨gd, 24, 10, dcs⟩ :: []) (objT l2 (.loop (rec2 .busy none)) :: T :: objT D2 (.deferred (some [])) :: mapT ba ma :: mapT bs ms2 :: mapT bh mh3 :: (GS.map grpT ++ (D :: Ds).map markT)) wv) => shas_no sp bs j (20 + s0) byt2 nxt ms2 hM HJ11.out hsn)
                  have HSM := Lib.hid hsm
                  have HJ0 := Lib.hid (show (!decide (j = 0)) = true by rw [decide_eq_false hj0]; rfl)
                  clear hns hsm hsn hj0 hz hnz
                  gi_wp2_with (refine wpListIn_round (by rintro ⟨_, _, h⟩; exact h) _ _ _ (by rfl) ?_)
                  go_wp2_with (first | ((first | with_reducible refine at_build ?_ | ((with_reducible refine at_build_g ?_ ?_); (· rfl))); refine wpList_build_zero rfl _ (by rfl) _ _ zero_id arr_id ?_) | ((first | with_reducible refine at_load ?_ | ((with_reducible refine at_load_g ?_ ?_); (· rfl))); first | refine nll hM ?_ | refine nlc hM ?_ | refine nlp hM ?_) | ((with_reducible refine at_store ?_); first | (refine nlw hM ?_; clear hM; intro wx hM) | (refine nls hM ?_; clear hM; intro wx hM) | (refine nlt hM ?_; clear hM; intro wx hM)) | ((with_reducible refine at_alloc ?_); refine nlz hM ?_; clear hM; intro gx wx hM) | ((with_reducible refine at_box ?_); first | (refine nlb hM ?_; clear hM; intro gx wx hM) | (refine nlx hM ?_; clear hM; intro gx wx hM)))
                  gi_wp2_with fail
                  have HF := Lib.hid (fun w' (e1 e2 e3 e4 e5 e6 e7 : Ent) L' R' (h : Mem [] w (e1 :: e2 :: e3 :: e4 :: e5 :: e6 :: e7 :: L') R' w') => (h.subL (show [e1, e7].Sublist (e1 :: e2 :: e3 :: e4 :: e5 :: e6 :: e7 :: L') from List.Sublist.cons_cons _ (List.Sublist.cons _ (List.Sublist.cons _ (List.Sublist.cons _ (List.Sublist.cons _ (List.Sublist.cons _ (List.Sublist.cons_cons _ (List.nil_sublist _))))))))).subR (List.nil_sublist R'))
                  refine wpIn_region_allT (fun w' => Mem [] w [⟨g6, 40, 36, stC j [.int .i64 ha, .int .i64 hdd, .int .i64 st, .bool p2]⟩, ⟨gs, 28, 1, #[.pointer (some ⟨sp, 0, none⟩)]⟩] [] w') 13 (by rintro ⟨_, _, h⟩; exact h) (by kernel_rfl) (by rfl) ?_
                  replace hM := hM.drew
                  generalize World.drew _ = wd at hM ⊢
                  have hS := HF.out _ _ _ _ _ _ _ _ _ _ hM
                  refine wpAllT_takes [0, 1] (by kernel_rfl) (fun _ _ _ _ _ h => h) hS (by kernel_rfl) ?_
                  simp only [pickOps, List.filterMap_cons, List.filterMap_nil, List.getElem?_cons_zero, List.getElem?_cons_succ]
                  repeat ((with_reducible apply wpHeld_step); (· rfl); (· (intro wq hSw; first | (go_simp; rfl) | (exact yields_load (C := fun _ => True) (nqp hSw) rfl))); intro K hK; go_simp; (with_reducible refine hK _ ?_); clear hK K)
                  refine wpHeld_nil ?_
                  refine wpAllT_takes [2] (by kernel_rfl) (fun _ _ _ _ _ h => h) hS (by kernel_rfl) ?_
                  simp only [pickOps, List.filterMap_cons, List.filterMap_nil, List.getElem?_cons_zero, List.getElem?_cons_succ]
                  (with_reducible apply wpHeld_step); (· rfl); (· (intro wq hSw; exact yb_id0)); intro K hK; go_simp; (with_reducible refine hK _ ?_); clear hK K
                  refine wpHeld_nil ?_
                  refine wpAllT_takes [3] (by kernel_rfl) (fun _ _ _ _ _ h => h) hS (by kernel_rfl) ?_
                  simp only [pickOps, List.filterMap_cons, List.filterMap_nil, List.getElem?_cons_zero, List.getElem?_cons_succ]
                  (with_reducible apply wpHeld_step); (· rfl); (· (intro wq hSw; exact yne_id HJ0.out)); intro K hK; go_simp; (with_reducible refine hK _ ?_); clear hK K
                  refine wpHeld_nil ?_
                  refine wpAllT_takes [4, 5, 6, 7, 9, 10, 11] (by kernel_rfl) (fun _ _ _ _ _ h => h) hS (by kernel_rfl) ?_
                  simp only [pickOps, List.filterMap_cons, List.filterMap_nil, List.getElem?_cons_zero, List.getElem?_cons_succ]
                  repeat (first | ((with_reducible apply wpHeld_stepG); (· rfl); (· (intro wq hSw; first | (go_simp; rfl) | (first | exact yields_load (C := fun _ => True) (nqc hSw (hv := (stC_get _ _ (by decide)).trans rfl)) rfl | exact yields_load (C := fun _ => True) (nqc hSw) rfl | exact yields_load (C := fun _ => True) (nqp hSw) rfl))); intro K hK; go_simp; (with_reducible refine hK _ ?_); clear hK K) | ((with_reducible apply wpHeld_stepU); (· rfl); intro K hK; go_simp; (with_reducible refine hK _ ?_); clear hK K))
                  refine wpHeld_nil ?_
                  refine wpAllT_one 8 rfl (by kernel_rfl) ?_
                  refine wpList_wanted rfl ?_
                  go_wp2_with fail
                  refine (HHS.out _ hM).mono ?_
                  rintro e1 w8 ⟨rfl, hM1⟩
                  clear hM
                  have hM := hM1
                  clear hM1
                  go_wp2_with fail
                  clear hS
                  have hS := HF.out _ _ _ _ _ _ _ _ _ _ hM
                  refine then_normal ⟨.inr hS, ?_⟩
                  refine wpAllT_takes [12] (by kernel_rfl) (fun _ _ _ _ _ h => h) hS (by kernel_rfl) ?_
                  simp only [pickOps, List.filterMap_cons, List.filterMap_nil, List.getElem?_cons_zero, List.getElem?_cons_succ]
                  repeat (first | ((with_reducible apply wpHeld_stepG); (· rfl); (· (intro wq hSw; first | (go_simp; rfl) | (fail))); intro K hK; go_simp; (with_reducible refine hK _ ?_); clear hK K) | ((with_reducible apply wpHeld_stepU); (· rfl); intro K hK; go_simp; (with_reducible refine hK _ ?_); clear hK K))
                  refine wpHeld_nil ?_
                  refine wpAllT_one 13 rfl (by kernel_rfl) ?_
                  (with_reducible apply wpList_pure); (· rfl); (· (go_simp; rfl))
                  refine wpList_then ⟨.inl (by kernel_rfl), wpAllT_drop (by kernel_rfl) (wpAll_done (by kernel_rfl) ?_)⟩
                  clear hS HF
                  gi_wp2_with fail
                  refine ⟨hM.loopAt, rfl, cn, ?_, ((hM.subL (by exact List.Sublist.cons _ (List.Sublist.refl _))).loopPut _).perm (List.Perm.swap _ _ _)⟩
                  exact HINV.out.more x HX.out.1 HX.out.2 (b := false) (by rw [HJ.out]; exact HSM.out) rfl
            case after2 =>
              rintro e W ⟨⟨v, rfl⟩, cn, ls2, ⟨⟨lf2, hcm2, hlf2⟩, _⟩, hinv, hM⟩
              refine ⟨⟨v, rfl⟩, .inl ⟨hM.loopAt, ?_⟩⟩
              replace hM := hM.loopPut (rec2 .exhausted none)
              generalize World.putObj _ l2 (Obj.loop (rec2 LoopState.exhausted none)) = wy2 at hM ⊢
              have hcnt : cn = cntM ms2 := by rw [hinv.cnt]; exact HS3.out.count hcm2 hlf2
              subst hcnt
              clear hinv hcm2 hlf2 HAL
              go_upto_region 47 with (first | ((first | with_reducible refine at_load ?_ | ((with_reducible refine at_load_g ?_ ?_); (· rfl))); first | refine nll hM ?_ | refine nlc hM ?_ | refine nlp hM ?_) | ((with_reducible refine at_store ?_); first | (refine nlw hM ?_; clear hM; intro wx hM) | (refine nls hM ?_; clear hM; intro wx hM) | (refine nlt hM ?_; clear hM; intro wx hM)) | ((with_reducible refine at_alloc ?_); refine nlz hM ?_; clear hM; intro gx wx hM) | ((with_reducible refine at_box ?_); first | (refine nlb hM ?_; clear hM; intro gx wx hM) | (refine nlx hM ?_; clear hM; intro gx wx hM)))
              have HSL := Lib.hid (fun wv (hM : Mem [] w (⟨ghc, 26, 1, #[.pointer (some ⟨hh, 0, none⟩)]⟩ :: ⟨gct, 3, 1, #[.int .i64 (cntM ms2 : Nat)]⟩ :: ⟨gm, 43, 1, #[.map (some ba)]⟩ :: ⟨gac, 4, 10, boolC ac⟩ :: ⟨gr, 33, 3, ruleC (s1 % 4) (s1 % 4 + s2 % 30)⟩ :: ⟨gs, 28, 1, #[.pointer (some ⟨sp, 0, none⟩)]⟩ :: ⟨sp, 74, 4, splC (20 + s0) byt2 nxt bs⟩ :: ⟨hh, 71, 2, hist bh cut'⟩ :: ⟨gt, 4, 1, #[.bool false]⟩ :: ⟨gz, 25, 3, #[.int .u8 s0, .int .u8 s1, .int .u8 s2]⟩ :: ⟨gd, 24, 10, dcs⟩ :: []) (objT l2 (.loop (rec2 .exhausted none)) :: objT D2 (.deferred (some [])) :: mapT ba ma :: mapT bs ms2 :: mapT bh mh3 :: (GS.map grpT ++ (D :: Ds).map markT)) wv) => slen_any sp bs (20 + s0) byt2 nxt ms2 hM)
              refine wp_onlyN ?_
              refine wp_region_allB hM 3 (by kernel_rfl) ?_
              clear hM
              intro wd hM
              have HM0 := Lib.hid hM
              have hS := Below.refl wd.heap.size wd
              refine wpAllT_takes [0, 1] (by kernel_rfl) (fun _ _ _ _ _ h => h) hS (by kernel_rfl) ?_
              simp only [pickOps, List.filterMap_cons, List.filterMap_nil, List.getElem?_cons_zero, List.getElem?_cons_succ]
              repeat ((with_reducible apply wpHeld_step); (· rfl); (· (intro wq hSw; first | (go_simp; rfl) | (have hM' := HM0.out.step hSw; first | exact yields_load (C := fun _ => True) (nqc hM') rfl | exact yields_load (C := fun _ => True) (nql hM') rfl | exact yields_load (C := fun _ => True) (nqp hM') rfl | fail))); intro K hK; go_simp; (with_reducible refine hK _ ?_); clear hK K)
              refine wpHeld_nil ?_
              refine wpAllT_one 2 rfl (by kernel_rfl) ?_
              go_wp2_with fail
              refine (HSL.out _ hM).mono ?_
              rintro e1 w6 ⟨rfl, rfl⟩
              go_wp2_with fail
              refine then_normal ⟨.inr hS, ?_⟩
              refine wpAllT_one 3 rfl (by kernel_rfl) ?_
              (with_reducible apply wpList_pure); (· rfl); (· (go_simp; rfl))
              refine wpList_then ⟨.inl (by kernel_rfl), wpAllT_drop (by kernel_rfl) (wpAll_done (by kernel_rfl) ?_)⟩
              simp only [onlyN]
              clear hS HSL HM0
              go_wp2_with fail
              refine ⟨⟨k + 1, nw, byt2, nxt, cut', ac, mh3, ms2, ma, GS, D2 :: D :: Ds, Lib.hid ⟨by omega, ⟨m0, by have := HNW.out; omega⟩, by have := HCS.out.1; omega, by have := HBY.out; omega, HC3.out, HS3.out⟩, ((hM.subL (by exact List.Sublist.cons _ (List.Sublist.cons _ (List.Sublist.refl _)))).subR (List.sublist_cons_self _ _)).perm (markL_perm [_, _, _] _ _ _), rfl, rfl, rfl, rfl, rfl, rfl, rfl, rfl, rfl, rfl, rfl, rfl, rfl, trivial⟩, ?_⟩
              show n - (intOf (.int .i64 ((k : Int) + 1))).toNat < n - (intOf (.int .i64 (k : Nat))).toNat
              simp only [intOf]
              omega
    · obtain rfl : k = n := by have := hc.out.1; omega
      go_wp2_with (first | ((first | with_reducible refine at_load ?_ | ((with_reducible refine at_load_g ?_ ?_); (· rfl))); first | refine nll hM ?_ | refine nlc hM ?_ | refine nlp hM ?_) | ((with_reducible refine at_store ?_); first | (refine nlw hM ?_; clear hM; intro wx hM) | (refine nls hM ?_; clear hM; intro wx hM) | (refine nlt hM ?_; clear hM; intro wx hM)) | ((with_reducible refine at_alloc ?_); refine nlz hM ?_; clear hM; intro gx wx hM) | ((with_reducible refine at_box ?_); first | (refine nlb hM ?_; clear hM; intro gx wx hM) | (refine nlx hM ?_; clear hM; intro gx wx hM)))
      refine leaves_marks (by simp) (fun w' hM' => ?_) Ds wx (hM.subR (by exact List.Sublist.cons _ (List.Sublist.cons _ (List.Sublist.cons _ (List.sublist_append_right _ _)))))
      exact ⟨_, results_mem_one hM' rfl (by rfl) (by repeat (first | exact List.Mem.head _ | assumption | apply List.Mem.tail)) one_bool rfl, rfl, hM'.below⟩
end Go.Proofs.YtpjphjokhccdaaaGreat
