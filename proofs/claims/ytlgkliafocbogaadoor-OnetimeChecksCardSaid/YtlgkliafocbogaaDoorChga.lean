/- The walk of bulletinlaw07.OnetimeChecks, kind by kind: all in range, the first four kinds. -/
import Derived.Test.YtlgkliafocbogaaDoorEvx
namespace Go.Proofs.YtlgkliafocbogaaDoor
open Go Go.RowKit Go.Bul
set_option maxRecDepth 20000 in
set_option maxHeartbeats 40000000 in
theorem good_k0 (y c f t s : Int) (v u : List Nat) (w : World) (hv : v.length = 16) (_hb : Bytes v) (hlv : u.length = 16) (hT : Tab w) (h1 : Ins y 65535 true) (h2 : Ins c 34 true) (h3 : Ins f 14 true) (h4 : Ins t 15 true) (h5 : decide (f < t) = true) (hR : ∀ w, Calls Tryd.prog 21 #[.int .i64 y, .int .i64 c, .int .i64 f, .int .i64 t, .agg (cellsOf .u8 v)] w fun e w' => e = .returned (.agg (cellsOf .u8 u)) ∧ Below w.heap.size w w') (x : Nat) (hw : IntKind.u8.wrap s = (x : Int)) (hk : (x : Int).tmod 8 = 0) 
    (hC : ∀ w, Tab w → Calls Tryd.prog 34 #[.agg (evc 1 c f t v u (zeros 560) (zeros 560)), .int .i64 y] w fun e w' => e = .returned (.bool true) ∧ Below w.heap.size w w') :
    Calls Tryd.prog 10 #[.agg #[.int .i64 y, .int .i64 c], .agg #[.int .i64 f, .int .i64 t, .int .i64 s], .agg (cellsOf .u8 v)] w fun e w' => e = .returned (.bool true) ∧ Below w.heap.size w w' := by
  have hM := Mem.start [] w
  have HT := Lib.hid hT
  have HB := Lib.hid (bld_ev5 1 c f t v hv)
  have hok0 : EvOk v (zeros 16) (zeros 560) (zeros 560) := ⟨hv, zeros_length _, zeros_length _, zeros_length _⟩
  have hsz := evc_size (k := 1) (c := c) (f := f) (t := t) hok0
  have I1 := Lib.hid (fun w => h1 w)
  have I2 := Lib.hid (fun w => h2 w)
  have I3 := Lib.hid (fun w => h3 w)
  have I4 := Lib.hid (fun w => h4 w)
  have RA := Lib.hid hR
  have HX := Lib.hid (evc_putB (k := 1) (c := c) (f := f) (t := t) (N := u) hok0 hlv)
  have hok : EvOk v u (zeros 560) (zeros 560) := ⟨hv, hlv, zeros_length _, zeros_length _⟩
  clear hR
  have HC := Lib.hid hC
  clear hT h1 h2 h3 h4 hC
  go_enter Tryd.func10, Tryd.ntmps10
  go_wp2_with (first | ((first | with_reducible refine at_load ?_ | ((with_reducible refine at_load_g ?_ ?_); (· rfl))); first | refine kl hM ?_ | refine kn hM ?_) | ((with_reducible refine at_store ?_); refine ks hM ?_; clear hM; intro wx hM) | ((with_reducible refine at_alloc ?_); refine kz hM ?_; clear hM; intro gx wx hM) | ((with_reducible refine at_box ?_); refine kb hM ?_; clear hM; intro gx wx hM))
  refine Go.Bul.wp_region_class (Mem _ w _ _) (by kernel_rfl) (by kernel_rfl) hM.drew ?_
  repeat (refine wpQuiet_step (fun K hK => ?_); (first | refine quiet_some rfl ?_ | refine quiet_wanted rfl ?_); apply Exists.intro; refine ⟨fun w' hM' => ?_, ?_⟩; (· first | exact jl hM' | exact jn hM' | (go_simp; rfl)); go_simp; refine hK _ ?_; clear hK K)
  refine wpQuiet_nil ?_
  intro wx hM
  go_wp2_with (first | ((first | with_reducible refine at_load ?_ | ((with_reducible refine at_load_g ?_ ?_); (· rfl))); first | refine kl hM ?_ | refine kn hM ?_) | ((with_reducible refine at_store ?_); refine ks hM ?_; clear hM; intro wx hM) | ((with_reducible refine at_alloc ?_); refine kz hM ?_; clear hM; intro gx wx hM) | ((with_reducible refine at_box ?_); refine kb hM ?_; clear hM; intro gx wx hM))
  (refine (known_any _ (HT.out.keep hM.below)).mono ?_)
  rintro e w1 ⟨rfl, hb1⟩
  replace hM := hM.step hb1
  clear hb1
  go_upto_region 5 with (first | ((first | ((first | with_reducible refine at_load ?_ | ((with_reducible refine at_load_g ?_ ?_); (· rfl))); first | refine kl hM ?_ | refine kn hM ?_) | ((with_reducible refine at_store ?_); refine ks hM ?_; clear hM; intro wx hM) | ((with_reducible refine at_alloc ?_); refine kz hM ?_; clear hM; intro gx wx hM) | ((with_reducible refine at_box ?_); refine kb hM ?_; clear hM; intro gx wx hM)); ((with_reducible refine at_build ?_); refine kbld (HB.out _) ?_)) | ((first | with_reducible refine at_load ?_ | ((with_reducible refine at_load_g ?_ ?_); (· rfl))); first | refine kl hM ?_ | refine kn hM ?_) | ((with_reducible refine at_store ?_); refine ks hM ?_; clear hM; intro wx hM) | ((with_reducible refine at_alloc ?_); refine kz hM ?_; clear hM; intro gx wx hM) | ((with_reducible refine at_box ?_); refine kb hM ?_; clear hM; intro gx wx hM))
  go_upto_region 9 with (first | ((first | with_reducible refine (I1.out _).mono ?_ | with_reducible refine (I2.out _).mono ?_ | with_reducible refine (I3.out _).mono ?_ | with_reducible refine (I4.out _).mono ?_); rintro e w2 ⟨rfl, rfl⟩) | ((with_reducible refine (RA.out _).mono ?_); rintro e w3 ⟨rfl, hb3⟩; replace hM := hM.step hb3; clear hb3) | ((with_reducible refine at_store ?_); refine kv HX.out hM ?_; clear hM; intro wx hM) | ((first | with_reducible refine at_load ?_ | ((with_reducible refine at_load_g ?_ ?_); (· rfl))); first | refine kl hM ?_ | refine kn hM ?_) | ((with_reducible refine at_store ?_); refine ks hM ?_; clear hM; intro wx hM) | ((with_reducible refine at_alloc ?_); refine kz hM ?_; clear hM; intro gx wx hM) | ((with_reducible refine at_box ?_); refine kb hM ?_; clear hM; intro gx wx hM))
  go_upto_region 10 with (first | ((first | with_reducible refine at_load ?_ | ((with_reducible refine at_load_g ?_ ?_); (· rfl))); refine kn hM ?_))
  go_wp2_with (first | ((with_reducible refine (HC.out _ (HT.out.keep hM.below)).mono ?_); rintro e w4 ⟨rfl, hb4⟩; replace hM := hM.step hb4; clear hb4) | ((first | with_reducible refine (I1.out _).mono ?_ | with_reducible refine (I2.out _).mono ?_ | with_reducible refine (I3.out _).mono ?_ | with_reducible refine (I4.out _).mono ?_); rintro e w2 ⟨rfl, rfl⟩) | ((first | with_reducible refine at_load ?_ | ((with_reducible refine at_load_g ?_ ?_); (· rfl))); first | refine kl hM ?_ | refine kn hM ?_) | ((with_reducible refine at_store ?_); refine ks hM ?_; clear hM; intro wx hM) | ((with_reducible refine at_alloc ?_); refine kz hM ?_; clear hM; intro gx wx hM) | ((with_reducible refine at_box ?_); refine kb hM ?_; clear hM; intro gx wx hM))
  go_ret
  exact ⟨rfl, hM.below⟩
set_option maxRecDepth 20000 in
set_option maxHeartbeats 40000000 in
theorem good_k1 (y c f t s : Int) (v u : List Nat) (w : World) (hv : v.length = 16) (_hb : Bytes v) (hlv : u.length = 16) (hT : Tab w) (h1 : Ins y 65535 true) (h2 : Ins c 34 true) (h3 : Ins f 14 true) (h4 : Ins t 15 true) (h5 : decide (f < t) = true) (hR : ∀ w, Calls Tryd.prog 21 #[.int .i64 y, .int .i64 c, .int .i64 f, .int .i64 t, .agg (cellsOf .u8 v)] w fun e w' => e = .returned (.agg (cellsOf .u8 u)) ∧ Below w.heap.size w w') (x : Nat) (hw : IntKind.u8.wrap s = (x : Int)) (hk : (x : Int).tmod 8 = 1) 
    (hC : ∀ B : List Nat, B.length = 16 → ∀ w, Tab w → Calls Tryd.prog 34 #[.agg (evc 1 c f t v B (zeros 560) (zeros 560)), .int .i64 y] w fun e w' => e = .returned (.bool (u == B)) ∧ Below w.heap.size w w') :
    Calls Tryd.prog 10 #[.agg #[.int .i64 y, .int .i64 c], .agg #[.int .i64 f, .int .i64 t, .int .i64 s], .agg (cellsOf .u8 v)] w fun e w' => e = .returned (.bool true) ∧ Below w.heap.size w w' := by
  have hM := Mem.start [] w
  have HT := Lib.hid hT
  have HB := Lib.hid (bld_ev5 1 c f t v hv)
  have hok0 : EvOk v (zeros 16) (zeros 560) (zeros 560) := ⟨hv, zeros_length _, zeros_length _, zeros_length _⟩
  have hsz := evc_size (k := 1) (c := c) (f := f) (t := t) hok0
  have I1 := Lib.hid (fun w => h1 w)
  have I2 := Lib.hid (fun w => h2 w)
  have I3 := Lib.hid (fun w => h3 w)
  have I4 := Lib.hid (fun w => h4 w)
  have RA := Lib.hid hR
  have HX := Lib.hid (evc_putB (k := 1) (c := c) (f := f) (t := t) (N := u) hok0 hlv)
  have hok : EvOk v u (zeros 560) (zeros 560) := ⟨hv, hlv, zeros_length _, zeros_length _⟩
  clear hR
  obtain ⟨q, hql, hq⟩ := xor_byte ((nth u 3 : Nat) : Int) 1
  have hS : (evc 1 c f t v u (zeros 560) (zeros 560)).setIfInBounds 23 (.int .u8 (bits .xor .u8 ((nth u 3 : Nat) : Int) 1)) = evc 1 c f t v (u.set 3 q) (zeros 560) (zeros 560) := by
    rw [hq]; exact evc_setB hok 3 (by decide) q
  have hl2 : (u.set 3 q).length = 16 := by simp [hlv]
  have hok2 : EvOk v (u.set 3 q) (zeros 560) (zeros 560) := ⟨hv, hl2, zeros_length _, zeros_length _⟩
  have hsz2 := evc_size (k := 1) (c := c) (f := f) (t := t) hok2
  have eQ := eq_val (u.set 3 q) u hl2 hlv
  have hC1 := hC (u.set 3 q) hl2
  rw [show (u == u.set 3 q) = (u.set 3 q == u) from beq_swap _ _] at hC1
  generalize (u.set 3 q == u) = X at eQ hC1
  have HC := Lib.hid hC1
  have HS := Lib.hid hS
  clear hS
  clear hT h1 h2 h3 h4 hC hC1 hq hql
  cases X
  all_goals
    go_enter Tryd.func10, Tryd.ntmps10
    go_wp2_with (first | ((first | with_reducible refine at_load ?_ | ((with_reducible refine at_load_g ?_ ?_); (· rfl))); first | refine kl hM ?_ | refine kn hM ?_) | ((with_reducible refine at_store ?_); refine ks hM ?_; clear hM; intro wx hM) | ((with_reducible refine at_alloc ?_); refine kz hM ?_; clear hM; intro gx wx hM) | ((with_reducible refine at_box ?_); refine kb hM ?_; clear hM; intro gx wx hM))
    refine Go.Bul.wp_region_class (Mem _ w _ _) (by kernel_rfl) (by kernel_rfl) hM.drew ?_
    repeat (refine wpQuiet_step (fun K hK => ?_); (first | refine quiet_some rfl ?_ | refine quiet_wanted rfl ?_); apply Exists.intro; refine ⟨fun w' hM' => ?_, ?_⟩; (· first | exact jl hM' | exact jn hM' | (go_simp; rfl)); go_simp; refine hK _ ?_; clear hK K)
    refine wpQuiet_nil ?_
    intro wx hM
    go_wp2_with (first | ((first | with_reducible refine at_load ?_ | ((with_reducible refine at_load_g ?_ ?_); (· rfl))); first | refine kl hM ?_ | refine kn hM ?_) | ((with_reducible refine at_store ?_); refine ks hM ?_; clear hM; intro wx hM) | ((with_reducible refine at_alloc ?_); refine kz hM ?_; clear hM; intro gx wx hM) | ((with_reducible refine at_box ?_); refine kb hM ?_; clear hM; intro gx wx hM))
    (refine (known_any _ (HT.out.keep hM.below)).mono ?_)
    rintro e w1 ⟨rfl, hb1⟩
    replace hM := hM.step hb1
    clear hb1
    go_upto_region 5 with (first | ((first | ((first | with_reducible refine at_load ?_ | ((with_reducible refine at_load_g ?_ ?_); (· rfl))); first | refine kl hM ?_ | refine kn hM ?_) | ((with_reducible refine at_store ?_); refine ks hM ?_; clear hM; intro wx hM) | ((with_reducible refine at_alloc ?_); refine kz hM ?_; clear hM; intro gx wx hM) | ((with_reducible refine at_box ?_); refine kb hM ?_; clear hM; intro gx wx hM)); ((with_reducible refine at_build ?_); refine kbld (HB.out _) ?_)) | ((first | with_reducible refine at_load ?_ | ((with_reducible refine at_load_g ?_ ?_); (· rfl))); first | refine kl hM ?_ | refine kn hM ?_) | ((with_reducible refine at_store ?_); refine ks hM ?_; clear hM; intro wx hM) | ((with_reducible refine at_alloc ?_); refine kz hM ?_; clear hM; intro gx wx hM) | ((with_reducible refine at_box ?_); refine kb hM ?_; clear hM; intro gx wx hM))
    go_upto_region 9 with (first | ((first | with_reducible refine (I1.out _).mono ?_ | with_reducible refine (I2.out _).mono ?_ | with_reducible refine (I3.out _).mono ?_ | with_reducible refine (I4.out _).mono ?_); rintro e w2 ⟨rfl, rfl⟩) | ((with_reducible refine (RA.out _).mono ?_); rintro e w3 ⟨rfl, hb3⟩; replace hM := hM.step hb3; clear hb3) | ((with_reducible refine at_store ?_); refine kv HX.out hM ?_; clear hM; intro wx hM) | ((first | with_reducible refine at_load ?_ | ((with_reducible refine at_load_g ?_ ?_); (· rfl))); first | refine kl hM ?_ | refine kn hM ?_) | ((with_reducible refine at_store ?_); refine ks hM ?_; clear hM; intro wx hM) | ((with_reducible refine at_alloc ?_); refine kz hM ?_; clear hM; intro gx wx hM) | ((with_reducible refine at_box ?_); refine kb hM ?_; clear hM; intro gx wx hM))
    go_upto_region 10 with (first | ((first | with_reducible refine at_load ?_ | ((with_reducible refine at_load_g ?_ ?_); (· rfl))); refine kn hM ?_))
    go_upto_region 12 with (first | ((first | with_reducible refine at_load ?_ | ((with_reducible refine at_load_g ?_ ?_); (· rfl))); refine kgB (i := 3) hok (by decide) hM ?_) | ((with_reducible refine at_store ?_); refine kt HS.out hM ?_; clear hM; intro wx hM))
    go_upto_region 14 with (first | ((first | with_reducible refine (I1.out _).mono ?_ | with_reducible refine (I2.out _).mono ?_ | with_reducible refine (I3.out _).mono ?_ | with_reducible refine (I4.out _).mono ?_); rintro e w2 ⟨rfl, rfl⟩))
    refine Go.Bul.wp_region_class (Mem _ w _ _) (by kernel_rfl) (by kernel_rfl) hM.drew ?_
    repeat (refine wpQuiet_step (fun K hK => ?_); (first | refine quiet_some rfl ?_ | refine quiet_wanted rfl ?_); apply Exists.intro; refine ⟨fun w' hM' => ?_, ?_⟩; (· first | exact jl hM' | exact jp hok2 hM' | exact jq hok2 hM' | (go_simp; rfl) | (go_simp; with_reducible refine at_calls ?_; exact quiet_mem_call hM' (RA.out _))); go_simp; refine hK _ ?_; clear hK K)
    refine wpQuiet_nil ?_
    intro wx hM
    go_wp2_with (first | ((with_reducible refine (HC.out _ (HT.out.keep hM.below)).mono ?_); rintro e w4 ⟨rfl, hb4⟩; replace hM := hM.step hb4; clear hb4) | ((first | with_reducible refine (I1.out _).mono ?_ | with_reducible refine (I2.out _).mono ?_ | with_reducible refine (I3.out _).mono ?_ | with_reducible refine (I4.out _).mono ?_); rintro e w2 ⟨rfl, rfl⟩) | ((first | with_reducible refine at_load ?_ | ((with_reducible refine at_load_g ?_ ?_); (· rfl))); first | refine kl hM ?_ | refine kn hM ?_) | ((with_reducible refine at_store ?_); refine ks hM ?_; clear hM; intro wx hM) | ((with_reducible refine at_alloc ?_); refine kz hM ?_; clear hM; intro gx wx hM) | ((with_reducible refine at_box ?_); refine kb hM ?_; clear hM; intro gx wx hM))
    go_ret
    exact ⟨rfl, hM.below⟩
set_option maxRecDepth 20000 in
set_option maxHeartbeats 40000000 in
theorem good_k2 (y c f t s : Int) (v u : List Nat) (w : World) (hv : v.length = 16) (hb : Bytes v) (hlv : u.length = 16) (hT : Tab w) (h1 : Ins y 65535 true) (h2 : Ins c 34 true) (h3 : Ins f 14 true) (h4 : Ins t 15 true) (h5 : decide (f < t) = true) (hR : ∀ w, Calls Tryd.prog 21 #[.int .i64 y, .int .i64 c, .int .i64 f, .int .i64 t, .agg (cellsOf .u8 v)] w fun e w' => e = .returned (.agg (cellsOf .u8 u)) ∧ Below w.heap.size w w') (x : Nat) (hw : IntKind.u8.wrap s = (x : Int)) (hk : (x : Int).tmod 8 = 2) 
    (hC : ∀ A : List Nat, A.length = 16 → Bytes A → ∃ u2 : List Nat, u2.length = 16 ∧ (∀ w, Calls Tryd.prog 21 #[.int .i64 y, .int .i64 c, .int .i64 f, .int .i64 t, .agg (cellsOf .u8 A)] w fun e w' => e = .returned (.agg (cellsOf .u8 u2)) ∧ Below w.heap.size w w') ∧ ∀ w, Tab w → Calls Tryd.prog 34 #[.agg (evc 1 c f t A u (zeros 560) (zeros 560)), .int .i64 y] w fun e w' => e = .returned (.bool (u2 == u)) ∧ Below w.heap.size w w') :
    Calls Tryd.prog 10 #[.agg #[.int .i64 y, .int .i64 c], .agg #[.int .i64 f, .int .i64 t, .int .i64 s], .agg (cellsOf .u8 v)] w fun e w' => e = .returned (.bool true) ∧ Below w.heap.size w w' := by
  have hM := Mem.start [] w
  have HT := Lib.hid hT
  have HB := Lib.hid (bld_ev5 1 c f t v hv)
  have hok0 : EvOk v (zeros 16) (zeros 560) (zeros 560) := ⟨hv, zeros_length _, zeros_length _, zeros_length _⟩
  have hsz := evc_size (k := 1) (c := c) (f := f) (t := t) hok0
  have I1 := Lib.hid (fun w => h1 w)
  have I2 := Lib.hid (fun w => h2 w)
  have I3 := Lib.hid (fun w => h3 w)
  have I4 := Lib.hid (fun w => h4 w)
  have RA := Lib.hid hR
  have HX := Lib.hid (evc_putB (k := 1) (c := c) (f := f) (t := t) (N := u) hok0 hlv)
  have hok : EvOk v u (zeros 560) (zeros 560) := ⟨hv, hlv, zeros_length _, zeros_length _⟩
  clear hR
  obtain ⟨q, hql, hq⟩ := xor_byte ((nth v 15 : Nat) : Int) 128
  have hS : (evc 1 c f t v u (zeros 560) (zeros 560)).setIfInBounds 19 (.int .u8 (bits .xor .u8 ((nth v 15 : Nat) : Int) 128)) = evc 1 c f t (v.set 15 q) u (zeros 560) (zeros 560) := by
    rw [hq]; exact evc_setA hok 15 (by decide) q
  have hl2 : (v.set 15 q).length = 16 := by simp [hv]
  have hb2 : Bytes (v.set 15 q) := bytes_put hb hql
  have hok2 : EvOk (v.set 15 q) u (zeros 560) (zeros 560) := ⟨hl2, hok.b, zeros_length _, zeros_length _⟩
  have hsz2 := evc_size (k := 1) (c := c) (f := f) (t := t) hok2
  obtain ⟨u2, hl3, hR2, hC2⟩ := hC _ hl2 hb2
  have eQ := eq_val u u2 hlv hl3
  rw [show (u2 == u) = (u == u2) from beq_swap _ _] at hC2
  generalize (u == u2) = X at eQ hC2
  have RB := Lib.hid hR2
  clear hR2
  have HC := Lib.hid hC2
  have HS := Lib.hid hS
  clear hS
  clear hT h1 h2 h3 h4 hC hC2 hq hql
  cases X
  all_goals
    go_enter Tryd.func10, Tryd.ntmps10
    go_wp2_with (first | ((first | with_reducible refine at_load ?_ | ((with_reducible refine at_load_g ?_ ?_); (· rfl))); first | refine kl hM ?_ | refine kn hM ?_) | ((with_reducible refine at_store ?_); refine ks hM ?_; clear hM; intro wx hM) | ((with_reducible refine at_alloc ?_); refine kz hM ?_; clear hM; intro gx wx hM) | ((with_reducible refine at_box ?_); refine kb hM ?_; clear hM; intro gx wx hM))
    refine Go.Bul.wp_region_class (Mem _ w _ _) (by kernel_rfl) (by kernel_rfl) hM.drew ?_
    repeat (refine wpQuiet_step (fun K hK => ?_); (first | refine quiet_some rfl ?_ | refine quiet_wanted rfl ?_); apply Exists.intro; refine ⟨fun w' hM' => ?_, ?_⟩; (· first | exact jl hM' | exact jn hM' | (go_simp; rfl)); go_simp; refine hK _ ?_; clear hK K)
    refine wpQuiet_nil ?_
    intro wx hM
    go_wp2_with (first | ((first | with_reducible refine at_load ?_ | ((with_reducible refine at_load_g ?_ ?_); (· rfl))); first | refine kl hM ?_ | refine kn hM ?_) | ((with_reducible refine at_store ?_); refine ks hM ?_; clear hM; intro wx hM) | ((with_reducible refine at_alloc ?_); refine kz hM ?_; clear hM; intro gx wx hM) | ((with_reducible refine at_box ?_); refine kb hM ?_; clear hM; intro gx wx hM))
    (refine (known_any _ (HT.out.keep hM.below)).mono ?_)
    rintro e w1 ⟨rfl, hb1⟩
    replace hM := hM.step hb1
    clear hb1
    go_upto_region 5 with (first | ((first | ((first | with_reducible refine at_load ?_ | ((with_reducible refine at_load_g ?_ ?_); (· rfl))); first | refine kl hM ?_ | refine kn hM ?_) | ((with_reducible refine at_store ?_); refine ks hM ?_; clear hM; intro wx hM) | ((with_reducible refine at_alloc ?_); refine kz hM ?_; clear hM; intro gx wx hM) | ((with_reducible refine at_box ?_); refine kb hM ?_; clear hM; intro gx wx hM)); ((with_reducible refine at_build ?_); refine kbld (HB.out _) ?_)) | ((first | with_reducible refine at_load ?_ | ((with_reducible refine at_load_g ?_ ?_); (· rfl))); first | refine kl hM ?_ | refine kn hM ?_) | ((with_reducible refine at_store ?_); refine ks hM ?_; clear hM; intro wx hM) | ((with_reducible refine at_alloc ?_); refine kz hM ?_; clear hM; intro gx wx hM) | ((with_reducible refine at_box ?_); refine kb hM ?_; clear hM; intro gx wx hM))
    go_upto_region 9 with (first | ((first | with_reducible refine (I1.out _).mono ?_ | with_reducible refine (I2.out _).mono ?_ | with_reducible refine (I3.out _).mono ?_ | with_reducible refine (I4.out _).mono ?_); rintro e w2 ⟨rfl, rfl⟩) | ((with_reducible refine (RA.out _).mono ?_); rintro e w3 ⟨rfl, hb3⟩; replace hM := hM.step hb3; clear hb3) | ((with_reducible refine at_store ?_); refine kv HX.out hM ?_; clear hM; intro wx hM) | ((first | with_reducible refine at_load ?_ | ((with_reducible refine at_load_g ?_ ?_); (· rfl))); first | refine kl hM ?_ | refine kn hM ?_) | ((with_reducible refine at_store ?_); refine ks hM ?_; clear hM; intro wx hM) | ((with_reducible refine at_alloc ?_); refine kz hM ?_; clear hM; intro gx wx hM) | ((with_reducible refine at_box ?_); refine kb hM ?_; clear hM; intro gx wx hM))
    go_upto_region 10 with (first | ((first | with_reducible refine at_load ?_ | ((with_reducible refine at_load_g ?_ ?_); (· rfl))); refine kn hM ?_))
    go_upto_region 17 with (first | ((first | with_reducible refine at_load ?_ | ((with_reducible refine at_load_g ?_ ?_); (· rfl))); refine kgA (i := 15) hok (by decide) hM ?_) | ((with_reducible refine at_store ?_); refine kt HS.out hM ?_; clear hM; intro wx hM))
    refine Go.Bul.wp_region_class (Mem _ w _ _) (by kernel_rfl) (by kernel_rfl) hM.drew ?_
    repeat (refine wpQuiet_step (fun K hK => ?_); (first | refine quiet_some rfl ?_ | refine quiet_wanted rfl ?_); apply Exists.intro; refine ⟨fun w' hM' => ?_, ?_⟩; (· first | exact jl hM' | exact jp hok2 hM' | exact jq hok2 hM' | (go_simp; rfl) | (go_simp; with_reducible refine at_calls ?_; exact quiet_mem_call hM' (RB.out _))); go_simp; refine hK _ ?_; clear hK K)
    refine wpQuiet_nil ?_
    intro wx hM
    go_wp2_with (first | ((with_reducible refine (HC.out _ (HT.out.keep hM.below)).mono ?_); rintro e w4 ⟨rfl, hb4⟩; replace hM := hM.step hb4; clear hb4) | ((first | with_reducible refine (I1.out _).mono ?_ | with_reducible refine (I2.out _).mono ?_ | with_reducible refine (I3.out _).mono ?_ | with_reducible refine (I4.out _).mono ?_); rintro e w2 ⟨rfl, rfl⟩) | ((first | with_reducible refine at_load ?_ | ((with_reducible refine at_load_g ?_ ?_); (· rfl))); first | refine kl hM ?_ | refine kn hM ?_) | ((with_reducible refine at_store ?_); refine ks hM ?_; clear hM; intro wx hM) | ((with_reducible refine at_alloc ?_); refine kz hM ?_; clear hM; intro gx wx hM) | ((with_reducible refine at_box ?_); refine kb hM ?_; clear hM; intro gx wx hM))
    go_ret
    exact ⟨rfl, hM.below⟩
set_option maxRecDepth 20000 in
set_option maxHeartbeats 40000000 in
theorem good_k3 (y c f t s : Int) (v u : List Nat) (w : World) (hv : v.length = 16) (_hb : Bytes v) (hlv : u.length = 16) (hT : Tab w) (h1 : Ins y 65535 true) (h2 : Ins c 34 true) (h3 : Ins f 14 true) (h4 : Ins t 15 true) (h5 : decide (f < t) = true) (hR : ∀ w, Calls Tryd.prog 21 #[.int .i64 y, .int .i64 c, .int .i64 f, .int .i64 t, .agg (cellsOf .u8 v)] w fun e w' => e = .returned (.agg (cellsOf .u8 u)) ∧ Below w.heap.size w w') (x : Nat) (hw : IntKind.u8.wrap s = (x : Int)) (hk : (x : Int).tmod 8 = 3) (T : Bool) (hw1 : IntKind.i64.wrap (f + 1) = f + 1) (eT : (t == f + 1) = T) 
    (hC : ∃ X : Bool, (∀ w, Calls Tryd.prog 33 #[.int .i64 y, .int .i64 c, .int .i64 f, .agg (cellsOf .u8 v), .agg (cellsOf .u8 u)] w fun e w' => e = .returned (.bool X) ∧ Below w.heap.size w w') ∧ ∀ w, Tab w → Calls Tryd.prog 34 #[.agg (evc 2 c f t v u (zeros 560) (zeros 560)), .int .i64 y] w fun e w' => e = .returned (.bool (T && X)) ∧ Below w.heap.size w w') :
    Calls Tryd.prog 10 #[.agg #[.int .i64 y, .int .i64 c], .agg #[.int .i64 f, .int .i64 t, .int .i64 s], .agg (cellsOf .u8 v)] w fun e w' => e = .returned (.bool true) ∧ Below w.heap.size w w' := by
  have hM := Mem.start [] w
  have HT := Lib.hid hT
  have HB := Lib.hid (bld_ev5 1 c f t v hv)
  have hok0 : EvOk v (zeros 16) (zeros 560) (zeros 560) := ⟨hv, zeros_length _, zeros_length _, zeros_length _⟩
  have hsz := evc_size (k := 1) (c := c) (f := f) (t := t) hok0
  have I1 := Lib.hid (fun w => h1 w)
  have I2 := Lib.hid (fun w => h2 w)
  have I3 := Lib.hid (fun w => h3 w)
  have I4 := Lib.hid (fun w => h4 w)
  have RA := Lib.hid hR
  have HX := Lib.hid (evc_putB (k := 1) (c := c) (f := f) (t := t) (N := u) hok0 hlv)
  have hok : EvOk v u (zeros 560) (zeros 560) := ⟨hv, hlv, zeros_length _, zeros_length _⟩
  clear hR
  have hok2 := hok
  have hsz2 := evc_size (k := 2) (c := c) (f := f) (t := t) hok2
  obtain ⟨X, hL1, hC1⟩ := hC
  have HL := Lib.hid hL1
  clear hL1
  have eW : IntKind.i64.wrap (f + 1) = f + 1 := hw1
  have HC := Lib.hid hC1
  clear hT h1 h2 h3 h4 hC1
  cases T
  all_goals cases X
  all_goals
    go_enter Tryd.func10, Tryd.ntmps10
    go_wp2_with (first | ((first | with_reducible refine at_load ?_ | ((with_reducible refine at_load_g ?_ ?_); (· rfl))); first | refine kl hM ?_ | refine kn hM ?_) | ((with_reducible refine at_store ?_); refine ks hM ?_; clear hM; intro wx hM) | ((with_reducible refine at_alloc ?_); refine kz hM ?_; clear hM; intro gx wx hM) | ((with_reducible refine at_box ?_); refine kb hM ?_; clear hM; intro gx wx hM))
    refine Go.Bul.wp_region_class (Mem _ w _ _) (by kernel_rfl) (by kernel_rfl) hM.drew ?_
    repeat (refine wpQuiet_step (fun K hK => ?_); (first | refine quiet_some rfl ?_ | refine quiet_wanted rfl ?_); apply Exists.intro; refine ⟨fun w' hM' => ?_, ?_⟩; (· first | exact jl hM' | exact jn hM' | (go_simp; rfl)); go_simp; refine hK _ ?_; clear hK K)
    refine wpQuiet_nil ?_
    intro wx hM
    go_wp2_with (first | ((first | with_reducible refine at_load ?_ | ((with_reducible refine at_load_g ?_ ?_); (· rfl))); first | refine kl hM ?_ | refine kn hM ?_) | ((with_reducible refine at_store ?_); refine ks hM ?_; clear hM; intro wx hM) | ((with_reducible refine at_alloc ?_); refine kz hM ?_; clear hM; intro gx wx hM) | ((with_reducible refine at_box ?_); refine kb hM ?_; clear hM; intro gx wx hM))
    (refine (known_any _ (HT.out.keep hM.below)).mono ?_)
    rintro e w1 ⟨rfl, hb1⟩
    replace hM := hM.step hb1
    clear hb1
    go_upto_region 5 with (first | ((first | ((first | with_reducible refine at_load ?_ | ((with_reducible refine at_load_g ?_ ?_); (· rfl))); first | refine kl hM ?_ | refine kn hM ?_) | ((with_reducible refine at_store ?_); refine ks hM ?_; clear hM; intro wx hM) | ((with_reducible refine at_alloc ?_); refine kz hM ?_; clear hM; intro gx wx hM) | ((with_reducible refine at_box ?_); refine kb hM ?_; clear hM; intro gx wx hM)); ((with_reducible refine at_build ?_); refine kbld (HB.out _) ?_)) | ((first | with_reducible refine at_load ?_ | ((with_reducible refine at_load_g ?_ ?_); (· rfl))); first | refine kl hM ?_ | refine kn hM ?_) | ((with_reducible refine at_store ?_); refine ks hM ?_; clear hM; intro wx hM) | ((with_reducible refine at_alloc ?_); refine kz hM ?_; clear hM; intro gx wx hM) | ((with_reducible refine at_box ?_); refine kb hM ?_; clear hM; intro gx wx hM))
    go_upto_region 9 with (first | ((first | with_reducible refine (I1.out _).mono ?_ | with_reducible refine (I2.out _).mono ?_ | with_reducible refine (I3.out _).mono ?_ | with_reducible refine (I4.out _).mono ?_); rintro e w2 ⟨rfl, rfl⟩) | ((with_reducible refine (RA.out _).mono ?_); rintro e w3 ⟨rfl, hb3⟩; replace hM := hM.step hb3; clear hb3) | ((with_reducible refine at_store ?_); refine kv HX.out hM ?_; clear hM; intro wx hM) | ((first | with_reducible refine at_load ?_ | ((with_reducible refine at_load_g ?_ ?_); (· rfl))); first | refine kl hM ?_ | refine kn hM ?_) | ((with_reducible refine at_store ?_); refine ks hM ?_; clear hM; intro wx hM) | ((with_reducible refine at_alloc ?_); refine kz hM ?_; clear hM; intro gx wx hM) | ((with_reducible refine at_box ?_); refine kb hM ?_; clear hM; intro gx wx hM))
    go_upto_region 10 with (first | ((first | with_reducible refine at_load ?_ | ((with_reducible refine at_load_g ?_ ?_); (· rfl))); refine kn hM ?_))
    go_wp2_with (first | ((with_reducible refine at_store ?_); refine ku hM ?_; clear hM; intro wx hM) | ((with_reducible refine (HC.out _ (HT.out.keep hM.below)).mono ?_); rintro e w4 ⟨rfl, hb4⟩; replace hM := hM.step hb4; clear hb4) | ((with_reducible refine (HL.out _).mono ?_); rintro e w3 ⟨rfl, hb3⟩; replace hM := hM.step hb3; clear hb3) | (((first | with_reducible refine at_load ?_ | ((with_reducible refine at_load_g ?_ ?_); (· rfl))); first | refine kp hok hM ?_ | refine kq hok hM ?_ | refine kp hok2 hM ?_ | refine kq hok2 hM ?_)) | ((first | with_reducible refine (I1.out _).mono ?_ | with_reducible refine (I2.out _).mono ?_ | with_reducible refine (I3.out _).mono ?_ | with_reducible refine (I4.out _).mono ?_); rintro e w2 ⟨rfl, rfl⟩) | ((first | with_reducible refine at_load ?_ | ((with_reducible refine at_load_g ?_ ?_); (· rfl))); first | refine kl hM ?_ | refine kn hM ?_) | ((with_reducible refine at_store ?_); refine ks hM ?_; clear hM; intro wx hM) | ((with_reducible refine at_alloc ?_); refine kz hM ?_; clear hM; intro gx wx hM) | ((with_reducible refine at_box ?_); refine kb hM ?_; clear hM; intro gx wx hM))
    go_ret
    exact ⟨rfl, hM.below⟩
end Go.Proofs.YtlgkliafocbogaaDoor
