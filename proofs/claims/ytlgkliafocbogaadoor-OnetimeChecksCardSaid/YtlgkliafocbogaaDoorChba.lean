/- The walk of bulletinlaw07.OnetimeChecks, kind by kind: steps out of range or order, the first four kinds. -/
import Derived.Test.YtlgkliafocbogaaDoorEvx
namespace Go.Proofs.YtlgkliafocbogaaDoor
open Go Go.RowKit Go.Bul
set_option maxRecDepth 20000 in
set_option maxHeartbeats 40000000 in
theorem bad_k0 (b1 b2 b3 b4 b5 : Bool) (y c f t s : Int) (v : List Nat) (w : World) (hv : v.length = 16) (_hb : Bytes v) (hT : Tab w) (h1 : Ins y 65535 b1) (h2 : Ins c 34 b2) (h3 : Ins f 14 b3) (h4 : Ins t 15 b4) (h5 : decide (f < t) = b5) (hbad : (b1 && b2 && b3 && b4 && b5) = false) (x : Nat) (hw : IntKind.u8.wrap s = (x : Int)) (hk : (x : Int).tmod 8 = 0) 
    (hC : ∀ w, Tab w → Calls Tryd.prog 34 #[.agg (evc 1 c f t v (zeros 16) (zeros 560) (zeros 560)), .int .i64 y] w fun e w' => e = .returned (.bool false) ∧ Below w.heap.size w w') :
    Calls Tryd.prog 10 #[.agg #[.int .i64 y, .int .i64 c], .agg #[.int .i64 f, .int .i64 t, .int .i64 s], .agg (cellsOf .u8 v)] w fun e w' => e = .returned (.bool true) ∧ Below w.heap.size w w' := by
  have hM := Mem.start [] w
  have HT := Lib.hid hT
  have HB := Lib.hid (bld_ev5 1 c f t v hv)
  have hok : EvOk v (zeros 16) (zeros 560) (zeros 560) := ⟨hv, zeros_length _, zeros_length _, zeros_length _⟩
  have hsz := evc_size (k := 1) (c := c) (f := f) (t := t) hok
  have I1 := Lib.hid (fun w => h1 w)
  have I2 := Lib.hid (fun w => h2 w)
  have I3 := Lib.hid (fun w => h3 w)
  have I4 := Lib.hid (fun w => h4 w)
  have HC := Lib.hid hC
  clear hT h1 h2 h3 h4 hC
  rcases bad_five hbad with rfl | ⟨rfl, rfl⟩ | ⟨rfl, rfl, rfl⟩ | ⟨rfl, rfl, rfl, rfl⟩ | ⟨rfl, rfl, rfl, rfl, rfl⟩
  all_goals
    clear hbad

    go_enter Tryd.func10, Tryd.ntmps10
    go_wp2_with (first | ((first | with_reducible refine at_load ?_ | ((with_reducible refine at_load_g ?_ ?_); (· rfl))); first | refine kl hM ?_ | refine kn hM ?_) | ((with_reducible refine at_store ?_); refine ks hM ?_; clear hM; intro wx hM) | ((with_reducible refine at_alloc ?_); refine kz hM ?_; clear hM; intro gx wx hM) | ((with_reducible refine at_box ?_); refine kb hM ?_; clear hM; intro gx wx hM))
    refine Go.Bul.wp_region_class (Mem _ w _ _) (by kernel_rfl) (by kernel_rfl) hM.drew ?_
    repeat (refine wpQuiet_step (fun K hK => ?_); (first | refine quiet_some rfl ?_ | refine quiet_wanted rfl ?_); apply Exists.intro; refine ⟨fun w' hM' => ?_, ?_⟩; (· first | exact jl hM' | exact jn hM' | (go_simp; rfl)); go_simp; refine hK _ ?_; clear hK K)
    refine wpQuiet_nil ?_
    intro wx hM
    go_wp2_with (first | ((first | with_reducible refine at_load ?_ | ((with_reducible refine at_load_g ?_ ?_); (· rfl))); first | refine kl hM ?_ | refine kn hM ?_) | ((with_reducible refine at_store ?_); refine ks hM ?_; clear hM; intro wx hM) | ((with_reducible refine at_alloc ?_); refine kz hM ?_; clear hM; intro gx wx hM) | ((with_reducible refine at_box ?_); refine kb hM ?_; clear hM; intro gx wx hM))
    (refine (known_any _ (HT.out.keep hM.below)).mono ?_)
    rintro e w1 ⟨rfl, hb1⟩
    replace hM := hM.step hb1
    clear hb1
    go_upto_region 5 with (first | ((first | ((first | with_reducible refine at_load ?_ | ((with_reducible refine at_load_g ?_ ?_); (· rfl))); first | refine kl hM ?_ | refine kn hM ?_) | ((with_reducible refine at_store ?_); refine ks hM ?_; clear hM; intro wx hM) | ((with_reducible refine at_alloc ?_); refine kz hM ?_; clear hM; intro gx wx hM) | ((with_reducible refine at_box ?_); refine kb hM ?_; clear hM; intro gx wx hM)); ((with_reducible refine at_build ?_); refine kbld (HB.out _) ?_)) | ((first | with_reducible refine at_load ?_ | ((with_reducible refine at_load_g ?_ ?_); (· rfl))); first | refine kl hM ?_ | refine kn hM ?_) | ((with_reducible refine at_store ?_); refine ks hM ?_; clear hM; intro wx hM) | ((with_reducible refine at_alloc ?_); refine kz hM ?_; clear hM; intro gx wx hM) | ((with_reducible refine at_box ?_); refine kb hM ?_; clear hM; intro gx wx hM))
    go_upto_region 9 with (first | ((first | with_reducible refine (I1.out _).mono ?_ | with_reducible refine (I2.out _).mono ?_ | with_reducible refine (I3.out _).mono ?_ | with_reducible refine (I4.out _).mono ?_); rintro e w2 ⟨rfl, rfl⟩) | ((first | with_reducible refine at_load ?_ | ((with_reducible refine at_load_g ?_ ?_); (· rfl))); first | refine kl hM ?_ | refine kn hM ?_) | ((with_reducible refine at_store ?_); refine ks hM ?_; clear hM; intro wx hM) | ((with_reducible refine at_alloc ?_); refine kz hM ?_; clear hM; intro gx wx hM) | ((with_reducible refine at_box ?_); refine kb hM ?_; clear hM; intro gx wx hM))
    go_upto_region 10 with (first | ((first | with_reducible refine at_load ?_ | ((with_reducible refine at_load_g ?_ ?_); (· rfl))); refine kn hM ?_))
    go_wp2_with (first | ((with_reducible refine (HC.out _ (HT.out.keep hM.below)).mono ?_); rintro e w4 ⟨rfl, hb4⟩; replace hM := hM.step hb4; clear hb4) | ((first | with_reducible refine (I1.out _).mono ?_ | with_reducible refine (I2.out _).mono ?_ | with_reducible refine (I3.out _).mono ?_ | with_reducible refine (I4.out _).mono ?_); rintro e w2 ⟨rfl, rfl⟩) | ((first | with_reducible refine at_load ?_ | ((with_reducible refine at_load_g ?_ ?_); (· rfl))); first | refine kl hM ?_ | refine kn hM ?_) | ((with_reducible refine at_store ?_); refine ks hM ?_; clear hM; intro wx hM) | ((with_reducible refine at_alloc ?_); refine kz hM ?_; clear hM; intro gx wx hM) | ((with_reducible refine at_box ?_); refine kb hM ?_; clear hM; intro gx wx hM))
    go_ret
    exact ⟨rfl, hM.below⟩
set_option maxRecDepth 20000 in
set_option maxHeartbeats 40000000 in
theorem bad_k1 (b1 b2 b3 b4 b5 : Bool) (y c f t s : Int) (v : List Nat) (w : World) (hv : v.length = 16) (_hb : Bytes v) (hT : Tab w) (h1 : Ins y 65535 b1) (h2 : Ins c 34 b2) (h3 : Ins f 14 b3) (h4 : Ins t 15 b4) (h5 : decide (f < t) = b5) (hbad : (b1 && b2 && b3 && b4 && b5) = false) (x : Nat) (hw : IntKind.u8.wrap s = (x : Int)) (hk : (x : Int).tmod 8 = 1) 
    (hC : ∀ B : List Nat, B.length = 16 → ∀ w, Tab w → Calls Tryd.prog 34 #[.agg (evc 1 c f t v B (zeros 560) (zeros 560)), .int .i64 y] w fun e w' => e = .returned (.bool false) ∧ Below w.heap.size w w') :
    Calls Tryd.prog 10 #[.agg #[.int .i64 y, .int .i64 c], .agg #[.int .i64 f, .int .i64 t, .int .i64 s], .agg (cellsOf .u8 v)] w fun e w' => e = .returned (.bool true) ∧ Below w.heap.size w w' := by
  have hM := Mem.start [] w
  have HT := Lib.hid hT
  have HB := Lib.hid (bld_ev5 1 c f t v hv)
  have hok : EvOk v (zeros 16) (zeros 560) (zeros 560) := ⟨hv, zeros_length _, zeros_length _, zeros_length _⟩
  have hsz := evc_size (k := 1) (c := c) (f := f) (t := t) hok
  have I1 := Lib.hid (fun w => h1 w)
  have I2 := Lib.hid (fun w => h2 w)
  have I3 := Lib.hid (fun w => h3 w)
  have I4 := Lib.hid (fun w => h4 w)
  obtain ⟨q, hql, hq⟩ := xor_byte ((nth (zeros 16) 3 : Nat) : Int) 1
  have hS : (evc 1 c f t v (zeros 16) (zeros 560) (zeros 560)).setIfInBounds 23 (.int .u8 (bits .xor .u8 ((nth (zeros 16) 3 : Nat) : Int) 1)) = evc 1 c f t v ((zeros 16).set 3 q) (zeros 560) (zeros 560) := by
    rw [hq]; exact evc_setB hok 3 (by decide) q
  have HC := Lib.hid (hC ((zeros 16).set 3 q) (by simp))
  have HS := Lib.hid hS
  clear hS
  clear hT h1 h2 h3 h4 hC hq hql
  rcases bad_five hbad with rfl | ⟨rfl, rfl⟩ | ⟨rfl, rfl, rfl⟩ | ⟨rfl, rfl, rfl, rfl⟩ | ⟨rfl, rfl, rfl, rfl, rfl⟩
  all_goals
    clear hbad

    go_enter Tryd.func10, Tryd.ntmps10
    go_wp2_with (first | ((first | with_reducible refine at_load ?_ | ((with_reducible refine at_load_g ?_ ?_); (· rfl))); first | refine kl hM ?_ | refine kn hM ?_) | ((with_reducible refine at_store ?_); refine ks hM ?_; clear hM; intro wx hM) | ((with_reducible refine at_alloc ?_); refine kz hM ?_; clear hM; intro gx wx hM) | ((with_reducible refine at_box ?_); refine kb hM ?_; clear hM; intro gx wx hM))
    refine Go.Bul.wp_region_class (Mem _ w _ _) (by kernel_rfl) (by kernel_rfl) hM.drew ?_
    repeat (refine wpQuiet_step (fun K hK => ?_); (first | refine quiet_some rfl ?_ | refine quiet_wanted rfl ?_); apply Exists.intro; refine ⟨fun w' hM' => ?_, ?_⟩; (· first | exact jl hM' | exact jn hM' | (go_simp; rfl)); go_simp; refine hK _ ?_; clear hK K)
    refine wpQuiet_nil ?_
    intro wx hM
    go_wp2_with (first | ((first | with_reducible refine at_load ?_ | ((with_reducible refine at_load_g ?_ ?_); (· rfl))); first | refine kl hM ?_ | refine kn hM ?_) | ((with_reducible refine at_store ?_); refine ks hM ?_; clear hM; intro wx hM) | ((with_reducible refine at_alloc ?_); refine kz hM ?_; clear hM; intro gx wx hM) | ((with_reducible refine at_box ?_); refine kb hM ?_; clear hM; intro gx wx hM))
    (refine (known_any _ (HT.out.keep hM.below)).mono ?_)
    rintro e w1 ⟨rfl, hb1⟩
    replace hM := hM.step hb1
    clear hb1
    go_upto_region 5 with (first | ((first | ((first | with_reducible refine at_load ?_ | ((with_reducible refine at_load_g ?_ ?_); (· rfl))); first | refine kl hM ?_ | refine kn hM ?_) | ((with_reducible refine at_store ?_); refine ks hM ?_; clear hM; intro wx hM) | ((with_reducible refine at_alloc ?_); refine kz hM ?_; clear hM; intro gx wx hM) | ((with_reducible refine at_box ?_); refine kb hM ?_; clear hM; intro gx wx hM)); ((with_reducible refine at_build ?_); refine kbld (HB.out _) ?_)) | ((first | with_reducible refine at_load ?_ | ((with_reducible refine at_load_g ?_ ?_); (· rfl))); first | refine kl hM ?_ | refine kn hM ?_) | ((with_reducible refine at_store ?_); refine ks hM ?_; clear hM; intro wx hM) | ((with_reducible refine at_alloc ?_); refine kz hM ?_; clear hM; intro gx wx hM) | ((with_reducible refine at_box ?_); refine kb hM ?_; clear hM; intro gx wx hM))
    go_upto_region 9 with (first | ((first | with_reducible refine (I1.out _).mono ?_ | with_reducible refine (I2.out _).mono ?_ | with_reducible refine (I3.out _).mono ?_ | with_reducible refine (I4.out _).mono ?_); rintro e w2 ⟨rfl, rfl⟩) | ((first | with_reducible refine at_load ?_ | ((with_reducible refine at_load_g ?_ ?_); (· rfl))); first | refine kl hM ?_ | refine kn hM ?_) | ((with_reducible refine at_store ?_); refine ks hM ?_; clear hM; intro wx hM) | ((with_reducible refine at_alloc ?_); refine kz hM ?_; clear hM; intro gx wx hM) | ((with_reducible refine at_box ?_); refine kb hM ?_; clear hM; intro gx wx hM))
    go_upto_region 10 with (first | ((first | with_reducible refine at_load ?_ | ((with_reducible refine at_load_g ?_ ?_); (· rfl))); refine kn hM ?_))
    go_upto_region 12 with (first | ((first | with_reducible refine at_load ?_ | ((with_reducible refine at_load_g ?_ ?_); (· rfl))); refine kgB (i := 3) hok (by decide) hM ?_) | ((with_reducible refine at_store ?_); refine kt HS.out hM ?_; clear hM; intro wx hM))
    go_wp2_with (first | ((with_reducible refine (HC.out _ (HT.out.keep hM.below)).mono ?_); rintro e w4 ⟨rfl, hb4⟩; replace hM := hM.step hb4; clear hb4) | ((first | with_reducible refine (I1.out _).mono ?_ | with_reducible refine (I2.out _).mono ?_ | with_reducible refine (I3.out _).mono ?_ | with_reducible refine (I4.out _).mono ?_); rintro e w2 ⟨rfl, rfl⟩) | ((first | with_reducible refine at_load ?_ | ((with_reducible refine at_load_g ?_ ?_); (· rfl))); first | refine kl hM ?_ | refine kn hM ?_) | ((with_reducible refine at_store ?_); refine ks hM ?_; clear hM; intro wx hM) | ((with_reducible refine at_alloc ?_); refine kz hM ?_; clear hM; intro gx wx hM) | ((with_reducible refine at_box ?_); refine kb hM ?_; clear hM; intro gx wx hM))
    go_ret
    exact ⟨rfl, hM.below⟩
set_option maxRecDepth 20000 in
set_option maxHeartbeats 40000000 in
theorem bad_k2 (b1 b2 b3 b4 b5 : Bool) (y c f t s : Int) (v : List Nat) (w : World) (hv : v.length = 16) (hb : Bytes v) (hT : Tab w) (h1 : Ins y 65535 b1) (h2 : Ins c 34 b2) (h3 : Ins f 14 b3) (h4 : Ins t 15 b4) (h5 : decide (f < t) = b5) (hbad : (b1 && b2 && b3 && b4 && b5) = false) (x : Nat) (hw : IntKind.u8.wrap s = (x : Int)) (hk : (x : Int).tmod 8 = 2) 
    (hC : ∀ A : List Nat, A.length = 16 → Bytes A → ∀ w, Tab w → Calls Tryd.prog 34 #[.agg (evc 1 c f t A (zeros 16) (zeros 560) (zeros 560)), .int .i64 y] w fun e w' => e = .returned (.bool false) ∧ Below w.heap.size w w') :
    Calls Tryd.prog 10 #[.agg #[.int .i64 y, .int .i64 c], .agg #[.int .i64 f, .int .i64 t, .int .i64 s], .agg (cellsOf .u8 v)] w fun e w' => e = .returned (.bool true) ∧ Below w.heap.size w w' := by
  have hM := Mem.start [] w
  have HT := Lib.hid hT
  have HB := Lib.hid (bld_ev5 1 c f t v hv)
  have hok : EvOk v (zeros 16) (zeros 560) (zeros 560) := ⟨hv, zeros_length _, zeros_length _, zeros_length _⟩
  have hsz := evc_size (k := 1) (c := c) (f := f) (t := t) hok
  have I1 := Lib.hid (fun w => h1 w)
  have I2 := Lib.hid (fun w => h2 w)
  have I3 := Lib.hid (fun w => h3 w)
  have I4 := Lib.hid (fun w => h4 w)
  obtain ⟨q, hql, hq⟩ := xor_byte ((nth v 15 : Nat) : Int) 128
  have hS : (evc 1 c f t v (zeros 16) (zeros 560) (zeros 560)).setIfInBounds 19 (.int .u8 (bits .xor .u8 ((nth v 15 : Nat) : Int) 128)) = evc 1 c f t (v.set 15 q) (zeros 16) (zeros 560) (zeros 560) := by
    rw [hq]; exact evc_setA hok 15 (by decide) q
  have hl2 : (v.set 15 q).length = 16 := by simp [hv]
  have hb2 : Bytes (v.set 15 q) := bytes_put hb hql
  have hok2 : EvOk (v.set 15 q) (zeros 16) (zeros 560) (zeros 560) := ⟨hl2, hok.b, zeros_length _, zeros_length _⟩
  have hsz2 := evc_size (k := 1) (c := c) (f := f) (t := t) hok2
  have HC := Lib.hid (hC _ hl2 hb2)
  have HS := Lib.hid hS
  clear hS
  clear hT h1 h2 h3 h4 hC hq hql
  rcases bad_five hbad with rfl | ⟨rfl, rfl⟩ | ⟨rfl, rfl, rfl⟩ | ⟨rfl, rfl, rfl, rfl⟩ | ⟨rfl, rfl, rfl, rfl, rfl⟩
  all_goals
    clear hbad

    go_enter Tryd.func10, Tryd.ntmps10
    go_wp2_with (first | ((first | with_reducible refine at_load ?_ | ((with_reducible refine at_load_g ?_ ?_); (· rfl))); first | refine kl hM ?_ | refine kn hM ?_) | ((with_reducible refine at_store ?_); refine ks hM ?_; clear hM; intro wx hM) | ((with_reducible refine at_alloc ?_); refine kz hM ?_; clear hM; intro gx wx hM) | ((with_reducible refine at_box ?_); refine kb hM ?_; clear hM; intro gx wx hM))
    refine Go.Bul.wp_region_class (Mem _ w _ _) (by kernel_rfl) (by kernel_rfl) hM.drew ?_
    repeat (refine wpQuiet_step (fun K hK => ?_); (first | refine quiet_some rfl ?_ | refine quiet_wanted rfl ?_); apply Exists.intro; refine ⟨fun w' hM' => ?_, ?_⟩; (· first | exact jl hM' | exact jn hM' | (go_simp; rfl)); go_simp; refine hK _ ?_; clear hK K)
    refine wpQuiet_nil ?_
    intro wx hM
    go_wp2_with (first | ((first | with_reducible refine at_load ?_ | ((with_reducible refine at_load_g ?_ ?_); (· rfl))); first | refine kl hM ?_ | refine kn hM ?_) | ((with_reducible refine at_store ?_); refine ks hM ?_; clear hM; intro wx hM) | ((with_reducible refine at_alloc ?_); refine kz hM ?_; clear hM; intro gx wx hM) | ((with_reducible refine at_box ?_); refine kb hM ?_; clear hM; intro gx wx hM))
    (refine (known_any _ (HT.out.keep hM.below)).mono ?_)
    rintro e w1 ⟨rfl, hb1⟩
    replace hM := hM.step hb1
    clear hb1
    go_upto_region 5 with (first | ((first | ((first | with_reducible refine at_load ?_ | ((with_reducible refine at_load_g ?_ ?_); (· rfl))); first | refine kl hM ?_ | refine kn hM ?_) | ((with_reducible refine at_store ?_); refine ks hM ?_; clear hM; intro wx hM) | ((with_reducible refine at_alloc ?_); refine kz hM ?_; clear hM; intro gx wx hM) | ((with_reducible refine at_box ?_); refine kb hM ?_; clear hM; intro gx wx hM)); ((with_reducible refine at_build ?_); refine kbld (HB.out _) ?_)) | ((first | with_reducible refine at_load ?_ | ((with_reducible refine at_load_g ?_ ?_); (· rfl))); first | refine kl hM ?_ | refine kn hM ?_) | ((with_reducible refine at_store ?_); refine ks hM ?_; clear hM; intro wx hM) | ((with_reducible refine at_alloc ?_); refine kz hM ?_; clear hM; intro gx wx hM) | ((with_reducible refine at_box ?_); refine kb hM ?_; clear hM; intro gx wx hM))
    go_upto_region 9 with (first | ((first | with_reducible refine (I1.out _).mono ?_ | with_reducible refine (I2.out _).mono ?_ | with_reducible refine (I3.out _).mono ?_ | with_reducible refine (I4.out _).mono ?_); rintro e w2 ⟨rfl, rfl⟩) | ((first | with_reducible refine at_load ?_ | ((with_reducible refine at_load_g ?_ ?_); (· rfl))); first | refine kl hM ?_ | refine kn hM ?_) | ((with_reducible refine at_store ?_); refine ks hM ?_; clear hM; intro wx hM) | ((with_reducible refine at_alloc ?_); refine kz hM ?_; clear hM; intro gx wx hM) | ((with_reducible refine at_box ?_); refine kb hM ?_; clear hM; intro gx wx hM))
    go_upto_region 10 with (first | ((first | with_reducible refine at_load ?_ | ((with_reducible refine at_load_g ?_ ?_); (· rfl))); refine kn hM ?_))
    go_upto_region 17 with (first | ((first | with_reducible refine at_load ?_ | ((with_reducible refine at_load_g ?_ ?_); (· rfl))); refine kgA (i := 15) hok (by decide) hM ?_) | ((with_reducible refine at_store ?_); refine kt HS.out hM ?_; clear hM; intro wx hM))
    refine Go.Bul.wp_region_class (Mem _ w _ _) (by kernel_rfl) (by kernel_rfl) hM.drew ?_
    repeat ((with_reducible refine wpQuiet_step (fun K hK => ?_)); (first | ((with_reducible refine quiet_some ?_ ?_); (· rfl); apply Exists.intro; refine ⟨fun w' hM' => ?_, ?_⟩; (· first | exact jl hM' | (go_simp; rfl))) | ((with_reducible refine quiet_unwanted ?_ ?_); (· rfl))); go_simp; (with_reducible refine hK _ ?_); clear hK K)
    refine wpQuiet_nil ?_
    intro wx hM
    go_wp2_with (first | ((with_reducible refine (HC.out _ (HT.out.keep hM.below)).mono ?_); rintro e w4 ⟨rfl, hb4⟩; replace hM := hM.step hb4; clear hb4) | ((first | with_reducible refine (I1.out _).mono ?_ | with_reducible refine (I2.out _).mono ?_ | with_reducible refine (I3.out _).mono ?_ | with_reducible refine (I4.out _).mono ?_); rintro e w2 ⟨rfl, rfl⟩) | ((first | with_reducible refine at_load ?_ | ((with_reducible refine at_load_g ?_ ?_); (· rfl))); first | refine kl hM ?_ | refine kn hM ?_) | ((with_reducible refine at_store ?_); refine ks hM ?_; clear hM; intro wx hM) | ((with_reducible refine at_alloc ?_); refine kz hM ?_; clear hM; intro gx wx hM) | ((with_reducible refine at_box ?_); refine kb hM ?_; clear hM; intro gx wx hM))
    go_ret
    exact ⟨rfl, hM.below⟩
set_option maxRecDepth 20000 in
set_option maxHeartbeats 40000000 in
theorem bad_k3 (b1 b2 b3 b4 b5 : Bool) (y c f t s : Int) (v : List Nat) (w : World) (hv : v.length = 16) (_hb : Bytes v) (hT : Tab w) (h1 : Ins y 65535 b1) (h2 : Ins c 34 b2) (h3 : Ins f 14 b3) (h4 : Ins t 15 b4) (h5 : decide (f < t) = b5) (hbad : (b1 && b2 && b3 && b4 && b5) = false) (x : Nat) (hw : IntKind.u8.wrap s = (x : Int)) (hk : (x : Int).tmod 8 = 3) (hn : b1 = true → b2 = true → b3 = true → IntKind.i64.wrap (f + 1) = f + 1 ∧ (t == f + 1) = false) 
    (hC : ∀ w, Tab w → Calls Tryd.prog 34 #[.agg (evc 2 c f t v (zeros 16) (zeros 560) (zeros 560)), .int .i64 y] w fun e w' => e = .returned (.bool false) ∧ Below w.heap.size w w') :
    Calls Tryd.prog 10 #[.agg #[.int .i64 y, .int .i64 c], .agg #[.int .i64 f, .int .i64 t, .int .i64 s], .agg (cellsOf .u8 v)] w fun e w' => e = .returned (.bool true) ∧ Below w.heap.size w w' := by
  have hM := Mem.start [] w
  have HT := Lib.hid hT
  have HB := Lib.hid (bld_ev5 1 c f t v hv)
  have hok : EvOk v (zeros 16) (zeros 560) (zeros 560) := ⟨hv, zeros_length _, zeros_length _, zeros_length _⟩
  have hsz := evc_size (k := 1) (c := c) (f := f) (t := t) hok
  have I1 := Lib.hid (fun w => h1 w)
  have I2 := Lib.hid (fun w => h2 w)
  have I3 := Lib.hid (fun w => h3 w)
  have I4 := Lib.hid (fun w => h4 w)
  have hsz2 := evc_size (k := 2) (c := c) (f := f) (t := t) hok
  have HC := Lib.hid hC
  clear hT h1 h2 h3 h4 hC
  rcases bad_five hbad with rfl | ⟨rfl, rfl⟩ | ⟨rfl, rfl, rfl⟩ | ⟨rfl, rfl, rfl, rfl⟩ | ⟨rfl, rfl, rfl, rfl, rfl⟩
  all_goals
    clear hbad
    first
    | (have hw1 := (hn rfl rfl rfl).1
       have eW : IntKind.i64.wrap (f + 1) = f + 1 := hw1
       have eT := (hn rfl rfl rfl).2
       clear hn)
    | clear hn
    go_enter Tryd.func10, Tryd.ntmps10
    go_wp2_with (first | ((first | with_reducible refine at_load ?_ | ((with_reducible refine at_load_g ?_ ?_); (· rfl))); first | refine kl hM ?_ | refine kn hM ?_) | ((with_reducible refine at_store ?_); refine ks hM ?_; clear hM; intro wx hM) | ((with_reducible refine at_alloc ?_); refine kz hM ?_; clear hM; intro gx wx hM) | ((with_reducible refine at_box ?_); refine kb hM ?_; clear hM; intro gx wx hM))
    refine Go.Bul.wp_region_class (Mem _ w _ _) (by kernel_rfl) (by kernel_rfl) hM.drew ?_
    repeat (refine wpQuiet_step (fun K hK => ?_); (first | refine quiet_some rfl ?_ | refine quiet_wanted rfl ?_); apply Exists.intro; refine ⟨fun w' hM' => ?_, ?_⟩; (· first | exact jl hM' | exact jn hM' | (go_simp; rfl)); go_simp; refine hK _ ?_; clear hK K)
    refine wpQuiet_nil ?_
    intro wx hM
    go_wp2_with (first | ((first | with_reducible refine at_load ?_ | ((with_reducible refine at_load_g ?_ ?_); (· rfl))); first | refine kl hM ?_ | refine kn hM ?_) | ((with_reducible refine at_store ?_); refine ks hM ?_; clear hM; intro wx hM) | ((with_reducible refine at_alloc ?_); refine kz hM ?_; clear hM; intro gx wx hM) | ((with_reducible refine at_box ?_); refine kb hM ?_; clear hM; intro gx wx hM))
    (refine (known_any _ (HT.out.keep hM.below)).mono ?_)
    rintro e w1 ⟨rfl, hb1⟩
    replace hM := hM.step hb1
    clear hb1
    go_upto_region 5 with (first | ((first | ((first | with_reducible refine at_load ?_ | ((with_reducible refine at_load_g ?_ ?_); (· rfl))); first | refine kl hM ?_ | refine kn hM ?_) | ((with_reducible refine at_store ?_); refine ks hM ?_; clear hM; intro wx hM) | ((with_reducible refine at_alloc ?_); refine kz hM ?_; clear hM; intro gx wx hM) | ((with_reducible refine at_box ?_); refine kb hM ?_; clear hM; intro gx wx hM)); ((with_reducible refine at_build ?_); refine kbld (HB.out _) ?_)) | ((first | with_reducible refine at_load ?_ | ((with_reducible refine at_load_g ?_ ?_); (· rfl))); first | refine kl hM ?_ | refine kn hM ?_) | ((with_reducible refine at_store ?_); refine ks hM ?_; clear hM; intro wx hM) | ((with_reducible refine at_alloc ?_); refine kz hM ?_; clear hM; intro gx wx hM) | ((with_reducible refine at_box ?_); refine kb hM ?_; clear hM; intro gx wx hM))
    go_upto_region 9 with (first | ((first | with_reducible refine (I1.out _).mono ?_ | with_reducible refine (I2.out _).mono ?_ | with_reducible refine (I3.out _).mono ?_ | with_reducible refine (I4.out _).mono ?_); rintro e w2 ⟨rfl, rfl⟩) | ((first | with_reducible refine at_load ?_ | ((with_reducible refine at_load_g ?_ ?_); (· rfl))); first | refine kl hM ?_ | refine kn hM ?_) | ((with_reducible refine at_store ?_); refine ks hM ?_; clear hM; intro wx hM) | ((with_reducible refine at_alloc ?_); refine kz hM ?_; clear hM; intro gx wx hM) | ((with_reducible refine at_box ?_); refine kb hM ?_; clear hM; intro gx wx hM))
    go_upto_region 10 with (first | ((first | with_reducible refine at_load ?_ | ((with_reducible refine at_load_g ?_ ?_); (· rfl))); refine kn hM ?_))
    go_wp2_with (first | ((with_reducible refine at_store ?_); refine ku hM ?_; clear hM; intro wx hM) | ((with_reducible refine (HC.out _ (HT.out.keep hM.below)).mono ?_); rintro e w4 ⟨rfl, hb4⟩; replace hM := hM.step hb4; clear hb4) | ((first | with_reducible refine (I1.out _).mono ?_ | with_reducible refine (I2.out _).mono ?_ | with_reducible refine (I3.out _).mono ?_ | with_reducible refine (I4.out _).mono ?_); rintro e w2 ⟨rfl, rfl⟩) | ((first | with_reducible refine at_load ?_ | ((with_reducible refine at_load_g ?_ ?_); (· rfl))); first | refine kl hM ?_ | refine kn hM ?_) | ((with_reducible refine at_store ?_); refine ks hM ?_; clear hM; intro wx hM) | ((with_reducible refine at_alloc ?_); refine kz hM ?_; clear hM; intro gx wx hM) | ((with_reducible refine at_box ?_); refine kb hM ?_; clear hM; intro gx wx hM))
    go_ret
    exact ⟨rfl, hM.below⟩
end Go.Proofs.YtlgkliafocbogaaDoor
