/- The walk of bulletinlaw07.OnetimeChecks, kind by kind: steps out of range or order, the other four kinds. -/
import Derived.Test.YtlgkliafocbogaaDoorEvx
namespace Go.Proofs.YtlgkliafocbogaaDoor
open Go Go.RowKit Go.Bul
set_option maxRecDepth 20000 in
set_option maxHeartbeats 40000000 in
theorem bad_k4 (b1 b2 b3 b4 b5 : Bool) (y c f t s : Int) (v : List Nat) (w : World) (hv : v.length = 16) (_hb : Bytes v) (hT : Tab w) (h1 : Ins y 65535 b1) (h2 : Ins c 34 b2) (h3 : Ins f 14 b3) (h4 : Ins t 15 b4) (h5 : decide (f < t) = b5) (hbad : (b1 && b2 && b3 && b4 && b5) = false) (x : Nat) (hw : IntKind.u8.wrap s = (x : Int)) (hk : (x : Int).tmod 8 = 4) 
    (hC : ∀ w, Tab w → Calls Tryd.prog 34 #[.agg (evc 2 c f t v v (zeros 560) (zeros 560)), .int .i64 y] w fun e w' => e = .returned (.bool false) ∧ Below w.heap.size w w') :
    Calls Tryd.prog 10 #[.agg #[.int .i64 y, .int .i64 c], .agg #[.int .i64 f, .int .i64 t, .int .i64 s], .agg (cellsOf .u8 v)] w fun e w' => e = .returned (.bool true) ∧ Below w.heap.size w w' := by
  have hM := Mem.start [] w
  have HT := Lib.hid hT
  have HB := Lib.hid (bld_ev5 1 c f t v hv)
  have hok : EvOk v (zeros 16) (zeros 560) (zeros 560) := ⟨hv, zeros_length _, zeros_length _, zeros_length _⟩
  have hsz := evc_size (k := 1) (c := c) (f := f) (t := t) hok
  have I1 := Lib.hid (fun w => h1 w)
  have I2 := Lib.hid (fun w => h2 w)
  have I3 := Lib.hid (fun w => h3 w)
  have I4 := Lib.hid (fun w => h4 w)
  have hok2 := hok
  have HP := Lib.hid (evc_putB (k := 2) (c := c) (f := f) (t := t) (N := v) hok hv)
  have hsz2 := evc_size (k := 2) (c := c) (f := f) (t := t) (⟨hv, hv, zeros_length _, zeros_length _⟩ : EvOk v v (zeros 560) (zeros 560))
  have HC := Lib.hid hC
  clear hT h1 h2 h3 h4 hC
  rcases bad_five hbad with rfl | ⟨rfl, rfl⟩ | ⟨rfl, rfl, rfl⟩ | ⟨rfl, rfl, rfl, rfl⟩ | ⟨rfl, rfl, rfl, rfl, rfl⟩
  all_goals
    clear hbad

    go_enter Tryd.func10, Tryd.ntmps10
    go_wp2_with (first | ((first | with_reducible refine at_load ?_ | ((with_reducible refine at_load_g ?_ ?_); (· rfl))); first | refine kl hM ?_ | refine kn hM ?_) | ((with_reducible refine at_store ?_); refine ks hM ?_; clear hM; intro wx hM) | ((with_reducible refine at_alloc ?_); refine kz hM ?_; clear hM; intro gx wx hM) | ((with_reducible refine at_box ?_); refine kb hM ?_; clear hM; intro gx wx hM))
    refine Go.Bul.wp_region_class (Mem _ w _ _) (by kernel_rfl) (by kernel_rfl) hM.drew ?_
    repeat (refine wpQuiet_step (fun K hK => ?_); (first | refine quiet_some rfl ?_ | refine quiet_wanted rfl ?_); apply Exists.intro; refine ⟨fun w' hM' => ?_, ?_⟩; (· first | exact jl hM' | exact jn hM' | (go_simp; rfl)); go_simp; refine hK _ ?_; clear hK K)
    refine wpQuiet_nil ?_
    intro wx hM
    go_wp2_with (first | ((first | with_reducible refine at_load ?_ | ((with_reducible refine at_load_g ?_ ?_); (· rfl))); first | refine kl hM ?_ | refine kn hM ?_) | ((with_reducible refine at_store ?_); refine ks hM ?_; clear hM; intro wx hM) | ((with_reducible refine at_alloc ?_); refine kz hM ?_; clear hM; intro gx wx hM) | ((with_reducible refine at_box ?_); refine kb hM ?_; clear hM; intro gx wx hM))
    (refine (known_any _ (HT.out.keep hM.below)).mono ?_)
    rintro e w1 ⟨rfl, hb1⟩
    replace hM := hM.step hb1
    clear hb1
    go_upto_region 5 with (first | ((first | ((first | with_reducible refine at_load ?_ | ((with_reducible refine at_load_g ?_ ?_); (· rfl))); first | refine kl hM ?_ | refine kn hM ?_) | ((with_reducible refine at_store ?_); refine ks hM ?_; clear hM; intro wx hM) | ((with_reducible refine at_alloc ?_); refine kz hM ?_; clear hM; intro gx wx hM) | ((with_reducible refine at_box ?_); refine kb hM ?_; clear hM; intro gx wx hM)); ((with_reducible refine at_build ?_); refine kbld (HB.out _) ?_)) | ((first | with_reducible refine at_load ?_ | ((with_reducible refine at_load_g ?_ ?_); (· rfl))); first | refine kl hM ?_ | refine kn hM ?_) | ((with_reducible refine at_store ?_); refine ks hM ?_; clear hM; intro wx hM) | ((with_reducible refine at_alloc ?_); refine kz hM ?_; clear hM; intro gx wx hM) | ((with_reducible refine at_box ?_); refine kb hM ?_; clear hM; intro gx wx hM))
    go_upto_region 9 with (first | ((first | with_reducible refine (I1.out _).mono ?_ | with_reducible refine (I2.out _).mono ?_ | with_reducible refine (I3.out _).mono ?_ | with_reducible refine (I4.out _).mono ?_); rintro e w2 ⟨rfl, rfl⟩) | ((first | with_reducible refine at_load ?_ | ((with_reducible refine at_load_g ?_ ?_); (· rfl))); first | refine kl hM ?_ | refine kn hM ?_) | ((with_reducible refine at_store ?_); refine ks hM ?_; clear hM; intro wx hM) | ((with_reducible refine at_alloc ?_); refine kz hM ?_; clear hM; intro gx wx hM) | ((with_reducible refine at_box ?_); refine kb hM ?_; clear hM; intro gx wx hM))
    go_upto_region 10 with (first | ((first | with_reducible refine at_load ?_ | ((with_reducible refine at_load_g ?_ ?_); (· rfl))); refine kn hM ?_))
    go_wp2_with (first | (((first | with_reducible refine at_load ?_ | ((with_reducible refine at_load_g ?_ ?_); (· rfl))); first | refine kp hok hM ?_ | refine kq hok hM ?_ | refine kp hok2 hM ?_ | refine kq hok2 hM ?_)) | ((with_reducible refine at_store ?_); refine kv HP.out hM ?_; clear hM; intro wx hM) | ((with_reducible refine at_store ?_); refine ku hM ?_; clear hM; intro wx hM) | ((with_reducible refine (HC.out _ (HT.out.keep hM.below)).mono ?_); rintro e w4 ⟨rfl, hb4⟩; replace hM := hM.step hb4; clear hb4) | ((first | with_reducible refine (I1.out _).mono ?_ | with_reducible refine (I2.out _).mono ?_ | with_reducible refine (I3.out _).mono ?_ | with_reducible refine (I4.out _).mono ?_); rintro e w2 ⟨rfl, rfl⟩) | ((first | with_reducible refine at_load ?_ | ((with_reducible refine at_load_g ?_ ?_); (· rfl))); first | refine kl hM ?_ | refine kn hM ?_) | ((with_reducible refine at_store ?_); refine ks hM ?_; clear hM; intro wx hM) | ((with_reducible refine at_alloc ?_); refine kz hM ?_; clear hM; intro gx wx hM) | ((with_reducible refine at_box ?_); refine kb hM ?_; clear hM; intro gx wx hM))
    go_ret
    exact ⟨rfl, hM.below⟩
set_option maxRecDepth 20000 in
set_option maxHeartbeats 40000000 in
theorem bad_k5 (b1 b2 b3 b4 b5 : Bool) (y c f t s : Int) (v : List Nat) (w : World) (hv : v.length = 16) (_hb : Bytes v) (hT : Tab w) (h1 : Ins y 65535 b1) (h2 : Ins c 34 b2) (h3 : Ins f 14 b3) (h4 : Ins t 15 b4) (h5 : decide (f < t) = b5) (hbad : (b1 && b2 && b3 && b4 && b5) = false) (x : Nat) (hw : IntKind.u8.wrap s = (x : Int)) (hk : (x : Int).tmod 8 = 5) 
    (hC : ∀ w, Tab w → Calls Tryd.prog 34 #[.agg (evc 3 0 0 0 (zeros 16) (zeros 16) (v ++ zeros 544) (v ++ zeros 544)), .int .i64 y] w fun e w' => e = .returned (.bool false) ∧ Below w.heap.size w w') :
    Calls Tryd.prog 10 #[.agg #[.int .i64 y, .int .i64 c], .agg #[.int .i64 f, .int .i64 t, .int .i64 s], .agg (cellsOf .u8 v)] w fun e w' => e = .returned (.bool true) ∧ Below w.heap.size w w' := by
  have hM := Mem.start [] w
  have HT := Lib.hid hT
  have HB := Lib.hid (bld_ev5 1 c f t v hv)
  have hok : EvOk v (zeros 16) (zeros 560) (zeros 560) := ⟨hv, zeros_length _, zeros_length _, zeros_length _⟩
  have hsz := evc_size (k := 1) (c := c) (f := f) (t := t) hok
  have I1 := Lib.hid (fun w => h1 w)
  have I2 := Lib.hid (fun w => h2 w)
  have I3 := Lib.hid (fun w => h3 w)
  have I4 := Lib.hid (fun w => h4 w)
  have hF : (v ++ zeros 544).length = 560 := by simp [hv]
  have HF := Lib.hid (bld_ends v hv)
  have HG := Lib.hid (bld_ev3 3 (v ++ zeros 544) (v ++ zeros 544) hF hF)
  have hsz2 := evc_size (k := 3) (c := 0) (f := 0) (t := 0) (⟨zeros_length _, zeros_length _, hF, hF⟩ : EvOk (zeros 16) (zeros 16) (v ++ zeros 544) (v ++ zeros 544))
  have HC := Lib.hid hC
  clear hT h1 h2 h3 h4 hC
  rcases bad_five hbad with rfl | ⟨rfl, rfl⟩ | ⟨rfl, rfl, rfl⟩ | ⟨rfl, rfl, rfl, rfl⟩ | ⟨rfl, rfl, rfl, rfl, rfl⟩
  all_goals
    clear hbad

    go_enter Tryd.func10, Tryd.ntmps10
    go_wp2_with (first | ((first | with_reducible refine at_load ?_ | ((with_reducible refine at_load_g ?_ ?_); (· rfl))); first | refine kl hM ?_ | refine kn hM ?_) | ((with_reducible refine at_store ?_); refine ks hM ?_; clear hM; intro wx hM) | ((with_reducible refine at_alloc ?_); refine kz hM ?_; clear hM; intro gx wx hM) | ((with_reducible refine at_box ?_); refine kb hM ?_; clear hM; intro gx wx hM))
    refine Go.Bul.wp_region_class (Mem _ w _ _) (by kernel_rfl) (by kernel_rfl) hM.drew ?_
    repeat (refine wpQuiet_step (fun K hK => ?_); (first | refine quiet_some rfl ?_ | refine quiet_wanted rfl ?_); apply Exists.intro; refine ⟨fun w' hM' => ?_, ?_⟩; (· first | exact jl hM' | exact jn hM' | (go_simp; rfl)); go_simp; refine hK _ ?_; clear hK K)
    refine wpQuiet_nil ?_
    intro wx hM
    go_wp2_with (first | ((first | with_reducible refine at_load ?_ | ((with_reducible refine at_load_g ?_ ?_); (· rfl))); first | refine kl hM ?_ | refine kn hM ?_) | ((with_reducible refine at_store ?_); refine ks hM ?_; clear hM; intro wx hM) | ((with_reducible refine at_alloc ?_); refine kz hM ?_; clear hM; intro gx wx hM) | ((with_reducible refine at_box ?_); refine kb hM ?_; clear hM; intro gx wx hM))
    (refine (known_any _ (HT.out.keep hM.below)).mono ?_)
    rintro e w1 ⟨rfl, hb1⟩
    replace hM := hM.step hb1
    clear hb1
    go_upto_region 5 with (first | ((first | ((first | with_reducible refine at_load ?_ | ((with_reducible refine at_load_g ?_ ?_); (· rfl))); first | refine kl hM ?_ | refine kn hM ?_) | ((with_reducible refine at_store ?_); refine ks hM ?_; clear hM; intro wx hM) | ((with_reducible refine at_alloc ?_); refine kz hM ?_; clear hM; intro gx wx hM) | ((with_reducible refine at_box ?_); refine kb hM ?_; clear hM; intro gx wx hM)); ((with_reducible refine at_build ?_); refine kbld (HB.out _) ?_)) | ((first | with_reducible refine at_load ?_ | ((with_reducible refine at_load_g ?_ ?_); (· rfl))); first | refine kl hM ?_ | refine kn hM ?_) | ((with_reducible refine at_store ?_); refine ks hM ?_; clear hM; intro wx hM) | ((with_reducible refine at_alloc ?_); refine kz hM ?_; clear hM; intro gx wx hM) | ((with_reducible refine at_box ?_); refine kb hM ?_; clear hM; intro gx wx hM))
    go_upto_region 9 with (first | ((first | with_reducible refine (I1.out _).mono ?_ | with_reducible refine (I2.out _).mono ?_ | with_reducible refine (I3.out _).mono ?_ | with_reducible refine (I4.out _).mono ?_); rintro e w2 ⟨rfl, rfl⟩) | ((first | with_reducible refine at_load ?_ | ((with_reducible refine at_load_g ?_ ?_); (· rfl))); first | refine kl hM ?_ | refine kn hM ?_) | ((with_reducible refine at_store ?_); refine ks hM ?_; clear hM; intro wx hM) | ((with_reducible refine at_alloc ?_); refine kz hM ?_; clear hM; intro gx wx hM) | ((with_reducible refine at_box ?_); refine kb hM ?_; clear hM; intro gx wx hM))
    go_upto_region 10 with (first | ((first | with_reducible refine at_load ?_ | ((with_reducible refine at_load_g ?_ ?_); (· rfl))); refine kn hM ?_))
    go_wp2_with (first | ((first | ((first | with_reducible refine at_load ?_ | ((with_reducible refine at_load_g ?_ ?_); (· rfl))); first | refine kl hM ?_ | refine kn hM ?_) | ((with_reducible refine at_store ?_); refine ks hM ?_; clear hM; intro wx hM) | ((with_reducible refine at_alloc ?_); refine kz hM ?_; clear hM; intro gx wx hM) | ((with_reducible refine at_box ?_); refine kb hM ?_; clear hM; intro gx wx hM)); ((with_reducible refine at_build ?_); refine kbld (HF.out _) ?_); (first | (skip; ((with_reducible refine at_build ?_); refine kbld (HG.out _) ?_)) | skip)) | ((with_reducible refine at_build ?_); refine kbld (HF.out _) ?_) | ((with_reducible refine at_build ?_); refine kbld (HG.out _) ?_) | ((with_reducible refine (HC.out _ (HT.out.keep hM.below)).mono ?_); rintro e w4 ⟨rfl, hb4⟩; replace hM := hM.step hb4; clear hb4) | ((first | with_reducible refine (I1.out _).mono ?_ | with_reducible refine (I2.out _).mono ?_ | with_reducible refine (I3.out _).mono ?_ | with_reducible refine (I4.out _).mono ?_); rintro e w2 ⟨rfl, rfl⟩) | ((first | with_reducible refine at_load ?_ | ((with_reducible refine at_load_g ?_ ?_); (· rfl))); first | refine kl hM ?_ | refine kn hM ?_) | ((with_reducible refine at_store ?_); refine ks hM ?_; clear hM; intro wx hM) | ((with_reducible refine at_alloc ?_); refine kz hM ?_; clear hM; intro gx wx hM) | ((with_reducible refine at_box ?_); refine kb hM ?_; clear hM; intro gx wx hM))
    go_ret
    exact ⟨rfl, hM.below⟩
set_option maxRecDepth 20000 in
set_option maxHeartbeats 40000000 in
theorem bad_k6 (b1 b2 b3 b4 b5 : Bool) (y c f t s : Int) (v : List Nat) (w : World) (hv : v.length = 16) (_hb : Bytes v) (hT : Tab w) (h1 : Ins y 65535 b1) (h2 : Ins c 34 b2) (h3 : Ins f 14 b3) (h4 : Ins t 15 b4) (h5 : decide (f < t) = b5) (hbad : (b1 && b2 && b3 && b4 && b5) = false) (x : Nat) (hw : IntKind.u8.wrap s = (x : Int)) (hk : (x : Int).tmod 8 = 6) 
    (hC : ∀ w, Tab w → Calls Tryd.prog 34 #[.agg (evc (wrap64 (4 + (wrap64 (f * f)).tmod 7)) c f t v (zeros 16) (zeros 560) (zeros 560)), .int .i64 y] w fun e w' => e = .returned (.bool false) ∧ Below w.heap.size w w') :
    Calls Tryd.prog 10 #[.agg #[.int .i64 y, .int .i64 c], .agg #[.int .i64 f, .int .i64 t, .int .i64 s], .agg (cellsOf .u8 v)] w fun e w' => e = .returned (.bool true) ∧ Below w.heap.size w w' := by
  have hM := Mem.start [] w
  have HT := Lib.hid hT
  have HB := Lib.hid (bld_ev5 1 c f t v hv)
  have hok : EvOk v (zeros 16) (zeros 560) (zeros 560) := ⟨hv, zeros_length _, zeros_length _, zeros_length _⟩
  have hsz := evc_size (k := 1) (c := c) (f := f) (t := t) hok
  have I1 := Lib.hid (fun w => h1 w)
  have I2 := Lib.hid (fun w => h2 w)
  have I3 := Lib.hid (fun w => h3 w)
  have I4 := Lib.hid (fun w => h4 w)
  have hsz2 : ∀ K, (evc K c f t v (zeros 16) (zeros 560) (zeros 560)).size = 1156 := fun K => evc_size hok
  have HC := Lib.hid hC
  clear hT h1 h2 h3 h4 hC
  rcases bad_five hbad with rfl | ⟨rfl, rfl⟩ | ⟨rfl, rfl, rfl⟩ | ⟨rfl, rfl, rfl, rfl⟩ | ⟨rfl, rfl, rfl, rfl, rfl⟩
  all_goals
    clear hbad

    go_enter Tryd.func10, Tryd.ntmps10
    go_wp2_with (first | ((first | with_reducible refine at_load ?_ | ((with_reducible refine at_load_g ?_ ?_); (· rfl))); first | refine kl hM ?_ | refine kn hM ?_) | ((with_reducible refine at_store ?_); refine ks hM ?_; clear hM; intro wx hM) | ((with_reducible refine at_alloc ?_); refine kz hM ?_; clear hM; intro gx wx hM) | ((with_reducible refine at_box ?_); refine kb hM ?_; clear hM; intro gx wx hM))
    refine Go.Bul.wp_region_class (Mem _ w _ _) (by kernel_rfl) (by kernel_rfl) hM.drew ?_
    repeat (refine wpQuiet_step (fun K hK => ?_); (first | refine quiet_some rfl ?_ | refine quiet_wanted rfl ?_); apply Exists.intro; refine ⟨fun w' hM' => ?_, ?_⟩; (· first | exact jl hM' | exact jn hM' | (go_simp; rfl)); go_simp; refine hK _ ?_; clear hK K)
    refine wpQuiet_nil ?_
    intro wx hM
    go_wp2_with (first | ((first | with_reducible refine at_load ?_ | ((with_reducible refine at_load_g ?_ ?_); (· rfl))); first | refine kl hM ?_ | refine kn hM ?_) | ((with_reducible refine at_store ?_); refine ks hM ?_; clear hM; intro wx hM) | ((with_reducible refine at_alloc ?_); refine kz hM ?_; clear hM; intro gx wx hM) | ((with_reducible refine at_box ?_); refine kb hM ?_; clear hM; intro gx wx hM))
    (refine (known_any _ (HT.out.keep hM.below)).mono ?_)
    rintro e w1 ⟨rfl, hb1⟩
    replace hM := hM.step hb1
    clear hb1
    go_upto_region 5 with (first | ((first | ((first | with_reducible refine at_load ?_ | ((with_reducible refine at_load_g ?_ ?_); (· rfl))); first | refine kl hM ?_ | refine kn hM ?_) | ((with_reducible refine at_store ?_); refine ks hM ?_; clear hM; intro wx hM) | ((with_reducible refine at_alloc ?_); refine kz hM ?_; clear hM; intro gx wx hM) | ((with_reducible refine at_box ?_); refine kb hM ?_; clear hM; intro gx wx hM)); ((with_reducible refine at_build ?_); refine kbld (HB.out _) ?_)) | ((first | with_reducible refine at_load ?_ | ((with_reducible refine at_load_g ?_ ?_); (· rfl))); first | refine kl hM ?_ | refine kn hM ?_) | ((with_reducible refine at_store ?_); refine ks hM ?_; clear hM; intro wx hM) | ((with_reducible refine at_alloc ?_); refine kz hM ?_; clear hM; intro gx wx hM) | ((with_reducible refine at_box ?_); refine kb hM ?_; clear hM; intro gx wx hM))
    go_upto_region 9 with (first | ((first | with_reducible refine (I1.out _).mono ?_ | with_reducible refine (I2.out _).mono ?_ | with_reducible refine (I3.out _).mono ?_ | with_reducible refine (I4.out _).mono ?_); rintro e w2 ⟨rfl, rfl⟩) | ((first | with_reducible refine at_load ?_ | ((with_reducible refine at_load_g ?_ ?_); (· rfl))); first | refine kl hM ?_ | refine kn hM ?_) | ((with_reducible refine at_store ?_); refine ks hM ?_; clear hM; intro wx hM) | ((with_reducible refine at_alloc ?_); refine kz hM ?_; clear hM; intro gx wx hM) | ((with_reducible refine at_box ?_); refine kb hM ?_; clear hM; intro gx wx hM))
    go_upto_region 10 with (first | ((first | with_reducible refine at_load ?_ | ((with_reducible refine at_load_g ?_ ?_); (· rfl))); refine kn hM ?_))
    go_wp2_with (first | ((with_reducible refine at_store ?_); refine ku hM ?_; clear hM; intro wx hM) | ((with_reducible refine (HC.out _ (HT.out.keep hM.below)).mono ?_); rintro e w4 ⟨rfl, hb4⟩; replace hM := hM.step hb4; clear hb4) | ((first | with_reducible refine (I1.out _).mono ?_ | with_reducible refine (I2.out _).mono ?_ | with_reducible refine (I3.out _).mono ?_ | with_reducible refine (I4.out _).mono ?_); rintro e w2 ⟨rfl, rfl⟩) | ((first | with_reducible refine at_load ?_ | ((with_reducible refine at_load_g ?_ ?_); (· rfl))); first | refine kl hM ?_ | refine kn hM ?_) | ((with_reducible refine at_store ?_); refine ks hM ?_; clear hM; intro wx hM) | ((with_reducible refine at_alloc ?_); refine kz hM ?_; clear hM; intro gx wx hM) | ((with_reducible refine at_box ?_); refine kb hM ?_; clear hM; intro gx wx hM))
    go_ret
    exact ⟨rfl, hM.below⟩
set_option maxRecDepth 20000 in
set_option maxHeartbeats 40000000 in
theorem bad_k7 (b1 b2 b3 b4 b5 : Bool) (y c f t s : Int) (v : List Nat) (w : World) (hv : v.length = 16) (_hb : Bytes v) (hT : Tab w) (h1 : Ins y 65535 b1) (h2 : Ins c 34 b2) (h3 : Ins f 14 b3) (h4 : Ins t 15 b4) (h5 : decide (f < t) = b5) (hbad : (b1 && b2 && b3 && b4 && b5) = false) (x : Nat) (hw : IntKind.u8.wrap s = (x : Int)) (hk : (x : Int).tmod 8 = 7) (j : Nat) (hj : (wrap64 ((wrap64 (x : Int)).tdiv 8)).tmod 35 = (j : Int)) (hjl : j < 35) 
    (hC : ∀ F : List Nat, F.length = 560 → (F == zeros 560) = false → ∀ w, Tab w → Calls Tryd.prog 34 #[.agg (evc 1 c f t v (zeros 16) F (zeros 560)), .int .i64 y] w fun e w' => e = .returned (.bool false) ∧ Below w.heap.size w w') :
    Calls Tryd.prog 10 #[.agg #[.int .i64 y, .int .i64 c], .agg #[.int .i64 f, .int .i64 t, .int .i64 s], .agg (cellsOf .u8 v)] w fun e w' => e = .returned (.bool true) ∧ Below w.heap.size w w' := by
  have hM := Mem.start [] w
  have HT := Lib.hid hT
  have HB := Lib.hid (bld_ev5 1 c f t v hv)
  have hok : EvOk v (zeros 16) (zeros 560) (zeros 560) := ⟨hv, zeros_length _, zeros_length _, zeros_length _⟩
  have hsz := evc_size (k := 1) (c := c) (f := f) (t := t) hok
  have I1 := Lib.hid (fun w => h1 w)
  have I2 := Lib.hid (fun w => h2 w)
  have I3 := Lib.hid (fun w => h3 w)
  have I4 := Lib.hid (fun w => h4 w)
  have hS : (evc 1 c f t v (zeros 16) (zeros 560) (zeros 560)).setIfInBounds (36 + j * 16) (.int .u8 1) = evc 1 c f t v (zeros 16) ((zeros 560).set (j * 16) 1) (zeros 560) := evc_setF hok (j * 16) (by omega) 1
  have hjn : (0 : Int) ≤ (j : Int) := Int.natCast_nonneg _
  have hj35 : (j : Int) < 35 := by omega
  have HC := Lib.hid (hC ((zeros 560).set (j * 16) 1) (by simp) (set_not_zeros (by omega)))
  have HS := Lib.hid hS
  clear hS
  clear hT h1 h2 h3 h4 hC
  rcases bad_five hbad with rfl | ⟨rfl, rfl⟩ | ⟨rfl, rfl, rfl⟩ | ⟨rfl, rfl, rfl, rfl⟩ | ⟨rfl, rfl, rfl, rfl, rfl⟩
  all_goals
    clear hbad

    go_enter Tryd.func10, Tryd.ntmps10
    go_wp2_with (first | ((first | with_reducible refine at_load ?_ | ((with_reducible refine at_load_g ?_ ?_); (· rfl))); first | refine kl hM ?_ | refine kn hM ?_) | ((with_reducible refine at_store ?_); refine ks hM ?_; clear hM; intro wx hM) | ((with_reducible refine at_alloc ?_); refine kz hM ?_; clear hM; intro gx wx hM) | ((with_reducible refine at_box ?_); refine kb hM ?_; clear hM; intro gx wx hM))
    refine Go.Bul.wp_region_class (Mem _ w _ _) (by kernel_rfl) (by kernel_rfl) hM.drew ?_
    repeat (refine wpQuiet_step (fun K hK => ?_); (first | refine quiet_some rfl ?_ | refine quiet_wanted rfl ?_); apply Exists.intro; refine ⟨fun w' hM' => ?_, ?_⟩; (· first | exact jl hM' | exact jn hM' | (go_simp; rfl)); go_simp; refine hK _ ?_; clear hK K)
    refine wpQuiet_nil ?_
    intro wx hM
    go_wp2_with (first | ((first | with_reducible refine at_load ?_ | ((with_reducible refine at_load_g ?_ ?_); (· rfl))); first | refine kl hM ?_ | refine kn hM ?_) | ((with_reducible refine at_store ?_); refine ks hM ?_; clear hM; intro wx hM) | ((with_reducible refine at_alloc ?_); refine kz hM ?_; clear hM; intro gx wx hM) | ((with_reducible refine at_box ?_); refine kb hM ?_; clear hM; intro gx wx hM))
    (refine (known_any _ (HT.out.keep hM.below)).mono ?_)
    rintro e w1 ⟨rfl, hb1⟩
    replace hM := hM.step hb1
    clear hb1
    go_upto_region 5 with (first | ((first | ((first | with_reducible refine at_load ?_ | ((with_reducible refine at_load_g ?_ ?_); (· rfl))); first | refine kl hM ?_ | refine kn hM ?_) | ((with_reducible refine at_store ?_); refine ks hM ?_; clear hM; intro wx hM) | ((with_reducible refine at_alloc ?_); refine kz hM ?_; clear hM; intro gx wx hM) | ((with_reducible refine at_box ?_); refine kb hM ?_; clear hM; intro gx wx hM)); ((with_reducible refine at_build ?_); refine kbld (HB.out _) ?_)) | ((first | with_reducible refine at_load ?_ | ((with_reducible refine at_load_g ?_ ?_); (· rfl))); first | refine kl hM ?_ | refine kn hM ?_) | ((with_reducible refine at_store ?_); refine ks hM ?_; clear hM; intro wx hM) | ((with_reducible refine at_alloc ?_); refine kz hM ?_; clear hM; intro gx wx hM) | ((with_reducible refine at_box ?_); refine kb hM ?_; clear hM; intro gx wx hM))
    go_upto_region 9 with (first | ((first | with_reducible refine (I1.out _).mono ?_ | with_reducible refine (I2.out _).mono ?_ | with_reducible refine (I3.out _).mono ?_ | with_reducible refine (I4.out _).mono ?_); rintro e w2 ⟨rfl, rfl⟩) | ((first | with_reducible refine at_load ?_ | ((with_reducible refine at_load_g ?_ ?_); (· rfl))); first | refine kl hM ?_ | refine kn hM ?_) | ((with_reducible refine at_store ?_); refine ks hM ?_; clear hM; intro wx hM) | ((with_reducible refine at_alloc ?_); refine kz hM ?_; clear hM; intro gx wx hM) | ((with_reducible refine at_box ?_); refine kb hM ?_; clear hM; intro gx wx hM))
    go_upto_region 10 with (first | ((first | with_reducible refine at_load ?_ | ((with_reducible refine at_load_g ?_ ?_); (· rfl))); refine kn hM ?_))
    go_wp2_with (first | ((first | with_reducible refine at_load ?_ | ((with_reducible refine at_load_g ?_ ?_); (· rfl))); refine kn hM ?_) | ((with_reducible refine at_store ?_); refine kt HS.out hM ?_; clear hM; intro wx hM) | ((with_reducible refine (HC.out _ (HT.out.keep hM.below)).mono ?_); rintro e w4 ⟨rfl, hb4⟩; replace hM := hM.step hb4; clear hb4) | ((first | with_reducible refine (I1.out _).mono ?_ | with_reducible refine (I2.out _).mono ?_ | with_reducible refine (I3.out _).mono ?_ | with_reducible refine (I4.out _).mono ?_); rintro e w2 ⟨rfl, rfl⟩) | ((first | with_reducible refine at_load ?_ | ((with_reducible refine at_load_g ?_ ?_); (· rfl))); first | refine kl hM ?_ | refine kn hM ?_) | ((with_reducible refine at_store ?_); refine ks hM ?_; clear hM; intro wx hM) | ((with_reducible refine at_alloc ?_); refine kz hM ?_; clear hM; intro gx wx hM) | ((with_reducible refine at_box ?_); refine kb hM ?_; clear hM; intro gx wx hM))
    go_ret
    exact ⟨rfl, hM.below⟩
end Go.Proofs.YtlgkliafocbogaaDoor
