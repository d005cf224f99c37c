/- Contract of signer.Break for one signature that fits a key for two digests. -/
import Derived.Test.YtbbdnlcjjcmllaaDoorWk
import Derived.Test.YtbbdnlcjjcmllaaDoorXw
import Derived.Test.YtbbdnlcjjcmllaaDoorMcg
import Derived.Test.YtbbdnlcjjcmllaaDoorXx
import Derived.Deep.Cut
import Derived.Deep.CutRange
import Derived.Deep.CutBlock
import Derived.Deep.DeepCutAuto
namespace Go.Proofs.YtbbdnlcjjcmllaaDoor.Once
open Go Go.RowKit Go.Bul Go.Bul.Hp Go.Lin
theorem zero_ndH : ZeroTy Tryd.prog 41 16 (cellsOf .u8 (zeros 16)) := ⟨⟨.agg _, by kernel_rfl, rfl, zeros_size _ _⟩⟩
theorem zero_twoH : ZeroTy Tryd.prog 44 65 (twoC 0 (nd0, nd0) (nd0, nd0)) := ⟨⟨.agg _, by kernel_rfl, rfl, twoC_size _ _ _⟩⟩
theorem reads_blk {w : World} {g : Nat} {t : TypeId} {l : List Nat} (h : Blk w g t (cellsOf .u8 l)) : Go.Thg.Reads w 1 (some ⟨g, 0, none⟩) l.length (vals .u8 l) :=
  ⟨by simp, fun _ => ⟨g, 0, rfl, h.lt, fun j u hu => by
    have hj : j < l.length := by
      rcases Nat.lt_or_ge j l.length with h1 | h1
      · exact h1
      · rw [List.getElem?_eq_none (by rw [vals_length]; exact h1)] at hu; cases hu
    have := h.num (k := .u8) (l := l) (i := 0 + j) (by omega)
    rw [this]
    simp only [vals, List.getElem?_map, List.getElem?_eq_getElem hj, Option.map_some, Option.some.injEq] at hu
    rw [← hu]
    simp [List.getD, hj]⟩⟩
theorem bld_brk0 (w : World) : (Instr.build 48 #[]).run Tryd.prog w = .ok (.agg (brC 0 twoZ evl0)) w := Hp.run_build_struct brk_struct brk_zero brk_places rfl w
theorem bld_brkT (T : Array Value) (hT : T.size = 65) (w : World) : (Instr.build 48 #[(0, .int .i64 1), (1, .agg T)]).run Tryd.prog w = .ok (.agg (brC 1 T.toList evl0)) w := by
  refine Hp.run_build_struct brk_struct brk_zero brk_places ?_ w
  show Instr.fill (brPlaces[·]?) (brC 0 twoZ evl0) [(0, .int .i64 1), (1, .agg T)] = _
  have l0 : evl0.length = 1156 := evl_len ok0
  rw [Hp.fill_cons (size := 1) rfl rfl (by rw [brC_size twoZ_len l0]; omega)]
  have e2 : (splice (brC 0 twoZ evl0).toList 0 (Value.cells (.int .i64 1)).toList).toArray = brC 1 twoZ evl0 := rfl
  rw [e2, Hp.fill_cons (size := 65) rfl (by exact hT) (by rw [brC_size twoZ_len l0]; omega)]
  have e3 : splice ([Value.int .i64 1] ++ (twoZ ++ evl0)) 1 T.toList = [Value.int .i64 1] ++ (T.toList ++ evl0) := mid_splice rfl (by rw [twoZ_len]; simpa using hT.symm)
  show Instr.fill _ (splice ([Value.int .i64 1] ++ (twoZ ++ evl0)) 1 T.toList).toArray [] = _
  rw [e3]
  rfl
/-- What a signature that fits a key leads to. -/
theorem fits_root {h k : Nat} {r d : Nd} {ch : Ch} {path : List Nd} (hv : verE (h : Nat) r d (k : Nat) ch h path = 0) (hl : path.length = h) (h1 : 1 ≤ h) (hh : h ≤ 8) (hk : k < 2 ^ h) : fromF (leafN (k : Int) (rcN k d ch).val) (k : Int) path = (r, 0) := by
  unfold verE at hv
  rw [if_neg (by rw [hE_ok h1 hh]; decide), if_neg (by rw [sgE_ok h1 hh hk]; decide)] at hv
  have hr : rootS (k : Int).toNat d ch path = r := by
    by_cases hq : (h : Int) = h ∧ rootS (k : Int).toNat d ch path = r
    · exact hq.2
    · rw [if_neg hq] at hv
      cases hv
  rw [Int.toNat_natCast] at hr
  unfold rootS fromF at hr
  unfold fromF
  have hp : (2 : Int) ^ path.length = ((2 ^ h : Nat) : Int) := by rw [hl]; simp
  rw [if_neg (by omega), if_neg (by rw [hp]; omega)] at hr ⊢
  rw [show climbs (k : Int) 0 (leafN (k : Int) (rcN k d ch).val) path = r from hr]
set_option maxRecDepth 20000 in
set_option maxHeartbeats 8000000 in
theorem break_same (k h : Nat) (ch : Ch) (path : List Nd) (r a b : Nd) (A : Option Addr) (c0 : Nat) (w : World) (hpl : path.length = h) (h1 : 1 ≤ h) (hh : h ≤ 8) (hk : k < 2 ^ h) (hva : verE (h : Nat) r a (k : Nat) ch h path = 0) (hvb : verE (h : Nat) r b (k : Nat) ch h path = 0) (hr : NIn w A h path) (hne : a ≠ b) (hT : Tab w) :
    Calls Tryd.prog 10 #[.agg (pubC (h : Nat) r), .agg (ndC a), .agg (sigC (k : Nat) ch A h c0), .agg (ndC b), .agg (sigC (k : Nat) ch A h c0)] w fun e w' =>
      (∃ V, e = .returned (.tuple #[.agg V, .int .i64 0]) ∧ Hid (BrOk k V)) ∧ Below w.heap.size w w' := by
  have hM := Mem.start [] w
  have hk2 : k ≤ 65535 := by have : 2 ^ h ≤ 2 ^ 8 := Nat.pow_le_pow_right (by decide) hh; omega
  have hvne : a.val ≠ b.val := fun h => hne (Nd.ext' h)
  have v1 := fun w' (hb : Below w.heap.size w w') => gver_any (h : Nat) r a (k : Nat) ch A h c0 path w' (hr.keep hb) (hT.keep hb)
  have v2 := fun w' (hb : Below w.heap.size w w') => gver_any (h : Nat) r b (k : Nat) ch A h c0 path w' (hr.keep hb) (hT.keep hb)
  rw [hva] at v1
  rw [hvb] at v2
  have f1 := fits_root hva hpl h1 hh hk
  have f2 := fits_root hvb hpl h1 hh hk
  have p1 := fun w' (hb : Below w.heap.size w w') => gpublic_any k ch A h c0 a w' hk2 (hT.keep hb)
  have p2 := fun w' (hb : Below w.heap.size w w') => gpublic_any k ch A h c0 b w' hk2 (hT.keep hb)
  have n1 := fun w' (hb : Below w.heap.size w w') => gnodes_any (k : Nat) ch A h c0 path w' (hr.keep hb) (by omega)
  have x1 := fun w' (hq : (rcN k a ch).val = (rcN k b ch).val) (hb : Below w.heap.size w w') => extract_ok a.val ch.val b.val ch.val k (k : Nat) w' a.len a.byt ch.len ch.byt b.len b.byt ch.len ch.byt (hT.keep hb) hk2 rfl hvne hq
  have HSP := Lib.hid (pubC_size (h : Nat) r)
  have HS1 := Lib.hid (sigC_size (k : Nat) ch A h c0)
  have H01 := Lib.hid (sigC_0 (k : Nat) ch A h c0)
  have HC1 := Lib.hid (sigC_c (k : Nat) ch A h c0)
  obtain ⟨R1, hR1⟩ : ∃ R, R = rcN k a ch := ⟨_, rfl⟩
  obtain ⟨R2, hR2⟩ : ∃ R, R = rcN k b ch := ⟨_, rfl⟩
  rw [← hR1] at p1 f1 x1
  rw [← hR2] at p2 f2 x1
  generalize sigC (k : Nat) ch A h c0 = Y1 at HS1 H01 HC1 v1 v2 p1 p2 n1 ⊢
  generalize pubC (h : Nat) r = P at HSP v1 v2 ⊢
  have hal := a.len
  have hbl := b.len
  have hr1z : (cellsOf .u8 R1.val).size = 16 := by rw [cellsOf_size, R1.len]
  have hr2z : (cellsOf .u8 R2.val).size = 16 := by rw [cellsOf_size, R2.len]
  have hR1l := R1.len
  have hR2l := R2.len
  obtain ⟨E0, hE0⟩ : ∃ E : List Value, E = evl0 := ⟨_, rfl⟩
  have ED : Hid (∀ W, (Op.equalIn 10000 23 (.agg (cellsOf .u8 a.val)) (.agg (cellsOf .u8 b.val))).run Tryd.prog W = .ok false W) := Lib.hid fun W => by rw [eq_b16 a.val b.val hal hbl]; simp [hvne]
  have V1 := Lib.hid v1
  have V2 := Lib.hid v2
  have P1 := Lib.hid p1
  have P2 := Lib.hid p2
  have N1 := Lib.hid n1
  have X1 := Lib.hid x1
  have HT := Lib.hid hT
  have HF12 := Lib.hid (And.intro f1 f2)
  have HK := Lib.hid (And.intro hk2 hpl)
  have HH8 := Lib.hid hh
  clear v1 v2 p1 p2 n1 x1 hvne hT hr h1 hh hk hne hva hvb f1 f2 hk2 hpl hR1 hR2
  show Calls _ _ #[.agg P, .agg (cellsOf .u8 a.val), .agg Y1, .agg (cellsOf .u8 b.val), .agg Y1] w _
  by_cases hq : R1.val = R2.val
  · have EQ : Hid (∀ W, (Op.equalIn 10000 23 (.agg (cellsOf .u8 R1.val)) (.agg (cellsOf .u8 R2.val))).run Tryd.prog W = .ok true W) := Lib.hid fun W => by rw [eq_b16 _ _ hR1l hR2l]; simp [hq]
    have HQ := Lib.hid hq
    clear hq
    go_enter Tryd.func10, Tryd.ntmps10
    go_wp2_with (first | ((with_reducible refine at_box ?_); first | (refine wpList_mem_box hM rfl _ _ (by rfl) _ (by rfl) _ row_pubH HSP.out ?_; clear hM; intro gx wx hM) | (refine wpList_mem_box hM rfl _ _ (by rfl) _ (by rfl) _ row_sgnH HS1.out ?_; clear hM; intro gx wx hM)) | ((with_reducible refine at_alloc ?_); refine wpList_mem_zero hM rfl _ (by rfl) _ _ zero_brkH ?_; clear hM; intro gx wx hM) | ((with_reducible refine at_load ?_); first | refine wpList_mem_load hM rfl _ _ (by rfl) _ (by rfl) _ _ _ (by repeat (first | exact List.Mem.head _ | apply List.Mem.tail)) row_pubH ?_ | refine wpList_mem_load hM rfl _ _ (by rfl) _ (by rfl) _ _ _ (by repeat (first | exact List.Mem.head _ | apply List.Mem.tail)) row_sgnH ?_) | ((first | with_reducible refine at_load ?_ | ((with_reducible refine at_load_g ?_ ?_); (· rfl))); first | refine kll hM ?_ | refine kln hM ?_) | ((with_reducible refine at_store ?_); (first | refine klw hM ?_ | refine kls hM ?_); clear hM; intro wx hM) | ((with_reducible refine at_alloc ?_); refine klz hM ?_; clear hM; intro gx wx hM) | ((with_reducible refine at_box ?_); refine klb hM ?_; clear hM; intro gx wx hM))
    (refine (V1.out _ hM.below).mono ?_)
    rintro e w1 ⟨rfl, hb1⟩
    replace hM := hM.step hb1
    clear hb1
    go_wp2_with (first | ((with_reducible refine at_load ?_); first | refine wpList_mem_load hM rfl _ _ (by rfl) _ (by rfl) _ _ _ (by repeat (first | exact List.Mem.head _ | apply List.Mem.tail)) row_pubH ?_ | refine wpList_mem_load hM rfl _ _ (by rfl) _ (by rfl) _ _ _ (by repeat (first | exact List.Mem.head _ | apply List.Mem.tail)) row_sgnH ?_) | ((first | with_reducible refine at_load ?_ | ((with_reducible refine at_load_g ?_ ?_); (· rfl))); first | refine kll hM ?_ | refine kln hM ?_) | ((with_reducible refine at_store ?_); (first | refine klw hM ?_ | refine kls hM ?_); clear hM; intro wx hM) | ((with_reducible refine at_alloc ?_); refine klz hM ?_; clear hM; intro gx wx hM) | ((with_reducible refine at_box ?_); refine klb hM ?_; clear hM; intro gx wx hM))
    (refine (V2.out _ hM.below).mono ?_)
    rintro e w1 ⟨rfl, hb1⟩
    replace hM := hM.step hb1
    clear hb1
    have eD := ED.out
    go_wp2_with (first | ((with_reducible refine at_load ?_); first | refine wpList_mem_cell hM rfl _ _ (by rfl) _ _ (by rfl) _ _ _ (by repeat (first | exact List.Mem.head _ | apply List.Mem.tail)) one_int _ H01.out ?_ | refine wpList_mem_load hM rfl _ _ (by rfl) _ (by rfl) _ _ _ (by repeat (first | exact List.Mem.head _ | apply List.Mem.tail)) row_sgnH ?_) | ((first | with_reducible refine at_load ?_ | ((with_reducible refine at_load_g ?_ ?_); (· rfl))); first | refine kll hM ?_ | refine kln hM ?_) | ((with_reducible refine at_store ?_); (first | refine klw hM ?_ | refine kls hM ?_); clear hM; intro wx hM) | ((with_reducible refine at_alloc ?_); refine klz hM ?_; clear hM; intro gx wx hM) | ((with_reducible refine at_box ?_); refine klb hM ?_; clear hM; intro gx wx hM))
    clear eD
    refine wp_region_allHB hM (by kernel_rfl) ?_
    clear hM
    intro wd hM
    have HM0 := Lib.hid hM
    have hS := Below.refl wd.heap.size wd
    refine wpAllH_takes [0, 1, 3, 4] (by kernel_rfl) (fun _ _ _ _ _ h => h) hS (by kernel_rfl) ?_
    simp only [pickOps, List.filterMap_cons, List.filterMap_nil, List.getElem?_cons_zero, List.getElem?_cons_succ]
    repeat ((with_reducible apply wpHeld_step); (· rfl); (· (intro wq hSw; first | (go_simp; rfl) | (have hM' := HM0.out.step hSw; first | exact yields_load (C := fun _ => True) (nqc hM') rfl | exact yields_load (C := fun _ => True) (nql hM') rfl | exact yields_load (C := fun _ => True) (nqp hM') rfl | exact yields_load (C := fun _ => True) (nql hM' (hty := row_sgnH)) rfl))); intro K hK; go_simp; (with_reducible refine hK _ ?_); clear hK K)
    refine wpHeld_nil ?_
    refine wpAllH_floats hS [⟨2, 50, 27, #[.tmp 48, .tmp 49], #[.agg Y1, .agg (cellsOf .u8 a.val)], .agg (cellsOf .u8 R1.val)⟩, ⟨5, 53, 27, #[.tmp 51, .tmp 52], #[.agg Y1, .agg (cellsOf .u8 b.val)], .agg (cellsOf .u8 R2.val)⟩] 6 7 8 9 14 15 50 53 ?_ rfl ⟨rfl, rfl, rfl⟩ rfl ⟨rfl, rfl, rfl⟩ rfl ⟨rfl, rfl, rfl⟩ rfl ⟨rfl, rfl, rfl⟩ (by kernel_rfl) (by kernel_rfl) (by kernel_rfl) (by kernel_rfl) (by simp) (by simp) (by simp) (by kernel_rfl) (by kernel_rfl) (.inl ⟨_, List.mem_cons_self, rfl, rfl, by kernel_rfl⟩) (.inl ⟨_, List.mem_cons_of_mem _ List.mem_cons_self, rfl, rfl, by kernel_rfl⟩) zero_a16 zero_a16 row_a16 row_a16 hr1z hr2z (vals_one _ _) (vals_one _ _) ?_
    · intro t ht
      simp only [List.mem_cons, List.not_mem_nil, or_false] at ht
      rcases ht with rfl | rfl
      · exact ⟨⟨_, _, rfl, rfl, rfl, rfl⟩, by kernel_rfl, (by simp only [List.map_toArray, List.map_cons, List.map_nil]; rfl), Tryd.call27, fun w' hb => P1.out _ (Below.step hM.below hb)⟩
      · exact ⟨⟨_, _, rfl, rfl, rfl, rfl⟩, by kernel_rfl, (by simp only [List.map_toArray, List.map_cons, List.map_nil]; rfl), Tryd.call27, fun w' hb => P2.out _ (Below.step hM.below hb)⟩
    intro g14 g15 wx hF
    replace hM := hM.frame hF
    simp only [List.cons_append, List.nil_append] at hM
    clear hS HM0 hF
    simp only [List.foldl_cons, List.foldl_nil]
    go_simp
    have eQ := EQ.out
    go_wp2_with (first | ((with_reducible refine at_load ?_); first | refine wpList_mem_cell hM rfl _ _ (by rfl) _ _ (by rfl) _ _ _ (by repeat (first | exact List.Mem.head _ | apply List.Mem.tail)) one_int _ H01.out ?_ | refine wpList_mem_part hM rfl _ _ (by rfl) _ _ (by rfl) _ _ _ (by repeat (first | exact List.Mem.head _ | apply List.Mem.tail)) 560 row_e35 (by omega) _ HC1.out ?_) | ((first | with_reducible refine at_load ?_ | ((with_reducible refine at_load_g ?_ ?_); (· rfl))); first | refine kll hM ?_ | refine kln hM ?_) | ((with_reducible refine at_store ?_); (first | refine klw hM ?_ | refine kls hM ?_); clear hM; intro wx hM) | ((with_reducible refine at_alloc ?_); refine klz hM ?_; clear hM; intro gx wx hM) | ((with_reducible refine at_box ?_); refine klb hM ?_; clear hM; intro gx wx hM))
    (refine (X1.out _ HQ.out hM.below).mono ?_)
    rintro e w1 ⟨k', c', f', t', A', B', X', Y', hG, rfl, hb1⟩
    replace hM := hM.step hb1
    clear hb1 eQ
    have HB := Lib.hid (bld_brk k' c' f' t' A' B' X' Y' hG.ok)
    have hsz := evc_size (k := k') (c := c') (f := f') (t := t') hG.ok
    have HO : Hid (BrOk k (brC 2 twoZ (evl k' c' f' t' A' B' X' Y'))) := Lib.hid (.inl ⟨_, _, _, _, _, _, _, _, hG, rfl⟩)
    generalize brC 2 twoZ (evl k' c' f' t' A' B' X' Y') = V at HB HO
    clear hG
    go_wp2_with (first | ((with_reducible refine at_build ?_); refine wpList_build_run rfl _ _ (by rfl) _ (by first | rfl | (simp; done) | (simp; and_intros <;> rfl)) _ (HB.out _) ?_) | ((with_reducible refine at_store ?_); refine wpList_mem_store hM rfl _ _ _ (by rfl) _ (by rfl) _ (by rfl) _ _ _ _ (by repeat (first | exact UpdL.head _ _ _ _ _ | apply UpdL.tail)) row_brkH HO.out.size HO.out.one rfl ?_; clear hM; intro wx hM) | ((first | with_reducible refine at_load ?_ | ((with_reducible refine at_load_g ?_ ?_); (· rfl))); first | refine kll hM ?_ | refine kln hM ?_) | ((with_reducible refine at_store ?_); (first | refine klw hM ?_ | refine kls hM ?_); clear hM; intro wx hM) | ((with_reducible refine at_alloc ?_); refine klz hM ?_; clear hM; intro gx wx hM) | ((with_reducible refine at_box ?_); refine klb hM ?_; clear hM; intro gx wx hM))
    exact bodyPost_ret (results_mem_cell_tmp hM rfl (by rfl) (by repeat (first | exact List.Mem.head _ | apply List.Mem.tail)) row_brkH (by rfl)) rfl ⟨⟨_, rfl, HO⟩, hM.below⟩
  · have EQ : Hid (∀ W, (Op.equalIn 10000 23 (.agg (cellsOf .u8 R1.val)) (.agg (cellsOf .u8 R2.val))).run Tryd.prog W = .ok false W) := Lib.hid fun W => by rw [eq_b16 _ _ hR1l hR2l]; simp [hq]
    clear hq
    go_enter Tryd.func10, Tryd.ntmps10
    go_wp2_with (first | ((with_reducible refine at_box ?_); first | (refine wpList_mem_box hM rfl _ _ (by rfl) _ (by rfl) _ row_pubH HSP.out ?_; clear hM; intro gx wx hM) | (refine wpList_mem_box hM rfl _ _ (by rfl) _ (by rfl) _ row_sgnH HS1.out ?_; clear hM; intro gx wx hM)) | ((with_reducible refine at_alloc ?_); refine wpList_mem_zero hM rfl _ (by rfl) _ _ zero_brkH ?_; clear hM; intro gx wx hM) | ((with_reducible refine at_load ?_); first | refine wpList_mem_load hM rfl _ _ (by rfl) _ (by rfl) _ _ _ (by repeat (first | exact List.Mem.head _ | apply List.Mem.tail)) row_pubH ?_ | refine wpList_mem_load hM rfl _ _ (by rfl) _ (by rfl) _ _ _ (by repeat (first | exact List.Mem.head _ | apply List.Mem.tail)) row_sgnH ?_) | ((first | with_reducible refine at_load ?_ | ((with_reducible refine at_load_g ?_ ?_); (· rfl))); first | refine kll hM ?_ | refine kln hM ?_) | ((with_reducible refine at_store ?_); (first | refine klw hM ?_ | refine kls hM ?_); clear hM; intro wx hM) | ((with_reducible refine at_alloc ?_); refine klz hM ?_; clear hM; intro gx wx hM) | ((with_reducible refine at_box ?_); refine klb hM ?_; clear hM; intro gx wx hM))
    (refine (V1.out _ hM.below).mono ?_)
    rintro e w1 ⟨rfl, hb1⟩
    replace hM := hM.step hb1
    clear hb1
    go_wp2_with (first | ((with_reducible refine at_load ?_); first | refine wpList_mem_load hM rfl _ _ (by rfl) _ (by rfl) _ _ _ (by repeat (first | exact List.Mem.head _ | apply List.Mem.tail)) row_pubH ?_ | refine wpList_mem_load hM rfl _ _ (by rfl) _ (by rfl) _ _ _ (by repeat (first | exact List.Mem.head _ | apply List.Mem.tail)) row_sgnH ?_) | ((first | with_reducible refine at_load ?_ | ((with_reducible refine at_load_g ?_ ?_); (· rfl))); first | refine kll hM ?_ | refine kln hM ?_) | ((with_reducible refine at_store ?_); (first | refine klw hM ?_ | refine kls hM ?_); clear hM; intro wx hM) | ((with_reducible refine at_alloc ?_); refine klz hM ?_; clear hM; intro gx wx hM) | ((with_reducible refine at_box ?_); refine klb hM ?_; clear hM; intro gx wx hM))
    (refine (V2.out _ hM.below).mono ?_)
    rintro e w1 ⟨rfl, hb1⟩
    replace hM := hM.step hb1
    clear hb1
    have eD := ED.out
    go_wp2_with (first | ((with_reducible refine at_load ?_); first | refine wpList_mem_cell hM rfl _ _ (by rfl) _ _ (by rfl) _ _ _ (by repeat (first | exact List.Mem.head _ | apply List.Mem.tail)) one_int _ H01.out ?_ | refine wpList_mem_load hM rfl _ _ (by rfl) _ (by rfl) _ _ _ (by repeat (first | exact List.Mem.head _ | apply List.Mem.tail)) row_sgnH ?_) | ((first | with_reducible refine at_load ?_ | ((with_reducible refine at_load_g ?_ ?_); (· rfl))); first | refine kll hM ?_ | refine kln hM ?_) | ((with_reducible refine at_store ?_); (first | refine klw hM ?_ | refine kls hM ?_); clear hM; intro wx hM) | ((with_reducible refine at_alloc ?_); refine klz hM ?_; clear hM; intro gx wx hM) | ((with_reducible refine at_box ?_); refine klb hM ?_; clear hM; intro gx wx hM))
    clear eD
    refine wp_region_allHB hM (by kernel_rfl) ?_
    clear hM
    intro wd hM
    have HM0 := Lib.hid hM
    have hS := Below.refl wd.heap.size wd
    refine wpAllH_takes [0, 1, 3, 4] (by kernel_rfl) (fun _ _ _ _ _ h => h) hS (by kernel_rfl) ?_
    simp only [pickOps, List.filterMap_cons, List.filterMap_nil, List.getElem?_cons_zero, List.getElem?_cons_succ]
    repeat ((with_reducible apply wpHeld_step); (· rfl); (· (intro wq hSw; first | (go_simp; rfl) | (have hM' := HM0.out.step hSw; first | exact yields_load (C := fun _ => True) (nqc hM') rfl | exact yields_load (C := fun _ => True) (nql hM') rfl | exact yields_load (C := fun _ => True) (nqp hM') rfl | exact yields_load (C := fun _ => True) (nql hM' (hty := row_sgnH)) rfl))); intro K hK; go_simp; (with_reducible refine hK _ ?_); clear hK K)
    refine wpHeld_nil ?_
    refine wpAllH_floats hS [⟨2, 50, 27, #[.tmp 48, .tmp 49], #[.agg Y1, .agg (cellsOf .u8 a.val)], .agg (cellsOf .u8 R1.val)⟩, ⟨5, 53, 27, #[.tmp 51, .tmp 52], #[.agg Y1, .agg (cellsOf .u8 b.val)], .agg (cellsOf .u8 R2.val)⟩] 6 7 8 9 14 15 50 53 ?_ rfl ⟨rfl, rfl, rfl⟩ rfl ⟨rfl, rfl, rfl⟩ rfl ⟨rfl, rfl, rfl⟩ rfl ⟨rfl, rfl, rfl⟩ (by kernel_rfl) (by kernel_rfl) (by kernel_rfl) (by kernel_rfl) (by simp) (by simp) (by simp) (by kernel_rfl) (by kernel_rfl) (.inl ⟨_, List.mem_cons_self, rfl, rfl, by kernel_rfl⟩) (.inl ⟨_, List.mem_cons_of_mem _ List.mem_cons_self, rfl, rfl, by kernel_rfl⟩) zero_a16 zero_a16 row_a16 row_a16 hr1z hr2z (vals_one _ _) (vals_one _ _) ?_
    · intro t ht
      simp only [List.mem_cons, List.not_mem_nil, or_false] at ht
      rcases ht with rfl | rfl
      · exact ⟨⟨_, _, rfl, rfl, rfl, rfl⟩, by kernel_rfl, (by simp only [List.map_toArray, List.map_cons, List.map_nil]; rfl), Tryd.call27, fun w' hb => P1.out _ (Below.step hM.below hb)⟩
      · exact ⟨⟨_, _, rfl, rfl, rfl, rfl⟩, by kernel_rfl, (by simp only [List.map_toArray, List.map_cons, List.map_nil]; rfl), Tryd.call27, fun w' hb => P2.out _ (Below.step hM.below hb)⟩
    intro g14 g15 wx hF
    replace hM := hM.frame hF
    simp only [List.cons_append, List.nil_append] at hM
    clear hS HM0 hF
    simp only [List.foldl_cons, List.foldl_nil]
    go_simp
    have eQ := EQ.out
    go_wp2_with (first | ((with_reducible refine at_load ?_); first | refine wpList_mem_cell hM rfl _ _ (by rfl) _ _ (by rfl) _ _ _ (by repeat (first | exact List.Mem.head _ | apply List.Mem.tail)) one_int _ H01.out ?_ | refine wpList_mem_part hM rfl _ _ (by rfl) _ _ (by rfl) _ _ _ (by repeat (first | exact List.Mem.head _ | apply List.Mem.tail)) 560 row_e35 (by omega) _ HC1.out ?_) | ((first | with_reducible refine at_load ?_ | ((with_reducible refine at_load_g ?_ ?_); (· rfl))); first | refine kll hM ?_ | refine kln hM ?_) | ((with_reducible refine at_store ?_); (first | refine klw hM ?_ | refine kls hM ?_); clear hM; intro wx hM) | ((with_reducible refine at_alloc ?_); refine klz hM ?_; clear hM; intro gx wx hM) | ((with_reducible refine at_box ?_); refine klb hM ?_; clear hM; intro gx wx hM))
    clear eQ
    obtain ⟨x1, hx1⟩ : ∃ x, x = leafN (k : Int) R1.val := ⟨_, rfl⟩
    obtain ⟨x2, hx2⟩ : ∃ x, x = leafN (k : Int) R2.val := ⟨_, rfl⟩
    have hf1 := HF12.out.1
    have hf2 := HF12.out.2
    rw [← hx1] at hf1
    rw [← hx2] at hf2
    have cs := coll_says rfl hf1 hf2
    have lf1 := fun g w' (hr : Go.Thg.Reads w' 1 (some ⟨g, 0, none⟩) 16 (vals .u8 R1.val)) (hb : Below w.heap.size w w') => leaf_any (k : Nat) (some ⟨g, 0, none⟩) 16 16 R1.val w' hr R1.byt (by omega) (HT.out.keep hb)
    have lf2 := fun g w' (hr : Go.Thg.Reads w' 1 (some ⟨g, 0, none⟩) 16 (vals .u8 R2.val)) (hb : Below w.heap.size w w') => leaf_any (k : Nat) (some ⟨g, 0, none⟩) 16 16 R2.val w' hr R2.byt (by omega) (HT.out.keep hb)
    rw [← hx1] at lf1
    rw [← hx2] at lf2
    have LF1 := Lib.hid lf1
    have LF2 := Lib.hid lf2
    have co := fun A1 c1 A2 c2 w' (n1 : NIn w' A1 h path) (n2 : NIn w' A2 h path) (hb : Below w.heap.size w w') => coll_any (k : Nat) x1 A1 h c1 path x2 A2 h c2 path w' n1 n2 (by have := HH8.out; omega) (by have := HH8.out; omega) (HT.out.keep hb)
    have hT1 := twoO_size (pairsF (k : Int) 0 x1 path) (pairsF (k : Int) 0 x2 path) (collO (k : Int) x1 path x2 path)
    have hT2 := twoO_one (pairsF (k : Int) 0 x1 path) (pairsF (k : Int) 0 x2 path) (collO (k : Int) x1 path x2 path)
    have hT3 : (collO (k : Int) x1 path x2 path).isSome = true → BrOk k (brC 1 (twoO (pairsF (k : Int) 0 x1 path) (pairsF (k : Int) 0 x2 path) (collO (k : Int) x1 path x2 path)).toList evl0) := fun hsome => by
      cases hch : chgB (!decide (x2 = x1)) path path path.length
      · rw [cs.1 hch] at hsome
        cases hsome
      · obtain ⟨lev, p, q, _, htw, hpq, hj⟩ := cs.2 hch
        rw [htw]
        exact .inr (.inl ⟨lev, p, q, hpq, hj, rfl⟩)
    generalize twoO (pairsF (k : Int) 0 x1 path) (pairsF (k : Int) 0 x2 path) (collO (k : Int) x1 path x2 path) = T at co hT1 hT2 hT3
    generalize (collO (k : Int) x1 path x2 path).isSome = q at co hT3
    have CO := Lib.hid co
    have HTS := Lib.hid hT1
    have HTO := Lib.hid hT2
    have HT3 := Lib.hid hT3
    have hx1z : (cellsOf .u8 x1.val).size = 16 := by rw [cellsOf_size, x1.len]
    have hx2z : (cellsOf .u8 x2.val).size = 16 := by rw [cellsOf_size, x2.len]
    clear lf1 lf2 co hT1 hT2 hT3 cs hf1 hf2 hx1 hx2
    refine wp_region_allHB hM (by kernel_rfl) ?_
    clear hM
    intro wd hM
    have HM0 := Lib.hid hM
    have hS := Below.refl wd.heap.size wd
    have rd1 := reads_blk (hM.blk (b := ⟨g14, 23, 16, cellsOf .u8 R1.val⟩) (List.Mem.head _))
    have rd2 := reads_blk (hM.blk (b := ⟨g15, 23, 16, cellsOf .u8 R2.val⟩) (List.Mem.tail _ (List.Mem.head _)))
    rw [hR1l] at rd1
    rw [hR2l] at rd2
    have RD1 := Lib.hid rd1
    have RD2 := Lib.hid rd2
    clear rd1 rd2
    refine wpAllH_takes [0, 2, 4, 6, 1, 5] (by kernel_rfl) (fun _ _ _ _ _ h => h) hS (by kernel_rfl) ?_
    simp only [pickOps, List.filterMap_cons, List.filterMap_nil, List.getElem?_cons_zero, List.getElem?_cons_succ]
    repeat ((with_reducible apply wpHeld_step); (· rfl); (· (intro wq hSw; first | (go_simp; rfl) | (have hM' := HM0.out.step hSw; first | exact yields_load (C := fun _ => True) (nqc hM') rfl | exact yields_load (C := fun _ => True) (nql hM') rfl | exact yields_load (C := fun _ => True) (nqp hM') rfl | exact yields_load (C := fun _ => True) (nqc hM' (hv := H01.out)) rfl))); intro K hK; go_simp; (with_reducible refine hK _ ?_); clear hK K)
    refine wpHeld_nil ?_
    refine wpAllH_floats hS [⟨3, 78, 29, #[.tmp 76, .tmp 77], #[.int .i64 (k : Nat), .slice (some ⟨g14, 0, none⟩) 16 16], .agg (cellsOf .u8 x1.val)⟩, ⟨7, 82, 29, #[.tmp 80, .tmp 81], #[.int .i64 (k : Nat), .slice (some ⟨g15, 0, none⟩) 16 16], .agg (cellsOf .u8 x2.val)⟩] 8 9 10 11 18 19 78 82 ?_ rfl ⟨rfl, rfl, rfl⟩ rfl ⟨rfl, rfl, rfl⟩ rfl ⟨rfl, rfl, rfl⟩ rfl ⟨rfl, rfl, rfl⟩ (by kernel_rfl) (by kernel_rfl) (by kernel_rfl) (by kernel_rfl) (by simp) (by simp) (by simp) (by kernel_rfl) (by kernel_rfl) (.inl ⟨_, List.mem_cons_self, rfl, rfl, by kernel_rfl⟩) (.inl ⟨_, List.mem_cons_of_mem _ List.mem_cons_self, rfl, rfl, by kernel_rfl⟩) zero_ndH zero_ndH row_ndH row_ndH hx1z hx2z (vals_one _ _) (vals_one _ _) ?_
    · intro t ht
      simp only [List.mem_cons, List.not_mem_nil, or_false] at ht
      rcases ht with rfl | rfl
      · exact ⟨⟨_, _, rfl, rfl, rfl, rfl⟩, by kernel_rfl, (by simp only [List.map_toArray, List.map_cons, List.map_nil]; rfl), Tryd.call29, fun w' hb => LF1.out g14 w' (RD1.out.keep hb) (Below.step hM.below hb)⟩
      · exact ⟨⟨_, _, rfl, rfl, rfl, rfl⟩, by kernel_rfl, (by simp only [List.map_toArray, List.map_cons, List.map_nil]; rfl), Tryd.call29, fun w' hb => LF2.out g15 w' (RD2.out.keep hb) (Below.step hM.below hb)⟩
    intro g18 g19 wx hF
    replace hM := hM.frame hF
    simp only [List.cons_append, List.nil_append] at hM
    clear hS HM0 hF RD1 RD2 LF1 LF2
    simp only [List.foldl_cons, List.foldl_nil]
    go_simp
    go_upto_region 18 with fail
    obtain ⟨gB, rfl⟩ := hM.name5
    obtain ⟨g9, rfl⟩ := hM.name6
    obtain ⟨g7, rfl⟩ := hM.name8
    replace hM := hM.subL (L' := [⟨g18, 41, 16, cellsOf .u8 x1.val⟩, ⟨g19, 41, 16, cellsOf .u8 x2.val⟩, ⟨gB, 48, 1222, brC 0 twoZ evl0⟩, ⟨g9, 37, 562, Y1⟩, ⟨g7, 37, 562, Y1⟩]) (by repeat (first | exact List.Sublist.refl _ | exact List.nil_sublist _ | apply List.Sublist.cons_cons | apply List.Sublist.cons))
    go_cut [20, 21] (fun u20 u21 wc => ∃ g : Nat, u20 = .pointer (some ⟨g, 0, none⟩) ∧ u21 = .bool q ∧ Mem [] w [⟨g, 44, 65, T⟩, ⟨g18, 41, 16, cellsOf .u8 x1.val⟩, ⟨g19, 41, 16, cellsOf .u8 x2.val⟩, ⟨gB, 48, 1222, brC 0 twoZ evl0⟩, ⟨g9, 37, 562, Y1⟩, ⟨g7, 37, 562, Y1⟩] [] wc)
    case first =>
      refine wp_region_allHB hM (by kernel_rfl) ?_
      clear hM
      intro wd hM
      have HM0 := Lib.hid hM
      have hS := Below.refl wd.heap.size wd
      refine wpAllH_takes [0, 1, 2, 3, 5, 6] (by kernel_rfl) (fun _ _ _ _ _ h => h) hS (by kernel_rfl) ?_
      simp only [pickOps, List.filterMap_cons, List.filterMap_nil, List.getElem?_cons_zero, List.getElem?_cons_succ]
      repeat ((with_reducible apply wpHeld_step); (· rfl); (· (intro wq hSw; first | (go_simp; rfl) | (have hM' := HM0.out.step hSw; first | exact yields_load (C := fun _ => True) (nqc hM') rfl | exact yields_load (C := fun _ => True) (nql hM') rfl | exact yields_load (C := fun _ => True) (nqp hM') rfl | first | exact yields_load (C := fun _ => True) (nqc hM' (hv := H01.out)) rfl | exact yields_load (C := fun _ => True) (nql hM' (hty := row_ndH)) rfl | exact yields_load (C := fun _ => True) (nql hM' (hty := row_sgnH)) rfl))); intro K hK; go_simp; (with_reducible refine hK _ ?_); clear hK K)
      refine wpHeld_nil ?_
      refine wpAllH_two 4 12 rfl rfl (by kernel_rfl) ?_ ?_
      · go_wp2_with fail
        refine (N1.out _ (Below.step hM.below hS)).mono ?_
        rintro e w1 ⟨B1, c1, rfl, hb1⟩
        go_wp2_with fail
        replace hS := Below.step hS hb1.kept.below
        have n1 := ndT_in hb1.holds
        clear hb1
        refine then_normal ⟨hS, ?_⟩
        refine wpAllH_two 7 12 rfl rfl (by kernel_rfl) ?_ ?_
        · go_wp2_with fail
          refine (N1.out _ (Below.step hM.below hS)).mono ?_
          rintro e w1 ⟨B2, c2, rfl, hb1⟩
          go_wp2_with fail
          replace hS := Below.step hS hb1.kept.below
          have n2 := ndT_in hb1.holds
          replace n1 := n1.keep hb1.kept.below
          clear hb1
          refine then_normal ⟨hS, ?_⟩
          refine wpAllH_two 8 12 rfl rfl (by kernel_rfl) ?_ ?_
          · go_wp2_with fail
            refine (CO.out _ _ _ _ _ n1 n2 (Below.step hM.below hS)).mono ?_
            rintro e w1 ⟨rfl, hb1⟩
            go_wp2_with fail
            replace hS := Below.step hS hb1
            clear hb1
            refine then_normal ⟨hS, ?_⟩
            refine wpAllH_takes [9, 10, 11] (by kernel_rfl) (fun _ _ _ _ _ h => h) hS (by kernel_rfl) ?_
            simp only [pickOps, List.filterMap_cons, List.filterMap_nil, List.getElem?_cons_zero, List.getElem?_cons_succ]
            repeat ((with_reducible apply wpHeld_step); (· rfl); (· (intro wq hSw; first | (go_simp; rfl) | (have hM' := HM0.out.step hSw; first | exact yields_load (C := fun _ => True) (nqc hM') rfl | exact yields_load (C := fun _ => True) (nql hM') rfl | exact yields_load (C := fun _ => True) (nqp hM') rfl | fail))); intro K hK; go_simp; (with_reducible refine hK _ ?_); clear hK K)
            refine wpHeld_nil ?_
            refine wpAllH_one 12 rfl (by kernel_rfl) ?_
            refine wpList_mem_zero (Mem.start [] _) rfl _ (by rfl) _ _ zero_twoH ?_
            intro gv wv hF0
            have hF := ((Mem.start [] wd).step hS).frame hF0
            simp only [List.append_nil] at hF
            (try replace n1 := n1.keep hF0.below)
            (try replace n2 := n2.keep hF0.below)
            clear hS hF0
            have hS := hF.below
            refine wpList_then ⟨hS, ?_⟩
            refine wpAllH_one 13 rfl (by kernel_rfl) ?_
            refine wpList_mem_store hF rfl _ _ _ (by rfl) _ (by rfl) _ (by rfl) _ _ _ _ (by repeat (first | exact UpdL.head _ _ _ _ _ | apply UpdL.tail)) row_twoH HTS.out HTO.out rfl ?_
            clear hF hS
            intro wz hF
            have hS := hF.below
            refine wpList_then ⟨hS, ?_⟩
            refine wpAllH_takes [14] (by kernel_rfl) (fun _ _ _ _ _ h => h) hS (by kernel_rfl) ?_
            simp only [pickOps, List.filterMap_cons, List.filterMap_nil, List.getElem?_cons_zero, List.getElem?_cons_succ]
            repeat ((with_reducible apply wpHeld_step); (· rfl); (· (intro wq hSw; first | (go_simp; rfl) | (have hM' := HM0.out.step hSw; first | exact yields_load (C := fun _ => True) (nqc hM') rfl | exact yields_load (C := fun _ => True) (nql hM') rfl | exact yields_load (C := fun _ => True) (nqp hM') rfl | fail))); intro K hK; go_simp; (with_reducible refine hK _ ?_); clear hK K)
            refine wpHeld_nil ?_
            refine wpAllH_done (by kernel_rfl) ?_
            go_wp2_with fail
            go_meet
            exact ⟨_, rfl, rfl, HM0.out.frame hF⟩
          · refine wpList_mem_zero (Mem.start [] _) rfl _ (by rfl) _ _ zero_twoH ?_
            intro gv wv hF0
            have hF := ((Mem.start [] wd).step hS).frame hF0
            simp only [List.append_nil] at hF
            (try replace n1 := n1.keep hF0.below)
            (try replace n2 := n2.keep hF0.below)
            clear hS hF0
            have hS := hF.below
            refine wpList_then ⟨hS, ?_⟩
            refine wpAllH_one 8 rfl (by kernel_rfl) ?_
            go_wp2_with fail
            refine (CO.out _ _ _ _ _ n1 n2 (Below.step hM.below hS)).mono ?_
            rintro e w1 ⟨rfl, hb1⟩
            go_wp2_with fail
            replace hF := hF.step hb1
            replace hS := hF.below
            clear hb1
            refine then_normal ⟨hS, ?_⟩
            refine wpAllH_takes [9, 10, 11] (by kernel_rfl) (fun _ _ _ _ _ h => h) hS (by kernel_rfl) ?_
            simp only [pickOps, List.filterMap_cons, List.filterMap_nil, List.getElem?_cons_zero, List.getElem?_cons_succ]
            repeat ((with_reducible apply wpHeld_step); (· rfl); (· (intro wq hSw; first | (go_simp; rfl) | (have hM' := HM0.out.step hSw; first | exact yields_load (C := fun _ => True) (nqc hM') rfl | exact yields_load (C := fun _ => True) (nql hM') rfl | exact yields_load (C := fun _ => True) (nqp hM') rfl | fail))); intro K hK; go_simp; (with_reducible refine hK _ ?_); clear hK K)
            refine wpHeld_nil ?_
            refine wpAllH_one 13 rfl (by kernel_rfl) ?_
            refine wpList_mem_store hF rfl _ _ _ (by rfl) _ (by rfl) _ (by rfl) _ _ _ _ (by repeat (first | exact UpdL.head _ _ _ _ _ | apply UpdL.tail)) row_twoH HTS.out HTO.out rfl ?_
            clear hF hS
            intro wz hF
            have hS := hF.below
            refine wpList_then ⟨hS, ?_⟩
            refine wpAllH_takes [14] (by kernel_rfl) (fun _ _ _ _ _ h => h) hS (by kernel_rfl) ?_
            simp only [pickOps, List.filterMap_cons, List.filterMap_nil, List.getElem?_cons_zero, List.getElem?_cons_succ]
            repeat ((with_reducible apply wpHeld_step); (· rfl); (· (intro wq hSw; first | (go_simp; rfl) | (have hM' := HM0.out.step hSw; first | exact yields_load (C := fun _ => True) (nqc hM') rfl | exact yields_load (C := fun _ => True) (nql hM') rfl | exact yields_load (C := fun _ => True) (nqp hM') rfl | fail))); intro K hK; go_simp; (with_reducible refine hK _ ?_); clear hK K)
            refine wpHeld_nil ?_
            refine wpAllH_done (by kernel_rfl) ?_
            go_wp2_with fail
            go_meet
            exact ⟨_, rfl, rfl, HM0.out.frame hF⟩
        · refine wpList_mem_zero (Mem.start [] _) rfl _ (by rfl) _ _ zero_twoH ?_
          intro gv wv hF0
          have hF := ((Mem.start [] wd).step hS).frame hF0
          simp only [List.append_nil] at hF
          (try replace n1 := n1.keep hF0.below)
          (try replace n2 := n2.keep hF0.below)
          clear hS hF0
          have hS := hF.below
          refine wpList_then ⟨hS, ?_⟩
          refine wpAllH_one 7 rfl (by kernel_rfl) ?_
          go_wp2_with fail
          refine (N1.out _ (Below.step hM.below hS)).mono ?_
          rintro e w1 ⟨B2, c2, rfl, hb1⟩
          go_wp2_with fail
          replace hF := hF.step hb1.kept.below
          replace hS := hF.below
          have n2 := ndT_in hb1.holds
          replace n1 := n1.keep hb1.kept.below
          clear hb1
          refine then_normal ⟨hS, ?_⟩
          refine wpAllH_one 8 rfl (by kernel_rfl) ?_
          go_wp2_with fail
          refine (CO.out _ _ _ _ _ n1 n2 (Below.step hM.below hS)).mono ?_
          rintro e w1 ⟨rfl, hb1⟩
          go_wp2_with fail
          replace hF := hF.step hb1
          replace hS := hF.below
          clear hb1
          refine then_normal ⟨hS, ?_⟩
          refine wpAllH_takes [9, 10, 11] (by kernel_rfl) (fun _ _ _ _ _ h => h) hS (by kernel_rfl) ?_
          simp only [pickOps, List.filterMap_cons, List.filterMap_nil, List.getElem?_cons_zero, List.getElem?_cons_succ]
          repeat ((with_reducible apply wpHeld_step); (· rfl); (· (intro wq hSw; first | (go_simp; rfl) | (have hM' := HM0.out.step hSw; first | exact yields_load (C := fun _ => True) (nqc hM') rfl | exact yields_load (C := fun _ => True) (nql hM') rfl | exact yields_load (C := fun _ => True) (nqp hM') rfl | fail))); intro K hK; go_simp; (with_reducible refine hK _ ?_); clear hK K)
          refine wpHeld_nil ?_
          refine wpAllH_one 13 rfl (by kernel_rfl) ?_
          refine wpList_mem_store hF rfl _ _ _ (by rfl) _ (by rfl) _ (by rfl) _ _ _ _ (by repeat (first | exact UpdL.head _ _ _ _ _ | apply UpdL.tail)) row_twoH HTS.out HTO.out rfl ?_
          clear hF hS
          intro wz hF
          have hS := hF.below
          refine wpList_then ⟨hS, ?_⟩
          refine wpAllH_takes [14] (by kernel_rfl) (fun _ _ _ _ _ h => h) hS (by kernel_rfl) ?_
          simp only [pickOps, List.filterMap_cons, List.filterMap_nil, List.getElem?_cons_zero, List.getElem?_cons_succ]
          repeat ((with_reducible apply wpHeld_step); (· rfl); (· (intro wq hSw; first | (go_simp; rfl) | (have hM' := HM0.out.step hSw; first | exact yields_load (C := fun _ => True) (nqc hM') rfl | exact yields_load (C := fun _ => True) (nql hM') rfl | exact yields_load (C := fun _ => True) (nqp hM') rfl | fail))); intro K hK; go_simp; (with_reducible refine hK _ ?_); clear hK K)
          refine wpHeld_nil ?_
          refine wpAllH_done (by kernel_rfl) ?_
          go_wp2_with fail
          go_meet
          exact ⟨_, rfl, rfl, HM0.out.frame hF⟩
      · refine wpList_mem_zero (Mem.start [] _) rfl _ (by rfl) _ _ zero_twoH ?_
        intro gv wv hF0
        have hF := ((Mem.start [] wd).step hS).frame hF0
        simp only [List.append_nil] at hF
        (try replace n1 := n1.keep hF0.below)
        (try replace n2 := n2.keep hF0.below)
        clear hS hF0
        have hS := hF.below
        refine wpList_then ⟨hS, ?_⟩
        refine wpAllH_one 4 rfl (by kernel_rfl) ?_
        go_wp2_with fail
        refine (N1.out _ (Below.step hM.below hS)).mono ?_
        rintro e w1 ⟨B1, c1, rfl, hb1⟩
        go_wp2_with fail
        replace hF := hF.step hb1.kept.below
        replace hS := hF.below
        have n1 := ndT_in hb1.holds
        clear hb1
        refine then_normal ⟨hS, ?_⟩
        refine wpAllH_one 7 rfl (by kernel_rfl) ?_
        go_wp2_with fail
        refine (N1.out _ (Below.step hM.below hS)).mono ?_
        rintro e w1 ⟨B2, c2, rfl, hb1⟩
        go_wp2_with fail
        replace hF := hF.step hb1.kept.below
        replace hS := hF.below
        have n2 := ndT_in hb1.holds
        replace n1 := n1.keep hb1.kept.below
        clear hb1
        refine then_normal ⟨hS, ?_⟩
        refine wpAllH_one 8 rfl (by kernel_rfl) ?_
        go_wp2_with fail
        refine (CO.out _ _ _ _ _ n1 n2 (Below.step hM.below hS)).mono ?_
        rintro e w1 ⟨rfl, hb1⟩
        go_wp2_with fail
        replace hF := hF.step hb1
        replace hS := hF.below
        clear hb1
        refine then_normal ⟨hS, ?_⟩
        refine wpAllH_takes [9, 10, 11] (by kernel_rfl) (fun _ _ _ _ _ h => h) hS (by kernel_rfl) ?_
        simp only [pickOps, List.filterMap_cons, List.filterMap_nil, List.getElem?_cons_zero, List.getElem?_cons_succ]
        repeat ((with_reducible apply wpHeld_step); (· rfl); (· (intro wq hSw; first | (go_simp; rfl) | (have hM' := HM0.out.step hSw; first | exact yields_load (C := fun _ => True) (nqc hM') rfl | exact yields_load (C := fun _ => True) (nql hM') rfl | exact yields_load (C := fun _ => True) (nqp hM') rfl | fail))); intro K hK; go_simp; (with_reducible refine hK _ ?_); clear hK K)
        refine wpHeld_nil ?_
        refine wpAllH_one 13 rfl (by kernel_rfl) ?_
        refine wpList_mem_store hF rfl _ _ _ (by rfl) _ (by rfl) _ (by rfl) _ _ _ _ (by repeat (first | exact UpdL.head _ _ _ _ _ | apply UpdL.tail)) row_twoH HTS.out HTO.out rfl ?_
        clear hF hS
        intro wz hF
        have hS := hF.below
        refine wpList_then ⟨hS, ?_⟩
        refine wpAllH_takes [14] (by kernel_rfl) (fun _ _ _ _ _ h => h) hS (by kernel_rfl) ?_
        simp only [pickOps, List.filterMap_cons, List.filterMap_nil, List.getElem?_cons_zero, List.getElem?_cons_succ]
        repeat ((with_reducible apply wpHeld_step); (· rfl); (· (intro wq hSw; first | (go_simp; rfl) | (have hM' := HM0.out.step hSw; first | exact yields_load (C := fun _ => True) (nqc hM') rfl | exact yields_load (C := fun _ => True) (nql hM') rfl | exact yields_load (C := fun _ => True) (nqp hM') rfl | fail))); intro K hK; go_simp; (with_reducible refine hK _ ?_); clear hK K)
        refine wpHeld_nil ?_
        refine wpAllH_done (by kernel_rfl) ?_
        go_wp2_with fail
        go_meet
        exact ⟨_, rfl, rfl, HM0.out.frame hF⟩
    case rest =>
      obtain ⟨g, rfl, rfl, hM⟩ := hcut
      cases q
      · have EB : Hid (∀ W, (Instr.build 48 #[]).run Tryd.prog W = .ok (.agg (brC 0 twoZ E0)) W) := Lib.hid fun W => by rw [hE0]; exact bld_brk0 W
        have HO : Hid (BrOk k (brC 0 twoZ E0)) := Lib.hid (.inr (.inr (by rw [hE0])))
        generalize brC 0 twoZ E0 = V at EB HO
        go_wp2_with (first | ((with_reducible refine at_build ?_); refine wpList_build_run rfl _ _ (by rfl) _ (by first | rfl | (simp; done) | (simp; and_intros <;> rfl)) _ (EB.out _) ?_) | ((with_reducible refine at_store ?_); refine wpList_mem_store hM rfl _ _ _ (by rfl) _ (by rfl) _ (by rfl) _ _ _ _ (by repeat (first | exact UpdL.head _ _ _ _ _ | apply UpdL.tail)) row_brkH HO.out.size HO.out.one rfl ?_; clear hM; intro wx hM))
        exact bodyPost_ret (results_mem_cell_tmp hM rfl (by rfl) (by repeat (first | exact List.Mem.head _ | apply List.Mem.tail)) row_brkH (by rfl)) rfl ⟨⟨_, rfl, HO⟩, hM.below⟩
      · have EB := Lib.hid (bld_brkT T HTS.out)
        have HO := Lib.hid (HT3.out rfl)
        generalize brC 1 T.toList evl0 = V at EB HO
        go_wp2_with (first | ((with_reducible refine at_load ?_); refine wpList_mem_load hM rfl _ _ (by rfl) _ (by rfl) _ _ _ (by repeat (first | exact List.Mem.head _ | apply List.Mem.tail)) row_twoH ?_; (with_reducible refine at_build ?_); refine wpList_build_run rfl _ _ (by rfl) _ (by first | rfl | (simp; done) | (simp; and_intros <;> rfl)) _ (EB.out _) ?_) | ((with_reducible refine at_store ?_); refine wpList_mem_store hM rfl _ _ _ (by rfl) _ (by rfl) _ (by rfl) _ _ _ _ (by repeat (first | exact UpdL.head _ _ _ _ _ | apply UpdL.tail)) row_brkH HO.out.size HO.out.one rfl ?_; clear hM; intro wx hM))
        exact bodyPost_ret (results_mem_cell_tmp hM rfl (by rfl) (by repeat (first | exact List.Mem.head _ | apply List.Mem.tail)) row_brkH (by rfl)) rfl ⟨⟨_, rfl, HO⟩, hM.below⟩
end Go.Proofs.YtbbdnlcjjcmllaaDoor.Once
