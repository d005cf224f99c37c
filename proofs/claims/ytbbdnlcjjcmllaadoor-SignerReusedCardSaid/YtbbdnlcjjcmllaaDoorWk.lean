/- Contract of signer.Break where a leaf was used for two digests: the value that precedes another one. The walk of SignerReused. -/
import Derived.Test.YtbbdnlcjjcmllaaDoorWg
import Derived.Test.YtbbdnlcjjcmllaaDoorOExv
import Derived.Test.YtbbdnlcjjcmllaaDoorOExk
import Derived.Test.YtbbdnlcjjcmllaaDoorSbj
import Derived.Test.YtbbdnlcjjcmllaaDoorWi
import Derived.Test.YtbbdnlcjjcmllaaDoorSgs
namespace Go.Bul.Hp
open Go Go.RowKit
/-- The cells of what Break returns: kind, two pairs of nodes, evidence. -/
def brC (k : Int) (T E : List Value) : Array Value := (.int .i64 k :: (T ++ E)).toArray
/-- No pairs. -/
def twoZ : List Value := .int .i64 0 :: vals .u8 (zeros 64)
theorem twoZ_len : twoZ.length = 65 := by simp [twoZ]
theorem brC_size {k : Int} {T E : List Value} (hT : T.length = 65) (hE : E.length = 1156) : (brC k T E).size = 1222 := by simp [brC, hT, hE]
theorem brC_0 (k : Int) (T E : List Value) : (brC k T E)[0]? = some (.int .i64 k) := rfl
theorem brC_ev {k : Int} {T E : List Value} (hT : T.length = 65) (hE : E.length = 1156) : (brC k T E).extract 66 (66 + 1156) = E.toArray := by
  have e : (brC k T E) = ((Value.int .i64 k :: T) ++ (E ++ [])).toArray := by simp [brC]
  rw [e]
  exact mid_extract (by simp [hT]) hE
theorem brC_66 {k : Int} {T E : List Value} {u : Value} (hT : T.length = 65) : (brC k T (u :: E))[66]? = some u := by
  simp only [brC, List.getElem?_toArray, List.getElem?_cons_succ]
  rw [List.getElem?_append_right (by omega), hT]
  rfl
theorem brC_one {k : Int} {T E : List Value} (hT : ∀ v ∈ T, v.oneCell' = true) (hE : ∀ v ∈ E, v.oneCell' = true) : ∀ v ∈ (brC k T E).toList, v.oneCell' = true := by
  intro v hv
  rcases List.mem_cons.1 hv with rfl | hv
  · rfl
  · rcases List.mem_append.1 hv with hv | hv
    · exact hT v hv
    · exact hE v hv
theorem twoZ_one : ∀ v ∈ twoZ, v.oneCell' = true := by
  intro v hv
  rcases List.mem_cons.1 hv with rfl | hv
  · rfl
  · exact vals_one _ _ v hv
end Go.Bul.Hp
namespace Go.Proofs.YtbbdnlcjjcmllaaDoor.Once
open Go Go.RowKit Go.Bul Go.Bul.Hp Go.Lin
theorem row_pubH : RowTy Tryd.prog 30 17 := ⟨⟨_, Tryd.underlying30, rfl, by kernel_rfl⟩⟩
theorem row_sgnH : RowTy Tryd.prog 37 562 := ⟨⟨_, Tryd.underlying37, rfl, by kernel_rfl⟩⟩
theorem row_brkH : RowTy Tryd.prog 48 1222 := ⟨⟨_, Tryd.underlying48, rfl, by kernel_rfl⟩⟩
/-- The cells of no evidence. -/
abbrev evl0 : List Value := evl 0 0 0 0 (zeros 16) (zeros 16) (zeros 560) (zeros 560)
theorem evl_len {k c f t : Int} {A B F S : List Nat} (h : EvOk A B F S) : (evl k c f t A B F S).length = 1156 := by
  have := evc_size (k := k) (c := c) (f := f) (t := t) h
  simpa [evc] using this
set_option maxRecDepth 20000 in
theorem brk_zero : (Tryd.prog.info? 48).map (·.zero) = some (some (.agg (brC 0 twoZ evl0))) := by kernel_rfl
theorem zero_brkH : ZeroTy Tryd.prog 48 1222 (brC 0 twoZ evl0) := ⟨⟨.agg _, brk_zero, rfl, brC_size twoZ_len (evl_len ok0)⟩⟩
def brPlaces : Array (Nat × Nat) := #[(0, 1), (1, 65), (66, 1156)]
theorem brk_struct : Tryd.prog.underlying 48 = some (.struct (Tryd.prog.fieldsOf 48)) := by kernel_rfl
theorem brk_places (w : World) : (((Tryd.prog.fieldsOf 48).mapM fun f => do pure (f.offset, ← sizeOf f.type) : Sem (Array (Nat × Nat)))).run Tryd.prog w = .ok brPlaces w := by kernel_rfl
theorem bld_brk (k c f t : Int) (A B F S : List Nat) (h : EvOk A B F S) (w : World) : (Instr.build 48 #[(0, .int .i64 2), (2, .agg (evc k c f t A B F S))]).run Tryd.prog w = .ok (.agg (brC 2 twoZ (evl k c f t A B F S))) w := by
  refine Hp.run_build_struct brk_struct brk_zero brk_places ?_ w
  show Instr.fill (brPlaces[·]?) (brC 0 twoZ evl0) [(0, .int .i64 2), (2, .agg (evc k c f t A B F S))] = _
  have l0 : evl0.length = 1156 := evl_len ok0
  have l1 := evl_len (k := k) (c := c) (f := f) (t := t) h
  rw [Hp.fill_cons (size := 1) rfl rfl (by rw [brC_size twoZ_len l0]; omega)]
  have e2 : (splice (brC 0 twoZ evl0).toList 0 (Value.cells (.int .i64 2)).toList).toArray = brC 2 twoZ evl0 := rfl
  rw [e2, Hp.fill_cons (size := 1156) rfl (by exact evc_size h) (by rw [brC_size twoZ_len l0]; omega)]
  have e3 : splice ((Value.int .i64 2 :: twoZ) ++ (evl0 ++ [])) 66 (evl k c f t A B F S) = (Value.int .i64 2 :: twoZ) ++ (evl k c f t A B F S ++ []) := mid_splice (by simp [twoZ_len]) (by rw [l0, l1])
  simp only [List.append_nil] at e3
  show Instr.fill _ (splice ((Value.int .i64 2 :: twoZ) ++ evl0) 66 (evl k c f t A B F S)).toArray [] = _
  rw [e3]
  rfl
set_option maxRecDepth 20000 in
set_option maxHeartbeats 4000000 in
theorem break_pre (s : Sd) (h k : Nat) (a b : Nd) (A1 A2 : Option Addr) (c1 c2 : Nat) (w : World) (h1 : 1 ≤ h) (hh : h ≤ 8) (hk : k < 2 ^ h) (hr1 : NIn w A1 h (sibsF (lvsN s (2 ^ h)) k h)) (hr2 : NIn w A2 h (sibsF (lvsN s (2 ^ h)) k h)) (hne : a ≠ b) (hT : Tab w) :
    Calls Tryd.prog 10 #[.agg (pubC (h : Nat) (rtN s h)), .agg (ndC a), .agg (sigC (k : Nat) (sgCh s k a) A1 h c1), .agg (ndC b), .agg (sigC (k : Nat) (sgCh s k b) A2 h c2)] w fun e w' =>
      ∃ (c f g : Nat) (X Y Z : List Nat), Hid (Z = zeros 560 ∧ GoodEv k 1 (c : Nat) (g : Nat) (f : Nat) X Y Z Z) ∧ e = .returned (.tuple #[.agg (brC 2 twoZ (evl 1 (c : Nat) (g : Nat) (f : Nat) X Y Z Z)), .int .i64 0]) ∧ Below w.heap.size w w' := by
  have hM := Mem.start [] w
  have hk2 : k ≤ 65535 := by have : 2 ^ h ≤ 2 ^ 8 := Nat.pow_le_pow_right (by decide) hh; omega
  have hvne : a.val ≠ b.val := fun h => hne (Nd.ext' h)
  obtain ⟨E, hE⟩ : ∃ E, E = (sgCh s k a).val := ⟨_, rfl⟩
  obtain ⟨F, hF⟩ : ∃ F, F = (sgCh s k b).val := ⟨_, rfl⟩
  have hEl : E.length = 560 := hE ▸ (sgCh s k a).len
  have hFl : F.length = 560 := hF ▸ (sgCh s k b).len
  have hEb : Bytes E := hE ▸ (sgCh s k a).byt
  have hFb : Bytes F := hF ▸ (sgCh s k b).byt
  have hls : lastV k a.val E = lastV k b.val F := by
    rw [hE, hF]
    exact (last_of_values a.byt s.val k).trans (last_of_values b.byt s.val k).symm
  obtain ⟨c, hlow⟩ := lower_ne a.len b.len b.byt hvne
  have hc := lower_some hlow
  have hAB : piece E c = advV k c (nth (split b.val) c) (nth (split a.val) c - nth (split b.val) c) (piece F c) := by
    rw [hE, hF]
    exact values_lead s.val k a.val b.val c hc.1 hc.2
  have hpE := piece_length (n := 35) hEl hc.1
  have hpF := piece_length (n := 35) hFl hc.1
  obtain ⟨Z0, hZ0⟩ : ∃ z, z = zeros 560 := ⟨_, rfl⟩
  have hG : GoodEv k 1 (c : Nat) (nth (split b.val) c : Nat) (nth (split a.val) c : Nat) (piece F c) (piece E c) Z0 Z0 := .inl ⟨rfl, hpF, hpE, bytes_piece hFb c, hZ0, hZ0, c, _, _, rfl, rfl, rfl, hc.1, hc.2, split_le a.byt c, hAB.symm⟩
  have x1 := fun w' (hb : Below w.heap.size w w') => extract_pre a.val E b.val F k c (k : Nat) w' a.len a.byt hEl hEb b.len b.byt hFl hFb (hT.keep hb) hk2 rfl hvne hls hlow hAB
  rw [← hZ0] at x1
  have v1 := fun w' (hb : Below w.heap.size w w') => gver_any (h : Nat) (rtN s h) a (k : Nat) (sgCh s k a) A1 h c1 _ w' (hr1.keep hb) (hT.keep hb)
  have v2 := fun w' (hb : Below w.heap.size w w') => gver_any (h : Nat) (rtN s h) b (k : Nat) (sgCh s k b) A2 h c2 _ w' (hr2.keep hb) (hT.keep hb)
  rw [ver_sig s h k a h1 hh hk] at v1
  rw [ver_sig s h k b h1 hh hk] at v2
  have p1 := fun w' (hb : Below w.heap.size w w') => gpublic_any k (sgCh s k a) A1 h c1 a w' hk2 (hT.keep hb)
  have p2 := fun w' (hb : Below w.heap.size w w') => gpublic_any k (sgCh s k b) A2 h c2 b w' hk2 (hT.keep hb)
  have hrr : (rcN k b (sgCh s k b)).val = (rcN k a (sgCh s k a)).val := by
    show comp k (lastV k b.val (sgCh s k b).val) = comp k (lastV k a.val (sgCh s k a).val)
    rw [← hE, ← hF, hls]
  rw [show ndC (rcN k b (sgCh s k b)) = ndC (rcN k a (sgCh s k a)) from congrArg (cellsOf .u8) hrr] at p2
  obtain ⟨r, hr⟩ : ∃ r, r = (rcN k a (sgCh s k a)).val := ⟨_, rfl⟩
  have hrl : r.length = 16 := hr ▸ (rcN k a (sgCh s k a)).len
  rw [show ndC (rcN k a (sgCh s k a)) = cellsOf .u8 r from congrArg (cellsOf .u8) hr.symm] at p1 p2
  have HSP := Lib.hid (pubC_size (h : Nat) (rtN s h))
  have HS1 := Lib.hid (sigC_size (k : Nat) (sgCh s k a) A1 h c1)
  have HS2 := Lib.hid (sigC_size (k : Nat) (sgCh s k b) A2 h c2)
  have H01 := Lib.hid (sigC_0 (k : Nat) (sgCh s k a) A1 h c1)
  have H02 := Lib.hid (sigC_0 (k : Nat) (sgCh s k b) A2 h c2)
  have hc1 := sigC_c (k : Nat) (sgCh s k a) A1 h c1
  have hc2 := sigC_c (k : Nat) (sgCh s k b) A2 h c2
  rw [show chC (sgCh s k a) = cellsOf .u8 E from congrArg (cellsOf .u8) hE.symm] at hc1
  rw [show chC (sgCh s k b) = cellsOf .u8 F from congrArg (cellsOf .u8) hF.symm] at hc2
  have HC1 := Lib.hid hc1
  have HC2 := Lib.hid hc2
  generalize sigC (k : Nat) (sgCh s k a) A1 h c1 = Y1 at HS1 H01 HC1 v1 p1 ⊢
  generalize sigC (k : Nat) (sgCh s k b) A2 h c2 = Y2 at HS2 H02 HC2 v2 p2 ⊢
  generalize pubC (h : Nat) (rtN s h) = P at HSP v1 v2 ⊢
  have hal := a.len
  have hbl := b.len
  change ∀ w', Below w.heap.size w w' → Calls _ _ #[.agg Y1, .agg (cellsOf .u8 a.val)] w' _ at p1
  change ∀ w', Below w.heap.size w w' → Calls _ _ #[.agg Y2, .agg (cellsOf .u8 b.val)] w' _ at p2
  change ∀ w', Below w.heap.size w w' → Calls _ _ #[.agg P, .agg (cellsOf .u8 a.val), .agg Y1] w' _ at v1
  change ∀ w', Below w.heap.size w w' → Calls _ _ #[.agg P, .agg (cellsOf .u8 b.val), .agg Y2] w' _ at v2
  show Calls _ _ #[.agg P, .agg (cellsOf .u8 a.val), .agg Y1, .agg (cellsOf .u8 b.val), .agg Y2] w _
  generalize a.val = av at hal p1 v1 x1 hvne hG ⊢
  generalize b.val = bv at hbl p2 v2 x1 hvne hG ⊢
  generalize nth (split bv) c = g at x1 hG
  generalize nth (split av) c = f at x1 hG
  generalize piece F c = X at x1 hG
  generalize piece E c = Y at x1 hG
  have HZG := Lib.hid (And.intro hZ0 hG)
  have ED : Hid (∀ W, (Op.equalIn 10000 23 (.agg (cellsOf .u8 av)) (.agg (cellsOf .u8 bv))).run Tryd.prog W = .ok false W) := Lib.hid fun W => by rw [eq_b16 av bv hal hbl]; simp [hvne]
  have EQ : Hid (∀ W, (Op.equalIn 10000 23 (.agg (cellsOf .u8 r)) (.agg (cellsOf .u8 r))).run Tryd.prog W = .ok true W) := Lib.hid fun W => self_b16 r hrl W
  have HB := Lib.hid (bld_brk 1 (c : Nat) (g : Nat) (f : Nat) X Y Z0 Z0 hG.ok)
  have hsz := evc_size (k := 1) (c := (c : Nat)) (f := (g : Nat)) (t := (f : Nat)) hG.ok
  have HBS := Lib.hid (brC_size (k := 2) twoZ_len (evl_len (k := 1) (c := (c : Nat)) (f := (g : Nat)) (t := (f : Nat)) hG.ok))
  have HBO : Hid (∀ v ∈ (brC 2 twoZ (evl 1 (c : Nat) (g : Nat) (f : Nat) X Y Z0 Z0)).toList, v.oneCell' = true) := Lib.hid (brC_one twoZ_one (evc_one (k := 1) (c := (c : Nat)) (f := (g : Nat)) (t := (f : Nat)) (A := X) (B := Y) (F := Z0) (S := Z0)))
  have hrz : (cellsOf .u8 r).size = 16 := by rw [cellsOf_size]; exact hrl
  have V1 := Lib.hid v1
  have V2 := Lib.hid v2
  have P1 := Lib.hid p1
  have P2 := Lib.hid p2
  have X1 := Lib.hid x1
  clear v1 v2 p1 p2 x1 hG hZ0 hAB hc hlow hls hpE hpF hvne hT hr1 hr2 h1 hh hk hk2 hne hrr hr hc1 hc2 hE hF
  go_enter Tryd.func10, Tryd.ntmps10
  go_wp2_with (first | ((with_reducible refine at_box ?_); first | (refine wpList_mem_box hM rfl _ _ (by rfl) _ (by rfl) _ row_pubH HSP.out ?_; clear hM; intro gx wx hM) | (refine wpList_mem_box hM rfl _ _ (by rfl) _ (by rfl) _ row_sgnH HS1.out ?_; clear hM; intro gx wx hM) | (refine wpList_mem_box hM rfl _ _ (by rfl) _ (by rfl) _ row_sgnH HS2.out ?_; clear hM; intro gx wx hM)) | ((with_reducible refine at_alloc ?_); refine wpList_mem_zero hM rfl _ (by rfl) _ _ zero_brkH ?_; clear hM; intro gx wx hM) | ((with_reducible refine at_load ?_); first | refine wpList_mem_load hM rfl _ _ (by rfl) _ (by rfl) _ _ _ (by repeat (first | exact List.Mem.head _ | apply List.Mem.tail)) row_pubH ?_ | refine wpList_mem_load hM rfl _ _ (by rfl) _ (by rfl) _ _ _ (by repeat (first | exact List.Mem.head _ | apply List.Mem.tail)) row_sgnH ?_) | ((with_reducible refine at_load_g ?_ ?_); (· rfl); first | (refine wpList_mem_load hM rfl _ _ (by rfl) _ (by rfl) _ _ _ (by repeat (first | exact List.Mem.head _ | apply List.Mem.tail)) (by first | exact row_a16 | exact row_i35 | exact row_val | exact row_a32 | exact row_e35 | exact row_v35 | exact row_sig | exact row_evi | exact row_half | exact row_dig | exact row_i2 | exact row_i3 | exact row_b3 | exact row_h2 | exact row_pair) ?_) | (refine wpList_mem_num hM rfl _ _ (by rfl) _ _ (by rfl) _ _ _ _ (by repeat (first | exact List.Mem.head _ | apply List.Mem.tail)) (by first | exact one_u8 | exact one_int | exact one_u32 | exact one_bool | exact one_errno | exact one_u16 | exact one_sl) (by omega) ?_)) | ((with_reducible refine at_load ?_); first | (refine wpList_mem_load hM rfl _ _ (by rfl) _ (by rfl) _ _ _ (by repeat (first | exact List.Mem.head _ | apply List.Mem.tail)) (by first | exact row_a16 | exact row_i35 | exact row_val | exact row_a32 | exact row_e35 | exact row_v35 | exact row_sig | exact row_evi | exact row_half | exact row_dig | exact row_i2 | exact row_i3 | exact row_b3 | exact row_h2 | exact row_pair) ?_) | (refine wpList_mem_num hM rfl _ _ (by rfl) _ _ (by rfl) _ _ _ _ (by repeat (first | exact List.Mem.head _ | apply List.Mem.tail)) (by first | exact one_u8 | exact one_int | exact one_u32 | exact one_bool | exact one_errno | exact one_u16 | exact one_sl) (by omega) ?_)) | ((with_reducible refine at_store ?_); first | (refine wpList_mem_store hM rfl _ _ _ (by rfl) _ (by rfl) _ (by rfl) _ _ _ _ (by repeat (first | exact UpdL.head _ _ _ _ _ | apply UpdL.tail)) (by first | exact row_a16 | exact row_i35 | exact row_val | exact row_a32 | exact row_e35 | exact row_v35 | exact row_sig | exact row_evi | exact row_half | exact row_dig | exact row_i2 | exact row_i3 | exact row_b3 | exact row_h2 | exact row_pair) (by first | assumption | (simp; done) | (simp only [cellsOf_size]; first | assumption | exact half_length _ | exact split_length _ | exact firstV_length _ _ _ | exact stepV_length _ _ _ _ | exact valuesV_length _ _ _) | (simp [*]; done)) (by first | exact vals_one _ _ | exact evc_one | (simp [Value.oneCell']; done)) rfl ?_; clear hM; intro wx hM) | (refine wpList_mem_setnum hM rfl _ _ _ (by rfl) _ _ (by rfl) _ _ (by rfl) _ _ _ _ (by repeat (first | exact UpdL.head _ _ _ _ _ | apply UpdL.tail)) (by first | exact one_u8 | exact one_int | exact one_u32 | exact one_bool | exact one_errno | exact one_u16 | exact one_sl) (by omega) _ (by first | rfl | exact (Int.toNat_of_nonneg (by omega)).symm) rfl ?_; clear hM; intro wx hM)) | ((with_reducible refine at_alloc ?_); refine wpList_mem_zero hM rfl _ (by rfl) _ _ (by first | exact zero_a16 | exact zero_i35 | exact zero_i35' | exact zero_val | exact zero_a32 | exact zero_a32' | exact zero_e35 | exact zero_v35 | exact zero_sig | exact zero_evi | exact zero_half | exact zero_dig | exact zero_int | exact zero_u8 | exact zero_i2 | exact zero_i3 | exact zero_b3 | exact zero_h2 | exact zero_pair) ?_; clear hM; intro gx wx hM) | ((with_reducible refine at_box ?_); refine wpList_mem_box hM rfl _ _ (by rfl) _ (by rfl) _ (by first | exact row_a16 | exact row_i35 | exact row_val | exact row_a32 | exact row_e35 | exact row_v35 | exact row_sig | exact row_evi | exact row_half | exact row_dig | exact row_i2 | exact row_i3 | exact row_b3 | exact row_h2 | exact row_pair) (by first | assumption | (simp; done) | (simp only [cellsOf_size]; first | assumption | exact half_length _ | exact split_length _ | exact firstV_length _ _ _ | exact stepV_length _ _ _ _ | exact valuesV_length _ _ _) | (simp [*]; done)) ?_; clear hM; intro gx wx hM))
  (refine (V1.out _ hM.below).mono ?_)
  rintro e w1 ⟨rfl, hb1⟩
  replace hM := hM.step hb1
  clear hb1
  go_wp2_with (first | ((with_reducible refine at_load ?_); first | refine wpList_mem_load hM rfl _ _ (by rfl) _ (by rfl) _ _ _ (by repeat (first | exact List.Mem.head _ | apply List.Mem.tail)) row_pubH ?_ | refine wpList_mem_load hM rfl _ _ (by rfl) _ (by rfl) _ _ _ (by repeat (first | exact List.Mem.head _ | apply List.Mem.tail)) row_sgnH ?_) | ((with_reducible refine at_load_g ?_ ?_); (· rfl); first | (refine wpList_mem_load hM rfl _ _ (by rfl) _ (by rfl) _ _ _ (by repeat (first | exact List.Mem.head _ | apply List.Mem.tail)) (by first | exact row_a16 | exact row_i35 | exact row_val | exact row_a32 | exact row_e35 | exact row_v35 | exact row_sig | exact row_evi | exact row_half | exact row_dig | exact row_i2 | exact row_i3 | exact row_b3 | exact row_h2 | exact row_pair) ?_) | (refine wpList_mem_num hM rfl _ _ (by rfl) _ _ (by rfl) _ _ _ _ (by repeat (first | exact List.Mem.head _ | apply List.Mem.tail)) (by first | exact one_u8 | exact one_int | exact one_u32 | exact one_bool | exact one_errno | exact one_u16 | exact one_sl) (by omega) ?_)) | ((with_reducible refine at_load ?_); first | (refine wpList_mem_load hM rfl _ _ (by rfl) _ (by rfl) _ _ _ (by repeat (first | exact List.Mem.head _ | apply List.Mem.tail)) (by first | exact row_a16 | exact row_i35 | exact row_val | exact row_a32 | exact row_e35 | exact row_v35 | exact row_sig | exact row_evi | exact row_half | exact row_dig | exact row_i2 | exact row_i3 | exact row_b3 | exact row_h2 | exact row_pair) ?_) | (refine wpList_mem_num hM rfl _ _ (by rfl) _ _ (by rfl) _ _ _ _ (by repeat (first | exact List.Mem.head _ | apply List.Mem.tail)) (by first | exact one_u8 | exact one_int | exact one_u32 | exact one_bool | exact one_errno | exact one_u16 | exact one_sl) (by omega) ?_)) | ((with_reducible refine at_store ?_); first | (refine wpList_mem_store hM rfl _ _ _ (by rfl) _ (by rfl) _ (by rfl) _ _ _ _ (by repeat (first | exact UpdL.head _ _ _ _ _ | apply UpdL.tail)) (by first | exact row_a16 | exact row_i35 | exact row_val | exact row_a32 | exact row_e35 | exact row_v35 | exact row_sig | exact row_evi | exact row_half | exact row_dig | exact row_i2 | exact row_i3 | exact row_b3 | exact row_h2 | exact row_pair) (by first | assumption | (simp; done) | (simp only [cellsOf_size]; first | assumption | exact half_length _ | exact split_length _ | exact firstV_length _ _ _ | exact stepV_length _ _ _ _ | exact valuesV_length _ _ _) | (simp [*]; done)) (by first | exact vals_one _ _ | exact evc_one | (simp [Value.oneCell']; done)) rfl ?_; clear hM; intro wx hM) | (refine wpList_mem_setnum hM rfl _ _ _ (by rfl) _ _ (by rfl) _ _ (by rfl) _ _ _ _ (by repeat (first | exact UpdL.head _ _ _ _ _ | apply UpdL.tail)) (by first | exact one_u8 | exact one_int | exact one_u32 | exact one_bool | exact one_errno | exact one_u16 | exact one_sl) (by omega) _ (by first | rfl | exact (Int.toNat_of_nonneg (by omega)).symm) rfl ?_; clear hM; intro wx hM)) | ((with_reducible refine at_alloc ?_); refine wpList_mem_zero hM rfl _ (by rfl) _ _ (by first | exact zero_a16 | exact zero_i35 | exact zero_i35' | exact zero_val | exact zero_a32 | exact zero_a32' | exact zero_e35 | exact zero_v35 | exact zero_sig | exact zero_evi | exact zero_half | exact zero_dig | exact zero_int | exact zero_u8 | exact zero_i2 | exact zero_i3 | exact zero_b3 | exact zero_h2 | exact zero_pair) ?_; clear hM; intro gx wx hM) | ((with_reducible refine at_box ?_); refine wpList_mem_box hM rfl _ _ (by rfl) _ (by rfl) _ (by first | exact row_a16 | exact row_i35 | exact row_val | exact row_a32 | exact row_e35 | exact row_v35 | exact row_sig | exact row_evi | exact row_half | exact row_dig | exact row_i2 | exact row_i3 | exact row_b3 | exact row_h2 | exact row_pair) (by first | assumption | (simp; done) | (simp only [cellsOf_size]; first | assumption | exact half_length _ | exact split_length _ | exact firstV_length _ _ _ | exact stepV_length _ _ _ _ | exact valuesV_length _ _ _) | (simp [*]; done)) ?_; clear hM; intro gx wx hM))
  (refine (V2.out _ hM.below).mono ?_)
  rintro e w1 ⟨rfl, hb1⟩
  replace hM := hM.step hb1
  clear hb1
  have eD := ED.out
  go_wp2_with (first | ((with_reducible refine at_load ?_); first | refine wpList_mem_cell hM rfl _ _ (by rfl) _ _ (by rfl) _ _ _ (by repeat (first | exact List.Mem.head _ | apply List.Mem.tail)) one_int _ (by first | exact H01.out | exact H02.out) ?_ | refine wpList_mem_load hM rfl _ _ (by rfl) _ (by rfl) _ _ _ (by repeat (first | exact List.Mem.head _ | apply List.Mem.tail)) row_sgnH ?_) | ((with_reducible refine at_load_g ?_ ?_); (· rfl); first | (refine wpList_mem_load hM rfl _ _ (by rfl) _ (by rfl) _ _ _ (by repeat (first | exact List.Mem.head _ | apply List.Mem.tail)) (by first | exact row_a16 | exact row_i35 | exact row_val | exact row_a32 | exact row_e35 | exact row_v35 | exact row_sig | exact row_evi | exact row_half | exact row_dig | exact row_i2 | exact row_i3 | exact row_b3 | exact row_h2 | exact row_pair) ?_) | (refine wpList_mem_num hM rfl _ _ (by rfl) _ _ (by rfl) _ _ _ _ (by repeat (first | exact List.Mem.head _ | apply List.Mem.tail)) (by first | exact one_u8 | exact one_int | exact one_u32 | exact one_bool | exact one_errno | exact one_u16 | exact one_sl) (by omega) ?_)) | ((with_reducible refine at_load ?_); first | (refine wpList_mem_load hM rfl _ _ (by rfl) _ (by rfl) _ _ _ (by repeat (first | exact List.Mem.head _ | apply List.Mem.tail)) (by first | exact row_a16 | exact row_i35 | exact row_val | exact row_a32 | exact row_e35 | exact row_v35 | exact row_sig | exact row_evi | exact row_half | exact row_dig | exact row_i2 | exact row_i3 | exact row_b3 | exact row_h2 | exact row_pair) ?_) | (refine wpList_mem_num hM rfl _ _ (by rfl) _ _ (by rfl) _ _ _ _ (by repeat (first | exact List.Mem.head _ | apply List.Mem.tail)) (by first | exact one_u8 | exact one_int | exact one_u32 | exact one_bool | exact one_errno | exact one_u16 | exact one_sl) (by omega) ?_)) | ((with_reducible refine at_store ?_); first | (refine wpList_mem_store hM rfl _ _ _ (by rfl) _ (by rfl) _ (by rfl) _ _ _ _ (by repeat (first | exact UpdL.head _ _ _ _ _ | apply UpdL.tail)) (by first | exact row_a16 | exact row_i35 | exact row_val | exact row_a32 | exact row_e35 | exact row_v35 | exact row_sig | exact row_evi | exact row_half | exact row_dig | exact row_i2 | exact row_i3 | exact row_b3 | exact row_h2 | exact row_pair) (by first | assumption | (simp; done) | (simp only [cellsOf_size]; first | assumption | exact half_length _ | exact split_length _ | exact firstV_length _ _ _ | exact stepV_length _ _ _ _ | exact valuesV_length _ _ _) | (simp [*]; done)) (by first | exact vals_one _ _ | exact evc_one | (simp [Value.oneCell']; done)) rfl ?_; clear hM; intro wx hM) | (refine wpList_mem_setnum hM rfl _ _ _ (by rfl) _ _ (by rfl) _ _ (by rfl) _ _ _ _ (by repeat (first | exact UpdL.head _ _ _ _ _ | apply UpdL.tail)) (by first | exact one_u8 | exact one_int | exact one_u32 | exact one_bool | exact one_errno | exact one_u16 | exact one_sl) (by omega) _ (by first | rfl | exact (Int.toNat_of_nonneg (by omega)).symm) rfl ?_; clear hM; intro wx hM)) | ((with_reducible refine at_alloc ?_); refine wpList_mem_zero hM rfl _ (by rfl) _ _ (by first | exact zero_a16 | exact zero_i35 | exact zero_i35' | exact zero_val | exact zero_a32 | exact zero_a32' | exact zero_e35 | exact zero_v35 | exact zero_sig | exact zero_evi | exact zero_half | exact zero_dig | exact zero_int | exact zero_u8 | exact zero_i2 | exact zero_i3 | exact zero_b3 | exact zero_h2 | exact zero_pair) ?_; clear hM; intro gx wx hM) | ((with_reducible refine at_box ?_); refine wpList_mem_box hM rfl _ _ (by rfl) _ (by rfl) _ (by first | exact row_a16 | exact row_i35 | exact row_val | exact row_a32 | exact row_e35 | exact row_v35 | exact row_sig | exact row_evi | exact row_half | exact row_dig | exact row_i2 | exact row_i3 | exact row_b3 | exact row_h2 | exact row_pair) (by first | assumption | (simp; done) | (simp only [cellsOf_size]; first | assumption | exact half_length _ | exact split_length _ | exact firstV_length _ _ _ | exact stepV_length _ _ _ _ | exact valuesV_length _ _ _) | (simp [*]; done)) ?_; clear hM; intro gx wx hM))
  clear eD
  refine wp_region_allHB hM (by kernel_rfl) ?_
  clear hM
  intro wd hM
  have HM0 := Lib.hid hM
  have hS := Below.refl wd.heap.size wd
  refine wpAllH_takes [0, 1, 3, 4] (by kernel_rfl) (fun _ _ _ _ _ h => h) hS (by kernel_rfl) ?_
  simp only [pickOps, List.filterMap_cons, List.filterMap_nil, List.getElem?_cons_zero, List.getElem?_cons_succ]
  repeat ((with_reducible apply wpHeld_step); (· rfl); (· (intro wq hSw; first | (go_simp; rfl) | (have hM' := HM0.out.step hSw; first | exact yields_load (C := fun _ => True) (nqc hM') rfl | exact yields_load (C := fun _ => True) (nql hM') rfl | exact yields_load (C := fun _ => True) (nqp hM') rfl | exact yields_load (C := fun _ => True) (nql hM' (hty := row_sgnH)) rfl))); intro K hK; go_simp; (with_reducible refine hK _ ?_); clear hK K)
  refine wpHeld_nil ?_
  refine wpAllH_floats hS [⟨2, 50, 27, #[.tmp 48, .tmp 49], #[.agg Y1, .agg (cellsOf .u8 av)], .agg (cellsOf .u8 r)⟩, ⟨5, 53, 27, #[.tmp 51, .tmp 52], #[.agg Y2, .agg (cellsOf .u8 bv)], .agg (cellsOf .u8 r)⟩] 6 7 8 9 14 15 50 53 ?_ rfl ⟨rfl, rfl, rfl⟩ rfl ⟨rfl, rfl, rfl⟩ rfl ⟨rfl, rfl, rfl⟩ rfl ⟨rfl, rfl, rfl⟩ (by kernel_rfl) (by kernel_rfl) (by kernel_rfl) (by kernel_rfl) (by simp) (by simp) (by simp) (by kernel_rfl) (by kernel_rfl) (.inl ⟨_, List.mem_cons_self, rfl, rfl, by kernel_rfl⟩) (.inl ⟨_, List.mem_cons_of_mem _ List.mem_cons_self, rfl, rfl, by kernel_rfl⟩) zero_a16 zero_a16 row_a16 row_a16 hrz hrz (vals_one _ _) (vals_one _ _) ?_
  · intro t ht
    simp only [List.mem_cons, List.not_mem_nil, or_false] at ht
    rcases ht with rfl | rfl
    · exact ⟨⟨_, _, rfl, rfl, rfl, rfl⟩, by kernel_rfl, (by simp only [List.map_toArray, List.map_cons, List.map_nil]; rfl), Tryd.call27, fun w' hb => P1.out _ (Below.step hM.below hb)⟩
    · exact ⟨⟨_, _, rfl, rfl, rfl, rfl⟩, by kernel_rfl, (by simp only [List.map_toArray, List.map_cons, List.map_nil]; rfl), Tryd.call27, fun w' hb => P2.out _ (Below.step hM.below hb)⟩
  intro g14 g15 wx hF
  replace hM := hM.frame hF
  simp only [List.cons_append, List.nil_append] at hM
  clear hS HM0 hF
  simp only [List.foldl_cons, List.foldl_nil]
  go_simp
  have eQ := EQ.out
  go_wp2_with (first | ((with_reducible refine at_load ?_); first | refine wpList_mem_cell hM rfl _ _ (by rfl) _ _ (by rfl) _ _ _ (by repeat (first | exact List.Mem.head _ | apply List.Mem.tail)) one_int _ (by first | exact H01.out | exact H02.out) ?_ | refine wpList_mem_part hM rfl _ _ (by rfl) _ _ (by rfl) _ _ _ (by repeat (first | exact List.Mem.head _ | apply List.Mem.tail)) 560 row_e35 (by omega) _ (by first | exact HC1.out | exact HC2.out) ?_) | ((with_reducible refine at_load_g ?_ ?_); (· rfl); first | (refine wpList_mem_load hM rfl _ _ (by rfl) _ (by rfl) _ _ _ (by repeat (first | exact List.Mem.head _ | apply List.Mem.tail)) (by first | exact row_a16 | exact row_i35 | exact row_val | exact row_a32 | exact row_e35 | exact row_v35 | exact row_sig | exact row_evi | exact row_half | exact row_dig | exact row_i2 | exact row_i3 | exact row_b3 | exact row_h2 | exact row_pair) ?_) | (refine wpList_mem_num hM rfl _ _ (by rfl) _ _ (by rfl) _ _ _ _ (by repeat (first | exact List.Mem.head _ | apply List.Mem.tail)) (by first | exact one_u8 | exact one_int | exact one_u32 | exact one_bool | exact one_errno | exact one_u16 | exact one_sl) (by omega) ?_)) | ((with_reducible refine at_load ?_); first | (refine wpList_mem_load hM rfl _ _ (by rfl) _ (by rfl) _ _ _ (by repeat (first | exact List.Mem.head _ | apply List.Mem.tail)) (by first | exact row_a16 | exact row_i35 | exact row_val | exact row_a32 | exact row_e35 | exact row_v35 | exact row_sig | exact row_evi | exact row_half | exact row_dig | exact row_i2 | exact row_i3 | exact row_b3 | exact row_h2 | exact row_pair) ?_) | (refine wpList_mem_num hM rfl _ _ (by rfl) _ _ (by rfl) _ _ _ _ (by repeat (first | exact List.Mem.head _ | apply List.Mem.tail)) (by first | exact one_u8 | exact one_int | exact one_u32 | exact one_bool | exact one_errno | exact one_u16 | exact one_sl) (by omega) ?_)) | ((with_reducible refine at_store ?_); first | (refine wpList_mem_store hM rfl _ _ _ (by rfl) _ (by rfl) _ (by rfl) _ _ _ _ (by repeat (first | exact UpdL.head _ _ _ _ _ | apply UpdL.tail)) (by first | exact row_a16 | exact row_i35 | exact row_val | exact row_a32 | exact row_e35 | exact row_v35 | exact row_sig | exact row_evi | exact row_half | exact row_dig | exact row_i2 | exact row_i3 | exact row_b3 | exact row_h2 | exact row_pair) (by first | assumption | (simp; done) | (simp only [cellsOf_size]; first | assumption | exact half_length _ | exact split_length _ | exact firstV_length _ _ _ | exact stepV_length _ _ _ _ | exact valuesV_length _ _ _) | (simp [*]; done)) (by first | exact vals_one _ _ | exact evc_one | (simp [Value.oneCell']; done)) rfl ?_; clear hM; intro wx hM) | (refine wpList_mem_setnum hM rfl _ _ _ (by rfl) _ _ (by rfl) _ _ (by rfl) _ _ _ _ (by repeat (first | exact UpdL.head _ _ _ _ _ | apply UpdL.tail)) (by first | exact one_u8 | exact one_int | exact one_u32 | exact one_bool | exact one_errno | exact one_u16 | exact one_sl) (by omega) _ (by first | rfl | exact (Int.toNat_of_nonneg (by omega)).symm) rfl ?_; clear hM; intro wx hM)) | ((with_reducible refine at_alloc ?_); refine wpList_mem_zero hM rfl _ (by rfl) _ _ (by first | exact zero_a16 | exact zero_i35 | exact zero_i35' | exact zero_val | exact zero_a32 | exact zero_a32' | exact zero_e35 | exact zero_v35 | exact zero_sig | exact zero_evi | exact zero_half | exact zero_dig | exact zero_int | exact zero_u8 | exact zero_i2 | exact zero_i3 | exact zero_b3 | exact zero_h2 | exact zero_pair) ?_; clear hM; intro gx wx hM) | ((with_reducible refine at_box ?_); refine wpList_mem_box hM rfl _ _ (by rfl) _ (by rfl) _ (by first | exact row_a16 | exact row_i35 | exact row_val | exact row_a32 | exact row_e35 | exact row_v35 | exact row_sig | exact row_evi | exact row_half | exact row_dig | exact row_i2 | exact row_i3 | exact row_b3 | exact row_h2 | exact row_pair) (by first | assumption | (simp; done) | (simp only [cellsOf_size]; first | assumption | exact half_length _ | exact split_length _ | exact firstV_length _ _ _ | exact stepV_length _ _ _ _ | exact valuesV_length _ _ _) | (simp [*]; done)) ?_; clear hM; intro gx wx hM))
  (refine (X1.out _ hM.below).mono ?_)
  rintro e w1 ⟨rfl, hb1⟩
  replace hM := hM.step hb1
  clear hb1 eQ
  go_wp2_with (first | ((with_reducible refine at_build ?_); refine wpList_build_run rfl _ _ (by rfl) _ (by first | rfl | (simp; done) | (simp; and_intros <;> rfl)) _ (HB.out _) ?_) | ((with_reducible refine at_store ?_); refine wpList_mem_store hM rfl _ _ _ (by rfl) _ (by rfl) _ (by rfl) _ _ _ _ (by repeat (first | exact UpdL.head _ _ _ _ _ | apply UpdL.tail)) row_brkH HBS.out HBO.out rfl ?_; clear hM; intro wx hM) | ((with_reducible refine at_load_g ?_ ?_); (· rfl); first | (refine wpList_mem_load hM rfl _ _ (by rfl) _ (by rfl) _ _ _ (by repeat (first | exact List.Mem.head _ | apply List.Mem.tail)) (by first | exact row_a16 | exact row_i35 | exact row_val | exact row_a32 | exact row_e35 | exact row_v35 | exact row_sig | exact row_evi | exact row_half | exact row_dig | exact row_i2 | exact row_i3 | exact row_b3 | exact row_h2 | exact row_pair) ?_) | (refine wpList_mem_num hM rfl _ _ (by rfl) _ _ (by rfl) _ _ _ _ (by repeat (first | exact List.Mem.head _ | apply List.Mem.tail)) (by first | exact one_u8 | exact one_int | exact one_u32 | exact one_bool | exact one_errno | exact one_u16 | exact one_sl) (by omega) ?_)) | ((with_reducible refine at_load ?_); first | (refine wpList_mem_load hM rfl _ _ (by rfl) _ (by rfl) _ _ _ (by repeat (first | exact List.Mem.head _ | apply List.Mem.tail)) (by first | exact row_a16 | exact row_i35 | exact row_val | exact row_a32 | exact row_e35 | exact row_v35 | exact row_sig | exact row_evi | exact row_half | exact row_dig | exact row_i2 | exact row_i3 | exact row_b3 | exact row_h2 | exact row_pair) ?_) | (refine wpList_mem_num hM rfl _ _ (by rfl) _ _ (by rfl) _ _ _ _ (by repeat (first | exact List.Mem.head _ | apply List.Mem.tail)) (by first | exact one_u8 | exact one_int | exact one_u32 | exact one_bool | exact one_errno | exact one_u16 | exact one_sl) (by omega) ?_)) | ((with_reducible refine at_store ?_); first | (refine wpList_mem_store hM rfl _ _ _ (by rfl) _ (by rfl) _ (by rfl) _ _ _ _ (by repeat (first | exact UpdL.head _ _ _ _ _ | apply UpdL.tail)) (by first | exact row_a16 | exact row_i35 | exact row_val | exact row_a32 | exact row_e35 | exact row_v35 | exact row_sig | exact row_evi | exact row_half | exact row_dig | exact row_i2 | exact row_i3 | exact row_b3 | exact row_h2 | exact row_pair) (by first | assumption | (simp; done) | (simp only [cellsOf_size]; first | assumption | exact half_length _ | exact split_length _ | exact firstV_length _ _ _ | exact stepV_length _ _ _ _ | exact valuesV_length _ _ _) | (simp [*]; done)) (by first | exact vals_one _ _ | exact evc_one | (simp [Value.oneCell']; done)) rfl ?_; clear hM; intro wx hM) | (refine wpList_mem_setnum hM rfl _ _ _ (by rfl) _ _ (by rfl) _ _ (by rfl) _ _ _ _ (by repeat (first | exact UpdL.head _ _ _ _ _ | apply UpdL.tail)) (by first | exact one_u8 | exact one_int | exact one_u32 | exact one_bool | exact one_errno | exact one_u16 | exact one_sl) (by omega) _ (by first | rfl | exact (Int.toNat_of_nonneg (by omega)).symm) rfl ?_; clear hM; intro wx hM)) | ((with_reducible refine at_alloc ?_); refine wpList_mem_zero hM rfl _ (by rfl) _ _ (by first | exact zero_a16 | exact zero_i35 | exact zero_i35' | exact zero_val | exact zero_a32 | exact zero_a32' | exact zero_e35 | exact zero_v35 | exact zero_sig | exact zero_evi | exact zero_half | exact zero_dig | exact zero_int | exact zero_u8 | exact zero_i2 | exact zero_i3 | exact zero_b3 | exact zero_h2 | exact zero_pair) ?_; clear hM; intro gx wx hM) | ((with_reducible refine at_box ?_); refine wpList_mem_box hM rfl _ _ (by rfl) _ (by rfl) _ (by first | exact row_a16 | exact row_i35 | exact row_val | exact row_a32 | exact row_e35 | exact row_v35 | exact row_sig | exact row_evi | exact row_half | exact row_dig | exact row_i2 | exact row_i3 | exact row_b3 | exact row_h2 | exact row_pair) (by first | assumption | (simp; done) | (simp only [cellsOf_size]; first | assumption | exact half_length _ | exact split_length _ | exact firstV_length _ _ _ | exact stepV_length _ _ _ _ | exact valuesV_length _ _ _) | (simp [*]; done)) ?_; clear hM; intro gx wx hM))
  exact bodyPost_ret (results_mem_cell_tmp hM rfl (by rfl) (by repeat (first | exact List.Mem.head _ | apply List.Mem.tail)) row_brkH (by rfl)) rfl ⟨c, f, g, X, Y, Z0, HZG, rfl, hM.below⟩
end Go.Proofs.YtbbdnlcjjcmllaaDoor.Once
namespace Go.Proofs.YtbbdnlcjjcmllaaDoor
open Go Go.RowKit Go.Bul Go.Thg Go.Lin
theorem zero_secY : ZeroTy Tryd.prog 28 33 (secC sd0 0) := ⟨⟨.agg _, by kernel_rfl, rfl, secC_size _ _⟩⟩
theorem row_brkT : RowTy Tryd.prog 48 1222 := ⟨⟨_, Tryd.underlying48, rfl, by kernel_rfl⟩⟩
theorem row_eviT : RowTy Tryd.prog 46 1156 := ⟨⟨_, Tryd.underlying46, rfl, by kernel_rfl⟩⟩
theorem zero_brkT : ZeroTy Tryd.prog 48 1222 (Hp.brC 0 Hp.twoZ Once.evl0) := ⟨⟨.agg _, Once.brk_zero, rfl, Hp.brC_size Hp.twoZ_len (Once.evl_len Once.ok0)⟩⟩
theorem p16N {A : Option Addr} {n c : Nat} {l : List Nd} {w : World} (h : (p16T (.slice A n c) l).P w) (_ : l.length = n) : NIn w A n l := p16T_in h
set_option maxRecDepth 20000 in
set_option maxHeartbeats 8000000 in
theorem sreu_any (s : Sd) (x y : Nat) (a b : Nd) (w : World) (hx : x < 256) (hy : y < 256) (hT : Tab w) (hA : Alp w) :
    Calls Tryd.prog 4 #[.agg (cellsOf .u8 s.val), .int .u8 (x : Nat), .int .u8 (y : Nat), .agg (ndC a), .agg (ndC b)] w fun e w' => e = .returned (.bool true) ∧ Below w.heap.size w w' := by
  have hM := Mem.start [] w
  have HS := Lib.hid (show (cellsOf .u8 s.val).size = 32 by rw [cellsOf_size, s.len])
  have HK := Lib.hid (fun w' (hb : Below w.heap.size w w') => known_any w' (hT.keep hb) (hA.keep hb))
  have HLo := Lib.hid (fun w => low_any x w hx)
  by_cases hab : a = b
  · subst hab
    have eD : ∀ W, (Op.equalIn 10000 23 (.agg (ndC a)) (.agg (ndC a))).run Tryd.prog W = .ok true W := fun W => by rw [eq_16 a a W]; simp
    clear hT hA
    go_enter Tryd.func4, Tryd.ntmps4
    go_wp2_with (first | ((with_reducible refine at_box ?_); first | (refine slb hM ?_ (hty := row_a32) (hn := HS.out); clear hM; intro g4 w1 hM) | (refine slb hM ?_ (hty := row_a16) (hn := ndC_size _); clear hM; intro g7 w1 hM)) | ((first | with_reducible refine at_load ?_ | ((with_reducible refine at_load_g ?_ ?_); (· rfl))); refine sll hM ?_ (hty := row_a16)) | ((with_reducible refine (HK.out _ hM.below).mono ?_); rintro e w1 ⟨rfl, hb⟩; replace hM := hM.step hb; clear hb))
    go_ret
    exact ⟨rfl, hM.below⟩
  · have eD : ∀ W, (Op.equalIn 10000 23 (.agg (ndC a)) (.agg (ndC b))).run Tryd.prog W = .ok false W := fun W => by rw [eq_16 a b W]; simp [hab]
    obtain ⟨h, hh⟩ : ∃ h, 1 + x % 3 = h := ⟨_, rfl⟩
    have h1 : 1 ≤ h := by omega
    have h3 : h ≤ 3 := by omega
    rw [hh] at HLo
    have hp : 2 ^ h ≤ 2 ^ 3 := Nat.pow_le_pow_right (by decide) h3
    obtain ⟨k, hk⟩ : ∃ k, k = y % 2 ^ h := ⟨_, rfl⟩
    have hp0 : 0 < 2 ^ h := Nat.pow_pos (by decide)
    have hkl : k < 2 ^ h := by rw [hk]; exact Nat.mod_lt _ hp0
    have hk2 : k ≤ 65535 := by omega
    have HPB := Lib.hid (fun w' (hb : Below w.heap.size w w') => spub_yes s h w' h1 (by omega) (hT.keep hb))
    have HSN := Lib.hid (fun (d : Nd) w' (hb : Below w.heap.size w w') => psign_yes s h k d w' h1 (by omega) hkl (hT.keep hb))
    have HBR := Lib.hid (fun A1 A2 c1 c2 w' hr1 hr2 (hb : Below w.heap.size w w') => Once.break_pre s h k a b A1 A2 c1 c2 w' h1 (by omega) hkl hr1 hr2 hab (hT.keep hb))
    have HCK := Lib.hid (fun (k' c f t : Int) (A B F S : List Nat) w' (hG : Once.GoodEv k k' c f t A B F S) (hb : Below w.heap.size w w') => Once.chk_good k (k : Nat) k' c f t A B F S w' hG hk2 rfl (hT.keep hb))
    have hM2 : (2 : Int) ^ h = ((2 ^ h : Nat) : Int) := by simp
    obtain ⟨M, hMM⟩ : ∃ M, M = 2 ^ h := ⟨_, rfl⟩
    rw [← hMM] at hM2 hkl hk hp hp0
    have hpn : M ≤ 8 := by omega
    have c4 : wrap64 (M : Int) = (M : Int) := by unfold wrap64; omega
    have c5 : IntKind.i64.wrap (M : Int) = (M : Int) := IntWalk.i64_in _ (by omega)
    have c6 : (y : Int) % (M : Int) = (k : Int) := by rw [hk]; omega
    have c7 : ¬ (M : Int) = 0 := by omega
    have c8 : IntKind.i64.wrap (y : Int) = (y : Int) := IntWalk.i64_in _ (by omega)
    have c9 : ((M : Int) == 0) = false := by rw [beq_eq_false_iff_ne]; omega
    have q0 : (0 : Int) ≤ (h : Int) := Int.natCast_nonneg _
    have q1 : (h : Int) ≤ 8 := by omega
    have q2 : (0 : Int) ≤ (y : Int) := Int.natCast_nonneg _
    have hlen := sibsF_length (lvsN s (2 ^ h)) k h
    generalize sibsF (lvsN s (2 ^ h)) k h = PA at HSN HBR hlen
    clear hT hA hp hp0 hkl hk2 hx hy hh h1 h3 hk hMM hpn
    go_enter Tryd.func4, Tryd.ntmps4
    go_wp2_with (first | ((with_reducible refine at_box ?_); first | (refine slb hM ?_ (hty := row_a32) (hn := HS.out); clear hM; intro g4 w1 hM) | (refine slb hM ?_ (hty := row_a16) (hn := ndC_size _); clear hM; intro g7 w1 hM)) | ((first | with_reducible refine at_load ?_ | ((with_reducible refine at_load_g ?_ ?_); (· rfl))); first | refine sll hM ?_ (hty := row_a16) | refine sll hM ?_ (hty := row_a32) | refine sll hM ?_ (hty := row_sec) | refine sll hM ?_ (hty := row_pub) | refine sll hM ?_ (hty := row_sgn)) | ((with_reducible refine (HK.out _ hM.below).mono ?_); rintro e w1 ⟨rfl, hb⟩; replace hM := hM.step hb; clear hb) | ((with_reducible refine (HLo.out _).mono ?_); rintro e w1 ⟨rfl, rfl⟩) | ((with_reducible refine at_build ?_); refine lbsec ?_) | ((with_reducible refine at_alloc ?_); first | (refine slz hM ?_ (hz := zero_secY); clear hM; intro gx w1 hM) | (refine slz hM ?_ (hz := zero_pub); clear hM; intro gx w1 hM) | (refine slz hM ?_ (hz := zero_sgn); clear hM; intro gx w1 hM) | (refine slz hM ?_ (hz := zero_brkT); clear hM; intro gx w1 hM)) | ((with_reducible refine at_store ?_); first | (refine slw hM ?_ (hs := secC_size _ _) (h1 := secC_one _ _) (hty := row_sec); clear hM; intro wx hM) | (refine slw hM ?_ (hs := pubC_size _ _) (h1 := pubC_one _ _) (hty := row_pub); clear hM; intro wx hM) | (refine slw hM ?_ (hs := sigC_size _ _ _ _ _) (h1 := sigC_one _ _ _ _ _) (hty := row_sgn); clear hM; intro wx hM)))
    (refine (HPB.out _ hM.below).mono ?_)
    rintro e w1 ⟨rfl, hb⟩
    replace hM := hM.step hb
    clear hb
    go_wp2_with (first | ((first | with_reducible refine at_load ?_ | ((with_reducible refine at_load_g ?_ ?_); (· rfl))); first | refine sll hM ?_ (hty := row_a16) | refine sll hM ?_ (hty := row_a32) | refine sll hM ?_ (hty := row_sec) | refine sll hM ?_ (hty := row_pub) | refine sll hM ?_ (hty := row_sgn)) | ((with_reducible refine at_build ?_); refine lbsec ?_) | ((with_reducible refine at_alloc ?_); first | (refine slz hM ?_ (hz := zero_secY); clear hM; intro gx w1 hM) | (refine slz hM ?_ (hz := zero_pub); clear hM; intro gx w1 hM) | (refine slz hM ?_ (hz := zero_sgn); clear hM; intro gx w1 hM) | (refine slz hM ?_ (hz := zero_brkT); clear hM; intro gx w1 hM)) | ((with_reducible refine at_store ?_); first | (refine slw hM ?_ (hs := secC_size _ _) (h1 := secC_one _ _) (hty := row_sec); clear hM; intro wx hM) | (refine slw hM ?_ (hs := pubC_size _ _) (h1 := pubC_one _ _) (hty := row_pub); clear hM; intro wx hM) | (refine slw hM ?_ (hs := sigC_size _ _ _ _ _) (h1 := sigC_one _ _ _ _ _) (hty := row_sgn); clear hM; intro wx hM)))
    (refine (HSN.out a _ hM.below).mono ?_)
    rintro e w1 ⟨B1, c1, rfl, hb⟩
    replace hM := hM.newThing hb
    clear hb
    go_wp2_with (first | ((first | with_reducible refine at_load ?_ | ((with_reducible refine at_load_g ?_ ?_); (· rfl))); first | refine sll hM ?_ (hty := row_a16) | refine sll hM ?_ (hty := row_a32) | refine sll hM ?_ (hty := row_sec) | refine sll hM ?_ (hty := row_pub) | refine sll hM ?_ (hty := row_sgn)) | ((with_reducible refine at_build ?_); refine lbsec ?_) | ((with_reducible refine at_alloc ?_); first | (refine slz hM ?_ (hz := zero_secY); clear hM; intro gx w1 hM) | (refine slz hM ?_ (hz := zero_pub); clear hM; intro gx w1 hM) | (refine slz hM ?_ (hz := zero_sgn); clear hM; intro gx w1 hM) | (refine slz hM ?_ (hz := zero_brkT); clear hM; intro gx w1 hM)) | ((with_reducible refine at_store ?_); first | (refine slw hM ?_ (hs := secC_size _ _) (h1 := secC_one _ _) (hty := row_sec); clear hM; intro wx hM) | (refine slw hM ?_ (hs := pubC_size _ _) (h1 := pubC_one _ _) (hty := row_pub); clear hM; intro wx hM) | (refine slw hM ?_ (hs := sigC_size _ _ _ _ _) (h1 := sigC_one _ _ _ _ _) (hty := row_sgn); clear hM; intro wx hM)))
    (refine (HSN.out b _ hM.below).mono ?_)
    rintro e w1 ⟨B2, c2, rfl, hb⟩
    replace hM := hM.newThing hb
    clear hb
    go_wp2_with (first | ((first | with_reducible refine at_load ?_ | ((with_reducible refine at_load_g ?_ ?_); (· rfl))); first | refine sll hM ?_ (hty := row_a16) | refine sll hM ?_ (hty := row_a32) | refine sll hM ?_ (hty := row_sec) | refine sll hM ?_ (hty := row_pub) | refine sll hM ?_ (hty := row_sgn)) | ((with_reducible refine at_build ?_); refine lbsec ?_) | ((with_reducible refine at_alloc ?_); first | (refine slz hM ?_ (hz := zero_secY); clear hM; intro gx w1 hM) | (refine slz hM ?_ (hz := zero_pub); clear hM; intro gx w1 hM) | (refine slz hM ?_ (hz := zero_sgn); clear hM; intro gx w1 hM) | (refine slz hM ?_ (hz := zero_brkT); clear hM; intro gx w1 hM)) | ((with_reducible refine at_store ?_); first | (refine slw hM ?_ (hs := secC_size _ _) (h1 := secC_one _ _) (hty := row_sec); clear hM; intro wx hM) | (refine slw hM ?_ (hs := pubC_size _ _) (h1 := pubC_one _ _) (hty := row_pub); clear hM; intro wx hM) | (refine slw hM ?_ (hs := sigC_size _ _ _ _ _) (h1 := sigC_one _ _ _ _ _) (hty := row_sgn); clear hM; intro wx hM)))
    (refine (HBR.out _ _ _ _ _ (p16N (hM.thing _ (List.Mem.tail _ (List.Mem.head _))) hlen) (p16N (hM.thing _ (List.Mem.head _)) hlen) hM.below).mono ?_)
    rintro e w1 ⟨c, f, g, X, Y, Z, HG, rfl, hb⟩
    replace hM := hM.step hb
    clear hb
    have HBS := Lib.hid (Hp.brC_size (k := 2) Hp.twoZ_len (Once.evl_len (k := 1) (c := (c : Nat)) (f := (g : Nat)) (t := (f : Nat)) HG.out.2.ok))
    have HBO : Hid (∀ v ∈ (Hp.brC 2 Hp.twoZ (Hp.evl 1 (c : Nat) (g : Nat) (f : Nat) X Y Z Z)).toList, v.oneCell' = true) := Lib.hid (Hp.brC_one Hp.twoZ_one (Hp.evc_one (k := 1) (c := (c : Nat)) (f := (g : Nat)) (t := (f : Nat)) (A := X) (B := Y) (F := Z) (S := Z)))
    have HB0 := Lib.hid (Hp.brC_0 2 Hp.twoZ (Hp.evl 1 (c : Nat) (g : Nat) (f : Nat) X Y Z Z))
    have HB6 : Hid ((Hp.brC 2 Hp.twoZ (Hp.evl 1 (c : Nat) (g : Nat) (f : Nat) X Y Z Z))[66]? = some (.int .i64 1)) := Lib.hid (Hp.brC_66 Hp.twoZ_len)
    have HBE : Hid ((Hp.brC 2 Hp.twoZ (Hp.evl 1 (c : Nat) (g : Nat) (f : Nat) X Y Z Z)).extract 66 (66 + 1156) = Hp.evc 1 (c : Nat) (g : Nat) (f : Nat) X Y Z Z) := Lib.hid (Hp.brC_ev Hp.twoZ_len (Once.evl_len HG.out.2.ok))
    have HCK2 := Lib.hid (fun w' (hb : Below w.heap.size w w') => HCK.out 1 (c : Nat) (g : Nat) (f : Nat) X Y Z Z w' HG.out.2 hb)
    generalize Hp.brC 2 Hp.twoZ (Hp.evl 1 (c : Nat) (g : Nat) (f : Nat) X Y Z Z) = V at HBS HBO HB0 HB6 HBE ⊢
    generalize Hp.evc 1 (c : Nat) (g : Nat) (f : Nat) X Y Z Z = U at HBE HCK2
    go_wp2_with (first | ((with_reducible refine at_alloc ?_); refine slz hM ?_ (hz := zero_brkT); clear hM; intro gx w1 hM) | ((with_reducible refine at_store ?_); refine slw hM ?_ (hs := HBS.out) (h1 := HBO.out) (hty := row_brkT); clear hM; intro wx hM) | (((with_reducible refine at_load_g ?_ ?_); (· rfl)); first | refine slc hM ?_ (hv := HB0.out) | refine slc hM ?_ (hv := HB6.out) | refine slp hM ?_ (hX := HBE.out) (hty := row_eviT)))
    (refine (HCK2.out _ hM.below).mono ?_)
    rintro e w1 ⟨rfl, hb⟩
    replace hM := hM.step hb
    clear hb
    go_wp2_with fail
    go_ret
    exact ⟨rfl, hM.below⟩
end Go.Proofs.YtbbdnlcjjcmllaaDoor
