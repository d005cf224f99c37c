/- Contract of signer.Break where a leaf was used for two digests: the value that precedes another one. The walk of SignerReused. What Break may return, and that Broken finds it correct. -/
import Derived.Test.YtbbdnlcjjcmllaaDoorWg
import Derived.Test.YtbbdnlcjjcmllaaDoorXv
import Derived.Test.YtbbdnlcjjcmllaaDoorWo
import Derived.Test.YtbbdnlcjjcmllaaDoorWi
import Derived.Test.YtbbdnlcjjcmllaaDoorWm
import Derived.Test.YtbbdnlcjjcmllaaDoorMy
namespace Go.Bul.Hp
open Go Go.RowKit
/-- The cells of what Break returns: kind, two pairs of nodes, evidence. -/
def brC (k : Int) (T E : List Value) : Array Value := (.int .i64 k :: (T ++ E)).toArray
/-- No pairs. -/
def twoZ : List Value := .int .i64 0 :: vals .u8 (zeros 64)
theorem twoZ_len : twoZ.length = 65 := by simp [twoZ]
theorem brC_size {k : Int} {T E : List Value} (hT : T.length = 65) (hE : E.length = 1156) : (brC k T E).size = 1222 := by simp [brC, hT, hE]
theorem brC_ev {k : Int} {T E : List Value} (hT : T.length = 65) (hE : E.length = 1156) : (brC k T E).extract 66 (66 + 1156) = E.toArray := by
  have e : (brC k T E) = ((Value.int .i64 k :: T) ++ (E ++ [])).toArray := by simp [brC]
  rw [e]
  exact mid_extract (by simp [hT]) hE
theorem brC_one {k : Int} {T E : List Value} (hT : ∀ v ∈ T, v.oneCell' = true) (hE : ∀ v ∈ E, v.oneCell' = true) : ∀ v ∈ (brC k T E).toList, v.oneCell' = true := by
  intro v hv
  rcases List.mem_cons.1 hv with rfl | hv
  · rfl
  · rcases List.mem_append.1 hv with hv | hv
    · exact hT v hv
    · exact hE v hv
theorem twoZ_one : ∀ v ∈ twoZ, v.oneCell' = true := by
  intro v hv
  rcases List.mem_cons.1 hv with rfl | hv
  · rfl
  · exact vals_one _ _ v hv
end Go.Bul.Hp
namespace Go.Proofs.YtbbdnlcjjcmllaaDoor.Once
open Go Go.RowKit Go.Bul Go.Bul.Hp Go.Lin
theorem row_pubH : RowTy Tryd.prog 30 17 := ⟨⟨_, Tryd.underlying30, rfl, by kernel_rfl⟩⟩
theorem row_sgnH : RowTy Tryd.prog 37 562 := ⟨⟨_, Tryd.underlying37, rfl, by kernel_rfl⟩⟩
theorem row_brkH : RowTy Tryd.prog 48 1222 := ⟨⟨_, Tryd.underlying48, rfl, by kernel_rfl⟩⟩
/-- The cells of no evidence. -/
abbrev evl0 : List Value := evl 0 0 0 0 (zeros 16) (zeros 16) (zeros 560) (zeros 560)
theorem evl_len {k c f t : Int} {A B F S : List Nat} (h : EvOk A B F S) : (evl k c f t A B F S).length = 1156 := by
  have := evc_size (k := k) (c := c) (f := f) (t := t) h
  simpa [evc] using this
set_option maxRecDepth 20000 in
theorem brk_zero : (Tryd.prog.info? 48).map (·.zero) = some (some (.agg (brC 0 twoZ evl0))) := by kernel_rfl
theorem zero_brkH : ZeroTy Tryd.prog 48 1222 (brC 0 twoZ evl0) := ⟨⟨.agg _, brk_zero, rfl, brC_size twoZ_len (evl_len ok0)⟩⟩
def brPlaces : Array (Nat × Nat) := #[(0, 1), (1, 65), (66, 1156)]
theorem brk_struct : Tryd.prog.underlying 48 = some (.struct (Tryd.prog.fieldsOf 48)) := by kernel_rfl
theorem brk_places (w : World) : (((Tryd.prog.fieldsOf 48).mapM fun f => do pure (f.offset, ← sizeOf f.type) : Sem (Array (Nat × Nat)))).run Tryd.prog w = .ok brPlaces w := by kernel_rfl
theorem bld_brk (k c f t : Int) (A B F S : List Nat) (h : EvOk A B F S) (w : World) : (Instr.build 48 #[(0, .int .i64 2), (2, .agg (evc k c f t A B F S))]).run Tryd.prog w = .ok (.agg (brC 2 twoZ (evl k c f t A B F S))) w := by
  refine Hp.run_build_struct brk_struct brk_zero brk_places ?_ w
  show Instr.fill (brPlaces[·]?) (brC 0 twoZ evl0) [(0, .int .i64 2), (2, .agg (evc k c f t A B F S))] = _
  have l0 : evl0.length = 1156 := evl_len ok0
  have l1 := evl_len (k := k) (c := c) (f := f) (t := t) h
  rw [Hp.fill_cons (size := 1) rfl rfl (by rw [brC_size twoZ_len l0]; omega)]
  have e2 : (splice (brC 0 twoZ evl0).toList 0 (Value.cells (.int .i64 2)).toList).toArray = brC 2 twoZ evl0 := rfl
  rw [e2, Hp.fill_cons (size := 1156) rfl (by exact evc_size h) (by rw [brC_size twoZ_len l0]; omega)]
  have e3 : splice ((Value.int .i64 2 :: twoZ) ++ (evl0 ++ [])) 66 (evl k c f t A B F S) = (Value.int .i64 2 :: twoZ) ++ (evl k c f t A B F S ++ []) := mid_splice (by simp [twoZ_len]) (by rw [l0, l1])
  simp only [List.append_nil] at e3
  show Instr.fill _ (splice ((Value.int .i64 2 :: twoZ) ++ evl0) 66 (evl k c f t A B F S)).toArray [] = _
  rw [e3]
  rfl
end Go.Proofs.YtbbdnlcjjcmllaaDoor.Once
namespace Go.Proofs.YtbbdnlcjjcmllaaDoor
open Go Go.RowKit Go.Bul Go.Thg Go.Lin
theorem zero_secY : ZeroTy Tryd.prog 28 33 (secC sd0 0) := ⟨⟨.agg _, by kernel_rfl, rfl, secC_size _ _⟩⟩
theorem row_brkT : RowTy Tryd.prog 48 1222 := ⟨⟨_, Tryd.underlying48, rfl, by kernel_rfl⟩⟩
theorem zero_brkT : ZeroTy Tryd.prog 48 1222 (Hp.brC 0 Hp.twoZ Once.evl0) := ⟨⟨.agg _, Once.brk_zero, rfl, Hp.brC_size Hp.twoZ_len (Once.evl_len Once.ok0)⟩⟩
theorem p16N {A : Option Addr} {n c : Nat} {l : List Nd} {w : World} (h : (p16T (.slice A n c) l).P w) (_ : l.length = n) : NIn w A n l := p16T_in h
end Go.Proofs.YtbbdnlcjjcmllaaDoor
namespace Go.Bul.Hp
open Go Go.RowKit
theorem brC_two {k : Int} {T E : List Value} {i n : Nat} (h : i + n ≤ T.length) : (brC k T E).extract (1 + i) (1 + i + n) = T.toArray.extract i (i + n) := by
  apply Array.ext'
  simp only [brC, List.extract_toArray, List.extract_eq_take_drop, show 1 + i + n - (1 + i) = n by omega, show i + n - i = n by omega]
  rw [show 1 + i = i + 1 by omega, List.drop_succ_cons, List.drop_append_of_le_length (by omega), List.take_append_of_le_length (by rw [List.length_drop]; omega)]
end Go.Bul.Hp
namespace Go.Proofs.YtbbdnlcjjcmllaaDoor.Once
open Go Go.RowKit Go.Bul Go.Bul.Hp Go.Lin
theorem row_nd2H : RowTy Tryd.prog 42 32 := ⟨⟨_, Tryd.underlying42, rfl, by kernel_rfl⟩⟩
theorem row_ndH : RowTy Tryd.prog 41 16 := ⟨⟨_, Tryd.underlying41, rfl, by kernel_rfl⟩⟩
theorem row_twoH : RowTy Tryd.prog 44 65 := ⟨⟨_, Tryd.underlying44, rfl, by kernel_rfl⟩⟩
/-- What Break may return for a leaf. -/
def BrOk (k : Nat) (V : Array Value) : Prop :=
  (∃ kk c f t A B X Y, GoodEv k kk c f t A B X Y ∧ V = brC 2 twoZ (evl kk c f t A B X Y)) ∨ (∃ lev p q, p ≠ q ∧ joinN lev p.1 p.2 = joinN lev q.1 q.2 ∧ V = brC 1 (twoL lev p q) evl0) ∨ V = brC 0 twoZ evl0
theorem twoL_len (lev : Int) (p q : Nd × Nd) : (twoL lev p q).length = 65 := by
  have := twoC_size lev p q
  simpa [twoC] using this
theorem BrOk.size {k : Nat} {V : Array Value} (h : BrOk k V) : V.size = 1222 := by
  rcases h with ⟨_, _, _, _, _, _, _, _, hG, rfl⟩ | ⟨lev, p, q, _, _, rfl⟩ | rfl
  · exact brC_size twoZ_len (evl_len hG.ok)
  · exact brC_size (twoL_len lev p q) (evl_len ok0)
  · exact brC_size twoZ_len (evl_len ok0)
theorem BrOk.one {k : Nat} {V : Array Value} (h : BrOk k V) : ∀ v ∈ V.toList, v.oneCell' = true := by
  rcases h with ⟨_, _, _, _, _, _, _, _, hG, rfl⟩ | ⟨lev, p, q, _, _, rfl⟩ | rfl
  · exact brC_one twoZ_one evc_one
  · exact brC_one (twoC_one lev p q) evc_one
  · exact brC_one twoZ_one evc_one
set_option maxRecDepth 20000 in
set_option maxHeartbeats 4000000 in
theorem broken_any (k : Nat) (V : Array Value) (w : World) (hk : k ≤ 65535) (h : BrOk k V) (hT : Tab w) :
    Calls Tryd.prog 11 #[.agg V, .int .i64 (k : Nat)] w fun e w' => e = .returned (.bool true) ∧ Below w.heap.size w w' := by
  have hM := Mem.start [] w
  have HVS := Lib.hid h.size
  rcases h with ⟨kk, c, f, t, A, B, X, Y, hG, hV⟩ | ⟨lev, p, q, hne, hj, hV⟩ | hV
  · have H0 : Hid (V[0]? = some (.int .i64 2)) := Lib.hid (by rw [hV]; rfl)
    have HE : Hid (V.extract 66 (66 + 1156) = evc kk c f t A B X Y) := Lib.hid (by rw [hV]; exact brC_ev twoZ_len (evl_len hG.ok))
    have HC := Lib.hid (fun w' (hb : Below w.heap.size w w') => chk_good k (k : Nat) kk c f t A B X Y w' hG hk rfl (hT.keep hb))
    generalize evc kk c f t A B X Y = U at HE HC
    clear hV hG hT hk
    go_enter Tryd.func11, Tryd.ntmps11
    go_wp2_with (first | ((with_reducible refine at_box ?_); refine wpList_mem_box hM rfl _ _ (by rfl) _ (by rfl) _ row_brkH HVS.out ?_; clear hM; intro gx wx hM) | ((with_reducible refine at_load ?_); first | refine wpList_mem_cell hM rfl _ _ (by rfl) _ _ (by rfl) _ _ _ (by repeat (first | exact List.Mem.head _ | apply List.Mem.tail)) one_int _ H0.out ?_ | refine wpList_mem_part hM rfl _ _ (by rfl) _ _ (by rfl) _ _ _ (by repeat (first | exact List.Mem.head _ | apply List.Mem.tail)) 1156 row_evi (by omega) _ HE.out ?_))
    (refine (HC.out _ hM.below).mono ?_)
    rintro e w1 ⟨rfl, hb1⟩
    replace hM := hM.step hb1
    go_wp2_with fail
    go_ret
    exact ⟨rfl, hM.below⟩
  · have H0 : Hid (V[0]? = some (.int .i64 1)) := Lib.hid (by rw [hV]; rfl)
    have H1 : Hid (V[1]? = some (.int .i64 lev)) := Lib.hid (by rw [hV]; rfl)
    have hl := twoL_len lev p q
    have HA : Hid (V.extract 2 (2 + 32) = ndC2 p.1 p.2) := Lib.hid (by rw [hV]; exact (brC_two (i := 1) (n := 32) (by omega)).trans (twoC_A lev p q))
    have HB : Hid (V.extract 34 (34 + 32) = ndC2 q.1 q.2) := Lib.hid (by rw [hV]; exact (brC_two (i := 33) (n := 32) (by omega)).trans (twoC_B lev p q))
    have HA0 : Hid (V.extract 2 (2 + 16) = ndC p.1) := Lib.hid (by rw [hV]; exact (brC_two (i := 1) (n := 16) (by omega)).trans (twoC_A0 lev p q))
    have HA1 : Hid (V.extract 18 (18 + 16) = ndC p.2) := Lib.hid (by rw [hV]; exact (brC_two (i := 17) (n := 16) (by omega)).trans (twoC_A1 lev p q))
    have HB0 : Hid (V.extract 34 (34 + 16) = ndC q.1) := Lib.hid (by rw [hV]; exact (brC_two (i := 33) (n := 16) (by omega)).trans (twoC_B0 lev p q))
    have HB1 : Hid (V.extract 50 (50 + 16) = ndC q.2) := Lib.hid (by rw [hV]; exact (brC_two (i := 49) (n := 16) (by omega)).trans (twoC_B1 lev p q))
    have j1 := fun w' (hb : Below w.heap.size w w') => join_any lev p.1 p.2 w' (hT.keep hb)
    have j2 := fun w' (hb : Below w.heap.size w w') => join_any lev q.1 q.2 w' (hT.keep hb)
    rw [← hj] at j2
    have EQ : Hid (∀ W, (Op.equalIn 10000 42 (.agg (ndC2 p.1 p.2)) (.agg (ndC2 q.1 q.2))).run Tryd.prog W = .ok false W) := Lib.hid fun W => by rw [eq_pr 9997 p q W]; simp [hne]
    have EJ : Hid (∀ W, (Op.equalIn 10000 41 (.agg (ndC (joinN lev p.1 p.2))) (.agg (ndC (joinN lev p.1 p.2)))).run Tryd.prog W = .ok true W) := Lib.hid fun W => by rw [eq_nds 9998 _ _ W]; simp
    generalize joinN lev p.1 p.2 = J at j1 j2 EJ
    have J1 := Lib.hid j1
    have J2 := Lib.hid j2
    generalize ndC2 p.1 p.2 = P2 at HA EQ
    generalize ndC2 q.1 q.2 = Q2 at HB EQ
    clear hV hT hk hj hne j1 j2
    go_enter Tryd.func11, Tryd.ntmps11
    go_wp2_with (first | ((with_reducible refine at_box ?_); refine wpList_mem_box hM rfl _ _ (by rfl) _ (by rfl) _ row_brkH HVS.out ?_; clear hM; intro gx wx hM) | ((with_reducible refine at_load ?_); refine wpList_mem_cell hM rfl _ _ (by rfl) _ _ (by rfl) _ _ _ (by repeat (first | exact List.Mem.head _ | apply List.Mem.tail)) one_int _ H0.out ?_))
    have eQ := EQ.out
    have eJ := EJ.out
    refine Go.Bul.wp_region_class (Mem _ w _ _) (by kernel_rfl) (by kernel_rfl) hM.drew ?_
    repeat ((with_reducible refine wpQuiet_step (fun K hK => ?_)); (first | ((with_reducible refine quiet_some ?_ ?_); (· rfl)) | ((with_reducible refine quiet_wanted ?_ ?_); (· rfl))); apply Exists.intro; refine ⟨fun w' hM' => ?_, ?_⟩; (· first | exact quietAt_mem_cell hM' _ _ (by rfl) _ _ (by rfl) _ _ _ (by repeat (first | exact List.Mem.head _ | apply List.Mem.tail)) one_int _ H1.out | exact quietAt_mem_part hM' _ _ (by rfl) _ _ (by rfl) _ _ _ (by repeat (first | exact List.Mem.head _ | apply List.Mem.tail)) 32 row_nd2H (by omega) _ (by first | exact HA.out | exact HB.out) | exact quietAt_mem_part hM' _ _ (by rfl) _ _ (by rfl) _ _ _ (by repeat (first | exact List.Mem.head _ | apply List.Mem.tail)) 16 row_ndH (by omega) _ (by first | exact HA0.out | exact HA1.out | exact HB0.out | exact HB1.out) | exact quietAt_mem_load hM' _ _ (by rfl) _ (by rfl) _ _ _ (by repeat (first | exact List.Mem.head _ | apply List.Mem.tail)) (by first | exact row_a16 | exact row_i35 | exact row_val | exact row_a32 | exact row_e35 | exact row_v35 | exact row_sig | exact row_evi | exact row_half | exact row_dig | exact row_i2 | exact row_i3 | exact row_b3 | exact row_h2 | exact row_pair) | exact quietAt_mem_num hM' _ _ (by rfl) _ _ (by rfl) _ _ _ _ (by repeat (first | exact List.Mem.head _ | apply List.Mem.tail)) (by first | exact one_u8 | exact one_int | exact one_u32 | exact one_bool | exact one_errno | exact one_u16 | exact one_sl) (by omega) | exact quietAt_mem_cell hM' _ _ (by rfl) _ _ (by rfl) _ _ _ (by repeat (first | exact List.Mem.head _ | apply List.Mem.tail)) (by first | exact one_u8 | exact one_int | exact one_u32 | exact one_bool | exact one_errno | exact one_u16 | exact one_sl) _ (by rfl) | exact quietAt_mem_piece hM' _ _ (by rfl) _ _ (by rfl) _ _ _ _ (by repeat (first | exact List.Mem.head _ | apply List.Mem.tail)) (by first | exact row_a16 | exact row_i35 | exact row_val | exact row_a32 | exact row_e35 | exact row_v35 | exact row_sig | exact row_evi | exact row_half | exact row_dig | exact row_i2 | exact row_i3 | exact row_b3 | exact row_h2 | exact row_pair) (by omega) | (go_simp; rfl) | (go_simp; with_reducible refine at_calls ?_; first | exact quiet_mem_call hM' (J1.out _ hM'.below) | exact quiet_mem_call hM' (J2.out _ hM'.below))); go_simp; refine hK _ ?_; clear hK K)
    refine wpQuiet_nil ?_
    intro wx hM
    go_wp2_with fail
    go_ret
    exact ⟨rfl, hM.below⟩
  · have H0 : Hid (V[0]? = some (.int .i64 0)) := Lib.hid (by rw [hV]; rfl)
    clear hV hT hk
    go_enter Tryd.func11, Tryd.ntmps11
    go_wp2_with (first | ((with_reducible refine at_box ?_); refine wpList_mem_box hM rfl _ _ (by rfl) _ (by rfl) _ row_brkH HVS.out ?_; clear hM; intro gx wx hM) | ((with_reducible refine at_load ?_); refine wpList_mem_cell hM rfl _ _ (by rfl) _ _ (by rfl) _ _ _ (by repeat (first | exact List.Mem.head _ | apply List.Mem.tail)) one_int _ H0.out ?_))
    go_ret
    exact ⟨rfl, hM.below⟩
end Go.Proofs.YtbbdnlcjjcmllaaDoor.Once
