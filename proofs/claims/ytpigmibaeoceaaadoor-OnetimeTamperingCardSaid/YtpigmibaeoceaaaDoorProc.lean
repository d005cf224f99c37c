/- Contract of sha256.process: the plain definition's compress. Conditions: the state's words are below 2^32, the block has sixteen words below 2^32, the table of constants lies in its variable. -/
import Derived.Test.YtpigmibaeoceaaaDoorZb
import Derived.Test.YtpigmibaeoceaaaDoorMem
import Derived.StillTailTactics
namespace Go.Proofs.YtpigmibaeoceaaaDoor
open Go Go.RowKit Go.Bul
/-- The table of the rounds' constants lies in the variable. -/
def Tab (w : World) : Prop := ∀ i, i < 64 → w.cell? ⟨0, i, none⟩ = some (.int .u32 (Bul.K i : Nat))
def Win (m : Nat → Nat) (t : Nat) (l : List Nat) : Prop := l.length = 16 ∧ ∀ i, i < max t 16 → t ≤ i + 16 → l.getD (i % 16) 0 = Bul.W m i
/-- The eight words of a state, as cells. -/
def stc (v : Bul.St) : Array Value := cellsOf .u32 v.list
theorem stc_eq (v : Bul.St) : stc v = #[.int .u32 v.a, .int .u32 v.b, .int .u32 v.c, .int .u32 v.d, .int .u32 v.e, .int .u32 v.f, .int .u32 v.g, .int .u32 v.h] := rfl
theorem stv_eq (v : Bul.St) : stv v = .agg #[.int .u32 v.a, .int .u32 v.b, .int .u32 v.c, .int .u32 v.d, .int .u32 v.e, .int .u32 v.f, .int .u32 v.g, .int .u32 v.h] := rfl
theorem Tab.keep {w w' : World} (h : Tab w) (hb : Below w.heap.size w w') : Tab w' := fun i hi => by
  have h0 := h i hi
  have hlt : 0 < w.heap.size := block_lt_of_cell (h 0 (by omega))
  rw [hb.cell (p := ⟨_, i, none⟩) hlt]
  exact h0
theorem Win.start {m : Nat → Nat} {l : List Nat} (hl : l.length = 16) (hm : ∀ j, j < 16 → l.getD j 0 = m j) : Win m 0 l := by
  refine ⟨hl, fun i hi _ => ?_⟩
  have hi' : i < 16 := by omega
  rw [Nat.mod_eq_of_lt hi', hm i hi', Bul.W_lo m hi']
theorem Win.lo {m : Nat → Nat} {t : Nat} {l : List Nat} (h : Win m t l) (ht : t < 16) : Win m (t + 1) l := by
  refine ⟨h.1, fun i hi hi' => h.2 i (by omega) (by omega)⟩
theorem getD_set (l : List Nat) (i j x : Nat) (hi : i < l.length) : (l.set i x).getD j 0 = if i = j then x else l.getD j 0 := by
  rw [List.getD_eq_getElem?_getD, List.getD_eq_getElem?_getD, List.getElem?_set]
  split
  · rename_i h
    subst h
    simp
  · rfl
theorem Win.hi {m : Nat → Nat} {t : Nat} {l : List Nat} (h : Win m t l) (ht : 16 ≤ t) : Win m (t + 1) (l.set (t % 16) (Bul.W m t)) := by
  have hl := h.1
  refine ⟨by simp [hl], fun i hi hi' => ?_⟩
  rw [getD_set _ _ _ _ (by omega)]
  split
  · rename_i he
    have : i = t := by omega
    rw [this]
  · rename_i he
    have : i ≠ t := fun e => he (by rw [e])
    exact h.2 i (by omega) (by omega)
theorem s0_int (x : Nat) (hx : x < 4294967296) : bits .xor .u32 (bits .xor .u32 ↑(rotr x 7) ↑(rotr x 18)) (↑x / 8) = ((Bul.s0 x : Nat) : Int) := by
  have h : (x : Int) / (8 : Int) = ((x >>> 3 : Nat) : Int) := by rw [Nat.shiftRight_eq_div_pow]; omega
  rw [h, u32_xor_nat _ _ (rotr_lt _ _ hx) (rotr_lt _ _ hx), u32_xor_nat _ _ (xor_lt32 (rotr_lt _ _ hx) (rotr_lt _ _ hx)) (by rw [Nat.shiftRight_eq_div_pow]; omega), Bul.s0]
theorem s1_int (x : Nat) (hx : x < 4294967296) : bits .xor .u32 (bits .xor .u32 ↑(rotr x 17) ↑(rotr x 19)) (↑x / 1024) = ((Bul.s1 x : Nat) : Int) := by
  have h : (x : Int) / (1024 : Int) = ((x >>> 10 : Nat) : Int) := by rw [Nat.shiftRight_eq_div_pow]; omega
  rw [h, u32_xor_nat _ _ (rotr_lt _ _ hx) (rotr_lt _ _ hx), u32_xor_nat _ _ (xor_lt32 (rotr_lt _ _ hx) (rotr_lt _ _ hx)) (by rw [Nat.shiftRight_eq_div_pow]; omega), Bul.s1]
/-- Eight stores into a block of eight cells. -/
def set8 (w : World) (g : Nat) (v : Bul.St) : World :=
  (((((((w.setCell ⟨g, 0, none⟩ (.int .u32 v.a)).setCell ⟨g, 1, none⟩ (.int .u32 v.b)).setCell ⟨g, 2, none⟩ (.int .u32 v.c)).setCell ⟨g, 3, none⟩ (.int .u32 v.d)).setCell ⟨g, 4, none⟩ (.int .u32 v.e)).setCell ⟨g, 5, none⟩ (.int .u32 v.f)).setCell ⟨g, 6, none⟩ (.int .u32 v.g)).setCell ⟨g, 7, none⟩ (.int .u32 v.h)
theorem eight_set {cs : Array Value} (hs : cs.size = 8) (a b c d e f g h : Value) :
    (((((((cs.setIfInBounds 0 a).setIfInBounds 1 b).setIfInBounds 2 c).setIfInBounds 3 d).setIfInBounds 4 e).setIfInBounds 5 f).setIfInBounds 6 g).setIfInBounds 7 h = #[a, b, c, d, e, f, g, h] := by
  obtain ⟨l⟩ := cs
  rcases l with _ | ⟨c0, _ | ⟨c1, _ | ⟨c2, _ | ⟨c3, _ | ⟨c4, _ | ⟨c5, _ | ⟨c6, _ | ⟨c7, _ | ⟨c8, r⟩⟩⟩⟩⟩⟩⟩⟩⟩
  all_goals first | (simp at hs; done) | (simp at hs; omega) | simp
theorem set8_blk {w : World} {g : Nat} {t : TypeId} {cs : Array Value} (v : Bul.St) (h : Blk w g t cs) (hs : cs.size = 8) : Blk (set8 w g v) g t (stc v) := by
  have h' := (((((((h.set 0 (.int .u32 v.a)).set 1 (.int .u32 v.b)).set 2 (.int .u32 v.c)).set 3 (.int .u32 v.d)).set 4 (.int .u32 v.e)).set 5 (.int .u32 v.f)).set 6 (.int .u32 v.g)).set 7 (.int .u32 v.h)
  rw [eight_set hs] at h'
  exact h'
theorem set8_far {w : World} {g g' : Nat} {t : TypeId} {cs : Array Value} (v : Bul.St) (h : Blk w g' t cs) (hg : g' ≠ g) : Blk (set8 w g v) g' t cs :=
  (((((((h.far (p := ⟨g, 0, none⟩) hg _).far (p := ⟨g, 1, none⟩) hg _).far (p := ⟨g, 2, none⟩) hg _).far (p := ⟨g, 3, none⟩) hg _).far (p := ⟨g, 4, none⟩) hg _).far (p := ⟨g, 5, none⟩) hg _).far (p := ⟨g, 6, none⟩) hg _).far (p := ⟨g, 7, none⟩) hg _
theorem set8_below {a w : World} {B g : Nat} (v : Bul.St) (h : Below B a w) (hg : B ≤ g) : Below B a (set8 w g v) :=
  (((((((h.setCell (p := ⟨g, 0, none⟩) hg _).setCell (p := ⟨g, 1, none⟩) hg _).setCell (p := ⟨g, 2, none⟩) hg _).setCell (p := ⟨g, 3, none⟩) hg _).setCell (p := ⟨g, 4, none⟩) hg _).setCell (p := ⟨g, 5, none⟩) hg _).setCell (p := ⟨g, 6, none⟩) hg _).setCell (p := ⟨g, 7, none⟩) hg _
structure ProcInv (W : World) (m : Nat → Nat) (v : Bul.St) (t : Nat) (w : World) : Prop where
  h : Blk w W.heap.size 96 (stc v)
  win : ∃ l, Win m t l ∧ Blk w (W.heap.size + 1) 102 (cellsOf .u32 l)
  r : ∃ cs : Array Value, cs.size = 8 ∧ Blk w (W.heap.size + 1 + 1) 96 cs
  v : Blk w (W.heap.size + 1 + 1 + 1) 96 (stc (Bul.stAt m v t))
  old : Below W.heap.size W w
set_option maxRecDepth 20000 in
set_option maxHeartbeats 1000000 in
theorem process_any (v : Bul.St) (l : List Nat) (m : Nat → Nat) (w : World) (hv : v.Ok) (hl : l.length = 16) (hm : ∀ j, j < 16 → l.getD j 0 = m j) (hb : ∀ j, j < 16 → m j < 4294967296) (hT : Tab w) :
    Calls Tryd.prog 51 #[stv v, .agg (cellsOf .u32 l)] w fun e w' => e = .returned (stv (Bul.compress v m)) ∧ Below w.heap.size w w' := by
  rw [stv_eq v]
  have HT := Lib.hid hT
  have HL := Lib.hid hl
  have HM := Lib.hid hm
  have HB := Lib.hid hb
  clear hT hl hm hb
  go_enter Tryd.func51, Tryd.ntmps51
  go_wp2_with fail
  go_loopw [12] (fun i wr => ∃ t : Nat, t ≤ 64 ∧ i = .int .i64 t ∧ ProcInv w m v t wr) (fun i _ => 64 - (intOf i).toNat)
  case atStart =>
    refine ⟨0, by omega, rfl, ?_⟩
    exact ⟨(((Blk.new w _ _).alloc _).alloc _).alloc _, ⟨l, Win.start HL.out HM.out, ((Blk.new' _ _ _ _ (by simp)).alloc _).alloc _⟩, ⟨_, rfl, (Blk.new' _ _ _ _ (by simp)).alloc _⟩, Blk.new' _ _ (stc v) _ (by simp), (((((Below.refl _ _).alloc (Nat.le_refl _) _).alloc (by simp) _).alloc (by simp; omega) _).alloc (by simp; omega) _)⟩
  case round =>
    obtain ⟨t, ht, rfl, hI⟩ := hrel
    obtain ⟨hh, ⟨l', hw, hW⟩, ⟨cs, hcs, hr⟩, hv', hold⟩ := hI
    by_cases hlt : t < 64
    · by_cases h16 : 16 ≤ t
      · obtain ⟨x, hx⟩ : ∃ x, x = Bul.W m (t - 15) := ⟨_, rfl⟩
        obtain ⟨y, hy⟩ : ∃ y, y = Bul.W m (t - 2) := ⟨_, rfl⟩
        obtain ⟨j15, hj15⟩ : ∃ j, j = (t - 15) % 16 := ⟨_, rfl⟩
        obtain ⟨j2, hj2⟩ : ∃ j, j = (t - 2) % 16 := ⟨_, rfl⟩
        have e15 : (IntKind.i64.wrap (↑t - 15)).tmod 16 = (j15 : Int) := by rw [IntWalk.i64_in _ (by omega), Int.tmod_eq_emod_of_nonneg (by omega)]; omega
        have e2 : (IntKind.i64.wrap (↑t - 2)).tmod 16 = (j2 : Int) := by rw [IntWalk.i64_in _ (by omega), Int.tmod_eq_emod_of_nonneg (by omega)]; omega
        have b15 : (j15 : Int) < 16 := by omega
        have b2 : (j2 : Int) < 16 := by omega
        have c15 : wr.cell? ⟨w.heap.size + 1, j15, none⟩ = some (.int .u32 (x : Nat)) := by
          rw [hW.num (by rw [hw.1]; omega), hj15, hw.2 (t - 15) (by omega) (by omega), hx]
        have c2 : wr.cell? ⟨w.heap.size + 1, j2, none⟩ = some (.int .u32 (y : Nat)) := by
          rw [hW.num (by rw [hw.1]; omega), hj2, hw.2 (t - 2) (by omega) (by omega), hy]
        have bx : x < 4294967296 := by rw [hx]; exact Bul.W_lt HB.out _
        have by_ : y < 4294967296 := by rw [hy]; exact Bul.W_lt HB.out _
        have H := Lib.hid (And.intro hx (And.intro hy (And.intro hj15 hj2)))
        have R7 := Lib.hid (fun W => rot_any x 7 W bx (by simp [IsRot]) 7 rfl)
        have R18 := Lib.hid (fun W => rot_any x 18 W bx (by simp [IsRot]) 18 rfl)
        have R17 := Lib.hid (fun W => rot_any y 17 W by_ (by simp [IsRot]) 17 rfl)
        have R19 := Lib.hid (fun W => rot_any y 19 W by_ (by simp [IsRot]) 19 rfl)
        clear hx hy hj15 hj2
        have E0 : bits .xor .u32 (bits .xor .u32 ↑(rotr x 7) ↑(rotr x 18)) (↑x / 8) = ((Bul.s0 x : Nat) : Int) := s0_int x bx
        have E1 : bits .xor .u32 (bits .xor .u32 ↑(rotr y 17) ↑(rotr y 19)) (↑y / 1024) = ((Bul.s1 y : Nat) : Int) := s1_int y by_
        go_wp2_with fail
        go_quiet (fail)
        clear e15 e2
        go_wp2_with (go_at_call 54; first | ((with_reducible refine (R7.out _).mono ?_); rintro e w' ⟨rfl, rfl⟩) | ((with_reducible refine (R18.out _).mono ?_); rintro e w' ⟨rfl, rfl⟩) | ((with_reducible refine (R17.out _).mono ?_); rintro e w' ⟨rfl, rfl⟩) | ((with_reducible refine (R19.out _).mono ?_); rintro e w' ⟨rfl, rfl⟩))
        clear c15 c2 b15 b2
        obtain ⟨z, hz⟩ : ∃ z, z = Bul.W m (t - 16) := ⟨_, rfl⟩
        obtain ⟨u, hu⟩ : ∃ u, u = Bul.W m (t - 7) := ⟨_, rfl⟩
        obtain ⟨j, hj⟩ : ∃ j, j = t % 16 := ⟨_, rfl⟩
        obtain ⟨j7, hj7⟩ : ∃ j, j = (t - 7) % 16 := ⟨_, rfl⟩
        have e0 : (t : Int).tmod 16 = (j : Int) := by rw [Int.tmod_eq_emod_of_nonneg (by omega)]; omega
        have e7 : (IntKind.i64.wrap (↑t - 7)).tmod 16 = (j7 : Int) := by rw [IntWalk.i64_in _ (by omega), Int.tmod_eq_emod_of_nonneg (by omega)]; omega
        have b0 : (j : Int) < 16 := by omega
        have b7 : (j7 : Int) < 16 := by omega
        have c0 : wr.cell? ⟨w.heap.size + 1, j, none⟩ = some (.int .u32 (z : Nat)) := by
          rw [hW.num (by rw [hw.1]; omega), hj, show t % 16 = (t - 16) % 16 by omega, hw.2 (t - 16) (by omega) (by omega), hz]
        have c7 : wr.cell? ⟨w.heap.size + 1, j7, none⟩ = some (.int .u32 (u : Nat)) := by
          rw [hW.num (by rw [hw.1]; omega), hj7, hw.2 (t - 7) (by omega) (by omega), hu]
        have f0 : wr.frozen? ⟨w.heap.size + 1, j, none⟩ = false := hW.free _
        have H2 := Lib.hid (And.intro hz (And.intro hu (And.intro hj hj7)))
        clear hz hu hj hj7
        have W32 : ∀ a b : Nat, IntKind.u32.wrap (↑a + ↑b) = ((Bul.add32 a b : Nat) : Int) := fun a b => by rw [IntKind.wrap_u32]; simp [Bul.add32]
        refine Go.Bul.wp_region_class_tail (fun w' => w' = Go.World.drew _) 15 (by kernel_rfl) (by kernel_rfl) rfl ?_
        simp only [List.take_succ_cons, List.take_zero, List.drop_succ_cons, List.drop_zero]
        repeat (quiet_step (fail))
        refine wpQuiet_nil ?_
        rintro w' rfl
        go_wp2_with fail
        refine wp_named (fun wb hwb => ?_)
        obtain ⟨hz, hu, hj, hj7⟩ := H2.out
        obtain ⟨hx, hy, hj15, hj2⟩ := H.out
        clear H H2
        have hq : add32 z (add32 (add32 (s0 x) (s1 y)) u) = Bul.W m t := by
          obtain ⟨r, rfl⟩ : ∃ r, t = r + 16 := ⟨t - 16, by omega⟩
          rw [Bul.W_hi, hz, hu, hx, hy]
          simp only [Bul.add32, Nat.add_sub_cancel, show r + 16 - 7 = r + 9 from rfl, show r + 16 - 15 = r + 1 from rfl, show r + 16 - 2 = r + 14 from rfl]
          omega
        rw [hq, hj] at hwb
        have kW : Blk wb (w.heap.size + 1) 102 (cellsOf .u32 (l'.set (t % 16) (Bul.W m t))) := by
          rw [hwb, ← cellsOf_set]
          exact (hW.drewN _).drew.set _ _
        have kh : Blk wb w.heap.size 96 (stc v) := by rw [hwb]; exact (hh.drewN _).drew.far (by dsimp only; omega) _
        have kr : Blk wb (w.heap.size + 1 + 1) 96 cs := by rw [hwb]; exact (hr.drewN _).drew.far (by dsimp only; omega) _
        have kv : Blk wb (w.heap.size + 1 + 1 + 1) 96 (stc (Bul.stAt m v t)) := by rw [hwb]; exact (hv'.drewN _).drew.far (by dsimp only; omega) _
        have kold : Below w.heap.size w wb := by rw [hwb]; exact (below_drewN hold _).drew.setCell (by simp) _
        have kw := hw.hi h16
        clear hwb hq W32 E0 E1 R7 R18 R17 R19 e0 e7 b0 b7 c0 c7 f0 hz hu hj hj7 hx hy hj15 hj2 hW hh hr hv' hold hw
        generalize l'.set (t % 16) (Bul.W m t) = l2 at kW kw
        obtain ⟨q, hq⟩ : ∃ q, q = Bul.W m t := ⟨_, rfl⟩
        obtain ⟨s, hs⟩ : ∃ s, s = Bul.stAt m v t := ⟨_, rfl⟩
        obtain ⟨j, hj⟩ : ∃ j, j = t % 16 := ⟨_, rfl⟩
        obtain ⟨k, hk⟩ : ∃ k, k = Bul.K t := ⟨_, rfl⟩
        have hT : Tab wb := HT.out.keep kold
        have hs_ok : s.Ok := by rw [hs]; exact Bul.stAt_ok hv t
        have F : Hid (∀ w' : World, Below wb.heap.size wb w' → w'.cell? ⟨w.heap.size + 1, j, none⟩ = some (.int .u32 (q : Nat)) ∧ w'.cell? ⟨0, t, none⟩ = some (.int .u32 (k : Nat)) ∧
            (∀ i, w'.cell? ⟨w.heap.size + 1 + 1 + 1, i, none⟩ = (stc s)[i]?)) := fun w' hb => by
          refine ⟨?_, ?_, fun i => ?_⟩
          · rw [(kW.kept hb).num (by rw [kw.1]; omega), hj, kw.2 t (by omega) (by omega), hq]
          · rw [(hT.keep hb) t hlt, hk]
          · rw [(kv.kept hb).cell i, hs]
        have e0 : (t : Int).tmod 16 = (j : Int) := by rw [Int.tmod_eq_emod_of_nonneg (by omega)]; omega
        have b0 : (j : Int) < 16 := by omega
        have bt : (t : Int) < 64 := by omega
        have H := Lib.hid (And.intro hq (And.intro hs (And.intro hj hk)))
        clear hq hs hj hk
        refine Go.Bul.wp_region_class_tail (fun w' => Below wb.heap.size wb w') 9 (by kernel_rfl) (by kernel_rfl) (Below.drew (Below.refl _ _)) ?_
        simp only [List.take_succ_cons, List.take_zero, List.drop_succ_cons, List.drop_zero]
        refine wpQuiet_step (fun K hK => ?_)
        refine Go.Bul.quiet_plain rfl (stv s) (fun w' hw' => ?_) ?_
        · obtain ⟨f1, f2, f3⟩ := F.out w' hw'
          have f4 := f3 0
          have f5 := f3 1
          have f6 := f3 2
          have f7 := f3 3
          have f8 := f3 4
          have f9 := f3 5
          have f10 := f3 6
          have f11 := f3 7
          clear f3
          simp only [stc_eq] at f4 f5 f6 f7 f8 f9 f10 f11
          go_simp
          rfl
        go_simp
        refine hK _ ?_
        clear hK K
        refine wpQuiet_step (fun K hK => ?_)
        refine Go.Bul.quiet_some rfl ?_
        apply Exists.intro
        refine ⟨fun w' hw' => ?_, ?_⟩
        · skip
          go_simp
          rfl
        go_simp
        refine hK _ ?_
        clear hK K
        refine wpQuiet_step (fun K hK => ?_)
        refine Go.Bul.quiet_some rfl ?_
        apply Exists.intro
        refine ⟨fun w' hw' => ?_, ?_⟩
        · skip
          go_simp
          rfl
        go_simp
        refine hK _ ?_
        clear hK K
        refine wpQuiet_step (fun K hK => ?_)
        refine Go.Bul.quiet_some rfl ?_
        apply Exists.intro
        refine ⟨fun w' hw' => ?_, ?_⟩
        · obtain ⟨f1, f2, f3⟩ := F.out w' hw'; clear f3
          go_simp
          rfl
        go_simp
        refine hK _ ?_
        clear hK K
        refine wpQuiet_step (fun K hK => ?_)
        refine Go.Bul.quiet_some rfl ?_
        apply Exists.intro
        refine ⟨fun w' hw' => ?_, ?_⟩
        · skip
          go_simp
          rfl
        go_simp
        refine hK _ ?_
        clear hK K
        refine wpQuiet_step (fun K hK => ?_)
        refine Go.Bul.quiet_some rfl ?_
        apply Exists.intro
        refine ⟨fun w' hw' => ?_, ?_⟩
        · skip
          go_simp
          rfl
        go_simp
        refine hK _ ?_
        clear hK K
        refine wpQuiet_step (fun K hK => ?_)
        refine Go.Bul.quiet_some rfl ?_
        apply Exists.intro
        refine ⟨fun w' hw' => ?_, ?_⟩
        · skip
          go_simp
          rfl
        go_simp
        refine hK _ ?_
        clear hK K
        refine wpQuiet_step (fun K hK => ?_)
        refine Go.Bul.quiet_some rfl ?_
        apply Exists.intro
        refine ⟨fun w' hw' => ?_, ?_⟩
        · obtain ⟨f1, f2, f3⟩ := F.out w' hw'; clear f3
          go_simp
          rfl
        go_simp
        refine hK _ ?_
        clear hK K
        refine wpQuiet_step (fun K hK => ?_)
        refine Go.Bul.quiet_some rfl ?_
        apply Exists.intro
        refine ⟨fun w' hw' => ?_, ?_⟩
        · go_simp
          exact Go.Bul.quiet_call hw' (round_any s k q w' hs_ok)
        go_simp
        refine hK _ ?_
        clear hK K
        refine wpQuiet_nil ?_
        intro w2 hb2
        obtain ⟨hq, hs, hj, hk⟩ := H.out
        have hv2 : stv (Bul.rnd s k q) = stv (Bul.stAt m v (t + 1)) := by rw [hs, hk, hq]; rfl
        rw [hv2]
        clear hv2
        obtain ⟨s2, hs2⟩ : ∃ s2, s2 = Bul.stAt m v (t + 1) := ⟨_, rfl⟩
        rw [← hs2]
        have kv2 := kv.kept hb2
        have g0 : ∀ i, w2.frozen? ⟨w.heap.size + 1 + 1 + 1, i, none⟩ = false := fun i => kv2.free i
        have g1 : ∀ i, w2.cell? ⟨w.heap.size + 1 + 1 + 1, i, none⟩ = (stc (Bul.stAt m v t))[i]? := fun i => kv2.cell i
        simp only [stc_eq] at g1
        rw [stv_eq s2]
        have H3 := Lib.hid hs2
        clear hs2 hq hs hj hk e0 b0 bt
        go_wp2_with fail
        refine ⟨⟨t + 1, by omega, by go_num, ?_⟩, by simp [intOf]; omega⟩
        exact ⟨set8_far s2 (kh.kept hb2) (by omega), ⟨l2, kw, set8_far s2 (kW.kept hb2) (by omega)⟩, ⟨cs, hcs, set8_far s2 (kr.kept hb2) (by omega)⟩, by rw [← H3.out]; exact set8_blk s2 kv2 rfl, set8_below s2 (kold.trans (hb2.mono kold.size)) (by omega)⟩
      · go_wp2_with fail
        refine wp_named (fun wb hwb => ?_)
        have kw := hw.lo (by omega)
        subst hwb
        have kh := hh
        have kr := hr
        have kv := hv'
        have kold := hold
        have kW := hW
        clear hh hr hv' hold hW hw
        generalize l' = l2 at kW kw
        obtain ⟨q, hq⟩ : ∃ q, q = Bul.W m t := ⟨_, rfl⟩
        obtain ⟨s, hs⟩ : ∃ s, s = Bul.stAt m v t := ⟨_, rfl⟩
        obtain ⟨j, hj⟩ : ∃ j, j = t % 16 := ⟨_, rfl⟩
        obtain ⟨k, hk⟩ : ∃ k, k = Bul.K t := ⟨_, rfl⟩
        have hT : Tab wb := HT.out.keep kold
        have hs_ok : s.Ok := by rw [hs]; exact Bul.stAt_ok hv t
        have F : Hid (∀ w' : World, Below wb.heap.size wb w' → w'.cell? ⟨w.heap.size + 1, j, none⟩ = some (.int .u32 (q : Nat)) ∧ w'.cell? ⟨0, t, none⟩ = some (.int .u32 (k : Nat)) ∧
            (∀ i, w'.cell? ⟨w.heap.size + 1 + 1 + 1, i, none⟩ = (stc s)[i]?)) := fun w' hb => by
          refine ⟨?_, ?_, fun i => ?_⟩
          · rw [(kW.kept hb).num (by rw [kw.1]; omega), hj, kw.2 t (by omega) (by omega), hq]
          · rw [(hT.keep hb) t hlt, hk]
          · rw [(kv.kept hb).cell i, hs]
        have e0 : (t : Int).tmod 16 = (j : Int) := by rw [Int.tmod_eq_emod_of_nonneg (by omega)]; omega
        have b0 : (j : Int) < 16 := by omega
        have bt : (t : Int) < 64 := by omega
        have H := Lib.hid (And.intro hq (And.intro hs (And.intro hj hk)))
        clear hq hs hj hk
        refine Go.Bul.wp_region_class_tail (fun w' => Below wb.heap.size wb w') 9 (by kernel_rfl) (by kernel_rfl) (Below.drew (Below.refl _ _)) ?_
        simp only [List.take_succ_cons, List.take_zero, List.drop_succ_cons, List.drop_zero]
        refine wpQuiet_step (fun K hK => ?_)
        refine Go.Bul.quiet_plain rfl (stv s) (fun w' hw' => ?_) ?_
        · obtain ⟨f1, f2, f3⟩ := F.out w' hw'
          have f4 := f3 0
          have f5 := f3 1
          have f6 := f3 2
          have f7 := f3 3
          have f8 := f3 4
          have f9 := f3 5
          have f10 := f3 6
          have f11 := f3 7
          clear f3
          simp only [stc_eq] at f4 f5 f6 f7 f8 f9 f10 f11
          go_simp
          rfl
        go_simp
        refine hK _ ?_
        clear hK K
        refine wpQuiet_step (fun K hK => ?_)
        refine Go.Bul.quiet_some rfl ?_
        apply Exists.intro
        refine ⟨fun w' hw' => ?_, ?_⟩
        · skip
          go_simp
          rfl
        go_simp
        refine hK _ ?_
        clear hK K
        refine wpQuiet_step (fun K hK => ?_)
        refine Go.Bul.quiet_some rfl ?_
        apply Exists.intro
        refine ⟨fun w' hw' => ?_, ?_⟩
        · skip
          go_simp
          rfl
        go_simp
        refine hK _ ?_
        clear hK K
        refine wpQuiet_step (fun K hK => ?_)
        refine Go.Bul.quiet_some rfl ?_
        apply Exists.intro
        refine ⟨fun w' hw' => ?_, ?_⟩
        · obtain ⟨f1, f2, f3⟩ := F.out w' hw'; clear f3
          go_simp
          rfl
        go_simp
        refine hK _ ?_
        clear hK K
        refine wpQuiet_step (fun K hK => ?_)
        refine Go.Bul.quiet_some rfl ?_
        apply Exists.intro
        refine ⟨fun w' hw' => ?_, ?_⟩
        · skip
          go_simp
          rfl
        go_simp
        refine hK _ ?_
        clear hK K
        refine wpQuiet_step (fun K hK => ?_)
        refine Go.Bul.quiet_some rfl ?_
        apply Exists.intro
        refine ⟨fun w' hw' => ?_, ?_⟩
        · skip
          go_simp
          rfl
        go_simp
        refine hK _ ?_
        clear hK K
        refine wpQuiet_step (fun K hK => ?_)
        refine Go.Bul.quiet_some rfl ?_
        apply Exists.intro
        refine ⟨fun w' hw' => ?_, ?_⟩
        · skip
          go_simp
          rfl
        go_simp
        refine hK _ ?_
        clear hK K
        refine wpQuiet_step (fun K hK => ?_)
        refine Go.Bul.quiet_some rfl ?_
        apply Exists.intro
        refine ⟨fun w' hw' => ?_, ?_⟩
        · obtain ⟨f1, f2, f3⟩ := F.out w' hw'; clear f3
          go_simp
          rfl
        go_simp
        refine hK _ ?_
        clear hK K
        refine wpQuiet_step (fun K hK => ?_)
        refine Go.Bul.quiet_some rfl ?_
        apply Exists.intro
        refine ⟨fun w' hw' => ?_, ?_⟩
        · go_simp
          exact Go.Bul.quiet_call hw' (round_any s k q w' hs_ok)
        go_simp
        refine hK _ ?_
        clear hK K
        refine wpQuiet_nil ?_
        intro w2 hb2
        obtain ⟨hq, hs, hj, hk⟩ := H.out
        have hv2 : stv (Bul.rnd s k q) = stv (Bul.stAt m v (t + 1)) := by rw [hs, hk, hq]; rfl
        rw [hv2]
        clear hv2
        obtain ⟨s2, hs2⟩ : ∃ s2, s2 = Bul.stAt m v (t + 1) := ⟨_, rfl⟩
        rw [← hs2]
        have kv2 := kv.kept hb2
        have g0 : ∀ i, w2.frozen? ⟨w.heap.size + 1 + 1 + 1, i, none⟩ = false := fun i => kv2.free i
        have g1 : ∀ i, w2.cell? ⟨w.heap.size + 1 + 1 + 1, i, none⟩ = (stc (Bul.stAt m v t))[i]? := fun i => kv2.cell i
        simp only [stc_eq] at g1
        rw [stv_eq s2]
        have H3 := Lib.hid hs2
        clear hs2 hq hs hj hk e0 b0 bt
        go_wp2_with fail
        refine ⟨⟨t + 1, by omega, by go_num, ?_⟩, by simp [intOf]; omega⟩
        exact ⟨set8_far s2 (kh.kept hb2) (by omega), ⟨l2, kw, set8_far s2 (kW.kept hb2) (by omega)⟩, ⟨cs, hcs, set8_far s2 (kr.kept hb2) (by omega)⟩, by rw [← H3.out]; exact set8_blk s2 kv2 rfl, set8_below s2 (kold.trans (hb2.mono kold.size)) (by omega)⟩
    · obtain rfl : t = 64 := by omega
      obtain ⟨s, hs⟩ : ∃ s, s = Bul.stAt m v 64 := ⟨_, rfl⟩
      rw [← hs] at hv'
      have c0 : ∀ i, wr.cell? ⟨w.heap.size, i, none⟩ = (stc v)[i]? := fun i => hh.cell i
      have c3 : ∀ i, wr.cell? ⟨w.heap.size + 1 + 1 + 1, i, none⟩ = (stc s)[i]? := fun i => hv'.cell i
      simp only [stc_eq] at c0 c3
      have P := Lib.hid (plus_any v s)
      have hP : Hid (Bul.plus v s = Bul.compress v m) := by rw [hs]; rfl
      rw [stv_eq v, stv_eq s, hP.out, stv_eq (Bul.compress v m)] at P
      have kold := hold
      have hsz : w.heap.size + 1 + 1 < wr.heap.size := hr.lt
      clear hs
      go_wp2_with fail
      with_reducible refine (P.out _).mono ?_
      rintro e w2 ⟨rfl, hb2⟩
      have k2 := hr.kept hb2
      have f2 : ∀ i, w2.frozen? ⟨w.heap.size + 1 + 1, i, none⟩ = false := fun i => k2.free i
      have g2 : ∀ i, i < 8 → ∃ u, w2.cell? ⟨w.heap.size + 1 + 1, i, none⟩ = some u := fun i hi => by
        rw [k2.cell i]
        exact ⟨cs[i]'(by omega), by simp [hcs, hi]⟩
      obtain ⟨u0, c20⟩ := g2 0 (by omega)
      obtain ⟨u1, c21⟩ := g2 1 (by omega)
      obtain ⟨u2, c22⟩ := g2 2 (by omega)
      obtain ⟨u3, c23⟩ := g2 3 (by omega)
      obtain ⟨u4, c24⟩ := g2 4 (by omega)
      obtain ⟨u5, c25⟩ := g2 5 (by omega)
      obtain ⟨u6', c26⟩ := g2 6 (by omega)
      obtain ⟨u7', c27⟩ := g2 7 (by omega)
      clear g2
      go_wp2_with fail
      exact bodyPost_ret (results_cell_row rfl _ _ (w.heap.size + 1 + 1) _ _ _ _ rfl (set8_blk (Bul.compress v m) k2 hcs) Tryd.underlying96 rfl (by kernel_rfl)) rfl
        ⟨rfl, set8_below (Bul.compress v m) (kold.trans (hb2.mono kold.size)) (by omega)⟩
end Go.Proofs.YtpigmibaeoceaaaDoor
