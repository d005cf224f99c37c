/- 'x, y := d[0], d[1]' where both are arrays: two values that are read, two new variables, two stores, in whatever order comes up. The walk of bulletinlaw07.OnetimeRecovers. -/
import Derived.Test.YtpigmibaeoceaaaDoorZh
import Derived.Test.YtpigmibaeoceaaaDoorZj
namespace Go.Bul
open Go Go.RowKit
section
variable {P : Program} {ops : Array Oper} {Q : Exit → Act → World → Prop} {G : List Nat} {w0 : World} {L : List Ent} {R : List OwnR}
set_option maxHeartbeats 1000000 in
theorem wp_two_vals (hm : P.follows .mixedOrders = true) {id : Nat} {a : Act} {w : World} (hM : Mem G w0 L R w)
    (sA rA sB rB pX pY : Nat) {o0 o1 o2 o3 o4 o5 o6 o7 : Oper} (hops : ops = #[o0, o1, o2, o3, o4, o5, o6, o7])
    (hord : (List.range ops.size).all (fun i => ((ops[i]?).map fun o => o.after.all fun e => !Region.binds .any e || decide (e.on < i)).getD false) = true)
    (hg : (o0.guard = none ∧ o1.guard = none ∧ o2.guard = none ∧ o3.guard = none) ∧ o4.guard = none ∧ o5.guard = none ∧ o6.guard = none ∧ o7.guard = none)
    (hd : o4.dst = some pX ∧ o5.dst = some pY ∧ o6.dst = none ∧ o7.dst = none)
    (U : TypeId)
    (hop : o4.op = .alloc U ∧ o5.op = .alloc U ∧ o6.op = .store U (.tmp pX) (.tmp rA) ∧ o7.op = .store U (.tmp pY) (.tmp rB))
    (hdep : ((o1.after.any fun e => Region.binds .any e && e.on == 0) = true ∧ (o3.after.any fun e => Region.binds .any e && e.on == 2) = true) ∧ ((o6.after.any fun e => Region.binds .any e && e.on == 4) = true ∧ (o6.after.any fun e => Region.binds .any e && e.on == 1) = true) ∧
      (o7.after.any fun e => Region.binds .any e && e.on == 5) = true ∧ (o7.after.any fun e => Region.binds .any e && e.on == 3) = true)
    (hsl : [sA, rA, sB, rB, pX, pY].Nodup) (hsz : ∀ s ∈ [sA, rA, sB, rB, pX, pY], s < a.tmps.size)
    {vA vB : Value} {m : Nat}
    {uA uB Z : Array Value} (hZ : ZeroTy P U m Z) (hU : RowTy P U m) (huA : uA.size = m) (huB : uB.size = m) (h1A : ∀ v ∈ uA.toList, v.oneCell' = true) (h1B : ∀ v ∈ uB.toList, v.oneCell' = true)
    (run0 : ∀ a' w' K, (∀ s, s ≠ sA → s ≠ rA → s ≠ sB → s ≠ rB → s ≠ pX → s ≠ pY → a'.tmps[s]? = a.tmps[s]?) → Mem G w0 L R w' → K (a'.put (some sA) vA) w' → o0.wp P a' w' K Q)
    (run1 : ∀ a' w' K, a'.tmps[sA]? = some vA → Mem G w0 L R w' → K (a'.put (some rA) (.agg uA)) w' → o1.wp P a' w' K Q)
    (run2 : ∀ a' w' K, (∀ s, s ≠ sA → s ≠ rA → s ≠ sB → s ≠ rB → s ≠ pX → s ≠ pY → a'.tmps[s]? = a.tmps[s]?) → Mem G w0 L R w' → K (a'.put (some sB) vB) w' → o2.wp P a' w' K Q)
    (run3 : ∀ a' w' K, a'.tmps[sB]? = some vB → Mem G w0 L R w' → K (a'.put (some rB) (.agg uB)) w' → o3.wp P a' w' K Q)
    (h : ∀ gX gY w', Mem G w0 (⟨gX, U, m, uA⟩ :: ⟨gY, U, m, uB⟩ :: L) R w' →
      Q .normal ((((((a.put (some sA) vA).put (some rA) (.agg uA)).put (some sB) vB).put (some rB) (.agg uB)).put (some pX) (.pointer (some ⟨gX, 0, none⟩))).put (some pY) (.pointer (some ⟨gY, 0, none⟩))) w') :
    (Code.region id ops true).wp P Q a w := by
  have hN : ops.size = 8 := by rw [hops]; rfl
  have q0 : ops[0]? = some o0 := by rw [hops]; rfl
  have q1 : ops[1]? = some o1 := by rw [hops]; rfl
  have q2 : ops[2]? = some o2 := by rw [hops]; rfl
  have q3 : ops[3]? = some o3 := by rw [hops]; rfl
  have q4 : ops[4]? = some o4 := by rw [hops]; rfl
  have q5 : ops[5]? = some o5 := by rw [hops]; rfl
  have q6 : ops[6]? = some o6 := by rw [hops]; rfl
  have q7 : ops[7]? = some o7 := by rw [hops]; rfl
  obtain ⟨⟨g0, g1, g2, g3⟩, g4, g5, g6, g7⟩ := hg
  obtain ⟨d4, d5, d6, d7⟩ := hd
  obtain ⟨p4, p5, p6, p7⟩ := hop
  obtain ⟨⟨e10, e32⟩, ⟨e64, e61⟩, e75, e73⟩ := hdep
  simp only [List.nodup_cons, List.mem_cons, List.not_mem_nil, or_false, not_or, not_false_eq_true, List.nodup_nil, and_true] at hsl
  obtain ⟨⟨n01, n02, n03, n04, n05⟩, ⟨n12, n13, n14, n15⟩, ⟨n23, n24, n25⟩, ⟨n34, n35⟩, n45⟩ := hsl
  have zsA := hsz sA (by simp)
  have zrA := hsz rA (by simp)
  have zsB := hsz sB (by simp)
  have zrB := hsz rB (by simp)
  have zpX := hsz pX (by simp)
  have zpY := hsz pY (by simp)
  clear hsz hops
  refine wp_region_inv hm (Two G w0 L R a sA rA sB rB pX pY vA vB uA uB Z U m) ?_ ?_ ?_
  · have hz : ∀ j, (Array.replicate ops.size false).getD j false = true → False := fun j => by simp [Array.getD_eq_getD_getElem?, Array.getElem?_replicate]; split <;> simp
    refine ⟨by simp [hN], rfl, rfl, fun s _ _ _ _ _ _ => rfl, fun h => (hz _ h).elim, fun h => (hz _ h).elim, fun h => (hz _ h).elim, fun h => (hz _ h).elim, fun _ => Bool.eq_false_iff.2 (hz 6), fun _ => Bool.eq_false_iff.2 (hz 7), 0, 0, fun h => (hz _ h).elim, fun h => (hz _ h).elim, ?_⟩
    rw [if_neg (hz 4), if_neg (hz 5)]
    exact hM.drew
  · intro listed a' w' i hI hr K hK
    have hi : i < 8 := by
      obtain ⟨_, o, ho, _⟩ := mem_ready.1 hr
      have := (Array.getElem?_eq_some_iff.1 ho).1
      omega
    have hS := hI.size
    have hun : listed.getD i false = false := by
      have := (mem_ready.1 hr).1
      have hl : i < listed.size := by omega
      simpa [Array.getD, hl] using this
    have hM' := hI.sub
    obtain ⟨hs, hdf, htm, hfar, k0, k1, k2, k3, hst4, hst5, gX, gY, kX, kY, hMem⟩ := hI
    rcases (show i = 0 ∨ i = 1 ∨ i = 2 ∨ i = 3 ∨ i = 4 ∨ i = 5 ∨ i = 6 ∨ i = 7 by omega) with rfl | rfl | rfl | rfl | rfl | rfl | rfl | rfl
    · refine wpOp_plain q0 g0 (run0 _ _ _ hfar hM' (hK _ _ ?_))
      have hg := put_get (a := a') (s := sA) (v := vA) (by rw [htm]; assumption)
      refine ⟨by simp [hs], hdf, by simpa [Act.put] using htm, ?_, ?_, ?_, ?_, ?_, fun hj => by rw [getD_put_ne (i := 0) (j := 4) (by decide)] at hj; rw [getD_put_ne (i := 0) (j := 6) (by decide)]; exact hst4 hj, fun hj => by rw [getD_put_ne (i := 0) (j := 5) (by decide)] at hj; rw [getD_put_ne (i := 0) (j := 7) (by decide)]; exact hst5 hj, gX, gY, ?_, ?_, ?_⟩
      · intro s n0 n1 n2 n3 n4 n5
        rw [hg, if_neg (Ne.symm n0)]
        exact hfar s n0 n1 n2 n3 n4 n5
      · intro _
        rw [hg, if_pos rfl]
      · intro hj
        rw [getD_put_ne (i := 0) (j := 1) (by decide)] at hj
        rw [hg, if_neg (by first | assumption | exact Ne.symm (by assumption))]
        exact k1 hj
      · intro hj
        rw [getD_put_ne (i := 0) (j := 2) (by decide)] at hj
        rw [hg, if_neg (by first | assumption | exact Ne.symm (by assumption))]
        exact k2 hj
      · intro hj
        rw [getD_put_ne (i := 0) (j := 3) (by decide)] at hj
        rw [hg, if_neg (by first | assumption | exact Ne.symm (by assumption))]
        exact k3 hj
      · intro hj
        rw [getD_put_ne (i := 0) (j := 4) (by decide)] at hj
        rw [hg, if_neg (by first | assumption | exact Ne.symm (by assumption))]
        exact kX hj
      · intro hj
        rw [getD_put_ne (i := 0) (j := 5) (by decide)] at hj
        rw [hg, if_neg (by first | assumption | exact Ne.symm (by assumption))]
        exact kY hj
      · rw [getD_put_ne (i := 0) (j := 4) (by decide), getD_put_ne (i := 0) (j := 6) (by decide), getD_put_ne (i := 0) (j := 5) (by decide), getD_put_ne (i := 0) (j := 7) (by decide)]
        exact hMem
    · refine wpOp_plain q1 g1 (run1 _ _ _ (k0 (ready_after q1 e10 hr)) hM' (hK _ _ ?_))
      have hg := put_get (a := a') (s := rA) (v := .agg uA) (by rw [htm]; assumption)
      refine ⟨by simp [hs], hdf, by simpa [Act.put] using htm, ?_, ?_, ?_, ?_, ?_, fun hj => by rw [getD_put_ne (i := 1) (j := 4) (by decide)] at hj; rw [getD_put_ne (i := 1) (j := 6) (by decide)]; exact hst4 hj, fun hj => by rw [getD_put_ne (i := 1) (j := 5) (by decide)] at hj; rw [getD_put_ne (i := 1) (j := 7) (by decide)]; exact hst5 hj, gX, gY, ?_, ?_, ?_⟩
      · intro s n0 n1 n2 n3 n4 n5
        rw [hg, if_neg (Ne.symm n1)]
        exact hfar s n0 n1 n2 n3 n4 n5
      · intro hj
        rw [getD_put_ne (i := 1) (j := 0) (by decide)] at hj
        rw [hg, if_neg (by first | assumption | exact Ne.symm (by assumption))]
        exact k0 hj
      · intro _
        rw [hg, if_pos rfl]
      · intro hj
        rw [getD_put_ne (i := 1) (j := 2) (by decide)] at hj
        rw [hg, if_neg (by first | assumption | exact Ne.symm (by assumption))]
        exact k2 hj
      · intro hj
        rw [getD_put_ne (i := 1) (j := 3) (by decide)] at hj
        rw [hg, if_neg (by first | assumption | exact Ne.symm (by assumption))]
        exact k3 hj
      · intro hj
        rw [getD_put_ne (i := 1) (j := 4) (by decide)] at hj
        rw [hg, if_neg (by first | assumption | exact Ne.symm (by assumption))]
        exact kX hj
      · intro hj
        rw [getD_put_ne (i := 1) (j := 5) (by decide)] at hj
        rw [hg, if_neg (by first | assumption | exact Ne.symm (by assumption))]
        exact kY hj
      · rw [getD_put_ne (i := 1) (j := 4) (by decide), getD_put_ne (i := 1) (j := 6) (by decide), getD_put_ne (i := 1) (j := 5) (by decide), getD_put_ne (i := 1) (j := 7) (by decide)]
        exact hMem
    · refine wpOp_plain q2 g2 (run2 _ _ _ hfar hM' (hK _ _ ?_))
      have hg := put_get (a := a') (s := sB) (v := vB) (by rw [htm]; assumption)
      refine ⟨by simp [hs], hdf, by simpa [Act.put] using htm, ?_, ?_, ?_, ?_, ?_, fun hj => by rw [getD_put_ne (i := 2) (j := 4) (by decide)] at hj; rw [getD_put_ne (i := 2) (j := 6) (by decide)]; exact hst4 hj, fun hj => by rw [getD_put_ne (i := 2) (j := 5) (by decide)] at hj; rw [getD_put_ne (i := 2) (j := 7) (by decide)]; exact hst5 hj, gX, gY, ?_, ?_, ?_⟩
      · intro s n0 n1 n2 n3 n4 n5
        rw [hg, if_neg (Ne.symm n2)]
        exact hfar s n0 n1 n2 n3 n4 n5
      · intro hj
        rw [getD_put_ne (i := 2) (j := 0) (by decide)] at hj
        rw [hg, if_neg (by first | assumption | exact Ne.symm (by assumption))]
        exact k0 hj
      · intro hj
        rw [getD_put_ne (i := 2) (j := 1) (by decide)] at hj
        rw [hg, if_neg (by first | assumption | exact Ne.symm (by assumption))]
        exact k1 hj
      · intro _
        rw [hg, if_pos rfl]
      · intro hj
        rw [getD_put_ne (i := 2) (j := 3) (by decide)] at hj
        rw [hg, if_neg (by first | assumption | exact Ne.symm (by assumption))]
        exact k3 hj
      · intro hj
        rw [getD_put_ne (i := 2) (j := 4) (by decide)] at hj
        rw [hg, if_neg (by first | assumption | exact Ne.symm (by assumption))]
        exact kX hj
      · intro hj
        rw [getD_put_ne (i := 2) (j := 5) (by decide)] at hj
        rw [hg, if_neg (by first | assumption | exact Ne.symm (by assumption))]
        exact kY hj
      · rw [getD_put_ne (i := 2) (j := 4) (by decide), getD_put_ne (i := 2) (j := 6) (by decide), getD_put_ne (i := 2) (j := 5) (by decide), getD_put_ne (i := 2) (j := 7) (by decide)]
        exact hMem
    · refine wpOp_plain q3 g3 (run3 _ _ _ (k2 (ready_after q3 e32 hr)) hM' (hK _ _ ?_))
      have hg := put_get (a := a') (s := rB) (v := .agg uB) (by rw [htm]; assumption)
      refine ⟨by simp [hs], hdf, by simpa [Act.put] using htm, ?_, ?_, ?_, ?_, ?_, fun hj => by rw [getD_put_ne (i := 3) (j := 4) (by decide)] at hj; rw [getD_put_ne (i := 3) (j := 6) (by decide)]; exact hst4 hj, fun hj => by rw [getD_put_ne (i := 3) (j := 5) (by decide)] at hj; rw [getD_put_ne (i := 3) (j := 7) (by decide)]; exact hst5 hj, gX, gY, ?_, ?_, ?_⟩
      · intro s n0 n1 n2 n3 n4 n5
        rw [hg, if_neg (Ne.symm n3)]
        exact hfar s n0 n1 n2 n3 n4 n5
      · intro hj
        rw [getD_put_ne (i := 3) (j := 0) (by decide)] at hj
        rw [hg, if_neg (by first | assumption | exact Ne.symm (by assumption))]
        exact k0 hj
      · intro hj
        rw [getD_put_ne (i := 3) (j := 1) (by decide)] at hj
        rw [hg, if_neg (by first | assumption | exact Ne.symm (by assumption))]
        exact k1 hj
      · intro hj
        rw [getD_put_ne (i := 3) (j := 2) (by decide)] at hj
        rw [hg, if_neg (by first | assumption | exact Ne.symm (by assumption))]
        exact k2 hj
      · intro _
        rw [hg, if_pos rfl]
      · intro hj
        rw [getD_put_ne (i := 3) (j := 4) (by decide)] at hj
        rw [hg, if_neg (by first | assumption | exact Ne.symm (by assumption))]
        exact kX hj
      · intro hj
        rw [getD_put_ne (i := 3) (j := 5) (by decide)] at hj
        rw [hg, if_neg (by first | assumption | exact Ne.symm (by assumption))]
        exact kY hj
      · rw [getD_put_ne (i := 3) (j := 4) (by decide), getD_put_ne (i := 3) (j := 6) (by decide), getD_put_ne (i := 3) (j := 5) (by decide), getD_put_ne (i := 3) (j := 7) (by decide)]
        exact hMem
    · refine wpOp_plain q4 g4 (owp_zero p4 hZ (hK _ _ ?_))
      rw [d4]
      have hg := put_get (a := a') (s := pX) (v := .pointer (some ⟨w'.heap.size, 0, none⟩)) (by rw [htm]; assumption)
      refine ⟨by simp [hs], hdf, by simpa [Act.put] using htm, ?_, ?_, ?_, ?_, ?_, fun hj => absurd hj (by rw [getD_put_same (i := 4) (by rw [hs]; decide)]; simp), fun hj => by rw [getD_put_ne (i := 4) (j := 5) (by decide)] at hj; rw [getD_put_ne (i := 4) (j := 7) (by decide)]; exact hst5 hj, w'.heap.size, gY, ?_, ?_, ?_⟩
      · intro s n0 n1 n2 n3 n4 n5
        rw [hg, if_neg (Ne.symm n4)]
        exact hfar s n0 n1 n2 n3 n4 n5
      · intro hj
        rw [getD_put_ne (i := 4) (j := 0) (by decide)] at hj
        rw [hg, if_neg (by first | assumption | exact Ne.symm (by assumption))]
        exact k0 hj
      · intro hj
        rw [getD_put_ne (i := 4) (j := 1) (by decide)] at hj
        rw [hg, if_neg (by first | assumption | exact Ne.symm (by assumption))]
        exact k1 hj
      · intro hj
        rw [getD_put_ne (i := 4) (j := 2) (by decide)] at hj
        rw [hg, if_neg (by first | assumption | exact Ne.symm (by assumption))]
        exact k2 hj
      · intro hj
        rw [getD_put_ne (i := 4) (j := 3) (by decide)] at hj
        rw [hg, if_neg (by first | assumption | exact Ne.symm (by assumption))]
        exact k3 hj
      · intro _
        rw [hg, if_pos rfl]
      · intro hj
        rw [getD_put_ne (i := 4) (j := 5) (by decide)] at hj
        rw [hg, if_neg (by first | assumption | exact Ne.symm (by assumption))]
        exact kY hj
      · have hno : listed.getD 6 false = false := hst4 hun
        have hZm : Z.size = m := by obtain ⟨_, _, _, hz⟩ := hZ.ex; exact hz
        rw [getD_put_same (i := 4) (by rw [hs]; decide), getD_put_ne (i := 4) (j := 6) (by decide), getD_put_ne (i := 4) (j := 5) (by decide), getD_put_ne (i := 4) (j := 7) (by decide), hno]
        rw [hun] at hMem
        simp only [if_true, Bool.false_eq_true, if_false, List.nil_append, List.cons_append] at hMem ⊢
        exact hMem.alloc _ _ hZm
    · refine wpOp_plain q5 g5 (owp_zero p5 hZ (hK _ _ ?_))
      rw [d5]
      have hg := put_get (a := a') (s := pY) (v := .pointer (some ⟨w'.heap.size, 0, none⟩)) (by rw [htm]; assumption)
      refine ⟨by simp [hs], hdf, by simpa [Act.put] using htm, ?_, ?_, ?_, ?_, ?_, fun hj => by rw [getD_put_ne (i := 5) (j := 4) (by decide)] at hj; rw [getD_put_ne (i := 5) (j := 6) (by decide)]; exact hst4 hj, fun hj => absurd hj (by rw [getD_put_same (i := 5) (by rw [hs]; decide)]; simp), gX, w'.heap.size, ?_, ?_, ?_⟩
      · intro s n0 n1 n2 n3 n4 n5
        rw [hg, if_neg (Ne.symm n5)]
        exact hfar s n0 n1 n2 n3 n4 n5
      · intro hj
        rw [getD_put_ne (i := 5) (j := 0) (by decide)] at hj
        rw [hg, if_neg (by first | assumption | exact Ne.symm (by assumption))]
        exact k0 hj
      · intro hj
        rw [getD_put_ne (i := 5) (j := 1) (by decide)] at hj
        rw [hg, if_neg (by first | assumption | exact Ne.symm (by assumption))]
        exact k1 hj
      · intro hj
        rw [getD_put_ne (i := 5) (j := 2) (by decide)] at hj
        rw [hg, if_neg (by first | assumption | exact Ne.symm (by assumption))]
        exact k2 hj
      · intro hj
        rw [getD_put_ne (i := 5) (j := 3) (by decide)] at hj
        rw [hg, if_neg (by first | assumption | exact Ne.symm (by assumption))]
        exact k3 hj
      · intro hj
        rw [getD_put_ne (i := 5) (j := 4) (by decide)] at hj
        rw [hg, if_neg (by first | assumption | exact Ne.symm (by assumption))]
        exact kX hj
      · intro _
        rw [hg, if_pos rfl]
      · have hno : listed.getD 7 false = false := hst5 hun
        have hZm : Z.size = m := by obtain ⟨_, _, _, hz⟩ := hZ.ex; exact hz
        rw [getD_put_ne (i := 5) (j := 4) (by decide), getD_put_ne (i := 5) (j := 6) (by decide), getD_put_same (i := 5) (by rw [hs]; decide), getD_put_ne (i := 5) (j := 7) (by decide), hno]
        rw [hun] at hMem
        simp only [if_true, Bool.false_eq_true, if_false, List.nil_append, List.cons_append] at hMem ⊢
        have := hMem.alloc Z U hZm
        by_cases hx : listed.getD 4 false = true
        · simp only [hx, if_true, List.cons_append, List.nil_append] at this ⊢
          exact this.swap
        · simp only [hx] at this ⊢
          exact this
    · have l4 := ready_after q6 e64 hr
      have l1 := ready_after q6 e61 hr
      rw [if_pos l4, hun, if_neg (show ¬ (false = true) by decide)] at hMem
      simp only [List.cons_append, List.nil_append] at hMem
      refine wpOp_plain q6 g6 (owp_store hMem p6 (eval_of_get (kX l4)) (eval_of_get (k1 l1)) (UpdL.head _ _ _ _ _) hU huA h1A d6 fun w'' hM2 => hK _ _ ?_)
      refine ⟨by simp [hs], hdf, htm, hfar, fun hj => k0 (by rwa [getD_put_ne (i := 6) (j := 0) (by decide)] at hj), fun hj => k1 (by rwa [getD_put_ne (i := 6) (j := 1) (by decide)] at hj), fun hj => k2 (by rwa [getD_put_ne (i := 6) (j := 2) (by decide)] at hj), fun hj => k3 (by rwa [getD_put_ne (i := 6) (j := 3) (by decide)] at hj), fun hj => absurd hj (by rw [getD_put_ne (i := 6) (j := 4) (by decide), l4]; simp), fun hj => by rw [getD_put_ne (i := 6) (j := 5) (by decide)] at hj; rw [getD_put_ne (i := 6) (j := 7) (by decide)]; exact hst5 hj, gX, gY, fun hj => kX (by rwa [getD_put_ne (i := 6) (j := 4) (by decide)] at hj), fun hj => kY (by rwa [getD_put_ne (i := 6) (j := 5) (by decide)] at hj), ?_⟩
      rw [getD_put_ne (i := 6) (j := 4) (by decide), getD_put_same (i := 6) (by rw [hs]; decide), getD_put_ne (i := 6) (j := 5) (by decide), getD_put_ne (i := 6) (j := 7) (by decide), if_pos l4, if_pos rfl]
      exact hM2
    · have l4 := ready_after q7 e75 hr
      have l1 := ready_after q7 e73 hr
      rw [if_pos l4, hun, if_neg (show ¬ (false = true) by decide)] at hMem
      simp only [List.cons_append, List.nil_append] at hMem
      refine wpOp_plain q7 g7 (owp_store hMem p7 (eval_of_get (kY l4)) (eval_of_get (k3 l1)) (F := fun cs' => (if listed.getD 4 false = true then [⟨gX, U, m, if listed.getD 6 false = true then uA else Z⟩] else []) ++ (⟨gY, U, m, cs'⟩ :: L)) ⟨_, L, rfl, fun _ => rfl⟩ hU huB h1B d7 fun w'' hM2 => hK _ _ ?_)
      refine ⟨by simp [hs], hdf, htm, hfar, fun hj => k0 (by rwa [getD_put_ne (i := 7) (j := 0) (by decide)] at hj), fun hj => k1 (by rwa [getD_put_ne (i := 7) (j := 1) (by decide)] at hj), fun hj => k2 (by rwa [getD_put_ne (i := 7) (j := 2) (by decide)] at hj), fun hj => k3 (by rwa [getD_put_ne (i := 7) (j := 3) (by decide)] at hj), fun hj => by rw [getD_put_ne (i := 7) (j := 4) (by decide)] at hj; rw [getD_put_ne (i := 7) (j := 6) (by decide)]; exact hst4 hj, fun hj => absurd hj (by rw [getD_put_ne (i := 7) (j := 5) (by decide), l4]; simp), gX, gY, fun hj => kX (by rwa [getD_put_ne (i := 7) (j := 4) (by decide)] at hj), fun hj => kY (by rwa [getD_put_ne (i := 7) (j := 5) (by decide)] at hj), ?_⟩
      rw [getD_put_ne (i := 7) (j := 4) (by decide), getD_put_ne (i := 7) (j := 6) (by decide), getD_put_ne (i := 7) (j := 5) (by decide), getD_put_same (i := 7) (by rw [hs]; decide), if_pos l4, if_pos rfl]
      exact hM2
  · intro listed a' w' hI hr
    have hall := ready_done hord (by rw [hI.size, hN]) hr
    rw [hN] at hall
    obtain ⟨hs, hdf, htm, hfar, k0, k1, k2, k3, hst4, hst5, gX, gY, kX, kY, hMem⟩ := hI
    rw [if_pos (hall 4 (by decide)), if_pos (hall 5 (by decide)), if_pos (hall 6 (by decide)), if_pos (hall 7 (by decide))] at hMem
    have := h gX gY w' (by simpa using hMem)
    refine (congrArg (fun x => Q .normal x w') ?_).mp this
    have ht : ((((((a.put (some sA) vA).put (some rA) (.agg uA)).put (some sB) vB).put (some rB) (.agg uB)).put (some pX) (.pointer (some ⟨gX, 0, none⟩))).put (some pY) (.pointer (some ⟨gY, 0, none⟩))).tmps = a'.tmps := by
      apply Array.ext_getElem?
      intro s
      rw [put_get (by simpa [Act.put] using zpY), put_get (by simpa [Act.put] using zpX), put_get (by simpa [Act.put] using zrB), put_get (by simpa [Act.put] using zsB), put_get (by simpa [Act.put] using zrA), put_get zsA]
      by_cases c5 : pY = s
      · rw [if_pos c5, ← c5]; exact (kY (hall 5 (by decide))).symm
      by_cases c4 : pX = s
      · rw [if_neg c5, if_pos c4, ← c4]; exact (kX (hall 4 (by decide))).symm
      by_cases c3 : rB = s
      · rw [if_neg c5, if_neg c4, if_pos c3, ← c3]; exact (k3 (hall 3 (by decide))).symm
      by_cases c2 : sB = s
      · rw [if_neg c5, if_neg c4, if_neg c3, if_pos c2, ← c2]; exact (k2 (hall 2 (by decide))).symm
      by_cases c1 : rA = s
      · rw [if_neg c5, if_neg c4, if_neg c3, if_neg c2, if_pos c1, ← c1]; exact (k1 (hall 1 (by decide))).symm
      by_cases c0 : sA = s
      · rw [if_neg c5, if_neg c4, if_neg c3, if_neg c2, if_neg c1, if_pos c0, ← c0]; exact (k0 (hall 0 (by decide))).symm
      rw [if_neg c5, if_neg c4, if_neg c3, if_neg c2, if_neg c1, if_neg c0]
      exact (hfar s (Ne.symm c0) (Ne.symm c1) (Ne.symm c2) (Ne.symm c3) (Ne.symm c4) (Ne.symm c5)).symm
    have hd : ((((((a.put (some sA) vA).put (some rA) (.agg uA)).put (some sB) vB).put (some rB) (.agg uB)).put (some pX) (.pointer (some ⟨gX, 0, none⟩))).put (some pY) (.pointer (some ⟨gY, 0, none⟩))).defers = a'.defers := by
      rw [put_defers, put_defers, put_defers, put_defers, put_defers, put_defers, hdf]
    exact act_ext ht hd
theorem owp_part {w' : World} {o : Oper} {a' : Act} {K : Act → World → Prop} (hM : Mem G w0 L R w') {ty : TypeId} {x : Operand} (ho : o.op = .load ty x) {g off : Nat} (hx : a'.eval x = .pointer (some ⟨g, off, none⟩)) {t : TypeId} {n : Nat} {cs : Array Value} (hL : ⟨g, t, n, cs⟩ ∈ L) (m : Nat) (hty : RowTy P ty m) (hm : off + m ≤ n)
    {X : Array Value} (hX : cs.extract off (off + m) = X) (h : K (a'.put o.dst (.agg X)) w') : o.wp P a' w' K Q := by
  obtain ⟨d, hu, hd, hi⟩ := hty.ex
  have hs := hM.size hL
  unfold Oper.wp execOp
  simp only [ho, hx, Instr.loadAt, Instr.sureAddr, Sem.run_bind, Sem.run_pure, Result.andThen_ok, run_load_part w' g off t ty cs m d (hM.blk hL) hu hd hi (by omega), hX]
  exact h
end
end Go.Bul
namespace Go.Bul
open Go Go.RowKit
/-- A slice of arrays of 16 bytes that lies in old memory. -/
structure FarRows (w : World) (A : Option Addr) (n : Nat) (bs : List Nat) : Prop where
  len : bs.length = n * 16
  bytes : Bytes bs
  at_ : 0 < n → ∃ ad, A = some ad ∧ ad.block < w.heap.size ∧ ∀ j, j < n * 16 → w.cell? (ad.add j) = some (.int .u8 (bs.getD j 0 : Nat))
end Go.Bul
namespace Go.Proofs.YtpigmibaeoceaaaDoor
open Go Go.RowKit Go.Bul
theorem row_pair : RowTy Tryd.prog 23 32 := ⟨⟨_, Tryd.underlying23, rfl, by kernel_rfl⟩⟩
end Go.Proofs.YtpigmibaeoceaaaDoor
