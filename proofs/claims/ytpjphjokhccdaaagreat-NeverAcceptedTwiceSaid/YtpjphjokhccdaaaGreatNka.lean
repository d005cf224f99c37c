/- Seat n: drawn regions in a round of a range over a function; marks among the deferred calls. -/
import Derived.Test.YtpjphjokhccdaaaGreatNih
import Derived.OrdersIn
namespace Go.Bul
open Go Go.RowKit Go.Thg
theorem wpOpIn_round {P : Program} {ops : Array Oper} {Q : Exit → Act → World → Prop} {k n i : Nat} (hno : ¬ LetsOut Q) (hd : ops.toList.all noDefer = true) {K K' : Act → World → Prop} (hK : ∀ a w, K a w → K' a w) {a : Act} {w : World} (h : wpOp P ops Q i K a w) :
    wpOpIn (Fence.wide.inRound k) n P ops Q i K' a w := by
  unfold wpOp at h
  unfold wpOpIn
  cases ho : ops[i]? with
  | none =>
    rw [ho] at h
    exact hK _ _ h
  | some o =>
    rw [ho] at h
    simp only at h ⊢
    have hmem : o ∈ ops.toList := by
      rw [← Array.getElem?_toList] at ho
      exact List.mem_of_getElem? ho
    have hdo := List.all_eq_true.1 hd o hmem
    split at h
    · rename_i hw
      rw [if_pos hw]
      rcases h with h | ⟨_, hl⟩
      · refine ⟨fun f _ => trivial, ?_⟩
        rw [show (Fence.wide.inRound k).round = some k from rfl, Oper.semAt_some k a.eval o (noDefer_ne hdo)]
        unfold Oper.wp at h
        revert h
        cases (execOp a.eval o).run P w with
        | ok x w' =>
          cases x with
          | value v => exact hK _ _
          | skip => exact hK _ _
          | defer d => exact hK _ _
          | enter f args =>
            intro h
            have h2 := CallsIn.inRound k (callsIn_wide (n := n - 1).2 h)
            refine ⟨(fun h0 => by cases h0), h2.mono ?_⟩
            intro e w2 he
            match e, he with
            | .returned v, he => exact hK _ _ he
            | .panicked c, he => exact he
            | .outgrown, he => exact he
          | row r args =>
            intro h
            refine ⟨(fun h0 => by cases h0), fun c cs _ => ?_⟩
            obtain ⟨v, w2, r1, s⟩ := h c cs
            exact ⟨v, w2, hK _ _ r1, stepsIn_wide.2 s⟩
          | _ => exact fun h => h.elim
        | halt x w' =>
          cases x with
          | panic v => exact fun h => h
          | _ => exact fun h => h.elim
      · exact absurd hl hno
    · rename_i hw
      rw [if_neg hw]
      exact ⟨fun f _ => trivial, hK _ _ h⟩
theorem wpAnyIn_round {P : Program} {ops : Array Oper} {Q : Exit → Act → World → Prop} {k n : Nat} {md : Region.Mode} (hno : ¬ LetsOut Q) (hd : ops.toList.all noDefer = true) : ∀ (fuel : Nat) (listed : Array Bool) (a : Act) (w : World), wpAny P md ops Q fuel listed a w → wpAnyIn (Fence.wide.inRound k) n P md ops Q fuel listed a w
  | 0, _, _, _, h => h
  | fuel + 1, _, _, _, h => ⟨h.1, fun i hi => wpOpIn_round hno hd (fun a w h' => wpAnyIn_round hno hd fuel _ a w h') (h.2 i hi)⟩
/-- A region that draws its order, in a round: what its plain rule asks. -/
theorem wpIn_round_any {P : Program} {id : Nat} {l : List Oper} {Q : Exit → Act → World → Prop} {k n : Nat} {a : Act} {w : World} (hno : ¬ LetsOut Q) (hm : P.follows .mixedOrders = true) (hd : l.all noDefer = true) (h : wpAny P .any l.toArray Q l.toArray.size (Array.replicate l.toArray.size false) a w.drew) : (Code.region id l.toArray true).wpIn (Fence.wide.inRound k) n P Q a w :=
  wpIn_region_any hm (wpAnyIn_round hno (by simpa using hd) _ _ _ _ h)
section
variable {P : Program} {Q : Exit → Act → World → Prop} {w w0 : World} {G : List Nat} {L : List Ent} {R : List Thing} {id k n : Nat} {a : Act} {l : List Oper}
theorem wpIn_region_allB (hM : Mem G w0 L R w) (j : Nat) (hno : ¬ LetsOut Q) (hm : P.follows .mixedOrders = true) (hd : l.all noDefer = true)
    (h : ∀ wd, Mem G w0 L R wd → wpAllT P l.toArray Q (fun w' => Below wd.heap.size wd w') j (Array.replicate l.toArray.size false) a wd) : (Code.region id l.toArray true).wpIn (Fence.wide.inRound k) n P Q a w :=
  wpIn_round_any hno hm hd (wpAny_of_T _ _ _ _ (h _ hM.drew _ (by simp [toCome, List.countP_replicate])))
theorem wpIn_region_allT (S : World → Prop) (j : Nat) (hno : ¬ LetsOut Q) (hm : P.follows .mixedOrders = true) (hd : l.all noDefer = true)
    (h : wpAllT P l.toArray Q S j (Array.replicate l.toArray.size false) a w.drew) : (Code.region id l.toArray true).wpIn (Fence.wide.inRound k) n P Q a w :=
  wpIn_round_any hno hm hd (wpAny_of_T _ _ _ _ (h _ (by simp [toCome, List.countP_replicate])))
theorem wpIn_region_allHB (hM : Mem G w0 L R w) (hno : ¬ LetsOut Q) (hm : P.follows .mixedOrders = true) (hd : l.all noDefer = true)
    (h : ∀ wd, Mem G w0 L R wd → wpAllH P l.toArray Q (fun w' => Below wd.heap.size wd w') (Array.replicate l.toArray.size false) a wd) : (Code.region id l.toArray true).wpIn (Fence.wide.inRound k) n P Q a w :=
  wpIn_round_any hno hm hd (wpAny_of_held _ _ _ _ (h _ hM.drew _ (by simp [toCome, List.countP_replicate])))
end
/-- The marks that a function leaves among its deferred calls. -/
abbrev markT (D : Nat) : Thing := objT D (.deferred (some []))
abbrev markD (D : Nat) : Deferred := { target := .collected D, args := #[] }
theorem leaves_marks {F : Fence} {n : Nat} {P : Program} {fn : Func} {tmps : Array Value} {R : Ending → World → Prop} {u : FrameMode} {G : List Nat} {L : List Ent} {w0 : World} (hu : u ≠ .run) (h : ∀ w', Mem G w0 L [] w' → LeavesInM F n P fn tmps R [] u w') :
    ∀ (Ds : List Nat) (w : World), Mem G w0 L (Ds.map markT) w → LeavesInM F n P fn tmps R (Ds.map markD) u w
  | [], w, hM => h w hM
  | D :: Ds, w, hM => by
    refine ⟨hu, .inl ⟨D, _, rfl, run_takeDeferred hM.loopAt, ?_⟩⟩
    have h1 := hM.turn (UpdR.head _ _) (obj_put (hM.thing _ (List.Mem.head _)) (.deferred none))
    exact leaves_marks hu h Ds _ (h1.subR (List.sublist_cons_self _ _))
end Go.Bul
