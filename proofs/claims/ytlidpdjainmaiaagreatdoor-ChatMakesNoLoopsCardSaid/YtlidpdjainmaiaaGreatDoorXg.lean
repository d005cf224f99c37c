/- A range over a function: one round; the statement. Seat c: in a round of a range over a function: a region without defer statements goes as everywhere. Seat c: drawn regions in a round of a range over a function; marks among the deferred calls. -/
import Derived.Test.YtlidpdjainmaiaaGreatDoorGj
import Derived.Shelf.Abstract
import Derived.Shelf.RegionOpen
import Derived.OwnWalkIn
import Derived.TacticsInMore
import Derived.LoopNIn
import Derived.LoopIn
import Derived.RangeFuncNested
import Derived.RangeFuncBound
import Derived.RangeFuncCalls
import Derived.RangeFuncLeaves
import Derived.OrdersIn
namespace Go.Bul
open Go Go.RowKit
/-- What a round may end in. -/
def RoundEnds (R : Ending → World → Prop) (l : Nat) (r : Loop) : Exit → Act → World → Prop
  | .normal, _, W => W.heap[l]? = some (.loop { r with state := .busy }) ∧ R (.returned (.bool true)) (W.putObj l (.loop { r with state := .ready, pending := none }))
  | .ret, _, W => W.heap[l]? = some (.loop { r with state := .busy }) ∧ R (.returned (.bool false)) (W.putObj l (.loop { r with state := .done, pending := some .ret }))
  | .exit id, _, W => W.heap[l]? = some (.loop { r with state := .busy }) ∧ R (.returned (.bool false)) (W.putObj l (.loop { r with state := .done, pending := some (.exit id) }))
  | _, _, _ => False
theorem round_of {F : Fence} {n : Nat} {P : Program} {l : Nat} {r : Loop} {args : Array Value} {W : World} {R : Ending → World → Prop} (hl : W.heap[l]? = some (.loop r)) (hs : args.size = r.params.size) (hfn : F.fn r.fn)
    (h : r.assign.wpIn (F.inRound l) n P (Exit.then (fun a₁ W₁ => W₁.heap[l]? = some (.loop r) ∧ r.state = .ready ∧ r.body.wpIn (F.inRound l) n P (RoundEnds R l r) a₁ (W₁.putObj l (.loop { r with state := .busy }))) (fun _ _ _ => False))
      { tmps := (r.params.zip args).foldl (fun tmps (t, a) => tmps.setIfInBounds t a) r.tmps, defers := [] } W) : YieldAt F n P l args W R := by
  refine ⟨r.fn, _, r.assign, r.body, run_yield hl hs, roundIn_of_wpIn hfn (wpIn_mono h ?_)⟩
  rintro e a₁ W₁ hq
  cases e with
  | normal =>
    obtain ⟨h1, h2, h3⟩ := hq
    refine ⟨_, run_beginRound h1 h2, wpIn_mono h3 ?_⟩
    rintro e a₂ W₂ hq
    cases e with
    | normal => exact ⟨_, _, run_endRound none hq.1, hq.2⟩
    | ret => exact ⟨_, _, run_endRound (some .ret) hq.1, hq.2⟩
    | exit id => exact ⟨_, _, run_endRound (some (.exit id)) hq.1, hq.2⟩
    | goto t => exact hq.elim
    | panic c => exact hq.elim
    | outgrown => exact hq.elim
  | ret => exact hq.elim
  | exit id => exact hq.elim
  | goto t => exact hq.elim
  | panic c => exact hq.elim
  | outgrown => exact hq.elim
end Go.Bul
namespace Go.Thg
open Go Go.RowKit Go.Bul
/-- An object that is no cells. -/
def objT (l : Nat) (o : Obj) : Thing where
  fp := [l]
  P := fun w => w.heap[l]? = some o
  keep := fun _ _ h hp => (h l (by simp)).trans hp
  lt := fun _ hp g hg => by
    obtain rfl := List.mem_singleton.1 hg
    exact (Array.getElem?_eq_some_iff.1 hp).1
  nd := fun _ _ => by simp
theorem obj_put {w : World} {l : Nat} {o : Obj} (h : (objT l o).P w) (o' : Obj) : Becomes (objT l o).fp w (objT l o') (w.putObj l o') := by
  have hlt : l < w.heap.size := (Array.getElem?_eq_some_iff.1 h).1
  refine ⟨World.putObj_heap_same hlt, ⟨rfl, rfl, rfl, by simp, fun k _ hn => World.putObj_heap_other (fun e => hn (by subst e; exact List.mem_singleton.2 rfl))⟩, fun g hg => .inl hg⟩
theorem obj_new (w : World) (o : Obj) : Becomes [] w (objT w.heap.size o) (w.alloc o) := by
  refine ⟨World.alloc_heap_new w o, KeptBut.of_below ((Below.refl _ w).alloc (Nat.le_refl _) _), fun g hg => .inr ?_⟩
  obtain rfl := List.mem_singleton.1 hg
  exact Nat.le_refl _
end Go.Thg
namespace Go.Bul
open Go Go.RowKit
/-- The records of a loop over a function, by their state and what is pending. -/
def LoopRec (tmps : Array Value) (ps : Array Tmp) (assign body : Code) (rec : LoopState → Option Code → Loop) : Prop := ∃ fn D, rec = fun st pe => { state := st, pending := pe, fn, tmps, params := ps, assign, body, defers := D }
/-- What a round may end in. -/
def RoundGoes (R : Ending → World → Prop) (l : Nat) (rec : LoopState → Option Code → Loop) : Exit → Act → World → Prop
  | .normal, _, W => W.heap[l]? = some (.loop (rec .busy none)) ∧ R (.returned (.bool true)) (W.putObj l (.loop (rec .ready none)))
  | .ret, _, W => W.heap[l]? = some (.loop (rec .busy none)) ∧ R (.returned (.bool false)) (W.putObj l (.loop (rec .done (some .ret))))
  | .exit id, _, W => W.heap[l]? = some (.loop (rec .busy none)) ∧ R (.returned (.bool false)) (W.putObj l (.loop (rec .done (some (.exit id)))))
  | _, _, _ => False
theorem round_goes {n : Nat} {P : Program} {l : Nat} {tmps : Array Value} {ps : Array Tmp} {assign body : Code} {rec : LoopState → Option Code → Loop} {args : Array Value} {W : World} {R : Ending → World → Prop} (hR : LoopRec tmps ps assign body rec)
    (hl : W.heap[l]? = some (.loop (rec .ready none))) (hs : args.size = ps.size)
    (h : assign.wpIn (Fence.wide.inRound l) n P (Exit.then (fun a₁ W₁ => W₁.heap[l]? = some (.loop (rec .ready none)) ∧ body.wpIn (Fence.wide.inRound l) n P (RoundGoes R l rec) a₁ (W₁.putObj l (.loop (rec .busy none)))) (fun _ _ _ => False))
      { tmps := (ps.zip args).foldl (fun tmps (t, a) => tmps.setIfInBounds t a) tmps, defers := [] } W) : YieldAt Fence.wide n P l args W R := by
  obtain ⟨fn, D, rfl⟩ := hR
  refine round_of hl hs trivial (wpIn_mono h ?_)
  rintro e a₁ W₁ hq
  cases e with
  | normal =>
    obtain ⟨h1, h3⟩ := hq
    refine ⟨h1, rfl, wpIn_mono h3 ?_⟩
    rintro e a₂ W₂ hq
    cases e with
    | normal => exact hq
    | ret => exact hq
    | exit id => exact hq
    | goto t => exact hq.elim
    | panic c => exact hq.elim
    | outgrown => exact hq.elim
  | ret => exact hq.elim
  | exit id => exact hq.elim
  | goto t => exact hq.elim
  | panic c => exact hq.elim
  | outgrown => exact hq.elim
/-- The statement, where nothing is barred: the function is called once; behind it the loop's own act goes on, or the jump that a round left. -/
theorem rangeFunc_of {P : Program} {g : Operand} {ps : Array Tmp} {assign body : Code} {Q : Exit → Act → World → Prop} {a : Act} {w : World} {gf : FuncId} {lb : Array Value} (n : Nat)
    (hg : a.eval g = .func (.func gf) #[] lb) (eg : ∀ args w, (callFunc gf args).run P w = .ok (.enter gf args) w)
    (h : ∀ rec, LoopRec a.tmps ps assign body rec → CallsIn Fence.wide n P gf (#[.func (.yield (w.heap.size + 1)) #[] #[]] ++ lb) ((w.alloc (.deferred (some []))).alloc (.loop (rec .ready none))) fun e W => (∃ v, e = .returned v) ∧
      ((W.heap[w.heap.size + 1]? = some (.loop (rec .ready none)) ∧ Q .normal { a with defers := { target := .collected w.heap.size, args := #[] } :: a.defers } (W.putObj (w.heap.size + 1) (.loop (rec .exhausted none)))) ∨
       (∃ c, W.heap[w.heap.size + 1]? = some (.loop (rec .done (some c))) ∧ c.wpIn Fence.wide (n + 1) P Q { a with defers := { target := .collected w.heap.size, args := #[] } :: a.defers } (W.putObj (w.heap.size + 1) (.loop (rec .exhausted (some c))))))) :
    (Code.rangeFunc g ps assign body).wpIn Fence.wide (n + 1) P Q a w := by
  refine wpIn_rangeFunc ?_
  intro fn _
  obtain ⟨rec, hrec⟩ : ∃ rec : LoopState → Option Code → Loop, rec = fun st pe => { state := st, pending := pe, fn, tmps := a.tmps, params := ps, assign, body, defers := w.heap.size } := ⟨_, rfl⟩
  have hR : LoopRec a.tmps ps assign body rec := ⟨fn, w.heap.size, hrec⟩
  obtain ⟨W1, hW1⟩ : ∃ W1, (w.alloc (.deferred (some []))).alloc (.loop (rec .ready none)) = W1 := ⟨_, rfl⟩
  have h1 := h rec hR
  rw [hW1] at h1
  refine ⟨w.heap.size + 1, [{ target := .collected w.heap.size, args := #[] }], W1, { target := .fn (.func gf) lb, args := #[.func (.yield (w.heap.size + 1)) #[] #[]] }, W1, gf, #[.func (.yield (w.heap.size + 1)) #[] #[]] ++ lb, W1, ?_, ?_, ?_, ?_, ?_, ?_⟩
  · rw [← hW1, hrec]
    exact run_enterLoop_outer _ _ _ _ _
  · simp only [resolve, hg]
    simp [go_sem]
  · intro f' _
    trivial
  · simp [invoke, go_sem, eg]
  · intro _
    omega
  refine h1.mono ?_
  subst hrec
  rintro e W ⟨⟨v, rfl⟩, ⟨h1, h2⟩ | ⟨c, h1, h2⟩⟩
  · exact ⟨none, _, run_endLoop h1 (by simp), h2⟩
  · exact ⟨some c, _, run_endLoop h1 (by simp), h2⟩
end Go.Bul
namespace Go.Thg
open Go Go.RowKit Go.Bul
/-- The two objects of a loop over a function. -/
theorem Mem.loopNew {w w0 : World} {G : List Nat} {L : List Ent} {R : List Thing} (hM : Mem G w0 L R w) (r : Loop) : Mem G w0 L (objT (w.heap.size + 1) (.loop r) :: objT w.heap.size (.deferred (some [])) :: R) ((w.alloc (.deferred (some []))).alloc (.loop r)) := by
  have h1 := hM.newThing (obj_new w (.deferred (some [])))
  have h2 := h1.newThing (obj_new _ (.loop r))
  rw [World.size_alloc] at h2
  exact h2
theorem Mem.loopPut {w w0 : World} {G : List Nat} {L : List Ent} {R : List Thing} {l : Nat} {r : Loop} (hM : Mem G w0 L (objT l (.loop r) :: R) w) (r' : Loop) : Mem G w0 L (objT l (.loop r') :: R) (w.putObj l (.loop r')) :=
  hM.turn (UpdR.head _ _) (obj_put (hM.thing _ (List.Mem.head _)) _)
theorem Mem.loopAt {w w0 : World} {G : List Nat} {L : List Ent} {R : List Thing} {l : Nat} {o : Obj} (hM : Mem G w0 L (objT l o :: R) w) : w.heap[l]? = some o := hM.thing _ (List.Mem.head _)
theorem Mem.markAt {w w0 : World} {G : List Nat} {L : List Ent} {R : List Thing} {l D : Nat} {o o' : Obj} (hM : Mem G w0 L (objT l o :: objT D o' :: R) w) : w.heap[D]? = some o' := hM.thing _ (List.Mem.tail _ (List.Mem.head _))
theorem Mem.markPut {w w0 : World} {G : List Nat} {L : List Ent} {R : List Thing} {l D : Nat} {o o' : Obj} (hM : Mem G w0 L (objT l o :: objT D o' :: R) w) (o'' : Obj) : Mem G w0 L (objT l o :: objT D o'' :: R) (w.putObj D o'') :=
  hM.turn (UpdR.tail _ (UpdR.head _ _)) (obj_put (hM.thing _ (List.Mem.tail _ (List.Mem.head _))) _)
end Go.Thg
namespace Go.Bul
open Go Go.RowKit
def noDefer (o : Oper) : Bool := match o.op with | .defer _ => false | _ => true
theorem noDefer_ne {o : Oper} (h : noDefer o = true) (c) : o.op ≠ .defer c := by
  intro e
  simp [noDefer, e] at h
theorem wpListIn_round {P : Program} {ops : Array Oper} {Q : Exit → Act → World → Prop} {k n : Nat} (hno : ¬ LetsOut Q) : ∀ (os : List Oper) (a : Act) (w : World), os.all noDefer = true → wpList P ops Q os a w → wpListIn (Fence.wide.inRound k) n P ops Q os a w
  | [], _, _, _, h => h
  | o :: rest, a, w, hd, h => by
    rw [List.all_cons, Bool.and_eq_true] at hd
    have ih := fun a w => wpListIn_round (n := n) (k := k) (P := P) (ops := ops) hno rest a w hd.2
    unfold wpList at h
    unfold wpListIn
    split at h
    · rename_i hw
      rw [if_pos hw]
      rcases h with h | ⟨_, hl⟩
      · refine ⟨fun f _ => trivial, ?_⟩
        rw [show (Fence.wide.inRound k).round = some k from rfl, Oper.semAt_some k a.eval o (noDefer_ne hd.1)]
        unfold Oper.wp at h
        revert h
        cases (execOp a.eval o).run P w with
        | ok x w' =>
          cases x with
          | value v => exact ih _ _
          | skip => exact ih _ _
          | defer d => exact ih _ _
          | enter f args =>
            intro h
            have h2 := CallsIn.inRound k (callsIn_wide (n := n - 1).2 h)
            refine ⟨(fun h0 => by cases h0), h2.mono ?_⟩
            intro e w2 he
            match e, he with
            | .returned v, he => exact ih _ _ he
            | .panicked c, he => exact he
            | .outgrown, he => exact he
          | row r args =>
            intro h
            refine ⟨(fun h0 => by cases h0), fun c cs _ => ?_⟩
            obtain ⟨v, w2, r1, s⟩ := h c cs
            exact ⟨v, w2, ih _ _ r1, stepsIn_wide.2 s⟩
          | _ => exact fun h => h.elim
        | halt x w' =>
          cases x with
          | panic v => exact fun h => h
          | _ => exact fun h => h.elim
      · exact absurd hl hno
    · rename_i hw
      rw [if_neg hw]
      exact ⟨fun f _ => trivial, ih _ _ h⟩
theorem wpIn_round_lit {P : Program} {id : Nat} {l : List Oper} {Q : Exit → Act → World → Prop} {k n : Nat} {a : Act} {w : World} (hno : ¬ LetsOut Q) (hd : l.all noDefer = true) (h : wpList P l.toArray Q l a w) : (Code.region id l.toArray false).wpIn (Fence.wide.inRound k) n P Q a w :=
  wpIn_region_lit (wpListIn_round hno l a w hd h)
end Go.Bul
namespace Go.Bul
open Go Go.RowKit Go.Thg
theorem wpOpIn_round {P : Program} {ops : Array Oper} {Q : Exit → Act → World → Prop} {k n i : Nat} (hno : ¬ LetsOut Q) (hd : ops.toList.all noDefer = true) {K K' : Act → World → Prop} (hK : ∀ a w, K a w → K' a w) {a : Act} {w : World} (h : wpOp P ops Q i K a w) :
    wpOpIn (Fence.wide.inRound k) n P ops Q i K' a w := by
  unfold wpOp at h
  unfold wpOpIn
  cases ho : ops[i]? with
  | none =>
    rw [ho] at h
    exact hK _ _ h
  | some o =>
    rw [ho] at h
    simp only at h ⊢
    have hmem : o ∈ ops.toList := by
      rw [← Array.getElem?_toList] at ho
      exact List.mem_of_getElem? ho
    have hdo := List.all_eq_true.1 hd o hmem
    split at h
    · rename_i hw
      rw [if_pos hw]
      rcases h with h | ⟨_, hl⟩
      · refine ⟨fun f _ => trivial, ?_⟩
        rw [show (Fence.wide.inRound k).round = some k from rfl, Oper.semAt_some k a.eval o (noDefer_ne hdo)]
        unfold Oper.wp at h
        revert h
        cases (execOp a.eval o).run P w with
        | ok x w' =>
          cases x with
          | value v => exact hK _ _
          | skip => exact hK _ _
          | defer d => exact hK _ _
          | enter f args =>
            intro h
            have h2 := CallsIn.inRound k (callsIn_wide (n := n - 1).2 h)
            refine ⟨(fun h0 => by cases h0), h2.mono ?_⟩
            intro e w2 he
            match e, he with
            | .returned v, he => exact hK _ _ he
            | .panicked c, he => exact he
            | .outgrown, he => exact he
          | row r args =>
            intro h
            refine ⟨(fun h0 => by cases h0), fun c cs _ => ?_⟩
            obtain ⟨v, w2, r1, s⟩ := h c cs
            exact ⟨v, w2, hK _ _ r1, stepsIn_wide.2 s⟩
          | _ => exact fun h => h.elim
        | halt x w' =>
          cases x with
          | panic v => exact fun h => h
          | _ => exact fun h => h.elim
      · exact absurd hl hno
    · rename_i hw
      rw [if_neg hw]
      exact ⟨fun f _ => trivial, hK _ _ h⟩
theorem wpAnyIn_round {P : Program} {ops : Array Oper} {Q : Exit → Act → World → Prop} {k n : Nat} {md : Region.Mode} (hno : ¬ LetsOut Q) (hd : ops.toList.all noDefer = true) : ∀ (fuel : Nat) (listed : Array Bool) (a : Act) (w : World), wpAny P md ops Q fuel listed a w → wpAnyIn (Fence.wide.inRound k) n P md ops Q fuel listed a w
  | 0, _, _, _, h => h
  | fuel + 1, _, _, _, h => ⟨h.1, fun i hi => wpOpIn_round hno hd (fun a w h' => wpAnyIn_round hno hd fuel _ a w h') (h.2 i hi)⟩
/-- A region that draws its order, in a round: what its plain rule asks. -/
theorem wpIn_round_any {P : Program} {id : Nat} {l : List Oper} {Q : Exit → Act → World → Prop} {k n : Nat} {a : Act} {w : World} (hno : ¬ LetsOut Q) (hm : P.follows .mixedOrders = true) (hd : l.all noDefer = true) (h : wpAny P .any l.toArray Q l.toArray.size (Array.replicate l.toArray.size false) a w.drew) : (Code.region id l.toArray true).wpIn (Fence.wide.inRound k) n P Q a w :=
  wpIn_region_any hm (wpAnyIn_round hno (by simpa using hd) _ _ _ _ h)
section
variable {P : Program} {Q : Exit → Act → World → Prop} {w w0 : World} {G : List Nat} {L : List Ent} {R : List Thing} {id k n : Nat} {a : Act} {l : List Oper}
theorem wpIn_region_allB (hM : Mem G w0 L R w) (j : Nat) (hno : ¬ LetsOut Q) (hm : P.follows .mixedOrders = true) (hd : l.all noDefer = true)
    (h : ∀ wd, Mem G w0 L R wd → wpAllT P l.toArray Q (fun w' => Below wd.heap.size wd w') j (Array.replicate l.toArray.size false) a wd) : (Code.region id l.toArray true).wpIn (Fence.wide.inRound k) n P Q a w :=
  wpIn_round_any hno hm hd (wpAny_of_T _ _ _ _ (h _ hM.drew _ (by simp [toCome, List.countP_replicate])))
theorem wpIn_region_allT (S : World → Prop) (j : Nat) (hno : ¬ LetsOut Q) (hm : P.follows .mixedOrders = true) (hd : l.all noDefer = true)
    (h : wpAllT P l.toArray Q S j (Array.replicate l.toArray.size false) a w.drew) : (Code.region id l.toArray true).wpIn (Fence.wide.inRound k) n P Q a w :=
  wpIn_round_any hno hm hd (wpAny_of_T _ _ _ _ (h _ (by simp [toCome, List.countP_replicate])))
theorem wpIn_region_allHB (hM : Mem G w0 L R w) (hno : ¬ LetsOut Q) (hm : P.follows .mixedOrders = true) (hd : l.all noDefer = true)
    (h : ∀ wd, Mem G w0 L R wd → wpAllH P l.toArray Q (fun w' => Below wd.heap.size wd w') (Array.replicate l.toArray.size false) a wd) : (Code.region id l.toArray true).wpIn (Fence.wide.inRound k) n P Q a w :=
  wpIn_round_any hno hm hd (wpAny_of_held _ _ _ _ (h _ hM.drew _ (by simp [toCome, List.countP_replicate])))
end
/-- The marks that a function leaves among its deferred calls. -/
abbrev markT (D : Nat) : Thing := objT D (.deferred (some []))
abbrev markD (D : Nat) : Deferred := { target := .collected D, args := #[] }
theorem leaves_marks {F : Fence} {n : Nat} {P : Program} {fn : Func} {tmps : Array Value} {R : Ending → World → Prop} {u : FrameMode} {G : List Nat} {L : List Ent} {w0 : World} (hu : u ≠ .run) (h : ∀ w', Mem G w0 L [] w' → LeavesInM F n P fn tmps R [] u w') :
    ∀ (Ds : List Nat) (w : World), Mem G w0 L (Ds.map markT) w → LeavesInM F n P fn tmps R (Ds.map markD) u w
  | [], w, hM => h w hM
  | D :: Ds, w, hM => by
    refine ⟨hu, .inl ⟨D, _, rfl, run_takeDeferred hM.loopAt, ?_⟩⟩
    have h1 := hM.turn (UpdR.head _ _) (obj_put (hM.thing _ (List.Mem.head _)) (.deferred none))
    exact leaves_marks hu h Ds _ (h1.subR (List.sublist_cons_self _ _))
end Go.Bul
