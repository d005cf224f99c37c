/- Seat n: in a round of a range over a function: a region without defer statements goes as everywhere. -/
import Derived.Test.YtpjphjokhccdaaaGreatNie
namespace Go.Bul
open Go Go.RowKit
def noDefer (o : Oper) : Bool := match o.op with | .defer _ => false | _ => true
theorem noDefer_ne {o : Oper} (h : noDefer o = true) (c) : o.op ≠ .defer c := by
  intro e
  simp [noDefer, e] at h
theorem wpListIn_round {P : Program} {ops : Array Oper} {Q : Exit → Act → World → Prop} {k n : Nat} (hno : ¬ LetsOut Q) : ∀ (os : List Oper) (a : Act) (w : World), os.all noDefer = true → wpList P ops Q os a w → wpListIn (Fence.wide.inRound k) n P ops Q os a w
  | [], _, _, _, h => h
  | o :: rest, a, w, hd, h => by
    rw [List.all_cons, Bool.and_eq_true] at hd
    have ih := fun a w => wpListIn_round (n := n) (k := k) (P := P) (ops := ops) hno rest a w hd.2
    unfold wpList at h
    unfold wpListIn
    split at h
    · rename_i hw
      rw [if_pos hw]
      rcases h with h | ⟨_, hl⟩
      · refine ⟨fun f _ => trivial, ?_⟩
        rw [show (Fence.wide.inRound k).round = some k from rfl, Oper.semAt_some k a.eval o (noDefer_ne hd.1)]
        unfold Oper.wp at h
        revert h
        cases (execOp a.eval o).run P w with
        | ok x w' =>
          cases x with
          | value v => exact ih _ _
          | skip => exact ih _ _
          | defer d => exact ih _ _
          | enter f args =>
            intro h
            have h2 := CallsIn.inRound k (callsIn_wide (n := n - 1).2 h)
            refine ⟨(fun h0 => by cases h0), h2.mono ?_⟩
            intro e w2 he
            match e, he with
            | .returned v, he => exact ih _ _ he
            | .panicked c, he => exact he
            | .outgrown, he => exact he
          | row r args =>
            intro h
            refine ⟨(fun h0 => by cases h0), fun c cs _ => ?_⟩
            obtain ⟨v, w2, r1, s⟩ := h c cs
            exact ⟨v, w2, ih _ _ r1, stepsIn_wide.2 s⟩
          | _ => exact fun h => h.elim
        | halt x w' =>
          cases x with
          | panic v => exact fun h => h
          | _ => exact fun h => h.elim
      · exact absurd hl hno
    · rename_i hw
      rw [if_neg hw]
      exact ⟨fun f _ => trivial, ih _ _ h⟩
theorem wpIn_round_lit {P : Program} {id : Nat} {l : List Oper} {Q : Exit → Act → World → Prop} {k n : Nat} {a : Act} {w : World} (hno : ¬ LetsOut Q) (hd : l.all noDefer = true) (h : wpList P l.toArray Q l a w) : (Code.region id l.toArray false).wpIn (Fence.wide.inRound k) n P Q a w :=
  wpIn_region_lit (wpListIn_round hno l a w hd h)
end Go.Bul
