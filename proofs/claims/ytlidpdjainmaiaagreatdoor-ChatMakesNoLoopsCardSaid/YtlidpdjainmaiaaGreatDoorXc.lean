/- Regions whose order is drawn, step by step in an order of one's own choice: operations that yield in every world, blocks of quiet operations, forced ones. Regions whose order is drawn, in an order of one's own, where loads stand next to operations that change the world elsewhere: what holds of every world on the way. -/
import Derived.Test.YtlidpdjainmaiaaGreatDoorXb
import Derived.OwnWalk
import Derived.Deep.RegionHeld
namespace Go.Bul
open Go
/-- How many operations are still to come. -/
def toCome (listed : Array Bool) : Nat := listed.toList.countP (fun b => !b)
theorem toCome_set {listed : Array Bool} {i : Nat} (h : listed.getD i true = false) : toCome (listed.setIfInBounds i true) + 1 = toCome listed := by
  have := count_set listed.toList i (by simpa [List.getD, Array.getD_eq_getD_getElem?] using h)
  simpa only [toCome, Array.toList_setIfInBounds] using this
section
variable {P : Program} {ops : Array Oper} {Q : Exit → Act → World → Prop}
/-- The rest of a region, whatever order comes up. -/
def wpAll (P : Program) (ops : Array Oper) (Q : Exit → Act → World → Prop) (listed : Array Bool) (a : Act) (w : World) : Prop := ∀ fuel, toCome listed ≤ fuel → wpAny P .any ops Q fuel listed a w
theorem wp_region_all {id : Nat} {a : Act} {w : World} {l : List Oper} (hm : P.follows .mixedOrders = true) (h : wpAll P l.toArray Q (Array.replicate l.toArray.size false) a w.drew) : (Code.region id l.toArray true).wp P Q a w :=
  wp_region_any hm (h _ (by simp [toCome, List.countP_replicate]))
theorem wpAll_done {listed : Array Bool} {a : Act} {w : World} (hr : Region.ready .any ops listed = []) (h : Q .normal a w) : wpAll P ops Q listed a w := fun fuel _ => wpAny_done hr h fuel
theorem toCome_pos {listed : Array Bool} {i : Nat} (hi : i ∈ Region.ready .any ops listed) : ∃ n, toCome listed = n + 1 := by
  have := toCome_set (mem_ready.1 hi).1
  exact ⟨_, this.symm⟩
/-- So many operations written out. -/
def pickOps (l : List Oper) (is : List Nat) : List Oper := is.filterMap fun i => l[i]?
def marks : List Nat → Array Bool → Array Bool
  | [], listed => listed
  | i :: is, listed => marks is (listed.setIfInBounds i true)
/-- Each comes up, and stands apart from all that does not wait for it. -/
def takeB (ops : Array Oper) : List Nat → Array Bool → Bool
  | [], _ => true
  | i :: is, listed => (Region.ready .any ops listed).contains i && Region.free .any ops listed i && takeB ops is (listed.setIfInBounds i true)
/-- Operations that yield in every world. -/
def wpPure (P : Program) (ops : Array Oper) (K : Act → Prop) : List Oper → Act → Prop
  | [], a => K a
  | o :: l, a => ∃ v, Yields P ops o v a ∧ wpPure P ops K l (a.put o.dst v)
theorem wpPure_nil {K : Act → Prop} {a : Act} (h : K a) : wpPure P ops K [] a := h
theorem wpPure_step {K : Act → Prop} {a : Act} {o : Oper} {l : List Oper} {v : Value} (hg : o.guard = none) (hy : ∀ w, (execOp a.eval o).run P w = .ok (.value v) w)
    (h : ∀ K' : Act → Prop, (∀ a', wpPure P ops K l a' → K' a') → K' (a.put o.dst v)) : wpPure P ops K (o :: l) a :=
  ⟨v, .inl ⟨by simp [Region.wanted, hg], hy⟩, h _ fun _ h => h⟩
theorem wpAll_takes {l : List Oper} (is : List Nat) (hsel : Region.noSelect l.toArray = true) (hQ : ∀ c a s v w, Q (.panic c) (Act.put a (some s) v) w → Q (.panic c) a w) {w : World} : ∀ {listed : Array Bool} {a : Act}, takeB l.toArray is listed = true →
    wpPure P l.toArray (fun a' => wpAll P l.toArray Q (marks is listed) a' w) (pickOps l is) a → wpAll P l.toArray Q listed a w := by
  induction is with
  | nil => intro listed a _ h; exact h
  | cons i is ih =>
    intro listed a hB h
    simp only [takeB, Bool.and_eq_true] at hB
    obtain ⟨⟨hr, hf⟩, hB⟩ := hB
    have hr' : i ∈ Region.ready .any l.toArray listed := by simpa using hr
    obtain ⟨_, o, ho, _⟩ := mem_ready.1 hr'
    have hp : pickOps l (i :: is) = o :: pickOps l is := by
      have : l[i]? = some o := by simpa using ho
      simp [pickOps, this]
    rw [hp] at h
    obtain ⟨v, hy, h⟩ := h
    intro fuel hfuel
    obtain ⟨n, hn⟩ := toCome_pos hr'
    obtain ⟨f, rfl⟩ : ∃ f, fuel = f + 1 := ⟨fuel - 1, by omega⟩
    refine wpAny_take ho hsel hf hr (fun c a w hq => by cases hd : o.dst with | none => rw [hd] at hq; exact hq | some s => rw [hd] at hq; exact hQ c a s _ w hq) hy (ih hB h f ?_)
    have := toCome_set (mem_ready.1 hr').1
    omega
/-- The only one that may come up. -/
def thenQ (Q : Exit → Act → World → Prop) (W : Act → World → Prop) : Exit → Act → World → Prop
  | .normal => W
  | x => Q x
theorem wp_of_then {o : Oper} {a : Act} {w : World} {K W : Act → World → Prop} (h : o.wp P a w K (thenQ Q W)) : o.wp P a w K Q := by
  unfold Oper.wp at *
  generalize (execOp a.eval o).run P w = r at *
  cases r with
  | ok n w' =>
    cases n with
    | enter f args => exact Calls.mono h fun e w'' he => by cases e <;> exact he
    | _ => exact h
  | halt x w' => cases x <;> exact h
theorem wpAll_one {l : List Oper} {listed : Array Bool} (k : Nat) {o : Oper} {a : Act} {w : World} (ho : l[k]? = some o) (hr : Region.ready .any l.toArray listed = [k])
    (h : wpList P l.toArray (thenQ Q (wpAll P l.toArray Q (listed.setIfInBounds k true))) [o] a w) : wpAll P l.toArray Q listed a w := by
  intro fuel hfuel
  have hk : k ∈ Region.ready .any l.toArray listed := by rw [hr]; simp
  obtain ⟨n, hn⟩ := toCome_pos hk
  obtain ⟨f, rfl⟩ : ∃ f, fuel = f + 1 := ⟨fuel - 1, by omega⟩
  refine wpAny_all hr (by simp) fun i hi => ?_
  obtain rfl : i = k := by simpa using hi
  have hK : ∀ a' w', thenQ Q (wpAll P l.toArray Q (listed.setIfInBounds i true)) .normal a' w' → wpAny P .any l.toArray Q f (listed.setIfInBounds i true) a' w' := fun a' w' h' => h' f (by
    have := toCome_set (mem_ready.1 hk).1
    omega)
  have ho' : l.toArray[i]? = some o := by simpa using ho
  unfold wpOp
  simp only [ho']
  unfold wpList at h
  split
  · rename_i hw
    rw [if_pos hw] at h
    rcases h with h | ⟨h1, h2⟩
    · exact .inl (Oper.wp_mono (fun a' w' h' => hK a' w' h') (wp_of_then h))
    · exact .inr ⟨h1, h2⟩
  · rename_i hw
    rw [if_neg hw] at h
    exact hK _ _ h
/-- All that is left comes up in one order. -/
def seqB (ops : Array Oper) : List Nat → Array Bool → Bool
  | [], listed => (Region.ready .any ops listed).isEmpty
  | i :: is, listed => decide (Region.ready .any ops listed = [i]) && seqB ops is (listed.setIfInBounds i true)
theorem wpAll_seq {l : List Oper} : ∀ (is : List Nat) {listed : Array Bool} {a : Act} {w : World}, seqB l.toArray is listed = true → wpList P l.toArray Q (pickOps l is) a w → wpAll P l.toArray Q listed a w
  | [], listed, a, w, hB, h => wpAll_done (by simpa [seqB] using hB) h
  | i :: is, listed, a, w, hB, h => by
    simp only [seqB, Bool.and_eq_true, decide_eq_true_eq] at hB
    intro fuel hfuel
    have hk : i ∈ Region.ready .any l.toArray listed := by rw [hB.1]; simp
    obtain ⟨n, hn⟩ := toCome_pos hk
    obtain ⟨f, rfl⟩ : ∃ f, fuel = f + 1 := ⟨fuel - 1, by omega⟩
    obtain ⟨_, o, ho, _⟩ := mem_ready.1 hk
    have hp : pickOps l (i :: is) = o :: pickOps l is := by
      have : l[i]? = some o := by simpa using ho
      simp [pickOps, this]
    rw [hp] at h
    refine wpAny_all hB.1 (by simp) fun j hj => ?_
    obtain rfl : j = i := by simpa using hj
    have hw : wpOp P l.toArray Q j (wpList P l.toArray Q (pickOps l is)) a w := by unfold wpOp; simp only [ho]; exact h
    exact wpOp_mono (fun a' w' h' => wpAll_seq is hB.2 h' f (by
      have := toCome_set (mem_ready.1 hk).1
      omega)) hw
/-- One operation that leaves the world alone. -/
theorem wpList_pure {o : Oper} {rest : List Oper} {a : Act} {w : World} {v : Value} (hgd : o.guard = none) (hr : (execOp a.eval o).run P w = .ok (.value v) w) (h : wpList P ops Q rest (a.put o.dst v) w) : wpList P ops Q (o :: rest) a w :=
  wpList_plain hgd fun K hK => by
    unfold Oper.wp
    rw [hr]
    exact hK _ _ h
theorem wpList_end {a : Act} {w : World} (h : Q .normal a w) : wpList P ops Q [] a w := h
/-! ### A block of quiet operations that all else waits for -/
/-- t waits for i, perhaps through others. -/
inductive Behind (ops : Array Oper) (i : Nat) : Nat → Prop
  | one {t : Nat} (h : Region.waitsFor .any ops t i = true) : Behind ops i t
  | far {t j : Nat} (h : Region.waitsFor .any ops t j = true) (k : Behind ops i j) : Behind ops i t
def behindB (ops : Array Oper) (i : Nat) : Nat → Nat → Bool
  | 0, _ => false
  | f + 1, t => match ops[t]? with
    | none => false
    | some o => o.after.any fun e => Region.binds .any e && (e.on == i || behindB ops i f e.on)
theorem behind_of {i : Nat} : ∀ {f t : Nat}, behindB ops i f t = true → Behind ops i t
  | f + 1, t, h => by
    unfold behindB at h
    split at h
    · cases h
    · rename_i o ho
      obtain ⟨e, he, hb⟩ := Array.any_eq_true'.1 h
      simp only [Bool.and_eq_true, Bool.or_eq_true, beq_iff_eq] at hb
      have hw : Region.waitsFor .any ops t e.on = true := by
        unfold Region.waitsFor
        simp only [ho]
        exact Array.any_eq_true'.2 ⟨e, he, by simp [hb.1]⟩
      rcases hb.2 with h1 | h1
      · exact .one (h1 ▸ hw)
      · exact .far hw (behind_of h1)
def Closed (ops : Array Oper) (listed : Array Bool) : Prop := ∀ j oj, ops[j]? = some oj → listed.getD j false = true → ∀ e ∈ oj.after, Region.binds .any e = true → listed.getD e.on false = true
def closedB (ops : Array Oper) (listed : Array Bool) : Bool := (List.range ops.size).all fun j => !listed.getD j false || (match ops[j]? with | none => true | some o => o.after.all fun e => !Region.binds .any e || listed.getD e.on false)
theorem closed_of {listed : Array Bool} (h : closedB ops listed = true) : Closed ops listed := by
  intro j oj hj hl e he hb
  have h1 := List.all_eq_true.1 h j (List.mem_range.2 (Array.getElem?_eq_some_iff.1 hj).1)
  simp only [hl, Bool.not_true, Bool.false_or, hj] at h1
  have h2 := Array.all_eq_true'.1 h1 e he
  simpa [hb] using h2
theorem Closed.set {listed : Array Bool} {i : Nat} (inv : Closed ops listed) (hi : i ∈ Region.ready .any ops listed) : Closed ops (listed.setIfInBounds i true) := by
  obtain ⟨_, oi, hoi, hall⟩ := mem_ready.1 hi
  intro j oj hj hl e he hb
  by_cases hij : i = j
  · subst hij
    have : oj = oi := Option.some.inj (hj.symm.trans hoi)
    subst this
    exact getD_set_true (hall e he hb)
  · rw [getD_set_ne false hij] at hl
    exact getD_set_true (inv j oj hj hl e he hb)
theorem Behind.waits {listed : Array Bool} (inv : Closed ops listed) {i : Nat} (hi : listed.getD i true = false) : ∀ {t : Nat}, Behind ops i t → t ∉ Region.ready .any ops listed ∧ listed.getD t false = false := by
  intro t h
  have key : ∀ {t j : Nat}, Region.waitsFor .any ops t j = true → listed.getD j false = false → t ∉ Region.ready .any ops listed ∧ listed.getD t false = false := by
    intro t j hw hj
    obtain ⟨o, ho, e, he, hb, rfl⟩ := Region.waitsFor_spec hw
    refine ⟨fun hr => ?_, ?_⟩
    · obtain ⟨_, o', ho', hall⟩ := mem_ready.1 hr
      have : o' = o := Option.some.inj (ho'.symm.trans ho)
      subst this
      have := hall e he hb
      rw [hj] at this; cases this
    · cases hl : listed.getD t false with
      | false => rfl
      | true =>
        have := inv t o ho hl e he hb
        rw [hj] at this; cases this
  induction h with
  | one h => exact key h (getD_both hi)
  | far h _ ih => exact key h ih.2
/-- Whatever is not of the block and has not come up waits for each of it. -/
def blockB (ops : Array Oper) (H : List Nat) (listed : Array Bool) : Bool := (List.range ops.size).all fun t => H.contains t || listed.getD t false || H.all fun i => behindB ops i ops.size t
def anyBlk (P : Program) (ops : Array Oper) (C : World → Prop) (H : List Nat) (L : Array Bool → Act → Prop) : Nat → Array Bool → Act → Prop
  | 0, listed, a => L listed a
  | f + 1, listed, a => Region.ready .any ops listed ≠ [] ∧ ∀ i ∈ Region.ready .any ops listed, i ∈ H ∧ qOp P ops C i (anyBlk P ops C H L f (listed.setIfInBounds i true)) a
theorem any_of_blk {C : World → Prop} {H : List Nat} {L : Array Bool → Act → Prop} (hL : ∀ listed a w, C w → L listed a → wpAll P ops Q listed a w) :
    ∀ (f : Nat) (listed : Array Bool) (a : Act) (w : World), C w → anyBlk P ops C H L f listed a → wpAll P ops Q listed a w
  | 0, listed, a, w, hw, h => hL _ _ _ hw h
  | f + 1, listed, a, w, hw, h => fun fuel hfuel => by
    obtain ⟨i0, hi0⟩ := List.exists_mem_of_ne_nil _ h.1
    obtain ⟨n, hn⟩ := toCome_pos hi0
    obtain ⟨g, rfl⟩ : ∃ g, fuel = g + 1 := ⟨fuel - 1, by omega⟩
    refine ⟨fun h0 => absurd h0 h.1, fun i hi => wpOp_of_qOp hw (fun a' w' hw' h' => any_of_blk hL f _ a' w' hw' h' g ?_) (h.2 i hi).2⟩
    have := toCome_set (mem_ready.1 hi).1
    omega
structure BlkInv (ops : Array Oper) (H : List Nat) (listed : Array Bool) : Prop where
  closed : Closed ops listed
  out : ∀ t, t < ops.size → t ∉ H → listed.getD t false = false → ∀ i ∈ H, Behind ops i t
theorem BlkInv.ready {H : List Nat} {listed : Array Bool} (inv : BlkInv ops H listed) {i : Nat} (hiH : i ∈ H) (hi : listed.getD i true = false) : ∀ t ∈ Region.ready .any ops listed, t ∈ H := by
  intro t ht
  refine Classical.byContradiction fun hn => ?_
  obtain ⟨hun, o, ho, _⟩ := mem_ready.1 ht
  exact (Behind.waits inv.closed hi (inv.out t (Array.getElem?_eq_some_iff.1 ho).1 hn (getD_both hun) i hiH)).1 ht
theorem BlkInv.set {H : List Nat} {listed : Array Bool} (inv : BlkInv ops H listed) {i : Nat} (hiH : i ∈ H) (hi : i ∈ Region.ready .any ops listed) : BlkInv ops H (listed.setIfInBounds i true) := by
  refine ⟨inv.closed.set hi, fun t ht hn hun => inv.out t ht hn ?_⟩
  rwa [getD_set_ne false (by rintro rfl; exact hn hiH)] at hun
theorem blk_first {C : World → Prop} {H : List Nat} {i : Nat} {oi : Oper} {v : Value} {L : Array Bool → Act → Prop} (hi : ops[i]? = some oi) (hsel : ∀ (j : Nat) (o : Oper) cs b, ops[j]? = some o → o.op ≠ .select cs b) (hiH : i ∈ H)
    (hdone : ∀ listed a, L listed a → ∀ j ∈ Region.ready .any ops listed, j ∉ H) :
    ∀ (f : Nat) (listed : Array Bool) (a : Act), BlkInv ops H listed →
      (∀ j oj, ops[j]? = some oj → j ≠ i → listed.getD j true = false → (∀ e ∈ oj.after, Region.binds .any e = true → e.on ≠ i) → oi.apart ops oj = true) →
      i ∈ Region.ready .any ops listed → YieldsIn P ops C oi v a →
      anyBlk P ops C H L f (listed.setIfInBounds i true) (a.put oi.dst v) → anyBlk P ops C H L (f + 1) listed a := by
  intro f
  induction f with
  | zero =>
    intro listed a inv _ hr hy hH
    have hun := (mem_ready.1 hr).1
    refine ⟨List.ne_nil_of_mem hr, fun j hj => ?_⟩
    have hjn := inv.ready hiH hun j hj
    refine ⟨hjn, ?_⟩
    by_cases hji : j = i
    · subst hji; exact hy.qOp hi hH
    · exact absurd hjn (hdone _ _ hH j (ready_mono hj hji))
  | succ f ih =>
    intro listed a inv hfree hr hy hH
    have hun := (mem_ready.1 hr).1
    refine ⟨List.ne_nil_of_mem hr, fun j hj => ?_⟩
    have hjn := inv.ready hiH hun j hj
    refine ⟨hjn, ?_⟩
    by_cases hji : j = i
    · subst hji; exact hy.qOp hi hH
    · obtain ⟨hjun, oj, hoj, hall⟩ := mem_ready.1 hj
      have hnot : ∀ e ∈ oj.after, Region.binds .any e = true → e.on ≠ i := fun e he hb heq => by
        have h1 := hall e he hb
        rw [heq, getD_both hun] at h1
        cases h1
      have h2 := qOp_put hoj (hfree j oj hoj hji hjun hnot) (fun cs b => hsel i oi cs b hi) (fun cs b => hsel j oj cs b hoj) hy (hH.2 j (ready_mono hj hji)).2
      have hfree' : ∀ k ok, ops[k]? = some ok → k ≠ i → (listed.setIfInBounds j true).getD k true = false →
          (∀ e ∈ ok.after, Region.binds .any e = true → e.on ≠ i) → oi.apart ops ok = true := fun k ok hk hki hun' hno => by
        refine hfree k ok hk hki ?_ hno
        by_cases hjk : j = k
        · subst hjk; exact hjun
        · rwa [getD_set_ne true hjk] at hun'
      refine qOp_mono (fun a' h3 => ih (listed.setIfInBounds j true) a' (inv.set hjn hj) hfree' (ready_mono hr (Ne.symm hji)) h3.1 ?_) h2
      rw [Array.setIfInBounds_comm _ _ hji]
      exact h3.2
theorem blk_walk {C : World → Prop} {l : List Oper} {H : List Nat} {K : Act → Prop} {listed0 : Array Bool} (hsel : Region.noSelect l.toArray = true) (hend : ∀ j ∈ Region.ready .any l.toArray (marks H listed0), j ∉ H) :
    ∀ (is : List Nat) (listed : Array Bool) (a : Act), (∀ i ∈ is, i ∈ H) → marks is listed = marks H listed0 → BlkInv l.toArray H listed → takeB l.toArray is listed = true → wpQuiet P l.toArray C K (pickOps l is) a →
      anyBlk P l.toArray C H (fun listed' a' => listed' = marks H listed0 ∧ K a') is.length listed a
  | [], listed, a, _, hm, _, _, h => ⟨hm, h⟩
  | i :: is, listed, a, hin, hm, inv, hB, h => by
    simp only [takeB, Bool.and_eq_true] at hB
    obtain ⟨⟨hr, hf⟩, hB⟩ := hB
    have hr' : i ∈ Region.ready .any l.toArray listed := by simpa using hr
    obtain ⟨_, o, ho, _⟩ := mem_ready.1 hr'
    have hp : pickOps l (i :: is) = o :: pickOps l is := by
      have : l[i]? = some o := by simpa using ho
      simp [pickOps, this]
    rw [hp] at h
    have hst : qOp P l.toArray C i (wpQuiet P l.toArray C K (pickOps l is)) a := by unfold qOp; simp only [ho]; exact h
    obtain ⟨v, hy, hK⟩ := yieldsIn_of_qOp ho hst
    have hiH := hin i (by simp)
    exact blk_first ho (Region.noSelect_spec hsel) hiH (fun listed' a' hL => by rw [hL.1]; exact hend) is.length listed a inv (Region.free_spec ho hf) hr' hy
      (blk_walk hsel hend is _ _ (fun k hk => hin k (by simp [hk])) hm (inv.set hiH hr') hB hK)
theorem wpAll_block {l : List Oper} (C : World → Prop) (H : List Nat) {listed : Array Bool} {a : Act} {w : World} (hsel : Region.noSelect l.toArray = true)
    (hB : (closedB l.toArray listed && blockB l.toArray H listed && takeB l.toArray H listed && (Region.ready .any l.toArray (marks H listed)).all fun j => !H.contains j) = true) (hC : C w)
    (h : wpQuiet P l.toArray C (fun a' => ∀ w', C w' → wpAll P l.toArray Q (marks H listed) a' w') (pickOps l H) a) : wpAll P l.toArray Q listed a w := by
  simp only [Bool.and_eq_true] at hB
  obtain ⟨⟨⟨h1, h2⟩, h3⟩, h4⟩ := hB
  have inv : BlkInv l.toArray H listed := ⟨closed_of h1, fun t ht hn hun i hi => by
    have h5 := List.all_eq_true.1 h2 t (List.mem_range.2 ht)
    simp only [hun, Bool.or_false, Bool.or_eq_true, List.contains_iff_mem, hn, false_or] at h5
    exact behind_of (List.all_eq_true.1 h5 i hi)⟩
  have hend : ∀ j ∈ Region.ready .any l.toArray (marks H listed), j ∉ H := fun j hj => by
    have := List.all_eq_true.1 h4 j hj
    simpa using this
  exact any_of_blk (fun listed' a' w' hw' hL => by obtain ⟨rfl, hk⟩ := hL; exact hk w' hw') _ _ _ _ hC (blk_walk hsel hend H listed a (fun _ h => h) rfl inv h3 h)
end
end Go.Bul
namespace Go.Bul
open Go
section
variable {P : Program} {ops : Array Oper} {Q : Exit → Act → World → Prop} {S : World → Prop}
/-- The rest of a region, whatever order comes up; S holds behind every operation. -/
def wpAllH (P : Program) (ops : Array Oper) (Q : Exit → Act → World → Prop) (S : World → Prop) (listed : Array Bool) (a : Act) (w : World) : Prop := ∀ fuel, toCome listed ≤ fuel → wpAnyH P .any ops Q S fuel listed a w
theorem wp_region_allH {id : Nat} {a : Act} {w : World} {l : List Oper} (S : World → Prop) (hm : P.follows .mixedOrders = true) (h : wpAllH P l.toArray Q S (Array.replicate l.toArray.size false) a w.drew) : (Code.region id l.toArray true).wp P Q a w :=
  wp_region_held hm (h _ (by simp [toCome, List.countP_replicate]))
theorem wpAllH_done {listed : Array Bool} {a : Act} {w : World} (hr : Region.ready .any ops listed = []) (h : Q .normal a w) : wpAllH P ops Q S listed a w := fun fuel _ => wpAnyH_done hr h fuel
/-- Operations that yield in every world that meets S. -/
def wpHeld (P : Program) (ops : Array Oper) (S : World → Prop) (K : Act → Prop) : List Oper → Act → Prop
  | [], a => K a
  | o :: l, a => ∃ v, YieldsIf P ops S o v a ∧ wpHeld P ops S K l (a.put o.dst v)
theorem wpHeld_nil {K : Act → Prop} {a : Act} (h : K a) : wpHeld P ops S K [] a := h
theorem wpHeld_step {K : Act → Prop} {a : Act} {o : Oper} {l : List Oper} {v : Value} (hg : o.guard = none) (hy : ∀ w, S w → (execOp a.eval o).run P w = .ok (.value v) w)
    (h : ∀ K' : Act → Prop, (∀ a', wpHeld P ops S K l a' → K' a') → K' (a.put o.dst v)) : wpHeld P ops S K (o :: l) a :=
  ⟨v, .inl ⟨by simp [Region.wanted, hg], hy⟩, h _ fun _ h => h⟩
theorem wpAllH_takes {l : List Oper} (is : List Nat) (hsel : Region.noSelect l.toArray = true) (hQ : ∀ c a s v w, Q (.panic c) (Act.put a (some s) v) w → Q (.panic c) a w) {w : World} (hS : S w) : ∀ {listed : Array Bool} {a : Act}, takeB l.toArray is listed = true →
    wpHeld P l.toArray S (fun a' => wpAllH P l.toArray Q S (marks is listed) a' w) (pickOps l is) a → wpAllH P l.toArray Q S listed a w := by
  induction is with
  | nil => intro listed a _ h; exact h
  | cons i is ih =>
    intro listed a hB h
    simp only [takeB, Bool.and_eq_true] at hB
    obtain ⟨⟨hr, hf⟩, hB⟩ := hB
    have hr' : i ∈ Region.ready .any l.toArray listed := by simpa using hr
    obtain ⟨_, o, ho, _⟩ := mem_ready.1 hr'
    have hp : pickOps l (i :: is) = o :: pickOps l is := by
      have : l[i]? = some o := by simpa using ho
      simp [pickOps, this]
    rw [hp] at h
    obtain ⟨v, hy, h⟩ := h
    intro fuel hfuel
    obtain ⟨n, hn⟩ := toCome_pos hr'
    obtain ⟨f, rfl⟩ : ∃ f, fuel = f + 1 := ⟨fuel - 1, by omega⟩
    refine wpAnyH_take ho hsel hf hr (fun c a w hq => by cases hd : o.dst with | none => rw [hd] at hq; exact hq | some s => rw [hd] at hq; exact hQ c a s _ w hq) hy hS (ih hB h f ?_)
    have := toCome_set (mem_ready.1 hr').1
    omega
theorem wpOp_of_list {l : List Oper} {k : Nat} {o : Oper} {a : Act} {w : World} {W : Act → World → Prop} (ho : l[k]? = some o) (h : wpList P l.toArray (thenQ Q W) [o] a w) : wpOp P l.toArray Q k W a w := by
  have ho' : l.toArray[k]? = some o := by simpa using ho
  unfold wpOp
  simp only [ho']
  unfold wpList at h
  split
  · rename_i hw
    rw [if_pos hw] at h
    rcases h with h | ⟨h1, h2⟩
    · exact .inl (Oper.wp_mono (fun a' w' h' => h') (wp_of_then h))
    · exact .inr ⟨h1, h2⟩
  · rename_i hw
    rw [if_neg hw] at h
    exact h
theorem wpList_then {W : Act → World → Prop} {a : Act} {w : World} (h : W a w) : wpList P ops (thenQ Q W) [] a w := h
theorem then_normal {W : Act → World → Prop} {a : Act} {w : World} (h : W a w) : thenQ Q W .normal a w := h
/-- The only one that may come up. -/
theorem wpAllH_one {l : List Oper} {listed : Array Bool} (k : Nat) {o : Oper} {a : Act} {w : World} (ho : l[k]? = some o) (hr : Region.ready .any l.toArray listed = [k])
    (h : wpList P l.toArray (thenQ Q fun a' w' => S w' ∧ wpAllH P l.toArray Q S (listed.setIfInBounds k true) a' w') [o] a w) : wpAllH P l.toArray Q S listed a w := by
  intro fuel hfuel
  have hk : k ∈ Region.ready .any l.toArray listed := by rw [hr]; simp
  obtain ⟨n, hn⟩ := toCome_pos hk
  obtain ⟨f, rfl⟩ : ∃ f, fuel = f + 1 := ⟨fuel - 1, by omega⟩
  refine wpAnyH_all hr (by simp) fun i hi => ?_
  obtain rfl : i = k := by simpa using hi
  refine wpOp_mono (fun a' w' h' => ⟨h'.1, h'.2 f ?_⟩) (wpOp_of_list ho h)
  have := toCome_set (mem_ready.1 hk).1
  omega
/-- One of two. -/
theorem wpAll_two {l : List Oper} {listed : Array Bool} (k j : Nat) {o u : Oper} {a : Act} {w : World} (ho : l[k]? = some o) (hu : l[j]? = some u) (hr : Region.ready .any l.toArray listed = [k, j])
    (h : wpList P l.toArray (thenQ Q (wpAll P l.toArray Q (listed.setIfInBounds k true))) [o] a w) (h2 : wpList P l.toArray (thenQ Q (wpAll P l.toArray Q (listed.setIfInBounds j true))) [u] a w) : wpAll P l.toArray Q listed a w := by
  intro fuel hfuel
  have hk : k ∈ Region.ready .any l.toArray listed := by rw [hr]; simp
  have hj : j ∈ Region.ready .any l.toArray listed := by rw [hr]; simp
  obtain ⟨n, hn⟩ := toCome_pos hk
  obtain ⟨f, rfl⟩ : ∃ f, fuel = f + 1 := ⟨fuel - 1, by omega⟩
  refine wpAny_all hr (by simp) fun i hi => ?_
  rcases List.mem_cons.1 hi with rfl | hi
  · refine wpOp_mono (fun a' w' h' => h' f ?_) (wpOp_of_list ho h)
    have := toCome_set (mem_ready.1 hk).1
    omega
  · obtain rfl : i = j := by simpa using hi
    refine wpOp_mono (fun a' w' h' => h' f ?_) (wpOp_of_list hu h2)
    have := toCome_set (mem_ready.1 hj).1
    omega
/-- One of two. -/
theorem wpAllH_two {l : List Oper} {listed : Array Bool} (k j : Nat) {o u : Oper} {a : Act} {w : World} (ho : l[k]? = some o) (hu : l[j]? = some u) (hr : Region.ready .any l.toArray listed = [k, j])
    (h : wpList P l.toArray (thenQ Q fun a' w' => S w' ∧ wpAllH P l.toArray Q S (listed.setIfInBounds k true) a' w') [o] a w)
    (h2 : wpList P l.toArray (thenQ Q fun a' w' => S w' ∧ wpAllH P l.toArray Q S (listed.setIfInBounds j true) a' w') [u] a w) : wpAllH P l.toArray Q S listed a w := by
  intro fuel hfuel
  have hk : k ∈ Region.ready .any l.toArray listed := by rw [hr]; simp
  have hj : j ∈ Region.ready .any l.toArray listed := by rw [hr]; simp
  obtain ⟨n, hn⟩ := toCome_pos hk
  obtain ⟨f, rfl⟩ : ∃ f, fuel = f + 1 := ⟨fuel - 1, by omega⟩
  refine wpAnyH_all hr (by simp) fun i hi => ?_
  rcases List.mem_cons.1 hi with rfl | hi
  · refine wpOp_mono (fun a' w' h' => ⟨h'.1, h'.2 f ?_⟩) (wpOp_of_list ho h)
    have := toCome_set (mem_ready.1 hk).1
    omega
  · obtain rfl : i = j := by simpa using hi
    refine wpOp_mono (fun a' w' h' => ⟨h'.1, h'.2 f ?_⟩) (wpOp_of_list hu h2)
    have := toCome_set (mem_ready.1 hj).1
    omega
end
end Go.Bul
