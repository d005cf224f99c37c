/- Regions whose order is drawn, step by step in an order of one's own choice: operations that yield in every world, blocks of quiet operations, forced ones. Regions whose order is drawn, in an order of one's own, where loads stand next to operations that change the world elsewhere: what holds of every world on the way. Regions whose order is drawn, in an order of one's own: loads are taken first, though a later operation changes what they read; what they read holds till that operation has come up. Drawn regions with calls, two new variables and a store into each, in whatever order comes up; what was made beside all else. No program. Laws of drawn regions over the types of one-time signatures; the index of an array of numbers that is a value; builds of evidence. -/
import Derived.Test.YtpigmibaeoceaaaDoorZh
import Derived.OwnWalk
import Derived.Deep.RegionHeld
import Derived.Test.YtpigmibaeoceaaaDoorChm
namespace Go.Bul
open Go
/-- How many operations are still to come. -/
def toCome (listed : Array Bool) : Nat := listed.toList.countP (fun b => !b)
theorem toCome_set {listed : Array Bool} {i : Nat} (h : listed.getD i true = false) : toCome (listed.setIfInBounds i true) + 1 = toCome listed := by
  have := count_set listed.toList i (by simpa [List.getD, Array.getD_eq_getD_getElem?] using h)
  simpa only [toCome, Array.toList_setIfInBounds] using this
section
variable {P : Program} {ops : Array Oper} {Q : Exit → Act → World → Prop}
/-- The rest of a region, whatever order comes up. -/
def wpAll (P : Program) (ops : Array Oper) (Q : Exit → Act → World → Prop) (listed : Array Bool) (a : Act) (w : World) : Prop := ∀ fuel, toCome listed ≤ fuel → wpAny P .any ops Q fuel listed a w
theorem wpAll_done {listed : Array Bool} {a : Act} {w : World} (hr : Region.ready .any ops listed = []) (h : Q .normal a w) : wpAll P ops Q listed a w := fun fuel _ => wpAny_done hr h fuel
theorem toCome_pos {listed : Array Bool} {i : Nat} (hi : i ∈ Region.ready .any ops listed) : ∃ n, toCome listed = n + 1 := by
  have := toCome_set (mem_ready.1 hi).1
  exact ⟨_, this.symm⟩
/-- So many operations written out. -/
def pickOps (l : List Oper) (is : List Nat) : List Oper := is.filterMap fun i => l[i]?
def marks : List Nat → Array Bool → Array Bool
  | [], listed => listed
  | i :: is, listed => marks is (listed.setIfInBounds i true)
/-- Each comes up, and stands apart from all that does not wait for it. -/
def takeB (ops : Array Oper) : List Nat → Array Bool → Bool
  | [], _ => true
  | i :: is, listed => (Region.ready .any ops listed).contains i && Region.free .any ops listed i && takeB ops is (listed.setIfInBounds i true)
/-- Operations that yield in every world. -/
def wpPure (P : Program) (ops : Array Oper) (K : Act → Prop) : List Oper → Act → Prop
  | [], a => K a
  | o :: l, a => ∃ v, Yields P ops o v a ∧ wpPure P ops K l (a.put o.dst v)
theorem wpPure_nil {K : Act → Prop} {a : Act} (h : K a) : wpPure P ops K [] a := h
theorem wpPure_step {K : Act → Prop} {a : Act} {o : Oper} {l : List Oper} {v : Value} (hg : o.guard = none) (hy : ∀ w, (execOp a.eval o).run P w = .ok (.value v) w)
    (h : ∀ K' : Act → Prop, (∀ a', wpPure P ops K l a' → K' a') → K' (a.put o.dst v)) : wpPure P ops K (o :: l) a :=
  ⟨v, .inl ⟨by simp [Region.wanted, hg], hy⟩, h _ fun _ h => h⟩
theorem wpAll_takes {l : List Oper} (is : List Nat) (hsel : Region.noSelect l.toArray = true) (hQ : ∀ c a s v w, Q (.panic c) (Act.put a (some s) v) w → Q (.panic c) a w) {w : World} : ∀ {listed : Array Bool} {a : Act}, takeB l.toArray is listed = true →
    wpPure P l.toArray (fun a' => wpAll P l.toArray Q (marks is listed) a' w) (pickOps l is) a → wpAll P l.toArray Q listed a w := by
  induction is with
  | nil => intro listed a _ h; exact h
  | cons i is ih =>
    intro listed a hB h
    simp only [takeB, Bool.and_eq_true] at hB
    obtain ⟨⟨hr, hf⟩, hB⟩ := hB
    have hr' : i ∈ Region.ready .any l.toArray listed := by simpa using hr
    obtain ⟨_, o, ho, _⟩ := mem_ready.1 hr'
    have hp : pickOps l (i :: is) = o :: pickOps l is := by
      have : l[i]? = some o := by simpa using ho
      simp [pickOps, this]
    rw [hp] at h
    obtain ⟨v, hy, h⟩ := h
    intro fuel hfuel
    obtain ⟨n, hn⟩ := toCome_pos hr'
    obtain ⟨f, rfl⟩ : ∃ f, fuel = f + 1 := ⟨fuel - 1, by omega⟩
    refine wpAny_take ho hsel hf hr (fun c a w hq => by cases hd : o.dst with | none => rw [hd] at hq; exact hq | some s => rw [hd] at hq; exact hQ c a s _ w hq) hy (ih hB h f ?_)
    have := toCome_set (mem_ready.1 hr').1
    omega
/-- The only one that may come up. -/
def thenQ (Q : Exit → Act → World → Prop) (W : Act → World → Prop) : Exit → Act → World → Prop
  | .normal => W
  | x => Q x
theorem wp_of_then {o : Oper} {a : Act} {w : World} {K W : Act → World → Prop} (h : o.wp P a w K (thenQ Q W)) : o.wp P a w K Q := by
  unfold Oper.wp at *
  generalize (execOp a.eval o).run P w = r at *
  cases r with
  | ok n w' =>
    cases n with
    | enter f args => exact Calls.mono h fun e w'' he => by cases e <;> exact he
    | _ => exact h
  | halt x w' => cases x <;> exact h
/-- All that is left comes up in one order. -/
def seqB (ops : Array Oper) : List Nat → Array Bool → Bool
  | [], listed => (Region.ready .any ops listed).isEmpty
  | i :: is, listed => decide (Region.ready .any ops listed = [i]) && seqB ops is (listed.setIfInBounds i true)
/-! ### A block of quiet operations that all else waits for -/
/-- t waits for i, perhaps through others. -/
inductive Behind (ops : Array Oper) (i : Nat) : Nat → Prop
  | one {t : Nat} (h : Region.waitsFor .any ops t i = true) : Behind ops i t
  | far {t j : Nat} (h : Region.waitsFor .any ops t j = true) (k : Behind ops i j) : Behind ops i t
def behindB (ops : Array Oper) (i : Nat) : Nat → Nat → Bool
  | 0, _ => false
  | f + 1, t => match ops[t]? with
    | none => false
    | some o => o.after.any fun e => Region.binds .any e && (e.on == i || behindB ops i f e.on)
theorem behind_of {i : Nat} : ∀ {f t : Nat}, behindB ops i f t = true → Behind ops i t
  | f + 1, t, h => by
    unfold behindB at h
    split at h
    · cases h
    · rename_i o ho
      obtain ⟨e, he, hb⟩ := Array.any_eq_true'.1 h
      simp only [Bool.and_eq_true, Bool.or_eq_true, beq_iff_eq] at hb
      have hw : Region.waitsFor .any ops t e.on = true := by
        unfold Region.waitsFor
        simp only [ho]
        exact Array.any_eq_true'.2 ⟨e, he, by simp [hb.1]⟩
      rcases hb.2 with h1 | h1
      · exact .one (h1 ▸ hw)
      · exact .far hw (behind_of h1)
def Closed (ops : Array Oper) (listed : Array Bool) : Prop := ∀ j oj, ops[j]? = some oj → listed.getD j false = true → ∀ e ∈ oj.after, Region.binds .any e = true → listed.getD e.on false = true
def closedB (ops : Array Oper) (listed : Array Bool) : Bool := (List.range ops.size).all fun j => !listed.getD j false || (match ops[j]? with | none => true | some o => o.after.all fun e => !Region.binds .any e || listed.getD e.on false)
theorem closed_of {listed : Array Bool} (h : closedB ops listed = true) : Closed ops listed := by
  intro j oj hj hl e he hb
  have h1 := List.all_eq_true.1 h j (List.mem_range.2 (Array.getElem?_eq_some_iff.1 hj).1)
  simp only [hl, Bool.not_true, Bool.false_or, hj] at h1
  have h2 := Array.all_eq_true'.1 h1 e he
  simpa [hb] using h2
theorem Closed.set {listed : Array Bool} {i : Nat} (inv : Closed ops listed) (hi : i ∈ Region.ready .any ops listed) : Closed ops (listed.setIfInBounds i true) := by
  obtain ⟨_, oi, hoi, hall⟩ := mem_ready.1 hi
  intro j oj hj hl e he hb
  by_cases hij : i = j
  · subst hij
    have : oj = oi := Option.some.inj (hj.symm.trans hoi)
    subst this
    exact getD_set_true (hall e he hb)
  · rw [getD_set_ne false hij] at hl
    exact getD_set_true (inv j oj hj hl e he hb)
theorem Behind.waits {listed : Array Bool} (inv : Closed ops listed) {i : Nat} (hi : listed.getD i true = false) : ∀ {t : Nat}, Behind ops i t → t ∉ Region.ready .any ops listed ∧ listed.getD t false = false := by
  intro t h
  have key : ∀ {t j : Nat}, Region.waitsFor .any ops t j = true → listed.getD j false = false → t ∉ Region.ready .any ops listed ∧ listed.getD t false = false := by
    intro t j hw hj
    obtain ⟨o, ho, e, he, hb, rfl⟩ := Region.waitsFor_spec hw
    refine ⟨fun hr => ?_, ?_⟩
    · obtain ⟨_, o', ho', hall⟩ := mem_ready.1 hr
      have : o' = o := Option.some.inj (ho'.symm.trans ho)
      subst this
      have := hall e he hb
      rw [hj] at this; cases this
    · cases hl : listed.getD t false with
      | false => rfl
      | true =>
        have := inv t o ho hl e he hb
        rw [hj] at this; cases this
  induction h with
  | one h => exact key h (getD_both hi)
  | far h _ ih => exact key h ih.2
structure BlkInv (ops : Array Oper) (H : List Nat) (listed : Array Bool) : Prop where
  closed : Closed ops listed
  out : ∀ t, t < ops.size → t ∉ H → listed.getD t false = false → ∀ i ∈ H, Behind ops i t
theorem BlkInv.ready {H : List Nat} {listed : Array Bool} (inv : BlkInv ops H listed) {i : Nat} (hiH : i ∈ H) (hi : listed.getD i true = false) : ∀ t ∈ Region.ready .any ops listed, t ∈ H := by
  intro t ht
  refine Classical.byContradiction fun hn => ?_
  obtain ⟨hun, o, ho, _⟩ := mem_ready.1 ht
  exact (Behind.waits inv.closed hi (inv.out t (Array.getElem?_eq_some_iff.1 ho).1 hn (getD_both hun) i hiH)).1 ht
theorem BlkInv.set {H : List Nat} {listed : Array Bool} (inv : BlkInv ops H listed) {i : Nat} (hiH : i ∈ H) (hi : i ∈ Region.ready .any ops listed) : BlkInv ops H (listed.setIfInBounds i true) := by
  refine ⟨inv.closed.set hi, fun t ht hn hun => inv.out t ht hn ?_⟩
  rwa [getD_set_ne false (by rintro rfl; exact hn hiH)] at hun
end
end Go.Bul
namespace Go.Bul
open Go
section
variable {P : Program} {ops : Array Oper} {Q : Exit → Act → World → Prop} {S : World → Prop}
/-- The rest of a region, whatever order comes up; S holds behind every operation. -/
def wpAllH (P : Program) (ops : Array Oper) (Q : Exit → Act → World → Prop) (S : World → Prop) (listed : Array Bool) (a : Act) (w : World) : Prop := ∀ fuel, toCome listed ≤ fuel → wpAnyH P .any ops Q S fuel listed a w
theorem wp_region_allH {id : Nat} {a : Act} {w : World} {l : List Oper} (S : World → Prop) (hm : P.follows .mixedOrders = true) (h : wpAllH P l.toArray Q S (Array.replicate l.toArray.size false) a w.drew) : (Code.region id l.toArray true).wp P Q a w :=
  wp_region_held hm (h _ (by simp [toCome, List.countP_replicate]))
theorem wpAllH_done {listed : Array Bool} {a : Act} {w : World} (hr : Region.ready .any ops listed = []) (h : Q .normal a w) : wpAllH P ops Q S listed a w := fun fuel _ => wpAnyH_done hr h fuel
/-- Operations that yield in every world that meets S. -/
def wpHeld (P : Program) (ops : Array Oper) (S : World → Prop) (K : Act → Prop) : List Oper → Act → Prop
  | [], a => K a
  | o :: l, a => ∃ v, YieldsIf P ops S o v a ∧ wpHeld P ops S K l (a.put o.dst v)
theorem wpHeld_nil {K : Act → Prop} {a : Act} (h : K a) : wpHeld P ops S K [] a := h
theorem wpHeld_step {K : Act → Prop} {a : Act} {o : Oper} {l : List Oper} {v : Value} (hg : o.guard = none) (hy : ∀ w, S w → (execOp a.eval o).run P w = .ok (.value v) w)
    (h : ∀ K' : Act → Prop, (∀ a', wpHeld P ops S K l a' → K' a') → K' (a.put o.dst v)) : wpHeld P ops S K (o :: l) a :=
  ⟨v, .inl ⟨by simp [Region.wanted, hg], hy⟩, h _ fun _ h => h⟩
theorem wpAllH_takes {l : List Oper} (is : List Nat) (hsel : Region.noSelect l.toArray = true) (hQ : ∀ c a s v w, Q (.panic c) (Act.put a (some s) v) w → Q (.panic c) a w) {w : World} (hS : S w) : ∀ {listed : Array Bool} {a : Act}, takeB l.toArray is listed = true →
    wpHeld P l.toArray S (fun a' => wpAllH P l.toArray Q S (marks is listed) a' w) (pickOps l is) a → wpAllH P l.toArray Q S listed a w := by
  induction is with
  | nil => intro listed a _ h; exact h
  | cons i is ih =>
    intro listed a hB h
    simp only [takeB, Bool.and_eq_true] at hB
    obtain ⟨⟨hr, hf⟩, hB⟩ := hB
    have hr' : i ∈ Region.ready .any l.toArray listed := by simpa using hr
    obtain ⟨_, o, ho, _⟩ := mem_ready.1 hr'
    have hp : pickOps l (i :: is) = o :: pickOps l is := by
      have : l[i]? = some o := by simpa using ho
      simp [pickOps, this]
    rw [hp] at h
    obtain ⟨v, hy, h⟩ := h
    intro fuel hfuel
    obtain ⟨n, hn⟩ := toCome_pos hr'
    obtain ⟨f, rfl⟩ : ∃ f, fuel = f + 1 := ⟨fuel - 1, by omega⟩
    refine wpAnyH_take ho hsel hf hr (fun c a w hq => by cases hd : o.dst with | none => rw [hd] at hq; exact hq | some s => rw [hd] at hq; exact hQ c a s _ w hq) hy hS (ih hB h f ?_)
    have := toCome_set (mem_ready.1 hr').1
    omega
theorem wpOp_of_list {l : List Oper} {k : Nat} {o : Oper} {a : Act} {w : World} {W : Act → World → Prop} (ho : l[k]? = some o) (h : wpList P l.toArray (thenQ Q W) [o] a w) : wpOp P l.toArray Q k W a w := by
  have ho' : l.toArray[k]? = some o := by simpa using ho
  unfold wpOp
  simp only [ho']
  unfold wpList at h
  split
  · rename_i hw
    rw [if_pos hw] at h
    rcases h with h | ⟨h1, h2⟩
    · exact .inl (Oper.wp_mono (fun a' w' h' => h') (wp_of_then h))
    · exact .inr ⟨h1, h2⟩
  · rename_i hw
    rw [if_neg hw] at h
    exact h
theorem wpList_then {W : Act → World → Prop} {a : Act} {w : World} (h : W a w) : wpList P ops (thenQ Q W) [] a w := h
theorem then_normal {W : Act → World → Prop} {a : Act} {w : World} (h : W a w) : thenQ Q W .normal a w := h
/-- The only one that may come up. -/
theorem wpAllH_one {l : List Oper} {listed : Array Bool} (k : Nat) {o : Oper} {a : Act} {w : World} (ho : l[k]? = some o) (hr : Region.ready .any l.toArray listed = [k])
    (h : wpList P l.toArray (thenQ Q fun a' w' => S w' ∧ wpAllH P l.toArray Q S (listed.setIfInBounds k true) a' w') [o] a w) : wpAllH P l.toArray Q S listed a w := by
  intro fuel hfuel
  have hk : k ∈ Region.ready .any l.toArray listed := by rw [hr]; simp
  obtain ⟨n, hn⟩ := toCome_pos hk
  obtain ⟨f, rfl⟩ : ∃ f, fuel = f + 1 := ⟨fuel - 1, by omega⟩
  refine wpAnyH_all hr (by simp) fun i hi => ?_
  obtain rfl : i = k := by simpa using hi
  refine wpOp_mono (fun a' w' h' => ⟨h'.1, h'.2 f ?_⟩) (wpOp_of_list ho h)
  have := toCome_set (mem_ready.1 hk).1
  omega
/-- One of two. -/
theorem wpAllH_two {l : List Oper} {listed : Array Bool} (k j : Nat) {o u : Oper} {a : Act} {w : World} (ho : l[k]? = some o) (hu : l[j]? = some u) (hr : Region.ready .any l.toArray listed = [k, j])
    (h : wpList P l.toArray (thenQ Q fun a' w' => S w' ∧ wpAllH P l.toArray Q S (listed.setIfInBounds k true) a' w') [o] a w)
    (h2 : wpList P l.toArray (thenQ Q fun a' w' => S w' ∧ wpAllH P l.toArray Q S (listed.setIfInBounds j true) a' w') [u] a w) : wpAllH P l.toArray Q S listed a w := by
  intro fuel hfuel
  have hk : k ∈ Region.ready .any l.toArray listed := by rw [hr]; simp
  have hj : j ∈ Region.ready .any l.toArray listed := by rw [hr]; simp
  obtain ⟨n, hn⟩ := toCome_pos hk
  obtain ⟨f, rfl⟩ : ∃ f, fuel = f + 1 := ⟨fuel - 1, by omega⟩
  refine wpAnyH_all hr (by simp) fun i hi => ?_
  rcases List.mem_cons.1 hi with rfl | hi
  · refine wpOp_mono (fun a' w' h' => ⟨h'.1, h'.2 f ?_⟩) (wpOp_of_list ho h)
    have := toCome_set (mem_ready.1 hk).1
    omega
  · obtain rfl : i = j := by simpa using hi
    refine wpOp_mono (fun a' w' h' => ⟨h'.1, h'.2 f ?_⟩) (wpOp_of_list hu h2)
    have := toCome_set (mem_ready.1 hj).1
    omega
end
end Go.Bul
namespace Go.Bul
open Go
section
variable {P : Program} {ops : Array Oper} {Q : Exit → Act → World → Prop} {S : World → Prop} {k : Nat}
/-- Whatever order comes up; S holds behind each operation, till k has come up. -/
def wpAnyT (P : Program) (ops : Array Oper) (Q : Exit → Act → World → Prop) (S : World → Prop) (k : Nat) : Nat → Array Bool → Act → World → Prop
  | 0, listed, a, w => Region.ready .any ops listed = [] ∧ Q .normal a w
  | fuel + 1, listed, a, w =>
    (Region.ready .any ops listed = [] → Q .normal a w) ∧
    ∀ i ∈ Region.ready .any ops listed, wpOp P ops Q i (fun a' w' => ((listed.setIfInBounds i true).getD k false = true ∨ S w') ∧ wpAnyT P ops Q S k fuel (listed.setIfInBounds i true) a' w') a w
theorem wpAny_of_T : ∀ (fuel : Nat) (listed : Array Bool) (a : Act) (w : World), wpAnyT P ops Q S k fuel listed a w → wpAny P .any ops Q fuel listed a w
  | 0, _, _, _, h => h
  | fuel + 1, _, _, _, h => ⟨h.1, fun i hi => wpOp_mono (fun a' w' h' => wpAny_of_T fuel _ a' w' h'.2) (h.2 i hi)⟩
theorem wpAnyT_first {i : Nat} {oi : Oper} {v : Value} (hi : ops[i]? = some oi) (hsel : ∀ (j : Nat) (o : Oper) cs b, ops[j]? = some o → o.op ≠ .select cs b) (hik : Behind ops i k) (hne : k ≠ i)
    (hQ : ∀ c a w, Q (.panic c) (a.put oi.dst v) w → Q (.panic c) a w) :
    ∀ (fuel : Nat) (listed : Array Bool) (a : Act) (w : World), Closed ops listed →
      (∀ j oj, ops[j]? = some oj → j ≠ i → listed.getD j true = false → (∀ e ∈ oj.after, Region.binds .any e = true → e.on ≠ i) → oi.apart ops oj = true) →
      i ∈ Region.ready .any ops listed → YieldsIf P ops S oi v a → S w →
      wpAnyT P ops Q S k fuel (listed.setIfInBounds i true) (a.put oi.dst v) w → wpAnyT P ops Q S k (fuel + 1) listed a w := by
  intro fuel
  induction fuel with
  | zero =>
    intro listed a w _ _ hr hy hS H
    refine ⟨fun h => (by rw [h] at hr; cases hr), fun j hj => ?_⟩
    by_cases hji : j = i
    · subst hji; exact hy.wpOp hi hS ⟨.inr hS, H⟩
    · have := ready_mono hj hji
      rw [H.1] at this
      cases this
  | succ fuel ih =>
    intro listed a w hcl hfree hr hy hS H
    refine ⟨fun h => (by rw [h] at hr; cases hr), fun j hj => ?_⟩
    by_cases hji : j = i
    · subst hji; exact hy.wpOp hi hS ⟨.inr hS, H⟩
    · have h1 := H.2 j (ready_mono hj hji)
      obtain ⟨hjun, oj, hoj, hall⟩ := mem_ready.1 hj
      have hiun := (mem_ready.1 hr).1
      have hnot : ∀ e ∈ oj.after, Region.binds .any e = true → e.on ≠ i := fun e he hb heq => by
        have h1 := hall e he hb
        rw [heq, getD_both hiun] at h1
        cases h1
      have h2 := wpOp_putIf hoj (hfree j oj hoj hji hjun hnot) (fun cs b => hsel i oi cs b hi) (fun cs b => hsel j oj cs b hoj) hQ hy h1
      have hfree' : ∀ k ok, ops[k]? = some ok → k ≠ i → (listed.setIfInBounds j true).getD k true = false →
          (∀ e ∈ ok.after, Region.binds .any e = true → e.on ≠ i) → oi.apart ops ok = true := fun k ok hk hki hun hno => by
        refine hfree k ok hk hki ?_ hno
        by_cases hjk : j = k
        · subst hjk; exact hjun
        · rw [getD_set_ne true hjk] at hun; exact hun
      have hcl' := hcl.set hj
      have hr' := ready_mono hr (Ne.symm hji)
      have hkun : (listed.setIfInBounds j true).getD k false = false := (hik.waits hcl' (mem_ready.1 hr').1).2
      refine wpOp_mono (fun a' w' h3 => ?_) h2
      have hS' : S w' := by
        rcases h3.2.1 with h4 | h4
        · rw [Array.setIfInBounds_comm _ _ (Ne.symm hji), getD_set_ne false (Ne.symm hne)] at h4
          rw [h4] at hkun; cases hkun
        · exact h4
      refine ⟨.inr hS', ih (listed.setIfInBounds j true) a' w' hcl' hfree' hr' h3.1 hS' ?_⟩
      rw [Array.setIfInBounds_comm _ _ hji]
      exact h3.2.2
def wpAllT (P : Program) (ops : Array Oper) (Q : Exit → Act → World → Prop) (S : World → Prop) (k : Nat) (listed : Array Bool) (a : Act) (w : World) : Prop := ∀ fuel, toCome listed ≤ fuel → wpAnyT P ops Q S k fuel listed a w
theorem wp_region_allT {id : Nat} {a : Act} {w : World} {l : List Oper} (S : World → Prop) (k : Nat) (hm : P.follows .mixedOrders = true) (h : wpAllT P l.toArray Q S k (Array.replicate l.toArray.size false) a w.drew) : (Code.region id l.toArray true).wp P Q a w :=
  wp_region_any hm (wpAny_of_T _ _ _ _ (h _ (by simp [toCome, List.countP_replicate])))
theorem wpAnyT_all {rs : List Nat} {fuel : Nat} {listed : Array Bool} {a : Act} {w : World} (hr : Region.ready .any ops listed = rs) (hne : rs ≠ [])
    (h : ∀ i ∈ rs, wpOp P ops Q i (fun a' w' => ((listed.setIfInBounds i true).getD k false = true ∨ S w') ∧ wpAnyT P ops Q S k fuel (listed.setIfInBounds i true) a' w') a w) : wpAnyT P ops Q S k (fuel + 1) listed a w :=
  ⟨fun h0 => absurd (hr ▸ h0) hne, hr ▸ h⟩
/-- k has come up: no condition is left. -/
theorem wpAnyT_of_any : ∀ (fuel : Nat) (listed : Array Bool) (a : Act) (w : World), listed.getD k false = true → wpAny P .any ops Q fuel listed a w → wpAnyT P ops Q S k fuel listed a w
  | 0, _, _, _, _, h => h
  | fuel + 1, _, _, _, hk, h => ⟨h.1, fun i hi => wpOp_mono (fun a' w' h' => ⟨.inl (getD_set_true hk), wpAnyT_of_any fuel _ a' w' (getD_set_true hk) h'⟩) (h.2 i hi)⟩
theorem wpAllT_drop {listed : Array Bool} {a : Act} {w : World} (hk : listed.getD k false = true) (h : wpAll P ops Q listed a w) : wpAllT P ops Q S k listed a w := fun fuel hf => wpAnyT_of_any fuel _ _ _ hk (h fuel hf)
/-- Operations that yield in every world that meets S: a load, or one that does not look at the world. -/
theorem yields_load {C : World → Prop} {o : Oper} {a : Act} {v : Value} {w : World} {ty : TypeId} {x : Operand} (h : o.quietAt P a C w v) (ho : o.op = .load ty x) : (execOp a.eval o).run P w = .ok (.value v) w := by
  unfold Oper.quietAt at h
  have e : execOp a.eval o = (do pure (Next.value (← Instr.loadAt ty (a.eval x)))) := by simp only [execOp, ho]
  rw [e] at h ⊢
  simp only [Sem.run_bind] at h ⊢
  generalize (Instr.loadAt ty (a.eval x)).run P w = r at *
  cases r with
  | ok n w' =>
    simp only [Result.andThen_ok, Sem.run_pure, Oper.quietUpon] at h ⊢
    obtain ⟨rfl, rfl⟩ := h
    rfl
  | halt x w' => cases x <;> exact h.elim
/-- What is taken first: all stand behind k. -/
def takeT (ops : Array Oper) (k : Nat) (is : List Nat) (listed : Array Bool) : Bool := closedB ops listed && is.all (fun i => i != k && behindB ops i ops.size k) && takeB ops is listed
theorem wpAllT_takes' {l : List Oper} (hsel : Region.noSelect l.toArray = true) (hQ : ∀ c a s v w, Q (.panic c) (Act.put a (some s) v) w → Q (.panic c) a w) {w : World} (hS : S w) : ∀ {is : List Nat} {listed : Array Bool} {a : Act}, Closed l.toArray listed → (∀ i ∈ is, k ≠ i ∧ Behind l.toArray i k) → takeB l.toArray is listed = true →
    wpHeld P l.toArray S (fun a' => wpAllT P l.toArray Q S k (marks is listed) a' w) (pickOps l is) a → wpAllT P l.toArray Q S k listed a w := by
  intro is
  induction is with
  | nil => intro listed a _ _ _ h; exact h
  | cons i is ih =>
    intro listed a hcl hk hB h
    simp only [takeB, Bool.and_eq_true] at hB
    obtain ⟨⟨hr, hf⟩, hB⟩ := hB
    have hr' : i ∈ Region.ready .any l.toArray listed := by simpa using hr
    obtain ⟨_, o, ho, _⟩ := mem_ready.1 hr'
    have hp : pickOps l (i :: is) = o :: pickOps l is := by
      have : l[i]? = some o := by simpa using ho
      simp [pickOps, this]
    rw [hp] at h
    obtain ⟨v, hy, h⟩ := h
    intro fuel hfuel
    obtain ⟨n, hn⟩ := toCome_pos hr'
    obtain ⟨f, rfl⟩ : ∃ f, fuel = f + 1 := ⟨fuel - 1, by omega⟩
    refine wpAnyT_first ho (Region.noSelect_spec hsel) (hk i (by simp)).2 (hk i (by simp)).1 (fun c a w hq => by cases hd : o.dst with | none => rw [hd] at hq; exact hq | some s => rw [hd] at hq; exact hQ c a s _ w hq) f listed a w hcl (Region.free_spec ho hf) hr' hy hS (ih (hcl.set hr') (fun j hj => hk j (by simp [hj])) hB h f ?_)
    have := toCome_set (mem_ready.1 hr').1
    omega
theorem wpAllT_takes {l : List Oper} (is : List Nat) (hsel : Region.noSelect l.toArray = true) (hQ : ∀ c a s v w, Q (.panic c) (Act.put a (some s) v) w → Q (.panic c) a w) {w : World} (hS : S w) {listed : Array Bool} {a : Act} (hB : takeT l.toArray k is listed = true)
    (h : wpHeld P l.toArray S (fun a' => wpAllT P l.toArray Q S k (marks is listed) a' w) (pickOps l is) a) : wpAllT P l.toArray Q S k listed a w := by
  simp only [takeT, Bool.and_eq_true] at hB
  obtain ⟨⟨h1, h2⟩, h3⟩ := hB
  refine wpAllT_takes' hsel hQ hS (closed_of h1) (fun i hi => ?_) h3 h
  have h4 := List.all_eq_true.1 h2 i hi
  simp only [Bool.and_eq_true, bne_iff_ne, ne_eq] at h4
  exact ⟨fun e => h4.1 e.symm, behind_of h4.2⟩
/-- The only one that may come up. -/
theorem wpAllT_one {l : List Oper} {listed : Array Bool} (j : Nat) {o : Oper} {a : Act} {w : World} (ho : l[j]? = some o) (hr : Region.ready .any l.toArray listed = [j])
    (h : wpList P l.toArray (thenQ Q fun a' w' => ((listed.setIfInBounds j true).getD k false = true ∨ S w') ∧ wpAllT P l.toArray Q S k (listed.setIfInBounds j true) a' w') [o] a w) : wpAllT P l.toArray Q S k listed a w := by
  intro fuel hfuel
  have hk : j ∈ Region.ready .any l.toArray listed := by rw [hr]; simp
  obtain ⟨n, hn⟩ := toCome_pos hk
  obtain ⟨f, rfl⟩ : ∃ f, fuel = f + 1 := ⟨fuel - 1, by omega⟩
  refine wpAnyT_all hr (by simp) fun i hi => ?_
  obtain rfl : i = j := by simpa using hi
  refine wpOp_mono (fun a' w' h' => ⟨h'.1, h'.2 f ?_⟩) (wpOp_of_list ho h)
  have := toCome_set (mem_ready.1 hk).1
  omega
end
end Go.Bul
namespace Go.Bul
open Go Go.RowKit
section
variable {P : Program} {ops : Array Oper} {Q : Exit → Act → World → Prop} {G : List Nat} {w0 w w' : World} {L L' : List Ent} {R : List OwnR}
/-- Blocks that were made beside all that was known. -/
theorem Mem.frame (h : Mem G w0 L R w) (k : Mem [] w L' [] w') : Mem G w0 (L' ++ L) R w' := by
  have h1 := h.step k.below
  have hge : ∀ b ∈ L', w.heap.size ≤ b.g := fun b hb => by
    rcases (k.at_ b hb).1 with h | h
    · exact h
    · cases h
  refine ⟨h1.old, ?_, ?_, h1.rows, ?_, h1.rne⟩
  · intro b hb
    rcases List.mem_append.1 hb with hb | hb
    · exact ⟨.inl (Nat.le_trans h.le (hge b hb)), (k.at_ b hb).2⟩
    · exact h1.at_ b hb
  · rw [List.pairwise_append]
    refine ⟨k.ne, h.ne, fun b hb c hc => ?_⟩
    have := hge b hb
    have := h.lt hc
    omega
  · intro r hr b hb
    rcases List.mem_append.1 hb with hb | hb
    · intro he
      have h2 := (World.ownsRow.lt (h.rows r hr) _ he).2
      have := hge b hb
      omega
    · exact h.apart r hr b hb
theorem wp_region_allHB (hM : Mem G w0 L R w) {id : Nat} {a : Act} {l : List Oper} (hm : P.follows .mixedOrders = true)
    (h : ∀ wd, Mem G w0 L R wd → wpAllH P l.toArray Q (fun w' => Below wd.heap.size wd w') (Array.replicate l.toArray.size false) a wd) : (Code.region id l.toArray true).wp P Q a w :=
  wp_region_allH _ hm (h _ hM.drew)
theorem wp_region_allB (hM : Mem G w0 L R w) {id : Nat} {a : Act} {l : List Oper} (k : Nat) (hm : P.follows .mixedOrders = true)
    (h : ∀ wd, Mem G w0 L R wd → wpAllT P l.toArray Q (fun w' => Below wd.heap.size wd w') k (Array.replicate l.toArray.size false) a wd) : (Code.region id l.toArray true).wp P Q a w :=
  wp_region_allT _ k hm (h _ hM.drew)
theorem any_invH {md : Region.Mode} {S : World → Prop} (Inv : Array Bool → Act → World → Prop) (hS : ∀ listed a w, Inv listed a w → S w)
    (hstep : ∀ listed a w i, Inv listed a w → i ∈ Region.ready md ops listed → ∀ K : Act → World → Prop, (∀ a' w', Inv (listed.setIfInBounds i true) a' w' → K a' w') → wpOp P ops Q i K a w)
    (hend : ∀ listed a w, Inv listed a w → Region.ready md ops listed = [] → Q .normal a w) :
    ∀ (fuel : Nat) (listed : Array Bool) (a : Act) (w : World), listed.toList.countP (fun b => !b) ≤ fuel → Inv listed a w → wpAnyH P md ops Q S fuel listed a w
  | 0, listed, a, w, hc, h => by
    have hr : Region.ready md ops listed = [] := by
      cases hq : Region.ready md ops listed with
      | nil => rfl
      | cons i r =>
        have hi : i ∈ Region.ready md ops listed := by rw [hq]; simp
        have h1 := (mem_ready.1 hi).1
        have := count_set listed.toList i (by simpa [List.getD, Array.getD_eq_getD_getElem?] using h1)
        omega
    exact ⟨hr, hend _ _ _ h hr⟩
  | f + 1, listed, a, w, hc, h => ⟨hend _ _ _ h, fun i hi => hstep listed a w i h hi _ fun a' w' h' => ⟨hS _ _ _ h', any_invH Inv hS hstep hend f _ a' w' (by
      have h1 := (mem_ready.1 hi).1
      have := count_set listed.toList i (by simpa [List.getD, Array.getD_eq_getD_getElem?] using h1)
      simp only [Array.toList_setIfInBounds]
      omega) h'⟩⟩
/-! ### Calls, two new variables, a store into each -/
/-- A call that stands in front. -/
structure Front where
  i : Nat
  s : Nat
  f : FuncId
  args : Array Operand
  xs : Array Value
  v : Value
def farOp (D : List Nat) : Operand → Bool
  | .tmp s => !D.contains s
  | .const _ => true
  | _ => false
structure FrontOk (P : Program) (l : List Oper) (a : Act) (wd : World) (D : List Nat) (t : Front) : Prop where
  op : ∃ o ts, l[t.i]? = some o ∧ o.guard = none ∧ o.dst = some t.s ∧ o.op = .call { callee := .value (.func t.f), args := t.args, argTypes := ts }
  far : t.args.all (farOp D) = true
  ev : t.args.map a.eval = t.xs
  ent : ∀ args w, (callFunc t.f args).run P w = .ok (.enter t.f args) w
  run : ∀ w', Below wd.heap.size wd w' → Calls P t.f t.xs w' fun e w'' => e = .returned t.v ∧ Below w'.heap.size w' w''
theorem owp_calls {o : Oper} {a' : Act} {w' : World} {K : Act → World → Prop} {f : FuncId} {args : Array Operand} {ts : Array TypeId} (hf : ∀ args w, (callFunc f args).run P w = .ok (.enter f args) w) (ho : o.op = .call { callee := .value (.func f), args := args, argTypes := ts }) {xs : Array Value} {u : Value} (hx : args.map a'.eval = xs)
    (hc : Calls P f xs w' fun e w'' => e = .returned u ∧ Below w'.heap.size w' w'') (h : ∀ w'', Below w'.heap.size w' w'' → K (a'.put o.dst u) w'') : o.wp P a' w' K Q := by
  have hr : (execOp a'.eval o).run P w' = .ok (.enter f xs) w' := by
    unfold execOp
    have e : a'.eval (.func f) = .func (.func f) #[] #[] := rfl
    simp only [ho, resolve, e, Deferred.ofValue, Sem.run_bind, Sem.run_pure, Result.andThen_ok, hx, invoke, Array.append_empty, Array.empty_append, hf]
  unfold Oper.wp
  rw [hr]
  refine hc.mono ?_
  rintro e w'' ⟨rfl, hb⟩
  exact h w'' hb
theorem far_eval {D : List Nat} {a a' : Act} (h : ∀ s, s ∉ D → a'.tmps[s]? = a.tmps[s]?) {args : Array Operand} (hf : args.all (farOp D) = true) : args.map a'.eval = args.map a.eval := by
  apply Array.map_congr_left
  intro x hx
  have := Array.all_eq_true'.1 hf x hx
  cases x with
  | tmp s =>
    have hs : s ∉ D := by simpa [farOp] using this
    simp only [Act.eval, Array.getD_eq_getD_getElem?, h s hs]
  | const v => rfl
  | global g => cases this
  | func f => cases this
/-- The state between. -/
structure Flo (wd : World) (a : Act) (listed0 : Array Bool) (F : List Front) (D : List Nat) (jX jY kX kY pX pY : Nat) (UX UY : TypeId) (mX mY : Nat) (ZX ZY uX uY : Array Value) (listed : Array Bool) (a' : Act) (w' : World) : Prop where
  size : listed.size = listed0.size
  lo : ∀ i, listed0.getD i false = true → listed.getD i false = true
  defers : a'.defers = a.defers
  tmps : a'.tmps.size = a.tmps.size
  far : ∀ s, s ∉ D → a'.tmps[s]? = a.tmps[s]?
  done : ∀ t ∈ F, listed.getD t.i false = true → a'.tmps[t.s]? = some t.v
  stX : listed.getD jX false = false → listed.getD kX false = false
  stY : listed.getD jY false = false → listed.getD kY false = false
  mem : ∃ gX gY, (listed.getD jX false = true → a'.tmps[pX]? = some (.pointer (some ⟨gX, 0, none⟩))) ∧ (listed.getD jY false = true → a'.tmps[pY]? = some (.pointer (some ⟨gY, 0, none⟩))) ∧
    Mem [] wd ((if listed.getD jX false = true then [⟨gX, UX, mX, if listed.getD kX false = true then uX else ZX⟩] else []) ++ ((if listed.getD jY false = true then [⟨gY, UY, mY, if listed.getD kY false = true then uY else ZY⟩] else []) ++ [])) [] w'
theorem foldl_put_ne {F : List Front} {s : Nat} : ∀ {a : Act}, s ∉ F.map (·.s) → (F.foldl (fun a t => a.put (some t.s) t.v) a).tmps[s]? = a.tmps[s]? := by
  induction F with
  | nil => intro a _; rfl
  | cons t F ih =>
    intro a h
    simp only [List.map_cons, List.mem_cons, not_or] at h
    rw [List.foldl_cons, ih h.2]
    simp only [Act.put, Array.getElem?_setIfInBounds, Ne.symm h.1, if_false]
theorem foldl_put_size {F : List Front} : ∀ {a : Act}, (F.foldl (fun a t => a.put (some t.s) t.v) a).tmps.size = a.tmps.size := by
  induction F with
  | nil => intro a; rfl
  | cons t F ih => intro a; rw [List.foldl_cons, ih]; simp [Act.put]
theorem foldl_put_defers {F : List Front} : ∀ {a : Act}, (F.foldl (fun a t => a.put (some t.s) t.v) a).defers = a.defers := by
  induction F with
  | nil => intro a; rfl
  | cons t F ih => intro a; rw [List.foldl_cons, ih, put_defers]
theorem foldl_put_get {F : List Front} : ∀ {a : Act}, (F.map (·.s)).Nodup → (∀ t ∈ F, t.s < a.tmps.size) → ∀ t ∈ F, (F.foldl (fun a t => a.put (some t.s) t.v) a).tmps[t.s]? = some t.v := by
  induction F with
  | nil => intro a _ _ t ht; cases ht
  | cons u F ih =>
    intro a hn hs t ht
    simp only [List.map_cons, List.nodup_cons] at hn
    rw [List.foldl_cons]
    rcases List.mem_cons.1 ht with rfl | ht
    · rw [foldl_put_ne hn.1, put_get (hs t (List.mem_cons_self ..)), if_pos rfl]
    · exact ih hn.2 (fun t ht => by simpa [Act.put] using hs t (List.mem_cons_of_mem _ ht)) t ht
theorem idx_inj {F : List Front} (hn : (F.map (·.i)).Nodup) {t u : Front} (ht : t ∈ F) (hu : u ∈ F) (h : t.i = u.i) : t = u := by
  induction F with
  | nil => cases ht
  | cons x F ih =>
    simp only [List.map_cons, List.nodup_cons] at hn
    rcases List.mem_cons.1 ht with h1 | h1 <;> rcases List.mem_cons.1 hu with h2 | h2
    · rw [h1, h2]
    · subst h1
      exact absurd (h ▸ List.mem_map_of_mem h2) hn.1
    · subst h2
      exact absurd (h ▸ List.mem_map_of_mem h1) hn.1
    · exact ih hn.2 h1 h2
theorem slot_inj {F : List Front} (hn : (F.map (·.s)).Nodup) {t u : Front} (ht : t ∈ F) (hu : u ∈ F) (h : t.s = u.s) : t = u := by
  induction F with
  | nil => cases ht
  | cons x F ih =>
    simp only [List.map_cons, List.nodup_cons] at hn
    rcases List.mem_cons.1 ht with h1 | h1 <;> rcases List.mem_cons.1 hu with h2 | h2
    · rw [h1, h2]
    · subst h1
      exact absurd (h ▸ List.mem_map_of_mem h2) hn.1
    · subst h2
      exact absurd (h ▸ List.mem_map_of_mem h1) hn.1
    · exact ih hn.2 h1 h2
set_option maxHeartbeats 1000000 in
theorem wpAllH_floats {l : List Oper} {wd : World} {listed0 : Array Bool} {a : Act} {w : World} (hb : Below wd.heap.size wd w) (F : List Front) (jX jY kX kY pX pY rX rY : Nat) {UX UY : TypeId} {mX mY : Nat} {ZX ZY uX uY : Array Value} {oX oY sX sY : Oper}
    (hF : ∀ t ∈ F, FrontOk P l a wd (F.map (·.s) ++ [pX, pY]) t)
    (qX : l[jX]? = some oX) (hX : oX.guard = none ∧ oX.dst = some pX ∧ oX.op = .alloc UX) (qY : l[jY]? = some oY) (hY : oY.guard = none ∧ oY.dst = some pY ∧ oY.op = .alloc UY)
    (qS : l[kX]? = some sX) (hSX : sX.guard = none ∧ sX.dst = none ∧ sX.op = .store UX (.tmp pX) (.tmp rX)) (qT : l[kY]? = some sY) (hSY : sY.guard = none ∧ sY.dst = none ∧ sY.op = .store UY (.tmp pY) (.tmp rY))
    (hord : (List.range l.toArray.size).all (fun i => ((l.toArray[i]?).map fun o => o.after.all fun e => !Region.binds .any e || decide (e.on < i)).getD false) = true)
    (hrest : (List.range l.length).all (fun i => listed0.getD i false || (F.map (·.i) ++ [jX, jY, kX, kY]).contains i) = true)
    (hun : (F.map (·.i) ++ [jX, jY, kX, kY]).all (fun i => !listed0.getD i true) = true) (hsize : listed0.size = l.length)
    (hidx : (F.map (·.i) ++ [jX, jY, kX, kY]).Nodup) (hsl : (F.map (·.s) ++ [pX, pY]).Nodup) (hsz : ∀ s ∈ F.map (·.s) ++ [pX, pY], s < a.tmps.size)
    (dX : (sX.after.any fun e => Region.binds .any e && e.on == jX) = true) (dY : (sY.after.any fun e => Region.binds .any e && e.on == jY) = true)
    (vX : (∃ t ∈ F, t.s = rX ∧ t.v = .agg uX ∧ (sX.after.any fun e => Region.binds .any e && e.on == t.i) = true) ∨ (rX ∉ F.map (·.s) ++ [pX, pY] ∧ a.tmps[rX]? = some (.agg uX)))
    (vY : (∃ t ∈ F, t.s = rY ∧ t.v = .agg uY ∧ (sY.after.any fun e => Region.binds .any e && e.on == t.i) = true) ∨ (rY ∉ F.map (·.s) ++ [pX, pY] ∧ a.tmps[rY]? = some (.agg uY)))
    (hZX : ZeroTy P UX mX ZX) (hZY : ZeroTy P UY mY ZY) (hUX : RowTy P UX mX) (hUY : RowTy P UY mY) (huX : uX.size = mX) (huY : uY.size = mY) (h1X : ∀ v ∈ uX.toList, v.oneCell' = true) (h1Y : ∀ v ∈ uY.toList, v.oneCell' = true)
    (h : ∀ gX gY w', Mem [] wd [⟨gX, UX, mX, uX⟩, ⟨gY, UY, mY, uY⟩] [] w' →
      Q .normal (((F.foldl (fun a t => a.put (some t.s) t.v) a).put (some pX) (.pointer (some ⟨gX, 0, none⟩))).put (some pY) (.pointer (some ⟨gY, 0, none⟩))) w') :
    wpAllH P l.toArray Q (fun w' => Below wd.heap.size wd w') listed0 a w := by
  have hne : ∀ i j, i ∈ F.map (·.i) ++ [jX, jY, kX, kY] → j ∈ F.map (·.i) ++ [jX, jY, kX, kY] → True := fun _ _ _ _ => trivial
  have hidx' := hidx
  rw [List.nodup_append] at hidx'
  obtain ⟨nF, nT, nX⟩ := hidx'
  simp only [List.nodup_cons, List.mem_cons, List.not_mem_nil, or_false, not_or, not_false_eq_true, List.nodup_nil, and_true] at nT
  obtain ⟨⟨nXY, nXS, nXT⟩, ⟨nYS, nYT⟩, nST⟩ := nT
  have fX : ∀ t ∈ F, t.i ≠ jX := fun t ht => nX _ (List.mem_map_of_mem ht) _ (by simp)
  have fY : ∀ t ∈ F, t.i ≠ jY := fun t ht => nX _ (List.mem_map_of_mem ht) _ (by simp)
  have fS : ∀ t ∈ F, t.i ≠ kX := fun t ht => nX _ (List.mem_map_of_mem ht) _ (by simp)
  have fT : ∀ t ∈ F, t.i ≠ kY := fun t ht => nX _ (List.mem_map_of_mem ht) _ (by simp)
  have hsl' := hsl
  rw [List.nodup_append] at hsl'
  obtain ⟨mF, mT, mX'⟩ := hsl'
  simp only [List.nodup_cons, List.mem_cons, List.not_mem_nil, or_false, not_false_eq_true, List.nodup_nil, and_true] at mT
  have sX' : ∀ t ∈ F, t.s ≠ pX := fun t ht => mX' _ (List.mem_map_of_mem ht) _ (by simp)
  have sY' : ∀ t ∈ F, t.s ≠ pY := fun t ht => mX' _ (List.mem_map_of_mem ht) _ (by simp)
  have zX := hsz pX (by simp)
  have zY := hsz pY (by simp)
  have zF : ∀ t ∈ F, t.s < a.tmps.size := fun t ht => hsz _ (List.mem_append_left _ (List.mem_map_of_mem ht))
  have hno : ∀ i ∈ F.map (·.i) ++ [jX, jY, kX, kY], listed0.getD i false = false := fun i hi => by
    have := List.all_eq_true.1 hun i hi
    simp only [Bool.not_eq_true', Array.getD_eq_getD_getElem?] at this ⊢
    cases hq : listed0[i]? with
    | none => rw [hq] at this; cases this
    | some b => rw [hq] at this; simpa using this
  intro fuel hfuel
  refine any_invH (Flo wd a listed0 F (F.map (·.s) ++ [pX, pY]) jX jY kX kY pX pY UX UY mX mY ZX ZY uX uY) ?_ ?_ ?_ fuel listed0 a w hfuel ?_
  · intro listed a' w' hI
    obtain ⟨_, _, _, _, hM⟩ := hI.mem
    exact hM.below
  · intro listed a' w' i hI hr K hK
    have hwd : Below wd.heap.size wd w' := by
      obtain ⟨_, _, _, _, hM⟩ := hI.mem
      exact hM.below
    obtain ⟨hs, hlo, hdf, htm, hfar, hdn, hst4, hst5, gX, gY, kX', kY', hMem⟩ := hI
    have hlt : i < l.length := by
      obtain ⟨_, o, ho, _⟩ := mem_ready.1 hr
      have := (Array.getElem?_eq_some_iff.1 ho).1
      simpa using this
    have hls : i < listed.size := by omega
    have hun1 : listed.getD i false = false := by
      have := (mem_ready.1 hr).1
      simpa [Array.getD, hls] using this
    have hmem : i ∈ F.map (·.i) ++ [jX, jY, kX, kY] := by
      have := List.all_eq_true.1 hrest i (List.mem_range.2 hlt)
      rcases Bool.or_eq_true_iff.1 this with h1 | h1
      · rw [hlo i h1] at hun1
        cases hun1
      · simpa using h1
    have hlo' : ∀ j, listed0.getD j false = true → (listed.setIfInBounds i true).getD j false = true := fun j hj => (getD_put_true hls j).2 (.inr (hlo j hj))
    simp only [List.mem_append, List.mem_map, List.mem_cons, List.not_mem_nil, or_false] at hmem
    rcases hmem with ⟨t, ht, rfl⟩ | rfl | rfl | rfl | rfl
    · obtain ⟨⟨o, ts, ho, hog, hod, hop⟩, far, ev, ent, run⟩ := hF t ht
      refine wpOp_plain (by simpa using ho) hog (owp_calls ent hop ((far_eval hfar far).trans ev) (run w' hwd) fun w'' hb' => hK _ _ ?_)
      rw [hod]
      have hg := put_get (a := a') (s := t.s) (v := t.v) (by rw [htm]; exact zF t ht)
      refine ⟨by simp [hs], hlo', hdf, by simpa [Act.put] using htm, ?_, ?_, fun hj => by rw [getD_put_ne (fX t ht)] at hj; rw [getD_put_ne (fS t ht)]; exact hst4 hj, fun hj => by rw [getD_put_ne (fY t ht)] at hj; rw [getD_put_ne (fT t ht)]; exact hst5 hj, gX, gY, ?_, ?_, ?_⟩
      · intro s hsD
        have : t.s ≠ s := fun h => hsD (h ▸ List.mem_append_left _ (List.mem_map_of_mem ht))
        rw [hg, if_neg this]
        exact hfar s hsD
      · intro u hu hj
        by_cases he : u = t
        · subst he
          rw [hg, if_pos rfl]
        · have h1 : t.i ≠ u.i := fun h => he (idx_inj nF hu ht h.symm)
          have h2 : t.s ≠ u.s := fun h => he (slot_inj mF hu ht h.symm)
          rw [getD_put_ne h1] at hj
          rw [hg, if_neg h2]
          exact hdn u hu hj
      · intro hj
        rw [getD_put_ne (fX t ht)] at hj
        rw [hg, if_neg (sX' t ht)]
        exact kX' hj
      · intro hj
        rw [getD_put_ne (fY t ht)] at hj
        rw [hg, if_neg (sY' t ht)]
        exact kY' hj
      · rw [getD_put_ne (fX t ht), getD_put_ne (fY t ht), getD_put_ne (fS t ht), getD_put_ne (fT t ht)]
        exact hMem.step hb'
    · refine wpOp_plain (by simpa using qX) hX.1 (owp_zero hX.2.2 hZX (hK _ _ ?_))
      rw [hX.2.1]
      have hg := put_get (a := a') (s := pX) (v := .pointer (some ⟨w'.heap.size, 0, none⟩)) (by rw [htm]; exact zX)
      refine ⟨by simp [hs], hlo', hdf, by simpa [Act.put] using htm, ?_, ?_, fun hj => absurd hj (by rw [getD_put_same hls]; simp), fun hj => by rw [getD_put_ne nXY] at hj; rw [getD_put_ne nXT]; exact hst5 hj, w'.heap.size, gY, ?_, ?_, ?_⟩
      · intro s hsD
        have : pX ≠ s := fun h => hsD (h ▸ by simp)
        rw [hg, if_neg this]
        exact hfar s hsD
      · intro u hu hj
        rw [getD_put_ne (Ne.symm (fX u hu))] at hj
        rw [hg, if_neg (Ne.symm (sX' u hu))]
        exact hdn u hu hj
      · intro _
        rw [hg, if_pos rfl]
      · intro hj
        rw [getD_put_ne nXY] at hj
        rw [hg, if_neg mT]
        exact kY' hj
      · have hno2 : listed.getD kX false = false := hst4 hun1
        have hZm : ZX.size = mX := by obtain ⟨_, _, _, hz⟩ := hZX.ex; exact hz
        rw [getD_put_same hls, getD_put_ne nXS, getD_put_ne nXY, getD_put_ne nXT, hno2]
        rw [hun1] at hMem
        simp only [if_true, Bool.false_eq_true, if_false, List.nil_append, List.cons_append] at hMem ⊢
        exact hMem.alloc _ _ hZm
    · refine wpOp_plain (by simpa using qY) hY.1 (owp_zero hY.2.2 hZY (hK _ _ ?_))
      rw [hY.2.1]
      have hg := put_get (a := a') (s := pY) (v := .pointer (some ⟨w'.heap.size, 0, none⟩)) (by rw [htm]; exact zY)
      refine ⟨by simp [hs], hlo', hdf, by simpa [Act.put] using htm, ?_, ?_, fun hj => by rw [getD_put_ne (Ne.symm nXY)] at hj; rw [getD_put_ne nYS]; exact hst4 hj, fun hj => absurd hj (by rw [getD_put_same hls]; simp), gX, w'.heap.size, ?_, ?_, ?_⟩
      · intro s hsD
        have : pY ≠ s := fun h => hsD (h ▸ by simp)
        rw [hg, if_neg this]
        exact hfar s hsD
      · intro u hu hj
        rw [getD_put_ne (Ne.symm (fY u hu))] at hj
        rw [hg, if_neg (Ne.symm (sY' u hu))]
        exact hdn u hu hj
      · intro hj
        rw [getD_put_ne (Ne.symm nXY)] at hj
        rw [hg, if_neg (Ne.symm mT)]
        exact kX' hj
      · intro _
        rw [hg, if_pos rfl]
      · have hno2 : listed.getD kY false = false := hst5 hun1
        have hZm : ZY.size = mY := by obtain ⟨_, _, _, hz⟩ := hZY.ex; exact hz
        rw [getD_put_ne (Ne.symm nXY), getD_put_ne nYS, getD_put_same hls, getD_put_ne nYT, hno2]
        rw [hun1] at hMem
        simp only [if_true, Bool.false_eq_true, if_false, List.nil_append, List.cons_append] at hMem ⊢
        have := hMem.alloc ZY UY hZm
        by_cases hx : listed.getD jX false = true
        · simp only [hx, if_true, List.cons_append, List.nil_append] at this ⊢
          exact this.swap
        · simp only [hx] at this ⊢
          exact this
    · have l4 := ready_after (by simpa using qS) dX hr
      have hv : a'.tmps[rX]? = some (.agg uX) := by
        rcases vX with ⟨t, ht, h1, h2, h3⟩ | ⟨h1, h2⟩
        · rw [← h1, hdn t ht (ready_after (by simpa using qS) h3 hr), h2]
        · rw [hfar rX h1, h2]
      rw [if_pos l4, hun1, if_neg (show ¬ (false = true) by decide)] at hMem
      simp only [List.cons_append, List.nil_append] at hMem
      refine wpOp_plain (by simpa using qS) hSX.1 (owp_store hMem hSX.2.2 (eval_of_get (kX' l4)) (eval_of_get hv) (UpdL.head _ _ _ _ _) hUX huX h1X hSX.2.1 fun w'' hM2 => hK _ _ ?_)
      refine ⟨by simp [hs], hlo', hdf, htm, hfar, fun u hu hj => hdn u hu (by rwa [getD_put_ne (Ne.symm (fS u hu))] at hj), fun hj => absurd hj (by rw [getD_put_ne (Ne.symm nXS), l4]; simp), fun hj => by rw [getD_put_ne (Ne.symm nYS)] at hj; rw [getD_put_ne nST]; exact hst5 hj, gX, gY, fun hj => kX' (by rwa [getD_put_ne (Ne.symm nXS)] at hj), fun hj => kY' (by rwa [getD_put_ne (Ne.symm nYS)] at hj), ?_⟩
      rw [getD_put_ne (Ne.symm nXS), getD_put_same hls, getD_put_ne (Ne.symm nYS), getD_put_ne nST, if_pos l4, if_pos rfl]
      exact hM2
    · have l4 := ready_after (by simpa using qT) dY hr
      have hv : a'.tmps[rY]? = some (.agg uY) := by
        rcases vY with ⟨t, ht, h1, h2, h3⟩ | ⟨h1, h2⟩
        · rw [← h1, hdn t ht (ready_after (by simpa using qT) h3 hr), h2]
        · rw [hfar rY h1, h2]
      rw [if_pos l4, hun1, if_neg (show ¬ (false = true) by decide)] at hMem
      simp only [List.cons_append, List.nil_append] at hMem
      refine wpOp_plain (by simpa using qT) hSY.1 (owp_store hMem hSY.2.2 (eval_of_get (kY' l4)) (eval_of_get hv) (F := fun cs' => (if listed.getD jX false = true then [⟨gX, UX, mX, if listed.getD kX false = true then uX else ZX⟩] else []) ++ (⟨gY, UY, mY, cs'⟩ :: [])) ⟨_, [], rfl, fun _ => rfl⟩ hUY huY h1Y hSY.2.1 fun w'' hM2 => hK _ _ ?_)
      refine ⟨by simp [hs], hlo', hdf, htm, hfar, fun u hu hj => hdn u hu (by rwa [getD_put_ne (Ne.symm (fT u hu))] at hj), fun hj => by rw [getD_put_ne (Ne.symm nXT)] at hj; rw [getD_put_ne (Ne.symm nST)]; exact hst4 hj, fun hj => absurd hj (by rw [getD_put_ne (Ne.symm nYT), l4]; simp), gX, gY, fun hj => kX' (by rwa [getD_put_ne (Ne.symm nXT)] at hj), fun hj => kY' (by rwa [getD_put_ne (Ne.symm nYT)] at hj), ?_⟩
      rw [getD_put_ne (Ne.symm nXT), getD_put_ne (Ne.symm nST), getD_put_ne (Ne.symm nYT), getD_put_same hls, if_pos l4, if_pos rfl]
      exact hM2
  · intro listed a' w' hI hr
    have hall := ready_done hord (by rw [hI.size, hsize]; simp) hr
    obtain ⟨hs, _, hdf, htm, hfar, hdn, _, _, gX, gY, kX', kY', hMem⟩ := hI
    have lX : jX < l.length := (List.getElem?_eq_some_iff.1 qX).1
    have lY : jY < l.length := (List.getElem?_eq_some_iff.1 qY).1
    have lS : kX < l.length := (List.getElem?_eq_some_iff.1 qS).1
    have lT : kY < l.length := (List.getElem?_eq_some_iff.1 qT).1
    rw [if_pos (hall jX (by simpa using lX)), if_pos (hall jY (by simpa using lY)), if_pos (hall kX (by simpa using lS)), if_pos (hall kY (by simpa using lT))] at hMem
    have hq := h gX gY w' (by simpa using hMem)
    refine (congrArg (fun x => Q .normal x w') ?_).mp hq
    refine act_ext ?_ (by rw [put_defers, put_defers, foldl_put_defers, hdf])
    apply Array.ext_getElem?
    intro s
    rw [put_get (by show pY < (Array.setIfInBounds _ _ _).size; rw [Array.size_setIfInBounds, foldl_put_size]; exact zY), put_get (by rw [foldl_put_size]; exact zX)]
    by_cases c5 : pY = s
    · rw [if_pos c5, ← c5]; exact (kY' (hall jY (by simpa using lY))).symm
    by_cases c4 : pX = s
    · rw [if_neg c5, if_pos c4, ← c4]; exact (kX' (hall jX (by simpa using lX))).symm
    rw [if_neg c5, if_neg c4]
    by_cases c3 : s ∈ F.map (·.s)
    · obtain ⟨t, ht, rfl⟩ := List.mem_map.1 c3
      rw [foldl_put_get mF zF t ht]
      obtain ⟨o, _, ho, _⟩ := (hF t ht).op
      have : t.i < l.length := (List.getElem?_eq_some_iff.1 ho).1
      exact (hdn t ht (hall t.i (by simpa using this))).symm
    · rw [foldl_put_ne c3]
      exact (hfar s (by simp only [List.mem_append, List.mem_cons, List.not_mem_nil, or_false, not_or]; exact ⟨c3, Ne.symm c4, Ne.symm c5⟩)).symm
  · have hz : ∀ i ∈ F.map (·.i) ++ [jX, jY, kX, kY], listed0.getD i false = true → False := fun i hi h => by rw [hno i hi] at h; cases h
    refine ⟨rfl, fun _ h => h, rfl, rfl, fun _ _ => rfl, fun t ht h => (hz _ (List.mem_append_left _ (List.mem_map_of_mem ht)) h).elim, fun _ => hno _ (by simp), fun _ => hno _ (by simp), 0, 0, fun h => (hz _ (by simp) h).elim, fun h => (hz _ (by simp) h).elim, ?_⟩
    rw [if_neg (hz jX (by simp)), if_neg (hz jY (by simp))]
    exact (Mem.start [] wd).step hb
end
end Go.Bul
namespace Go.Bul
open Go Go.RowKit
section
variable {P : Program} {ops : Array Oper} {rest : List Oper} {o : Oper} {a : Act} {Q : Exit → Act → World → Prop} {w : World}
/-- An element of an array of numbers that is a value. -/
theorem run_idx_num {T e : TypeId} {k : IntKind} {n : Nat} (hT : P.underlying T = some (.array n e)) (hE : OneTy P e) (l : List Nat) (i : Nat) (hi : i < n) (hl : l.length = n) (w : World) :
    (Instr.index T (.agg (cellsOf k l)) (.int .i64 (i : Nat))).run P w = .ok (.int k (nth l i : Nat)) w := by
  obtain ⟨d, hu, hd, hs⟩ := hE.ex
  have hc : (cellsOf k l)[i]? = some (.int k (nth l i : Nat)) := cellsOf_get k l i (by omega)
  have hlt : (0 ≤ (i : Int) ∧ (i : Int) < n) := by omega
  simp only [Instr.index, asIntOf, Sem.run_bind, Sem.run_pure, Result.andThen_ok, run_underlying hT, hlt, and_self, if_true, run_sizeOf hs, Int.toNat_natCast, part, run_isAgg_no hu hd, Bool.false_eq_true, if_false, Nat.mul_one, hc]
/-- A build whose result is known. -/
theorem yields_build (ty : TypeId) (ps : Array (Nat × Operand)) (ho : o.op = .build ty ps) (parts : Array (Nat × Value)) (hp : (ps.map fun p => (p.1, a.eval p.2)) = parts) (v : Value) (hr : (Instr.build ty parts).run P w = .ok v w) : (execOp a.eval o).run P w = .ok (.value v) w := by
  subst hp
  unfold execOp
  simp only [ho]
  have hr' : (Instr.build ty (ps.map fun (x : Nat × Operand) => match x with | (i, x) => (i, a.eval x))).run P w = .ok v w := hr
  simp only [Sem.run_bind, hr', Result.andThen_ok, Sem.run_pure]
theorem quietAt_exec {C : World → Prop} {v : Value} (h : (execOp a.eval o).run P w = .ok (.value v) w) : o.quietAt P a C w v := by
  unfold Oper.quietAt
  rw [h]
  exact ⟨rfl, rfl⟩
theorem yields_index (T : TypeId) (x y : Operand) (ho : o.op = .index T x y) (u z : Value) (hx : a.eval x = u) (hy : a.eval y = z) (v : Value) (hr : (Instr.index T u z).run P w = .ok v w) : (execOp a.eval o).run P w = .ok (.value v) w := by
  subst hx hy
  unfold execOp
  simp only [ho, Sem.run_bind, hr, Result.andThen_ok, Sem.run_pure]
end
end Go.Bul
namespace Go.Proofs.YtpigmibaeoceaaaDoor
open Go Go.RowKit Go.Bul
section
variable {w w0 : World} {G : List Nat} {L : List Ent} {R : List OwnR} {o : Oper} {a : Act} {C : World → Prop} {ty : TypeId} {x : Operand} {g i n : Nat} {t : TypeId} {cs : Array Value} {v : Value} {k : IntKind} {E : List Nat}
theorem nqc (hM : Mem G w0 L R w) (ho : o.op = .load ty x := by rfl) (hx : a.eval x = .pointer (some ⟨g, i, none⟩) := by rfl) (hL : ⟨g, t, n, cs⟩ ∈ L := by repeat (first | exact List.Mem.head _ | apply List.Mem.tail)) (hty : OneTy Tryd.prog ty := by first | exact one_u8 | exact one_int | exact one_u32 | exact one_bool | exact one_errno | exact one_u16 | exact one_sl) (hv : cs[i]? = some v := by rfl) : o.quietAt Tryd.prog a C w v :=
  quietAt_mem_cell hM ty x ho g i hx t n cs hL hty v hv
theorem nql (hM : Mem G w0 L R w) (ho : o.op = .load ty x := by rfl) (hx : a.eval x = .pointer (some ⟨g, 0, none⟩) := by rfl) (hL : ⟨g, t, n, cs⟩ ∈ L := by repeat (first | exact List.Mem.head _ | apply List.Mem.tail)) (hty : RowTy Tryd.prog ty n := by first | exact row_a16 | exact row_i35 | exact row_val | exact row_a32 | exact row_e35 | exact row_v35 | exact row_sig | exact row_evi | exact row_half | exact row_dig | exact row_i2 | exact row_i3 | exact row_b3 | exact row_h2 | exact row_pair) : o.quietAt Tryd.prog a C w (.agg cs) :=
  quietAt_mem_load hM ty x ho g hx t n cs hL hty
theorem nqp (hM : Mem G w0 L R w) (ho : o.op = .load ty x := by rfl) (hx : a.eval x = .pointer (some ⟨g, i * 16, none⟩) := by rfl) (hL : ⟨g, t, n, cellsOf k E⟩ ∈ L := by repeat (first | exact List.Mem.head _ | apply List.Mem.tail)) (hty : RowTy Tryd.prog ty 16 := by first | exact row_a16 | exact row_i35 | exact row_val | exact row_a32 | exact row_e35 | exact row_v35 | exact row_sig | exact row_evi | exact row_half | exact row_dig | exact row_i2 | exact row_i3 | exact row_b3 | exact row_h2 | exact row_pair) (hm : i * 16 + 16 ≤ n := by omega) : o.quietAt Tryd.prog a C w (.agg (cellsOf k (piece E i))) :=
  quietAt_mem_piece hM ty x ho g i hx t n k E hL hty hm
end
theorem bld_ev0 (w : World) : (Instr.build 29 #[]).run Tryd.prog w = .ok (.agg (evc 0 0 0 0 (zeros 16) (zeros 16) (zeros 560) (zeros 560))) w :=
  run_build_struct ev_struct evi_zero ev_places rfl w
theorem ev0_size : (evc 0 0 0 0 (zeros 16) (zeros 16) (zeros 560) (zeros 560)).size = 1156 := evc_size ok0
end Go.Proofs.YtpigmibaeoceaaaDoor
