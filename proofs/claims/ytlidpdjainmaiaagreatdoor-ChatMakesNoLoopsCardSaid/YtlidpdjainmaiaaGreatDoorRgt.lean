/- Regions whose order is drawn, in an order of one's own: loads are taken first, though a later operation changes what they read; what they read holds till that operation has come up. -/
import Derived.Test.YtlidpdjainmaiaaGreatDoorXc
namespace Go.Bul
open Go
section
variable {P : Program} {ops : Array Oper} {Q : Exit → Act → World → Prop} {S : World → Prop} {k : Nat}
/-- Whatever order comes up; S holds behind each operation, till k has come up. -/
def wpAnyT (P : Program) (ops : Array Oper) (Q : Exit → Act → World → Prop) (S : World → Prop) (k : Nat) : Nat → Array Bool → Act → World → Prop
  | 0, listed, a, w => Region.ready .any ops listed = [] ∧ Q .normal a w
  | fuel + 1, listed, a, w =>
    (Region.ready .any ops listed = [] → Q .normal a w) ∧
    ∀ i ∈ Region.ready .any ops listed, wpOp P ops Q i (fun a' w' => ((listed.setIfInBounds i true).getD k false = true ∨ S w') ∧ wpAnyT P ops Q S k fuel (listed.setIfInBounds i true) a' w') a w
theorem wpAny_of_T : ∀ (fuel : Nat) (listed : Array Bool) (a : Act) (w : World), wpAnyT P ops Q S k fuel listed a w → wpAny P .any ops Q fuel listed a w
  | 0, _, _, _, h => h
  | fuel + 1, _, _, _, h => ⟨h.1, fun i hi => wpOp_mono (fun a' w' h' => wpAny_of_T fuel _ a' w' h'.2) (h.2 i hi)⟩
theorem wpAnyT_first {i : Nat} {oi : Oper} {v : Value} (hi : ops[i]? = some oi) (hsel : ∀ (j : Nat) (o : Oper) cs b, ops[j]? = some o → o.op ≠ .select cs b) (hik : Behind ops i k) (hne : k ≠ i)
    (hQ : ∀ c a w, Q (.panic c) (a.put oi.dst v) w → Q (.panic c) a w) :
    ∀ (fuel : Nat) (listed : Array Bool) (a : Act) (w : World), Closed ops listed →
      (∀ j oj, ops[j]? = some oj → j ≠ i → listed.getD j true = false → (∀ e ∈ oj.after, Region.binds .any e = true → e.on ≠ i) → oi.apart ops oj = true) →
      i ∈ Region.ready .any ops listed → YieldsIf P ops S oi v a → S w →
      wpAnyT P ops Q S k fuel (listed.setIfInBounds i true) (a.put oi.dst v) w → wpAnyT P ops Q S k (fuel + 1) listed a w := by
  intro fuel
  induction fuel with
  | zero =>
    intro listed a w _ _ hr hy hS H
    refine ⟨fun h => (by rw [h] at hr; cases hr), fun j hj => ?_⟩
    by_cases hji : j = i
    · subst hji; exact hy.wpOp hi hS ⟨.inr hS, H⟩
    · have := ready_mono hj hji
      rw [H.1] at this
      cases this
  | succ fuel ih =>
    intro listed a w hcl hfree hr hy hS H
    refine ⟨fun h => (by rw [h] at hr; cases hr), fun j hj => ?_⟩
    by_cases hji : j = i
    · subst hji; exact hy.wpOp hi hS ⟨.inr hS, H⟩
    · have h1 := H.2 j (ready_mono hj hji)
      obtain ⟨hjun, oj, hoj, hall⟩ := mem_ready.1 hj
      have hiun := (mem_ready.1 hr).1
      have hnot : ∀ e ∈ oj.after, Region.binds .any e = true → e.on ≠ i := fun e he hb heq => by
        have h1 := hall e he hb
        rw [heq, getD_both hiun] at h1
        cases h1
      have h2 := wpOp_putIf hoj (hfree j oj hoj hji hjun hnot) (fun cs b => hsel i oi cs b hi) (fun cs b => hsel j oj cs b hoj) hQ hy h1
      have hfree' : ∀ k ok, ops[k]? = some ok → k ≠ i → (listed.setIfInBounds j true).getD k true = false →
          (∀ e ∈ ok.after, Region.binds .any e = true → e.on ≠ i) → oi.apart ops ok = true := fun k ok hk hki hun hno => by
        refine hfree k ok hk hki ?_ hno
        by_cases hjk : j = k
        · subst hjk; exact hjun
        · rw [getD_set_ne true hjk] at hun; exact hun
      have hcl' := hcl.set hj
      have hr' := ready_mono hr (Ne.symm hji)
      have hkun : (listed.setIfInBounds j true).getD k false = false := (hik.waits hcl' (mem_ready.1 hr').1).2
      refine wpOp_mono (fun a' w' h3 => ?_) h2
      have hS' : S w' := by
        rcases h3.2.1 with h4 | h4
        · rw [Array.setIfInBounds_comm _ _ (Ne.symm hji), getD_set_ne false (Ne.symm hne)] at h4
          rw [h4] at hkun; cases hkun
        · exact h4
      refine ⟨.inr hS', ih (listed.setIfInBounds j true) a' w' hcl' hfree' hr' h3.1 hS' ?_⟩
      rw [Array.setIfInBounds_comm _ _ hji]
      exact h3.2.2
def wpAllT (P : Program) (ops : Array Oper) (Q : Exit → Act → World → Prop) (S : World → Prop) (k : Nat) (listed : Array Bool) (a : Act) (w : World) : Prop := ∀ fuel, toCome listed ≤ fuel → wpAnyT P ops Q S k fuel listed a w
theorem wp_region_allT {id : Nat} {a : Act} {w : World} {l : List Oper} (S : World → Prop) (k : Nat) (hm : P.follows .mixedOrders = true) (h : wpAllT P l.toArray Q S k (Array.replicate l.toArray.size false) a w.drew) : (Code.region id l.toArray true).wp P Q a w :=
  wp_region_any hm (wpAny_of_T _ _ _ _ (h _ (by simp [toCome, List.countP_replicate])))
theorem wpAnyT_all {rs : List Nat} {fuel : Nat} {listed : Array Bool} {a : Act} {w : World} (hr : Region.ready .any ops listed = rs) (hne : rs ≠ [])
    (h : ∀ i ∈ rs, wpOp P ops Q i (fun a' w' => ((listed.setIfInBounds i true).getD k false = true ∨ S w') ∧ wpAnyT P ops Q S k fuel (listed.setIfInBounds i true) a' w') a w) : wpAnyT P ops Q S k (fuel + 1) listed a w :=
  ⟨fun h0 => absurd (hr ▸ h0) hne, hr ▸ h⟩
/-- k has come up: no condition is left. -/
theorem wpAnyT_of_any : ∀ (fuel : Nat) (listed : Array Bool) (a : Act) (w : World), listed.getD k false = true → wpAny P .any ops Q fuel listed a w → wpAnyT P ops Q S k fuel listed a w
  | 0, _, _, _, _, h => h
  | fuel + 1, _, _, _, hk, h => ⟨h.1, fun i hi => wpOp_mono (fun a' w' h' => ⟨.inl (getD_set_true hk), wpAnyT_of_any fuel _ a' w' (getD_set_true hk) h'⟩) (h.2 i hi)⟩
theorem wpAllT_drop {listed : Array Bool} {a : Act} {w : World} (hk : listed.getD k false = true) (h : wpAll P ops Q listed a w) : wpAllT P ops Q S k listed a w := fun fuel hf => wpAnyT_of_any fuel _ _ _ hk (h fuel hf)
theorem wpAnyT_done {listed : Array Bool} {a : Act} {w : World} (hr : Region.ready .any ops listed = []) (h : Q .normal a w) : ∀ fuel, wpAnyT P ops Q S k fuel listed a w
  | 0 => ⟨hr, h⟩
  | _ + 1 => ⟨fun _ => h, by rw [hr]; simp⟩
theorem wpAllT_done {listed : Array Bool} {a : Act} {w : World} (hr : Region.ready .any ops listed = []) (h : Q .normal a w) : wpAllT P ops Q S k listed a w := fun fuel _ => wpAnyT_done hr h fuel
/-- Operations that yield in every world that meets S: a load, or one that does not look at the world. -/
theorem yields_load {C : World → Prop} {o : Oper} {a : Act} {v : Value} {w : World} {ty : TypeId} {x : Operand} (h : o.quietAt P a C w v) (ho : o.op = .load ty x) : (execOp a.eval o).run P w = .ok (.value v) w := by
  unfold Oper.quietAt at h
  have e : execOp a.eval o = (do pure (Next.value (← Instr.loadAt ty (a.eval x)))) := by simp only [execOp, ho]
  rw [e] at h ⊢
  simp only [Sem.run_bind] at h ⊢
  generalize (Instr.loadAt ty (a.eval x)).run P w = r at *
  cases r with
  | ok n w' =>
    simp only [Result.andThen_ok, Sem.run_pure, Oper.quietUpon] at h ⊢
    obtain ⟨rfl, rfl⟩ := h
    rfl
  | halt x w' => cases x <;> exact h.elim
/-- What is taken first: all stand behind k. -/
def takeT (ops : Array Oper) (k : Nat) (is : List Nat) (listed : Array Bool) : Bool := closedB ops listed && is.all (fun i => i != k && behindB ops i ops.size k) && takeB ops is listed
theorem wpAllT_takes' {l : List Oper} (hsel : Region.noSelect l.toArray = true) (hQ : ∀ c a s v w, Q (.panic c) (Act.put a (some s) v) w → Q (.panic c) a w) {w : World} (hS : S w) : ∀ {is : List Nat} {listed : Array Bool} {a : Act}, Closed l.toArray listed → (∀ i ∈ is, k ≠ i ∧ Behind l.toArray i k) → takeB l.toArray is listed = true →
    wpHeld P l.toArray S (fun a' => wpAllT P l.toArray Q S k (marks is listed) a' w) (pickOps l is) a → wpAllT P l.toArray Q S k listed a w := by
  intro is
  induction is with
  | nil => intro listed a _ _ _ h; exact h
  | cons i is ih =>
    intro listed a hcl hk hB h
    simp only [takeB, Bool.and_eq_true] at hB
    obtain ⟨⟨hr, hf⟩, hB⟩ := hB
    have hr' : i ∈ Region.ready .any l.toArray listed := by simpa using hr
    obtain ⟨_, o, ho, _⟩ := mem_ready.1 hr'
    have hp : pickOps l (i :: is) = o :: pickOps l is := by
      have : l[i]? = some o := by simpa using ho
      simp [pickOps, this]
    rw [hp] at h
    obtain ⟨v, hy, h⟩ := h
    intro fuel hfuel
    obtain ⟨n, hn⟩ := toCome_pos hr'
    obtain ⟨f, rfl⟩ : ∃ f, fuel = f + 1 := ⟨fuel - 1, by omega⟩
    refine wpAnyT_first ho (Region.noSelect_spec hsel) (hk i (by simp)).2 (hk i (by simp)).1 (fun c a w hq => by cases hd : o.dst with | none => rw [hd] at hq; exact hq | some s => rw [hd] at hq; exact hQ c a s _ w hq) f listed a w hcl (Region.free_spec ho hf) hr' hy hS (ih (hcl.set hr') (fun j hj => hk j (by simp [hj])) hB h f ?_)
    have := toCome_set (mem_ready.1 hr').1
    omega
theorem wpAllT_takes {l : List Oper} (is : List Nat) (hsel : Region.noSelect l.toArray = true) (hQ : ∀ c a s v w, Q (.panic c) (Act.put a (some s) v) w → Q (.panic c) a w) {w : World} (hS : S w) {listed : Array Bool} {a : Act} (hB : takeT l.toArray k is listed = true)
    (h : wpHeld P l.toArray S (fun a' => wpAllT P l.toArray Q S k (marks is listed) a' w) (pickOps l is) a) : wpAllT P l.toArray Q S k listed a w := by
  simp only [takeT, Bool.and_eq_true] at hB
  obtain ⟨⟨h1, h2⟩, h3⟩ := hB
  refine wpAllT_takes' hsel hQ hS (closed_of h1) (fun i hi => ?_) h3 h
  have h4 := List.all_eq_true.1 h2 i hi
  simp only [Bool.and_eq_true, bne_iff_ne, ne_eq] at h4
  exact ⟨fun e => h4.1 e.symm, behind_of h4.2⟩
/-- The only one that may come up. -/
theorem wpAllT_one {l : List Oper} {listed : Array Bool} (j : Nat) {o : Oper} {a : Act} {w : World} (ho : l[j]? = some o) (hr : Region.ready .any l.toArray listed = [j])
    (h : wpList P l.toArray (thenQ Q fun a' w' => ((listed.setIfInBounds j true).getD k false = true ∨ S w') ∧ wpAllT P l.toArray Q S k (listed.setIfInBounds j true) a' w') [o] a w) : wpAllT P l.toArray Q S k listed a w := by
  intro fuel hfuel
  have hk : j ∈ Region.ready .any l.toArray listed := by rw [hr]; simp
  obtain ⟨n, hn⟩ := toCome_pos hk
  obtain ⟨f, rfl⟩ : ∃ f, fuel = f + 1 := ⟨fuel - 1, by omega⟩
  refine wpAnyT_all hr (by simp) fun i hi => ?_
  obtain rfl : i = j := by simpa using hi
  refine wpOp_mono (fun a' w' h' => ⟨h'.1, h'.2 f ?_⟩) (wpOp_of_list ho h)
  have := toCome_set (mem_ready.1 hk).1
  omega
/-- One of two. -/
theorem wpAllT_two {l : List Oper} {listed : Array Bool} (i j : Nat) {o u : Oper} {a : Act} {w : World} (ho : l[i]? = some o) (hu : l[j]? = some u) (hr : Region.ready .any l.toArray listed = [i, j])
    (h : wpList P l.toArray (thenQ Q fun a' w' => ((listed.setIfInBounds i true).getD k false = true ∨ S w') ∧ wpAllT P l.toArray Q S k (listed.setIfInBounds i true) a' w') [o] a w)
    (h2 : wpList P l.toArray (thenQ Q fun a' w' => ((listed.setIfInBounds j true).getD k false = true ∨ S w') ∧ wpAllT P l.toArray Q S k (listed.setIfInBounds j true) a' w') [u] a w) : wpAllT P l.toArray Q S k listed a w := by
  intro fuel hfuel
  have hk : i ∈ Region.ready .any l.toArray listed := by rw [hr]; simp
  have hj : j ∈ Region.ready .any l.toArray listed := by rw [hr]; simp
  obtain ⟨n, hn⟩ := toCome_pos hk
  obtain ⟨f, rfl⟩ : ∃ f, fuel = f + 1 := ⟨fuel - 1, by omega⟩
  refine wpAnyT_all hr (by simp) fun i' hi => ?_
  rcases List.mem_cons.1 hi with rfl | hi
  · refine wpOp_mono (fun a' w' h' => ⟨h'.1, h'.2 f ?_⟩) (wpOp_of_list ho h)
    have := toCome_set (mem_ready.1 hk).1
    omega
  · obtain rfl : i' = j := by simpa using hi
    refine wpOp_mono (fun a' w' h' => ⟨h'.1, h'.2 f ?_⟩) (wpOp_of_list hu h2)
    have := toCome_set (mem_ready.1 hj).1
    omega
end
end Go.Bul
