/- Regions whose order is drawn, in an order of one's own, where loads stand next to operations that change the world elsewhere: what holds of every world on the way. -/
import Derived.Test.YtpjphjokhccdaaaGreatReg
import Derived.Deep.RegionHeld
namespace Go.Bul
open Go
section
variable {P : Program} {ops : Array Oper} {Q : Exit → Act → World → Prop} {S : World → Prop}
/-- The rest of a region, whatever order comes up; S holds behind every operation. -/
def wpAllH (P : Program) (ops : Array Oper) (Q : Exit → Act → World → Prop) (S : World → Prop) (listed : Array Bool) (a : Act) (w : World) : Prop := ∀ fuel, toCome listed ≤ fuel → wpAnyH P .any ops Q S fuel listed a w
theorem wp_region_allH {id : Nat} {a : Act} {w : World} {l : List Oper} (S : World → Prop) (hm : P.follows .mixedOrders = true) (h : wpAllH P l.toArray Q S (Array.replicate l.toArray.size false) a w.drew) : (Code.region id l.toArray true).wp P Q a w :=
  wp_region_held hm (h _ (by simp [toCome, List.countP_replicate]))
theorem wpAllH_done {listed : Array Bool} {a : Act} {w : World} (hr : Region.ready .any ops listed = []) (h : Q .normal a w) : wpAllH P ops Q S listed a w := fun fuel _ => wpAnyH_done hr h fuel
/-- Operations that yield in every world that meets S. -/
def wpHeld (P : Program) (ops : Array Oper) (S : World → Prop) (K : Act → Prop) : List Oper → Act → Prop
  | [], a => K a
  | o :: l, a => ∃ v, YieldsIf P ops S o v a ∧ wpHeld P ops S K l (a.put o.dst v)
theorem wpHeld_nil {K : Act → Prop} {a : Act} (h : K a) : wpHeld P ops S K [] a := h
theorem wpHeld_step {K : Act → Prop} {a : Act} {o : Oper} {l : List Oper} {v : Value} (hg : o.guard = none) (hy : ∀ w, S w → (execOp a.eval o).run P w = .ok (.value v) w)
    (h : ∀ K' : Act → Prop, (∀ a', wpHeld P ops S K l a' → K' a') → K' (a.put o.dst v)) : wpHeld P ops S K (o :: l) a :=
  ⟨v, .inl ⟨by simp [Region.wanted, hg], hy⟩, h _ fun _ h => h⟩
theorem wpAllH_takes {l : List Oper} (is : List Nat) (hsel : Region.noSelect l.toArray = true) (hQ : ∀ c a s v w, Q (.panic c) (Act.put a (some s) v) w → Q (.panic c) a w) {w : World} (hS : S w) : ∀ {listed : Array Bool} {a : Act}, takeB l.toArray is listed = true →
    wpHeld P l.toArray S (fun a' => wpAllH P l.toArray Q S (marks is listed) a' w) (pickOps l is) a → wpAllH P l.toArray Q S listed a w := by
  induction is with
  | nil => intro listed a _ h; exact h
  | cons i is ih =>
    intro listed a hB h
    simp only [takeB, Bool.and_eq_true] at hB
    obtain ⟨⟨hr, hf⟩, hB⟩ := hB
    have hr' : i ∈ Region.ready .any l.toArray listed := by simpa using hr
    obtain ⟨_, o, ho, _⟩ := mem_ready.1 hr'
    have hp : pickOps l (i :: is) = o :: pickOps l is := by
      have : l[i]? = some o := by simpa using ho
      simp [pickOps, this]
    rw [hp] at h
    obtain ⟨v, hy, h⟩ := h
    intro fuel hfuel
    obtain ⟨n, hn⟩ := toCome_pos hr'
    obtain ⟨f, rfl⟩ : ∃ f, fuel = f + 1 := ⟨fuel - 1, by omega⟩
    refine wpAnyH_take ho hsel hf hr (fun c a w hq => by cases hd : o.dst with | none => rw [hd] at hq; exact hq | some s => rw [hd] at hq; exact hQ c a s _ w hq) hy hS (ih hB h f ?_)
    have := toCome_set (mem_ready.1 hr').1
    omega
theorem wpOp_of_list {l : List Oper} {k : Nat} {o : Oper} {a : Act} {w : World} {W : Act → World → Prop} (ho : l[k]? = some o) (h : wpList P l.toArray (thenQ Q W) [o] a w) : wpOp P l.toArray Q k W a w := by
  have ho' : l.toArray[k]? = some o := by simpa using ho
  unfold wpOp
  simp only [ho']
  unfold wpList at h
  split
  · rename_i hw
    rw [if_pos hw] at h
    rcases h with h | ⟨h1, h2⟩
    · exact .inl (Oper.wp_mono (fun a' w' h' => h') (wp_of_then h))
    · exact .inr ⟨h1, h2⟩
  · rename_i hw
    rw [if_neg hw] at h
    exact h
theorem wpList_then {W : Act → World → Prop} {a : Act} {w : World} (h : W a w) : wpList P ops (thenQ Q W) [] a w := h
theorem then_normal {W : Act → World → Prop} {a : Act} {w : World} (h : W a w) : thenQ Q W .normal a w := h
/-- The only one that may come up. -/
theorem wpAllH_one {l : List Oper} {listed : Array Bool} (k : Nat) {o : Oper} {a : Act} {w : World} (ho : l[k]? = some o) (hr : Region.ready .any l.toArray listed = [k])
    (h : wpList P l.toArray (thenQ Q fun a' w' => S w' ∧ wpAllH P l.toArray Q S (listed.setIfInBounds k true) a' w') [o] a w) : wpAllH P l.toArray Q S listed a w := by
  intro fuel hfuel
  have hk : k ∈ Region.ready .any l.toArray listed := by rw [hr]; simp
  obtain ⟨n, hn⟩ := toCome_pos hk
  obtain ⟨f, rfl⟩ : ∃ f, fuel = f + 1 := ⟨fuel - 1, by omega⟩
  refine wpAnyH_all hr (by simp) fun i hi => ?_
  obtain rfl : i = k := by simpa using hi
  refine wpOp_mono (fun a' w' h' => ⟨h'.1, h'.2 f ?_⟩) (wpOp_of_list ho h)
  have := toCome_set (mem_ready.1 hk).1
  omega
/-- One of two. -/
theorem wpAll_two {l : List Oper} {listed : Array Bool} (k j : Nat) {o u : Oper} {a : Act} {w : World} (ho : l[k]? = some o) (hu : l[j]? = some u) (hr : Region.ready .any l.toArray listed = [k, j])
    (h : wpList P l.toArray (thenQ Q (wpAll P l.toArray Q (listed.setIfInBounds k true))) [o] a w) (h2 : wpList P l.toArray (thenQ Q (wpAll P l.toArray Q (listed.setIfInBounds j true))) [u] a w) : wpAll P l.toArray Q listed a w := by
  intro fuel hfuel
  have hk : k ∈ Region.ready .any l.toArray listed := by rw [hr]; simp
  have hj : j ∈ Region.ready .any l.toArray listed := by rw [hr]; simp
  obtain ⟨n, hn⟩ := toCome_pos hk
  obtain ⟨f, rfl⟩ : ∃ f, fuel = f + 1 := ⟨fuel - 1, by omega⟩
  refine wpAny_all hr (by simp) fun i hi => ?_
  rcases List.mem_cons.1 hi with rfl | hi
  · refine wpOp_mono (fun a' w' h' => h' f ?_) (wpOp_of_list ho h)
    have := toCome_set (mem_ready.1 hk).1
    omega
  · obtain rfl : i = j := by simpa using hi
    refine wpOp_mono (fun a' w' h' => h' f ?_) (wpOp_of_list hu h2)
    have := toCome_set (mem_ready.1 hj).1
    omega
/-- One of two. -/
theorem wpAllH_two {l : List Oper} {listed : Array Bool} (k j : Nat) {o u : Oper} {a : Act} {w : World} (ho : l[k]? = some o) (hu : l[j]? = some u) (hr : Region.ready .any l.toArray listed = [k, j])
    (h : wpList P l.toArray (thenQ Q fun a' w' => S w' ∧ wpAllH P l.toArray Q S (listed.setIfInBounds k true) a' w') [o] a w)
    (h2 : wpList P l.toArray (thenQ Q fun a' w' => S w' ∧ wpAllH P l.toArray Q S (listed.setIfInBounds j true) a' w') [u] a w) : wpAllH P l.toArray Q S listed a w := by
  intro fuel hfuel
  have hk : k ∈ Region.ready .any l.toArray listed := by rw [hr]; simp
  have hj : j ∈ Region.ready .any l.toArray listed := by rw [hr]; simp
  obtain ⟨n, hn⟩ := toCome_pos hk
  obtain ⟨f, rfl⟩ : ∃ f, fuel = f + 1 := ⟨fuel - 1, by omega⟩
  refine wpAnyH_all hr (by simp) fun i hi => ?_
  rcases List.mem_cons.1 hi with rfl | hi
  · refine wpOp_mono (fun a' w' h' => ⟨h'.1, h'.2 f ?_⟩) (wpOp_of_list ho h)
    have := toCome_set (mem_ready.1 hk).1
    omega
  · obtain rfl : i = j := by simpa using hi
    refine wpOp_mono (fun a' w' h' => ⟨h'.1, h'.2 f ?_⟩) (wpOp_of_list hu h2)
    have := toCome_set (mem_ready.1 hj).1
    omega
end
end Go.Bul
