/- Regions whose order is drawn, in an order of one's own, where loads stand next to operations that change the world elsewhere: what holds of every world on the way. Contracts of math/bits.RotateLeft32 (at the counts that the program uses) and sha256.rotate. Conditions: the word is below 2^32, the count is one of ten. Contracts of sha256.round, plus and initial: the values are those of the plain definition, memory that was there is as it was. Condition: the words are below 2^32. -/
import Derived.Test.YtdnnjgjaffkdfaaDoorVa
import Derived.Deep.RegionHeld
import Derived.Test.YtdnnjgjaffkdfaaDoorProg
import Derived.WalkKit
import Derived.Lib.Hide
import Derived.BigQuiet
import Derived.Deep.QuietTactic
import Derived.Handy
namespace Go.Bul
open Go
section
variable {P : Program} {ops : Array Oper} {Q : Exit → Act → World → Prop} {S : World → Prop}
/-- The rest of a region, whatever order comes up; S holds behind every operation. -/
def wpAllH (P : Program) (ops : Array Oper) (Q : Exit → Act → World → Prop) (S : World → Prop) (listed : Array Bool) (a : Act) (w : World) : Prop := ∀ fuel, toCome listed ≤ fuel → wpAnyH P .any ops Q S fuel listed a w
theorem wp_region_allH {id : Nat} {a : Act} {w : World} {l : List Oper} (S : World → Prop) (hm : P.follows .mixedOrders = true) (h : wpAllH P l.toArray Q S (Array.replicate l.toArray.size false) a w.drew) : (Code.region id l.toArray true).wp P Q a w :=
  wp_region_held hm (h _ (by simp [toCome, List.countP_replicate]))
theorem wpAllH_done {listed : Array Bool} {a : Act} {w : World} (hr : Region.ready .any ops listed = []) (h : Q .normal a w) : wpAllH P ops Q S listed a w := fun fuel _ => wpAnyH_done hr h fuel
/-- Operations that yield in every world that meets S. -/
def wpHeld (P : Program) (ops : Array Oper) (S : World → Prop) (K : Act → Prop) : List Oper → Act → Prop
  | [], a => K a
  | o :: l, a => ∃ v, YieldsIf P ops S o v a ∧ wpHeld P ops S K l (a.put o.dst v)
theorem wpHeld_nil {K : Act → Prop} {a : Act} (h : K a) : wpHeld P ops S K [] a := h
theorem wpHeld_step {K : Act → Prop} {a : Act} {o : Oper} {l : List Oper} {v : Value} (hg : o.guard = none) (hy : ∀ w, S w → (execOp a.eval o).run P w = .ok (.value v) w)
    (h : ∀ K' : Act → Prop, (∀ a', wpHeld P ops S K l a' → K' a') → K' (a.put o.dst v)) : wpHeld P ops S K (o :: l) a :=
  ⟨v, .inl ⟨by simp [Region.wanted, hg], hy⟩, h _ fun _ h => h⟩
theorem wpAllH_takes {l : List Oper} (is : List Nat) (hsel : Region.noSelect l.toArray = true) (hQ : ∀ c a s v w, Q (.panic c) (Act.put a (some s) v) w → Q (.panic c) a w) {w : World} (hS : S w) : ∀ {listed : Array Bool} {a : Act}, takeB l.toArray is listed = true →
    wpHeld P l.toArray S (fun a' => wpAllH P l.toArray Q S (marks is listed) a' w) (pickOps l is) a → wpAllH P l.toArray Q S listed a w := by
  induction is with
  | nil => intro listed a _ h; exact h
  | cons i is ih =>
    intro listed a hB h
    simp only [takeB, Bool.and_eq_true] at hB
    obtain ⟨⟨hr, hf⟩, hB⟩ := hB
    have hr' : i ∈ Region.ready .any l.toArray listed := by simpa using hr
    obtain ⟨_, o, ho, _⟩ := mem_ready.1 hr'
    have hp : pickOps l (i :: is) = o :: pickOps l is := by
      have : l[i]? = some o := by simpa using ho
      simp [pickOps, this]
    rw [hp] at h
    obtain ⟨v, hy, h⟩ := h
    intro fuel hfuel
    obtain ⟨n, hn⟩ := toCome_pos hr'
    obtain ⟨f, rfl⟩ : ∃ f, fuel = f + 1 := ⟨fuel - 1, by omega⟩
    refine wpAnyH_take ho hsel hf hr (fun c a w hq => by cases hd : o.dst with | none => rw [hd] at hq; exact hq | some s => rw [hd] at hq; exact hQ c a s _ w hq) hy hS (ih hB h f ?_)
    have := toCome_set (mem_ready.1 hr').1
    omega
theorem wpOp_of_list {l : List Oper} {k : Nat} {o : Oper} {a : Act} {w : World} {W : Act → World → Prop} (ho : l[k]? = some o) (h : wpList P l.toArray (thenQ Q W) [o] a w) : wpOp P l.toArray Q k W a w := by
  have ho' : l.toArray[k]? = some o := by simpa using ho
  unfold wpOp
  simp only [ho']
  unfold wpList at h
  split
  · rename_i hw
    rw [if_pos hw] at h
    rcases h with h | ⟨h1, h2⟩
    · exact .inl (Oper.wp_mono (fun a' w' h' => h') (wp_of_then h))
    · exact .inr ⟨h1, h2⟩
  · rename_i hw
    rw [if_neg hw] at h
    exact h
theorem wpList_then {W : Act → World → Prop} {a : Act} {w : World} (h : W a w) : wpList P ops (thenQ Q W) [] a w := h
theorem then_normal {W : Act → World → Prop} {a : Act} {w : World} (h : W a w) : thenQ Q W .normal a w := h
/-- The only one that may come up. -/
theorem wpAllH_one {l : List Oper} {listed : Array Bool} (k : Nat) {o : Oper} {a : Act} {w : World} (ho : l[k]? = some o) (hr : Region.ready .any l.toArray listed = [k])
    (h : wpList P l.toArray (thenQ Q fun a' w' => S w' ∧ wpAllH P l.toArray Q S (listed.setIfInBounds k true) a' w') [o] a w) : wpAllH P l.toArray Q S listed a w := by
  intro fuel hfuel
  have hk : k ∈ Region.ready .any l.toArray listed := by rw [hr]; simp
  obtain ⟨n, hn⟩ := toCome_pos hk
  obtain ⟨f, rfl⟩ : ∃ f, fuel = f + 1 := ⟨fuel - 1, by omega⟩
  refine wpAnyH_all hr (by simp) fun i hi => ?_
  obtain rfl : i = k := by simpa using hi
  refine wpOp_mono (fun a' w' h' => ⟨h'.1, h'.2 f ?_⟩) (wpOp_of_list ho h)
  have := toCome_set (mem_ready.1 hk).1
  omega
/-- One of two. -/
theorem wpAllH_two {l : List Oper} {listed : Array Bool} (k j : Nat) {o u : Oper} {a : Act} {w : World} (ho : l[k]? = some o) (hu : l[j]? = some u) (hr : Region.ready .any l.toArray listed = [k, j])
    (h : wpList P l.toArray (thenQ Q fun a' w' => S w' ∧ wpAllH P l.toArray Q S (listed.setIfInBounds k true) a' w') [o] a w)
    (h2 : wpList P l.toArray (thenQ Q fun a' w' => S w' ∧ wpAllH P l.toArray Q S (listed.setIfInBounds j true) a' w') [u] a w) : wpAllH P l.toArray Q S listed a w := by
  intro fuel hfuel
  have hk : k ∈ Region.ready .any l.toArray listed := by rw [hr]; simp
  have hj : j ∈ Region.ready .any l.toArray listed := by rw [hr]; simp
  obtain ⟨n, hn⟩ := toCome_pos hk
  obtain ⟨f, rfl⟩ : ∃ f, fuel = f + 1 := ⟨fuel - 1, by omega⟩
  refine wpAnyH_all hr (by simp) fun i hi => ?_
  rcases List.mem_cons.1 hi with rfl | hi
  · refine wpOp_mono (fun a' w' h' => ⟨h'.1, h'.2 f ?_⟩) (wpOp_of_list ho h)
    have := toCome_set (mem_ready.1 hk).1
    omega
  · obtain rfl : i = j := by simpa using hi
    refine wpOp_mono (fun a' w' h' => ⟨h'.1, h'.2 f ?_⟩) (wpOp_of_list hu h2)
    have := toCome_set (mem_ready.1 hj).1
    omega
end
end Go.Bul
namespace Go.Proofs.YtdnnjgjaffkdfaaDoor
open Go Go.RowKit
def IsRot (n : Nat) : Prop := n = 2 ∨ n = 13 ∨ n = 22 ∨ n = 6 ∨ n = 11 ∨ n = 25 ∨ n = 7 ∨ n = 18 ∨ n = 17 ∨ n = 19
theorem ret_u32 {a b : Int} (h : a = b) : Ending.returned (.int .u32 a) = .returned (.int .u32 b) := by rw [h]
theorem rotr_lt (x n : Nat) (hx : x < 4294967296) : Bul.rotr x n < 4294967296 := by
  unfold Bul.rotr
  refine Nat.or_lt_two_pow (n := 32) ?_ ?_
  · exact Nat.lt_of_le_of_lt (by rw [Nat.shiftRight_eq_div_pow]; exact Nat.div_le_self _ _) hx
  · exact Nat.mod_lt _ (by decide)
theorem rot_math (x n : Nat) (hx : x < 4294967296) (a b : Int) (ha : a = ((x * 2 ^ (32 - n) % 4294967296 : Nat) : Int)) (hb : b = ((x / 2 ^ n : Nat) : Int)) : bits .or .u32 a b = ((Bul.rotr x n : Nat) : Int) := by
  rw [ha, hb, u32_or_nat _ _ (Nat.mod_lt _ (by decide)) (Nat.lt_of_le_of_lt (Nat.div_le_self _ _) hx), Nat.or_comm, Bul.rotr, Nat.shiftRight_eq_div_pow, Nat.shiftLeft_eq]
set_option maxHeartbeats 400000 in
theorem rot_lib (x n : Nat) (w : World) (hx : x < 4294967296) (hn : IsRot n) (y : Int) (hy : y = -(n : Int)) :
    Calls Tryd.prog 139 #[.int .u32 x, .int .i64 y] w fun e w' => e = .returned (.int .u32 (Bul.rotr x n : Nat)) ∧ w = w' := by
  have h2 : bits BinOp.and .u64 (IntKind.u64.wrap (-2)) 31 = 30 := by decide
  have h13 : bits BinOp.and .u64 (IntKind.u64.wrap (-13)) 31 = 19 := by decide
  have h22 : bits BinOp.and .u64 (IntKind.u64.wrap (-22)) 31 = 10 := by decide
  have h6 : bits BinOp.and .u64 (IntKind.u64.wrap (-6)) 31 = 26 := by decide
  have h11 : bits BinOp.and .u64 (IntKind.u64.wrap (-11)) 31 = 21 := by decide
  have h25 : bits BinOp.and .u64 (IntKind.u64.wrap (-25)) 31 = 7 := by decide
  have h7 : bits BinOp.and .u64 (IntKind.u64.wrap (-7)) 31 = 25 := by decide
  have h18 : bits BinOp.and .u64 (IntKind.u64.wrap (-18)) 31 = 14 := by decide
  have h17 : bits BinOp.and .u64 (IntKind.u64.wrap (-17)) 31 = 15 := by decide
  have h19 : bits BinOp.and .u64 (IntKind.u64.wrap (-19)) 31 = 13 := by decide
  subst hy
  rcases hn with rfl | rfl | rfl | rfl | rfl | rfl | rfl | rfl | rfl | rfl
  all_goals
    go_enter Tryd.func139, Tryd.ntmps139
    go_wp2
    go_ret
    exact ⟨ret_u32 (rot_math x _ hx _ _ (by simp) (by simp)), rfl⟩
set_option maxHeartbeats 400000 in
theorem rot_any (x n : Nat) (w : World) (hx : x < 4294967296) (hn : IsRot n) (y : Int) (hy : y = (n : Int)) :
    Calls Tryd.prog 136 #[.int .u32 x, .int .i64 y] w fun e w' => e = .returned (.int .u32 (Bul.rotr x n : Nat)) ∧ w = w' := by
  have h0 : 0 ≤ y ∧ y ≤ 31 := by rcases hn with h | h | h | h | h | h | h | h | h | h <;> omega
  obtain ⟨h0, h1⟩ := h0
  have H := Lib.hid hn
  have Y := Lib.hid hy
  clear hn hy
  go_enter Tryd.func136, Tryd.ntmps136
  go_wp2_with (go_at_call 139; refine (rot_lib x n _ hx H.out _ (by rw [Y.out])).mono ?_; rintro e w' ⟨rfl, rfl⟩)
  go_ret
  exact ⟨rfl, rfl⟩
end Go.Proofs.YtdnnjgjaffkdfaaDoor
namespace Go.Proofs.YtdnnjgjaffkdfaaDoor
open Go Go.RowKit
theorem quiet_left {P : Program} {f : FuncId} {args : Array Value} {w : World} {n : Nat} {v : Value}
    (h : Calls P f args (w.drewN n) fun e w' => e = .returned v ∧ w.drewN n = w') : Calls P f args (w.drewN n) fun e w'' => e = .returned v ∧ ∃ m, w'' = w.drewN m :=
  h.mono fun _ _ ⟨he, hm⟩ => ⟨he, n, hm.symm⟩
theorem quiet_add_left {P : Program} {f : FuncId} {args : Array Value} {w : World} {a n : Nat} {v : Value}
    (h : Calls P f args (w.drewN (a + n)) fun e w' => e = .returned v ∧ w.drewN (a + n) = w') :
    Calls P f args (w.drewN (a + n)) fun e w'' => e = .returned v ∧ ∃ m, w'' = w.drewN (a + m) :=
  h.mono fun _ _ ⟨he, hm⟩ => ⟨he, n, hm.symm⟩
theorem below_drewN {B : Nat} {a w : World} (h : Below B a w) (n : Nat) : Below B a (w.drewN n) := ⟨h.os, h.tape, h.output, h.size, h.block⟩
theorem S1_int (e : Nat) (he : e < 4294967296) : bits .xor .u32 (bits .xor .u32 ↑(Bul.rotr e 6) ↑(Bul.rotr e 11)) ↑(Bul.rotr e 25) = ((Bul.S1 e : Nat) : Int) := by
  rw [u32_xor_nat _ _ (rotr_lt _ _ he) (rotr_lt _ _ he), u32_xor_nat _ _ (Nat.xor_lt_two_pow (n := 32) (rotr_lt _ _ he) (rotr_lt _ _ he)) (rotr_lt _ _ he), Bul.S1]
theorem S0_int (e : Nat) (he : e < 4294967296) : bits .xor .u32 (bits .xor .u32 ↑(Bul.rotr e 2) ↑(Bul.rotr e 13)) ↑(Bul.rotr e 22) = ((Bul.S0 e : Nat) : Int) := by
  rw [u32_xor_nat _ _ (rotr_lt _ _ he) (rotr_lt _ _ he), u32_xor_nat _ _ (Nat.xor_lt_two_pow (n := 32) (rotr_lt _ _ he) (rotr_lt _ _ he)) (rotr_lt _ _ he), Bul.S0]
theorem and_lt32 {a b : Nat} (ha : a < 4294967296) : a &&& b < 4294967296 := Nat.lt_of_le_of_lt Nat.and_le_left ha
theorem xor_lt32 {a b : Nat} (ha : a < 4294967296) (hb : b < 4294967296) : a ^^^ b < 4294967296 := Nat.xor_lt_two_pow (n := 32) ha hb
theorem xor_full (x : Nat) (hx : x < 4294967296) : 4294967295 ^^^ x = 4294967295 - x := by
  have h := congrArg BitVec.toNat (BitVec.allOnes_xor (x := BitVec.ofNat 32 x))
  rw [BitVec.toNat_xor, BitVec.toNat_not, BitVec.toNat_allOnes, BitVec.toNat_ofNat, Nat.mod_eq_of_lt hx] at h
  exact h
theorem not_int (e : Nat) (he : e < 4294967296) : bits .xor .u32 (IntKind.u32.max) ↑e = ((4294967295 - e : Nat) : Int) := by
  have h : IntKind.u32.max = ((4294967295 : Nat) : Int) := by decide
  rw [h, u32_xor_nat _ _ (by decide) he, xor_full e he]
theorem ch_int (e f g : Nat) (he : e < 4294967296) (hg : g < 4294967296) (hf : f < 4294967296) :
    bits .xor .u32 (bits .and .u32 ↑e ↑f) (bits .and .u32 (bits .xor .u32 IntKind.u32.max ↑e) ↑g) = ((Bul.chf e f g : Nat) : Int) := by
  rw [not_int e he, u32_and_nat _ _ he hf, u32_and_nat _ _ (by omega) hg, u32_xor_nat _ _ (and_lt32 he) (and_lt32 (by omega)), Bul.chf]
theorem maj_int (a b c : Nat) (ha : a < 4294967296) (hb : b < 4294967296) (hc : c < 4294967296) :
    bits .xor .u32 (bits .xor .u32 (bits .and .u32 ↑a ↑b) (bits .and .u32 ↑a ↑c)) (bits .and .u32 ↑b ↑c) = ((Bul.maj a b c : Nat) : Int) := by
  rw [u32_and_nat _ _ ha hb, u32_and_nat _ _ ha hc, u32_and_nat _ _ hb hc, u32_xor_nat _ _ (and_lt32 ha) (and_lt32 ha), u32_xor_nat _ _ (xor_lt32 (and_lt32 ha) (and_lt32 ha)) (and_lt32 hb), Bul.maj]
/-- The eight words of a state, as a value. -/
def stv (v : Bul.St) : Value := .agg #[.int .u32 v.a, .int .u32 v.b, .int .u32 v.c, .int .u32 v.d, .int .u32 v.e, .int .u32 v.f, .int .u32 v.g, .int .u32 v.h]
set_option maxHeartbeats 1000000 in
theorem round_any (v : Bul.St) (k x : Nat) (w : World) (hv : v.Ok) :
    Calls Tryd.prog 137 #[stv v, .int .u32 k, .int .u32 x] w fun e w' => e = .returned (stv (Bul.rnd v k x)) ∧ Below w.heap.size w w' := by
  obtain ⟨a, b, c, d, e, f, g, h⟩ := v
  obtain ⟨ha, hb, hc, hd, he, hf, hg, hh⟩ := hv
  simp only at ha hb hc hd he hf hg hh
  have H := Lib.hid (And.intro (S1_int e he) (And.intro (S0_int a ha) (And.intro (ch_int e f g he hg hf) (maj_int a b c ha hb hc))))
  unfold stv
  clear hb hc hd hf hg hh
  go_enter Tryd.func137, Tryd.ntmps137
  go_wp2_with fail
  go_quiet ((go_at_call 136; first | exact quiet_left (rot_any a 2 _ ha (by simp [IsRot]) _ rfl) | exact quiet_left (rot_any a 13 _ ha (by simp [IsRot]) _ rfl) | exact quiet_left (rot_any a 22 _ ha (by simp [IsRot]) _ rfl)))
  go_wp2_with fail
  go_quiet ((go_at_call 136; first | exact quiet_add_left (rot_any e 6 _ he (by simp [IsRot]) _ rfl) | exact quiet_add_left (rot_any e 11 _ he (by simp [IsRot]) _ rfl) | exact quiet_add_left (rot_any e 25 _ he (by simp [IsRot]) _ rfl)))
  go_wp2_with fail
  go_returns
  obtain ⟨h1, h2, h3, h4⟩ := H.out
  refine ⟨?_, ?_⟩
  · rw [h1, h2, h3, h4]
    simp only [Bul.rnd, Bul.one, Bul.two, Bul.add32]
    congr 4
    · congr 1; omega
    · simp only [List.cons.injEq, true_and]
      constructor
      · congr 1; omega
      · trivial
  · repeat' (first | with_reducible exact Below.refl _ _ | with_reducible assumption | with_reducible refine Below.setCell ?_ ?_ _ | with_reducible refine below_drewN ?_ _ | with_reducible refine Below.drew ?_ | with_reducible refine Below.alloc ?_ ?_ _)
    all_goals first | (simp; done) | (simp; omega) | omega
end Go.Proofs.YtdnnjgjaffkdfaaDoor
