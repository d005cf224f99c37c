/- Contracts of merkle.Leaf, Join. Regions whose order is drawn, in an order of one's own, where loads stand next to operations that change the world elsewhere: what holds of every world on the way. Regions whose order is drawn, in an order of one's own: loads are taken first, though a later operation changes what they read; what they read holds till that operation has come up. -/
import Derived.Test.YtbbdnlcjjcmllaaDoorVi
import Derived.Test.YtbbdnlcjjcmllaaDoorVf
import Derived.Deep.CutRange
import Derived.Deep.CutBlock
import Derived.Deep.RegionHeld
namespace Go.Lin
open Go Go.Bul
/-- The bytes of a leaf, of a parent. -/
def headL (z : Int) : List Nat := [0, (z % 4294967296).toNat / 16777216, (z % 4294967296).toNat / 65536 % 256, (z % 4294967296).toNat / 256 % 256, (z % 4294967296).toNat % 256]
def leafL (z : Int) (bs : List Nat) : List Nat := headL z ++ bs
def joinL (z : Int) (a b : Nd) : List Nat := [1, (z % 256).toNat] ++ (a.val ++ b.val)
def leafN (z : Int) (bs : List Nat) : Nd := halfN (leafL z bs)
def joinN (z : Int) (a b : Nd) : Nd := halfN (joinL z a b)
theorem bytes_head (z : Int) : Bytes (headL z) := by
  intro x hx
  simp only [headL, List.mem_cons, List.not_mem_nil, or_false] at hx
  omega
theorem bytes_leaf {z : Int} {bs : List Nat} (h : Bytes bs) : Bytes (leafL z bs) := fun x hx => (List.mem_append.1 hx).elim (bytes_head z x) (h x)
theorem bytes_join (z : Int) (a b : Nd) : Bytes (joinL z a b) := by
  intro x hx
  rcases List.mem_append.1 hx with hx | hx
  · simp only [List.mem_cons, List.not_mem_nil, or_false] at hx
    omega
  · exact (List.mem_append.1 hx).elim (a.byt x) (b.byt x)
theorem joinL_length (z : Int) (a b : Nd) : (joinL z a b).length = 34 := by simp [joinL, a.len, b.len]
end Go.Lin
namespace Go.Proofs.YtbbdnlcjjcmllaaDoor
open Go Go.RowKit Go.Bul Go.Thg Go.Lin
theorem reads_rd {w : World} {A : Option Addr} {n : Nat} {bs : List Nat} (h : Reads w 1 A n (vals .u8 bs)) (hb : Bytes bs) : Rd w (fun _ => True) A n bs := by
  have hl : n = bs.length := by have := h.1; simp at this; omega
  refine ⟨hl.symm, hb, fun h0 => ?_⟩
  obtain ⟨g, off, rfl, hg, hc⟩ := h.2 h0
  refine ⟨_, rfl, trivial, hg, fun j hj => ?_⟩
  rw [addr_at]
  refine hc j _ ?_
  have hj' : j < bs.length := by omega
  rw [List.getD_eq_getElem?_getD, List.getElem?_eq_getElem hj']
  simp [vals, hj']
/-- SumHalf. -/
theorem half_c {w : World} {A : Option Addr} {n c : Nat} {bs : List Nat} (h : Reads w 1 A n (vals .u8 bs)) (hb : Bytes bs) (hnc : n ≤ c) (hl : n ≤ 1000000) (hT : Tab w) :
    Calls Tryd.prog 55 #[.slice A n c] w fun e w' => e = .returned (.agg (ndC (halfN bs))) ∧ Below w.heap.size w w' :=
  half_any bs A n c _ w (reads_rd h hb) hnc (by omega) hT
theorem wrap_u32 (z : Int) : IntKind.u32.wrap z = ((z % 4294967296).toNat : Int) := by
  have h : IntKind.u32.wrap z = z % 4294967296 := by simp [IntKind.wrap, IntKind.signed, IntKind.bits]
  rw [h]
  omega
theorem wrap_u8 (z : Int) : IntKind.u8.wrap z = ((z % 256).toNat : Int) := by
  have h : IntKind.u8.wrap z = z % 256 := by simp [IntKind.wrap, IntKind.signed, IntKind.bits]
  rw [h]
  omega
set_option maxRecDepth 20000 in
set_option maxHeartbeats 4000000 in
theorem leaf_any (z : Int) (A : Option Addr) (n c : Nat) (bs : List Nat) (w : World) (hr : Reads w 1 A n (vals .u8 bs)) (hb : Bytes bs) (hn : n ≤ 1000) (hT : Tab w) :
    Calls Tryd.prog 29 #[.int .i64 z, .slice A n c] w fun e w' => e = .returned (.agg (ndC (leafN z bs))) ∧ Below w.heap.size w w' := by
  have hM := Mem.start [] w
  have hN := wrap_u32 z
  have hl : n = bs.length := by have := hr.1; simp at this; omega
  have HH : Hid (leafN z bs = halfN (headL z ++ bs)) := Lib.hid rfl
  have HHB := Lib.hid (bytes_leaf (z := z) hb)
  have HHL : Hid (headL z = [0, (z % 4294967296).toNat / 16777216, (z % 4294967296).toNat / 65536 % 256, (z % 4294967296).toNat / 256 % 256, (z % 4294967296).toNat % 256]) := Lib.hid rfl
  have hN3 : (z % 4294967296).toNat < 4294967296 := by omega
  generalize (z % 4294967296).toNat = N at hN HHL hN3
  have n0 : (0 : Int) ≤ (N : Int) := Int.natCast_nonneg _
  have n1 : (N : Int) < 4294967296 := by omega
  have HR := Lib.hid hr
  have HT := Lib.hid hT
  have HLN := Lib.hid hl
  generalize leafN z bs = Z at HH ⊢
  clear hr hT hl hb
  go_enter Tryd.func29, Tryd.ntmps29
  go_wp2_with (first | (refine lbb5 hM ?_; clear hM; intro g5 w5 hM) | (refine lbs2 hM ?_; clear hM; intro g2 w2 hM) | ((first | with_reducible refine at_load ?_ | ((with_reducible refine at_load_g ?_ ?_); (· rfl))); first | refine lc hM ?_ | refine ll hM ?_ | refine lp hM ?_) | ((with_reducible refine at_store ?_); first | (refine ls hM ?_; clear hM; intro wx hM) | (refine lw hM ?_; clear hM; intro wx hM) | (refine lt hM ?_; clear hM; intro wx hM)) | ((with_reducible refine at_alloc ?_); refine lz hM ?_; clear hM; intro gx wx hM) | ((with_reducible refine at_box ?_); refine lb hM ?_; clear hM; intro gx wx hM))
  have hcin : CIn w2 (some ⟨g2, 0, none⟩) 2 [(.slice (some ⟨g5, 0, none⟩) 5 5, headL z), (.slice A n c, bs)] := by
    refine ⟨reads_ent hM (List.Mem.head _), fun p hp => ?_⟩
    simp only [List.mem_cons, List.not_mem_nil, or_false] at hp
    rcases hp with rfl | rfl
    · refine ⟨_, 5, rfl, ?_⟩
      rw [HHL.out]
      exact reads_ent hM (List.Mem.tail _ (List.Mem.head _))
    · exact ⟨A, c, by rw [HLN.out], by rw [← HLN.out]; exact HR.out.keep hM.below⟩
  refine (concat_any (c := 2) hcin (by have := HLN.out; simp [total, headL]; omega) (by decide)).mono ?_
  rintro e w3 ⟨cA, cc, rfl, hb⟩
  replace hM := hM.newThing hb
  clear hb hcin
  have hfl : flatP [(Value.slice (some ⟨g5, 0, none⟩) 5 5, headL z), (Value.slice A n c, bs)] = headL z ++ bs := by simp [flatP]
  obtain ⟨Y, hY⟩ : ∃ Y, headL z ++ bs = Y := ⟨_, rfl⟩
  have hYl : Y.length ≤ 1000000 := by rw [← hY]; have := HLN.out; simp [headL]; omega
  have HZ := Lib.hid (show Z = halfN Y by rw [HH.out, hY])
  have hYb : Bytes Y := by rw [← hY]; exact HHB.out
  rw [hfl, hY] at hM ⊢
  obtain ⟨hrd, _, hnc⟩ := bT_reads (hM.thing _ (List.Mem.head _))
  have HS := Lib.hid (half_c hrd hYb hnc hYl (HT.out.keep hM.below))
  clear hrd hnc hfl hY hYl hYb
  go_wp2_with (first | ((with_reducible refine HS.out.mono ?_); rintro e w4 ⟨rfl, hb⟩; replace hM := hM.step hb; clear hb) | ((first | with_reducible refine at_load ?_ | ((with_reducible refine at_load_g ?_ ?_); (· rfl))); first | refine lc hM ?_ | refine ll hM ?_ | refine lp hM ?_) | ((with_reducible refine at_store ?_); first | (refine ls hM ?_; clear hM; intro wx hM) | (refine lw hM ?_; clear hM; intro wx hM) | (refine lt hM ?_; clear hM; intro wx hM)) | ((with_reducible refine at_alloc ?_); refine lz hM ?_; clear hM; intro gx wx hM) | ((with_reducible refine at_box ?_); refine lb hM ?_; clear hM; intro gx wx hM))
  exact bodyPost_ret (results_mem_cell hM rfl (by rfl) (by repeat (first | exact List.Mem.head _ | apply List.Mem.tail)) (by first | exact row_nd | exact row_n | exact row_half | exact row_a32 | exact row_nd2 | exact row_n2 | exact row_two | exact row_claim | exact row_bld | exact row_bnds)) rfl ⟨by rw [HZ.out], hM.below⟩
end Go.Proofs.YtbbdnlcjjcmllaaDoor
namespace Go.Bul
open Go
section
variable {P : Program} {ops : Array Oper} {Q : Exit → Act → World → Prop} {S : World → Prop}
/-- The rest of a region, whatever order comes up; S holds behind every operation. -/
def wpAllH (P : Program) (ops : Array Oper) (Q : Exit → Act → World → Prop) (S : World → Prop) (listed : Array Bool) (a : Act) (w : World) : Prop := ∀ fuel, toCome listed ≤ fuel → wpAnyH P .any ops Q S fuel listed a w
theorem wp_region_allH {id : Nat} {a : Act} {w : World} {l : List Oper} (S : World → Prop) (hm : P.follows .mixedOrders = true) (h : wpAllH P l.toArray Q S (Array.replicate l.toArray.size false) a w.drew) : (Code.region id l.toArray true).wp P Q a w :=
  wp_region_held hm (h _ (by simp [toCome, List.countP_replicate]))
theorem wpAllH_done {listed : Array Bool} {a : Act} {w : World} (hr : Region.ready .any ops listed = []) (h : Q .normal a w) : wpAllH P ops Q S listed a w := fun fuel _ => wpAnyH_done hr h fuel
/-- Operations that yield in every world that meets S. -/
def wpHeld (P : Program) (ops : Array Oper) (S : World → Prop) (K : Act → Prop) : List Oper → Act → Prop
  | [], a => K a
  | o :: l, a => ∃ v, YieldsIf P ops S o v a ∧ wpHeld P ops S K l (a.put o.dst v)
theorem wpHeld_nil {K : Act → Prop} {a : Act} (h : K a) : wpHeld P ops S K [] a := h
theorem wpHeld_step {K : Act → Prop} {a : Act} {o : Oper} {l : List Oper} {v : Value} (hg : o.guard = none) (hy : ∀ w, S w → (execOp a.eval o).run P w = .ok (.value v) w)
    (h : ∀ K' : Act → Prop, (∀ a', wpHeld P ops S K l a' → K' a') → K' (a.put o.dst v)) : wpHeld P ops S K (o :: l) a :=
  ⟨v, .inl ⟨by simp [Region.wanted, hg], hy⟩, h _ fun _ h => h⟩
theorem wpAllH_takes {l : List Oper} (is : List Nat) (hsel : Region.noSelect l.toArray = true) (hQ : ∀ c a s v w, Q (.panic c) (Act.put a (some s) v) w → Q (.panic c) a w) {w : World} (hS : S w) : ∀ {listed : Array Bool} {a : Act}, takeB l.toArray is listed = true →
    wpHeld P l.toArray S (fun a' => wpAllH P l.toArray Q S (marks is listed) a' w) (pickOps l is) a → wpAllH P l.toArray Q S listed a w := by
  induction is with
  | nil => intro listed a _ h; exact h
  | cons i is ih =>
    intro listed a hB h
    simp only [takeB, Bool.and_eq_true] at hB
    obtain ⟨⟨hr, hf⟩, hB⟩ := hB
    have hr' : i ∈ Region.ready .any l.toArray listed := by simpa using hr
    obtain ⟨_, o, ho, _⟩ := mem_ready.1 hr'
    have hp : pickOps l (i :: is) = o :: pickOps l is := by
      have : l[i]? = some o := by simpa using ho
      simp [pickOps, this]
    rw [hp] at h
    obtain ⟨v, hy, h⟩ := h
    intro fuel hfuel
    obtain ⟨n, hn⟩ := toCome_pos hr'
    obtain ⟨f, rfl⟩ : ∃ f, fuel = f + 1 := ⟨fuel - 1, by omega⟩
    refine wpAnyH_take ho hsel hf hr (fun c a w hq => by cases hd : o.dst with | none => rw [hd] at hq; exact hq | some s => rw [hd] at hq; exact hQ c a s _ w hq) hy hS (ih hB h f ?_)
    have := toCome_set (mem_ready.1 hr').1
    omega
theorem wpOp_of_list {l : List Oper} {k : Nat} {o : Oper} {a : Act} {w : World} {W : Act → World → Prop} (ho : l[k]? = some o) (h : wpList P l.toArray (thenQ Q W) [o] a w) : wpOp P l.toArray Q k W a w := by
  have ho' : l.toArray[k]? = some o := by simpa using ho
  unfold wpOp
  simp only [ho']
  unfold wpList at h
  split
  · rename_i hw
    rw [if_pos hw] at h
    rcases h with h | ⟨h1, h2⟩
    · exact .inl (Oper.wp_mono (fun a' w' h' => h') (wp_of_then h))
    · exact .inr ⟨h1, h2⟩
  · rename_i hw
    rw [if_neg hw] at h
    exact h
theorem wpList_then {W : Act → World → Prop} {a : Act} {w : World} (h : W a w) : wpList P ops (thenQ Q W) [] a w := h
theorem then_normal {W : Act → World → Prop} {a : Act} {w : World} (h : W a w) : thenQ Q W .normal a w := h
/-- The only one that may come up. -/
theorem wpAllH_one {l : List Oper} {listed : Array Bool} (k : Nat) {o : Oper} {a : Act} {w : World} (ho : l[k]? = some o) (hr : Region.ready .any l.toArray listed = [k])
    (h : wpList P l.toArray (thenQ Q fun a' w' => S w' ∧ wpAllH P l.toArray Q S (listed.setIfInBounds k true) a' w') [o] a w) : wpAllH P l.toArray Q S listed a w := by
  intro fuel hfuel
  have hk : k ∈ Region.ready .any l.toArray listed := by rw [hr]; simp
  obtain ⟨n, hn⟩ := toCome_pos hk
  obtain ⟨f, rfl⟩ : ∃ f, fuel = f + 1 := ⟨fuel - 1, by omega⟩
  refine wpAnyH_all hr (by simp) fun i hi => ?_
  obtain rfl : i = k := by simpa using hi
  refine wpOp_mono (fun a' w' h' => ⟨h'.1, h'.2 f ?_⟩) (wpOp_of_list ho h)
  have := toCome_set (mem_ready.1 hk).1
  omega
/-- One of two. -/
theorem wpAllH_two {l : List Oper} {listed : Array Bool} (k j : Nat) {o u : Oper} {a : Act} {w : World} (ho : l[k]? = some o) (hu : l[j]? = some u) (hr : Region.ready .any l.toArray listed = [k, j])
    (h : wpList P l.toArray (thenQ Q fun a' w' => S w' ∧ wpAllH P l.toArray Q S (listed.setIfInBounds k true) a' w') [o] a w)
    (h2 : wpList P l.toArray (thenQ Q fun a' w' => S w' ∧ wpAllH P l.toArray Q S (listed.setIfInBounds j true) a' w') [u] a w) : wpAllH P l.toArray Q S listed a w := by
  intro fuel hfuel
  have hk : k ∈ Region.ready .any l.toArray listed := by rw [hr]; simp
  have hj : j ∈ Region.ready .any l.toArray listed := by rw [hr]; simp
  obtain ⟨n, hn⟩ := toCome_pos hk
  obtain ⟨f, rfl⟩ : ∃ f, fuel = f + 1 := ⟨fuel - 1, by omega⟩
  refine wpAnyH_all hr (by simp) fun i hi => ?_
  rcases List.mem_cons.1 hi with rfl | hi
  · refine wpOp_mono (fun a' w' h' => ⟨h'.1, h'.2 f ?_⟩) (wpOp_of_list ho h)
    have := toCome_set (mem_ready.1 hk).1
    omega
  · obtain rfl : i = j := by simpa using hi
    refine wpOp_mono (fun a' w' h' => ⟨h'.1, h'.2 f ?_⟩) (wpOp_of_list hu h2)
    have := toCome_set (mem_ready.1 hj).1
    omega
end
end Go.Bul
namespace Go.Bul
open Go
section
variable {P : Program} {ops : Array Oper} {Q : Exit → Act → World → Prop} {S : World → Prop} {k : Nat}
/-- Whatever order comes up; S holds behind each operation, till k has come up. -/
def wpAnyT (P : Program) (ops : Array Oper) (Q : Exit → Act → World → Prop) (S : World → Prop) (k : Nat) : Nat → Array Bool → Act → World → Prop
  | 0, listed, a, w => Region.ready .any ops listed = [] ∧ Q .normal a w
  | fuel + 1, listed, a, w =>
    (Region.ready .any ops listed = [] → Q .normal a w) ∧
    ∀ i ∈ Region.ready .any ops listed, wpOp P ops Q i (fun a' w' => ((listed.setIfInBounds i true).getD k false = true ∨ S w') ∧ wpAnyT P ops Q S k fuel (listed.setIfInBounds i true) a' w') a w
theorem wpAny_of_T : ∀ (fuel : Nat) (listed : Array Bool) (a : Act) (w : World), wpAnyT P ops Q S k fuel listed a w → wpAny P .any ops Q fuel listed a w
  | 0, _, _, _, h => h
  | fuel + 1, _, _, _, h => ⟨h.1, fun i hi => wpOp_mono (fun a' w' h' => wpAny_of_T fuel _ a' w' h'.2) (h.2 i hi)⟩
theorem wpAnyT_first {i : Nat} {oi : Oper} {v : Value} (hi : ops[i]? = some oi) (hsel : ∀ (j : Nat) (o : Oper) cs b, ops[j]? = some o → o.op ≠ .select cs b) (hik : Behind ops i k) (hne : k ≠ i)
    (hQ : ∀ c a w, Q (.panic c) (a.put oi.dst v) w → Q (.panic c) a w) :
    ∀ (fuel : Nat) (listed : Array Bool) (a : Act) (w : World), Closed ops listed →
      (∀ j oj, ops[j]? = some oj → j ≠ i → listed.getD j true = false → (∀ e ∈ oj.after, Region.binds .any e = true → e.on ≠ i) → oi.apart ops oj = true) →
      i ∈ Region.ready .any ops listed → YieldsIf P ops S oi v a → S w →
      wpAnyT P ops Q S k fuel (listed.setIfInBounds i true) (a.put oi.dst v) w → wpAnyT P ops Q S k (fuel + 1) listed a w := by
  intro fuel
  induction fuel with
  | zero =>
    intro listed a w _ _ hr hy hS H
    refine ⟨fun h => (by rw [h] at hr; cases hr), fun j hj => ?_⟩
    by_cases hji : j = i
    · subst hji; exact hy.wpOp hi hS ⟨.inr hS, H⟩
    · have := ready_mono hj hji
      rw [H.1] at this
      cases this
  | succ fuel ih =>
    intro listed a w hcl hfree hr hy hS H
    refine ⟨fun h => (by rw [h] at hr; cases hr), fun j hj => ?_⟩
    by_cases hji : j = i
    · subst hji; exact hy.wpOp hi hS ⟨.inr hS, H⟩
    · have h1 := H.2 j (ready_mono hj hji)
      obtain ⟨hjun, oj, hoj, hall⟩ := mem_ready.1 hj
      have hiun := (mem_ready.1 hr).1
      have hnot : ∀ e ∈ oj.after, Region.binds .any e = true → e.on ≠ i := fun e he hb heq => by
        have h1 := hall e he hb
        rw [heq, getD_both hiun] at h1
        cases h1
      have h2 := wpOp_putIf hoj (hfree j oj hoj hji hjun hnot) (fun cs b => hsel i oi cs b hi) (fun cs b => hsel j oj cs b hoj) hQ hy h1
      have hfree' : ∀ k ok, ops[k]? = some ok → k ≠ i → (listed.setIfInBounds j true).getD k true = false →
          (∀ e ∈ ok.after, Region.binds .any e = true → e.on ≠ i) → oi.apart ops ok = true := fun k ok hk hki hun hno => by
        refine hfree k ok hk hki ?_ hno
        by_cases hjk : j = k
        · subst hjk; exact hjun
        · rw [getD_set_ne true hjk] at hun; exact hun
      have hcl' := hcl.set hj
      have hr' := ready_mono hr (Ne.symm hji)
      have hkun : (listed.setIfInBounds j true).getD k false = false := (hik.waits hcl' (mem_ready.1 hr').1).2
      refine wpOp_mono (fun a' w' h3 => ?_) h2
      have hS' : S w' := by
        rcases h3.2.1 with h4 | h4
        · rw [Array.setIfInBounds_comm _ _ (Ne.symm hji), getD_set_ne false (Ne.symm hne)] at h4
          rw [h4] at hkun; cases hkun
        · exact h4
      refine ⟨.inr hS', ih (listed.setIfInBounds j true) a' w' hcl' hfree' hr' h3.1 hS' ?_⟩
      rw [Array.setIfInBounds_comm _ _ hji]
      exact h3.2.2
def wpAllT (P : Program) (ops : Array Oper) (Q : Exit → Act → World → Prop) (S : World → Prop) (k : Nat) (listed : Array Bool) (a : Act) (w : World) : Prop := ∀ fuel, toCome listed ≤ fuel → wpAnyT P ops Q S k fuel listed a w
theorem wp_region_allT {id : Nat} {a : Act} {w : World} {l : List Oper} (S : World → Prop) (k : Nat) (hm : P.follows .mixedOrders = true) (h : wpAllT P l.toArray Q S k (Array.replicate l.toArray.size false) a w.drew) : (Code.region id l.toArray true).wp P Q a w :=
  wp_region_any hm (wpAny_of_T _ _ _ _ (h _ (by simp [toCome, List.countP_replicate])))
theorem wpAnyT_all {rs : List Nat} {fuel : Nat} {listed : Array Bool} {a : Act} {w : World} (hr : Region.ready .any ops listed = rs) (hne : rs ≠ [])
    (h : ∀ i ∈ rs, wpOp P ops Q i (fun a' w' => ((listed.setIfInBounds i true).getD k false = true ∨ S w') ∧ wpAnyT P ops Q S k fuel (listed.setIfInBounds i true) a' w') a w) : wpAnyT P ops Q S k (fuel + 1) listed a w :=
  ⟨fun h0 => absurd (hr ▸ h0) hne, hr ▸ h⟩
/-- k has come up: no condition is left. -/
theorem wpAnyT_of_any : ∀ (fuel : Nat) (listed : Array Bool) (a : Act) (w : World), listed.getD k false = true → wpAny P .any ops Q fuel listed a w → wpAnyT P ops Q S k fuel listed a w
  | 0, _, _, _, _, h => h
  | fuel + 1, _, _, _, hk, h => ⟨h.1, fun i hi => wpOp_mono (fun a' w' h' => ⟨.inl (getD_set_true hk), wpAnyT_of_any fuel _ a' w' (getD_set_true hk) h'⟩) (h.2 i hi)⟩
theorem wpAllT_drop {listed : Array Bool} {a : Act} {w : World} (hk : listed.getD k false = true) (h : wpAll P ops Q listed a w) : wpAllT P ops Q S k listed a w := fun fuel hf => wpAnyT_of_any fuel _ _ _ hk (h fuel hf)
/-- Operations that yield in every world that meets S: a load, or one that does not look at the world. -/
theorem yields_load {C : World → Prop} {o : Oper} {a : Act} {v : Value} {w : World} {ty : TypeId} {x : Operand} (h : o.quietAt P a C w v) (ho : o.op = .load ty x) : (execOp a.eval o).run P w = .ok (.value v) w := by
  unfold Oper.quietAt at h
  have e : execOp a.eval o = (do pure (Next.value (← Instr.loadAt ty (a.eval x)))) := by simp only [execOp, ho]
  rw [e] at h ⊢
  simp only [Sem.run_bind] at h ⊢
  generalize (Instr.loadAt ty (a.eval x)).run P w = r at *
  cases r with
  | ok n w' =>
    simp only [Result.andThen_ok, Sem.run_pure, Oper.quietUpon] at h ⊢
    obtain ⟨rfl, rfl⟩ := h
    rfl
  | halt x w' => cases x <;> exact h.elim
/-- What is taken first: all stand behind k. -/
def takeT (ops : Array Oper) (k : Nat) (is : List Nat) (listed : Array Bool) : Bool := closedB ops listed && is.all (fun i => i != k && behindB ops i ops.size k) && takeB ops is listed
theorem wpAllT_takes' {l : List Oper} (hsel : Region.noSelect l.toArray = true) (hQ : ∀ c a s v w, Q (.panic c) (Act.put a (some s) v) w → Q (.panic c) a w) {w : World} (hS : S w) : ∀ {is : List Nat} {listed : Array Bool} {a : Act}, Closed l.toArray listed → (∀ i ∈ is, k ≠ i ∧ Behind l.toArray i k) → takeB l.toArray is listed = true →
    wpHeld P l.toArray S (fun a' => wpAllT P l.toArray Q S k (marks is listed) a' w) (pickOps l is) a → wpAllT P l.toArray Q S k listed a w := by
  intro is
  induction is with
  | nil => intro listed a _ _ _ h; exact h
  | cons i is ih =>
    intro listed a hcl hk hB h
    simp only [takeB, Bool.and_eq_true] at hB
    obtain ⟨⟨hr, hf⟩, hB⟩ := hB
    have hr' : i ∈ Region.ready .any l.toArray listed := by simpa using hr
    obtain ⟨_, o, ho, _⟩ := mem_ready.1 hr'
    have hp : pickOps l (i :: is) = o :: pickOps l is := by
      have : l[i]? = some o := by simpa using ho
      simp [pickOps, this]
    rw [hp] at h
    obtain ⟨v, hy, h⟩ := h
    intro fuel hfuel
    obtain ⟨n, hn⟩ := toCome_pos hr'
    obtain ⟨f, rfl⟩ : ∃ f, fuel = f + 1 := ⟨fuel - 1, by omega⟩
    refine wpAnyT_first ho (Region.noSelect_spec hsel) (hk i (by simp)).2 (hk i (by simp)).1 (fun c a w hq => by cases hd : o.dst with | none => rw [hd] at hq; exact hq | some s => rw [hd] at hq; exact hQ c a s _ w hq) f listed a w hcl (Region.free_spec ho hf) hr' hy hS (ih (hcl.set hr') (fun j hj => hk j (by simp [hj])) hB h f ?_)
    have := toCome_set (mem_ready.1 hr').1
    omega
theorem wpAllT_takes {l : List Oper} (is : List Nat) (hsel : Region.noSelect l.toArray = true) (hQ : ∀ c a s v w, Q (.panic c) (Act.put a (some s) v) w → Q (.panic c) a w) {w : World} (hS : S w) {listed : Array Bool} {a : Act} (hB : takeT l.toArray k is listed = true)
    (h : wpHeld P l.toArray S (fun a' => wpAllT P l.toArray Q S k (marks is listed) a' w) (pickOps l is) a) : wpAllT P l.toArray Q S k listed a w := by
  simp only [takeT, Bool.and_eq_true] at hB
  obtain ⟨⟨h1, h2⟩, h3⟩ := hB
  refine wpAllT_takes' hsel hQ hS (closed_of h1) (fun i hi => ?_) h3 h
  have h4 := List.all_eq_true.1 h2 i hi
  simp only [Bool.and_eq_true, bne_iff_ne, ne_eq] at h4
  exact ⟨fun e => h4.1 e.symm, behind_of h4.2⟩
/-- The only one that may come up. -/
theorem wpAllT_one {l : List Oper} {listed : Array Bool} (j : Nat) {o : Oper} {a : Act} {w : World} (ho : l[j]? = some o) (hr : Region.ready .any l.toArray listed = [j])
    (h : wpList P l.toArray (thenQ Q fun a' w' => ((listed.setIfInBounds j true).getD k false = true ∨ S w') ∧ wpAllT P l.toArray Q S k (listed.setIfInBounds j true) a' w') [o] a w) : wpAllT P l.toArray Q S k listed a w := by
  intro fuel hfuel
  have hk : j ∈ Region.ready .any l.toArray listed := by rw [hr]; simp
  obtain ⟨n, hn⟩ := toCome_pos hk
  obtain ⟨f, rfl⟩ : ∃ f, fuel = f + 1 := ⟨fuel - 1, by omega⟩
  refine wpAnyT_all hr (by simp) fun i hi => ?_
  obtain rfl : i = j := by simpa using hi
  refine wpOp_mono (fun a' w' h' => ⟨h'.1, h'.2 f ?_⟩) (wpOp_of_list ho h)
  have := toCome_set (mem_ready.1 hk).1
  omega
end
end Go.Bul
