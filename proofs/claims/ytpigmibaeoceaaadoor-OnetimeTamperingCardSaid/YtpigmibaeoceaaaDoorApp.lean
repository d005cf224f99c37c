/- append onto a row of the call's own, from whatever source; what an owned row reads as. -/
import Derived.Test.YtpigmibaeoceaaaDoorHash
import Derived.Maps.AppendAt
namespace Go.Proofs.YtpigmibaeoceaaaDoor
open Go Go.RowKit Go.Bul
section
variable {P : Program} {w : World}
theorem own_form {base : Nat} {e : TypeId} {size : Nat} {v : Value} {n : Nat} {xs : List Value} (h : w.ownsRow base e size v n xs) :
    ∃ A c, v = .slice A n c ∧ n ≤ c ∧ c ≤ maxLen ∧ (0 < n → ∃ g, A = some ⟨g, 0, none⟩ ∧ base ≤ g ∧ g < w.heap.size) := by
  rcases h.2 with ⟨rfl, rfl⟩ | ⟨g, cap, cur, rfl, hb, hg, hnc, hcm, _⟩
  · exact ⟨none, 0, rfl, Nat.le_refl _, by unfold maxLen; omega, fun h => absurd h (by omega)⟩
  · exact ⟨_, cap, rfl, hnc, hcm, fun _ => ⟨g, rfl, hb, (Array.getElem?_eq_some_iff.1 hg).1⟩⟩
theorem run_append_none (base : Nat) (t ty e : TypeId) (i : TypeInfo) (size : Nat) (ht : P.underlying t = some (.slice e)) (hi : P.info? e = some i)
    (v : Value) (n : Nat) (xs : List Value) (hown : w.ownsRow base e size v n xs) (c : Nat) : (Builtin.append_ #[t, t] ty #[v, .slice none 0 c]).run P w = .ok v w := by
  rcases hown.2 with ⟨rfl, rfl⟩ | ⟨g, cap, cur, rfl, _, _, hnc, _⟩
  · simp [Builtin.append_, run_underlying ht, sizeOf, typeInfo, hi, Builtin.lenOf, Builtin.firstCells]
  · simp [Builtin.append_, run_underlying ht, sizeOf, typeInfo, hi, Builtin.lenOf, Builtin.firstCells, hnc, storeCells]
theorem run_append_src (base : Nat) (t ty e : TypeId) (z : Value) (size bytes : Nat) (ht : P.underlying t = some (.slice e)) (hi : (P.info? e).map (fun i => (i.zero, i.size, i.bytes)) = some (some z, size, bytes)) (hzs : z.cells.size = size) (hsz : 0 < size)
    (v : Value) (n : Nat) (xs : List Value) (hown : w.ownsRow base e size v n xs)
    (A : Option Addr) (m c : Nat) (news : List Value) (hl : news.length = m * size) (hr : 0 < m → ∃ ad, A = some ad ∧ ∀ j u, news[j]? = some u → w.cell? (ad.add j) = some u) (h1 : ∀ u ∈ news, u.oneCell' = true)
    (h63 : n + m ≤ maxLen) (hbytes : (n + m) * bytes ≤ 140737488355328) (hbase : base ≤ w.heap.size) :
    ∃ A' c' w', (Builtin.append_ #[t, t] ty #[v, .slice A m c]).run P w = .ok (.slice A' (n + m) c') w' ∧ w'.ownsRow base e size (.slice A' (n + m) c') (n + m) (xs ++ news) ∧ w.grownBy w' v.ownBlock ∧
      ((Value.slice A' (n + m) c').ownBlock = v.ownBlock ∨ (Value.slice A' (n + m) c').ownBlock = some w.heap.size) := by
  obtain ⟨i, hi', hz', hs', hb'⟩ := info_parts hi
  have hgo : ∀ ad, A = some ad → (∀ j u, news[j]? = some u → w.cell? (ad.add j) = some u) → ∃ A' c' w', (Builtin.append_ #[t, t] ty #[v, .slice A m c]).run P w = .ok (.slice A' (n + m) c') w' ∧ w'.ownsRow base e size (.slice A' (n + m) c') (n + m) (xs ++ news) ∧ w.grownBy w' v.ownBlock ∧
      ((Value.slice A' (n + m) c').ownBlock = v.ownBlock ∨ (Value.slice A' (n + m) c').ownBlock = some w.heap.size) := by
    intro ad hA hc
    subst hA
    obtain ⟨v', w', hrun, h2, h3, _, h5⟩ := run_append_own_at (P := P) w base t ty e i z size bytes ht hi' hz' hs' hb' hzs hsz v n xs hown ad m c news hl hc h1 h63 hbytes hbase
    obtain ⟨A', c', rfl, _⟩ := own_form h2
    exact ⟨A', c', w', hrun, h2, h3, h5⟩
  rcases Nat.eq_zero_or_pos m with h0 | h0
  · subst h0
    have hn : news = [] := List.eq_nil_of_length_eq_zero (by simpa using hl)
    subst hn
    cases A with
    | none =>
      obtain ⟨A', c', rfl, _⟩ := own_form hown
      exact ⟨A', c', w, run_append_none base t ty e i size ht hi' _ n xs hown c, by simpa using hown, World.grownBy.refl w _, .inl rfl⟩
    | some ad => exact hgo ad rfl (fun j u hu => by simp at hu)
  · obtain ⟨ad, hA, hc⟩ := hr h0
    exact hgo ad hA hc
theorem wpList_append_src {ops : Array Oper} {rest : List Oper} {o : Oper} {a : Act} {Q : Exit → Act → World → Prop} (hgd : o.guard = none) (s x : Operand) (t : TypeId)
    (ho : o.op = .call { callee := .builtin .append, args := #[s, x], argTypes := #[t, t] })
    (base : Nat) (e : TypeId) (z : Value) (size bytes : Nat) (ht : P.underlying t = some (.slice e)) (hi : (P.info? e).map (fun i => (i.zero, i.size, i.bytes)) = some (some z, size, bytes)) (hzs : z.cells.size = size) (hsz : 0 < size)
    (v : Value) (n : Nat) (xs : List Value) (hs : a.eval s = v) (hown : w.ownsRow base e size v n xs)
    (A : Option Addr) (m c : Nat) (news : List Value) (hx : a.eval x = .slice A m c) (hl : news.length = m * size) (hr : 0 < m → ∃ ad, A = some ad ∧ ∀ j u, news[j]? = some u → w.cell? (ad.add j) = some u) (h1 : ∀ u ∈ news, u.oneCell' = true)
    (h63 : n + m ≤ maxLen) (hbytes : (n + m) * bytes ≤ 140737488355328) (hbase : base ≤ w.heap.size)
    (h : ∀ A' c' w', w'.ownsRow base e size (.slice A' (n + m) c') (n + m) (xs ++ news) → w.grownBy w' v.ownBlock → ((Value.slice A' (n + m) c').ownBlock = v.ownBlock ∨ (Value.slice A' (n + m) c').ownBlock = some w.heap.size) →
      wpList P ops Q rest (a.put o.dst (.slice A' (n + m) c')) w') : wpList P ops Q (o :: rest) a w :=
  wpList_plain hgd fun K hK => by
    obtain ⟨A', c', w', hrun, h2, h3, h4⟩ := run_append_src (P := P) base t o.type e z size bytes ht hi hzs hsz v n xs hown A m c news hl hr h1 h63 hbytes hbase
    unfold Oper.wp execOp
    simp only [ho, resolve, invoke, builtin, Sem.run_bind, Sem.run_pure, Result.andThen_ok, List.map_toArray, List.map_cons, List.map_nil, hs, hx, hrun]
    exact hK _ _ (h A' c' w' h2 h3 h4)
end
/-- A row of the call's own that reads as bytes. -/
def OwnB (w : World) (base : Nat) (v : Value) (xs : List Nat) : Prop := w.ownsRow base 5 1 v xs.length (vals .u8 xs)
theorem info_u8 : (Tryd.prog.info? 5).map (fun i => (i.zero, i.size, i.bytes)) = some (some (.int .u8 0), 1, 1) := by kernel_rfl
theorem OwnB.rd {w : World} {base : Nat} {A : Option Addr} {c : Nat} {xs : List Nat} {n : Nat} (h : OwnB w base (.slice A n c) xs) (hn : n = xs.length) (hb : Bytes xs) : Rd w (fun b => base ≤ b) A n xs ∧ n ≤ c := by
  subst hn
  obtain ⟨A', c', he, hc, _, hp⟩ := own_form h
  obtain ⟨rfl, rfl⟩ : A = A' ∧ c = c' := by injection he with h1 h2 h3; exact ⟨h1, h3⟩
  refine ⟨⟨rfl, hb, fun h0 => ?_⟩, hc⟩
  obtain ⟨g, rfl, hg, hlt⟩ := hp h0
  refine ⟨_, rfl, hg, hlt, fun j hj => h.cells rfl j _ ?_⟩
  rw [vals_get]
  simp [hj]
theorem OwnB.alloc {w : World} {base : Nat} {v : Value} {xs : List Nat} (h : OwnB w base v xs) (o : Obj) : OwnB (w.alloc o) base v xs := World.ownsRow.alloc h o
theorem OwnB.kept {w w' : World} {base : Nat} {v : Value} {xs : List Nat} (h : OwnB w base v xs) (hb : Below w.heap.size w w') : OwnB w' base v xs :=
  World.ownsRow.kept h (row := none) ⟨hb.os, hb.tape, hb.output, hb.size, fun i hi _ => hb.block i hi⟩ (by cases v.ownBlock <;> simp)
theorem OwnB.of_block {w : World} {base g : Nat} {xs : List Nat} (h : Blk w g 5 (cellsOf .u8 xs)) (hb : base ≤ g) (hm : xs.length ≤ maxLen) : OwnB w base (.slice (some ⟨g, 0, none⟩) xs.length xs.length) xs :=
  ⟨by simp, .inr ⟨g, _, _, rfl, hb, h, Nat.le_refl _, hm, by simp, by simp only [cellsOf, Nat.mul_one]; exact List.take_of_length_le (by simp)⟩⟩
theorem OwnB.block_ge {w : World} {base k : Nat} {v : Value} {xs : List Nat} (h : OwnB w base v xs) (hk : v.ownBlock = some k) : base ≤ k ∧ k < w.heap.size := by
  rcases h.2 with ⟨rfl, _⟩ | ⟨g, cap, cur, rfl, hb, hg, _⟩
  · simp [Value.ownBlock] at hk
  · simp [Value.ownBlock] at hk
    subst hk
    exact ⟨hb, (Array.getElem?_eq_some_iff.1 hg).1⟩
theorem OwnB.nil (w : World) (base : Nat) : OwnB w base (.slice none 0 0) [] := World.ownsRow_nil _ _ _ _
theorem Rd.one (w : World) (ok : Nat → Prop) (t : TypeId) (x : Nat) (y : Int) (hy : y = (x : Int)) (hx : x < 256) (ho : ok w.heap.size) : Rd (w.alloc (.cells #[.int .u8 y] t)) ok (some ⟨w.heap.size, 0, none⟩) 1 [x] := by
  refine ⟨rfl, Bytes.cons hx Bytes.nil, fun _ => ⟨_, rfl, ho, by simp, fun j hj => ?_⟩⟩
  obtain rfl : j = 0 := by omega
  subst hy
  exact (Blk.new w t _).cell 0
theorem Rd.of_block {w : World} {ok : Nat → Prop} {t : TypeId} {g : Nat} {xs : List Nat} (h : Blk w g t (cellsOf .u8 xs)) (hb : Bytes xs) (ho : ok g) : Rd w ok (some ⟨g, 0, none⟩) xs.length xs :=
  ⟨rfl, hb, fun _ => ⟨_, rfl, ho, h.lt, fun j hj => by rw [addr_at, Nat.zero_add]; exact h.num hj⟩⟩
/-- append bytes that a slice reads as. -/
theorem wpList_append_bytes {w : World} {ops : Array Oper} {rest : List Oper} {o : Oper} {a : Act} {Q : Exit → Act → World → Prop} (hgd : o.guard = none) (s x : Operand) (t : TypeId)
    (ho : o.op = .call { callee := .builtin .append, args := #[s, x], argTypes := #[t, t] }) (ht : Tryd.prog.underlying t = some (.slice 5))
    (base : Nat) (v : Value) (xs : List Nat) (hs : a.eval s = v) (hown : OwnB w base v xs) (ok : Nat → Prop) (A : Option Addr) (m c : Nat) (ys : List Nat) (hx : a.eval x = .slice A m c) (hr : Rd w ok A m ys)
    (zs : List Nat) (hzs : xs ++ ys = zs) (N : Nat) (hN : zs.length = N) (h63 : N ≤ 140737488355328) (hbase : base ≤ w.heap.size)
    (h : ∀ A' c' w', OwnB w' base (.slice A' N c') zs → N ≤ c' → w.grownBy w' v.ownBlock → ((Value.slice A' N c').ownBlock = v.ownBlock ∨ (Value.slice A' N c').ownBlock = some w.heap.size) →
      wpList Tryd.prog ops Q rest (a.put o.dst (.slice A' N c')) w') : wpList Tryd.prog ops Q (o :: rest) a w := by
  subst hzs
  have hl := hr.len
  have e : xs.length + m = N := by rw [← hN]; simp [hl]
  refine wpList_append_src hgd s x t ho base 5 (.int .u8 0) 1 1 ht info_u8 rfl (by decide) v xs.length (vals .u8 xs) hs hown A m c (vals .u8 ys) hx (by simp [hl]) (fun hm => ?_) (vals_one _ _) (by unfold maxLen; omega) (by omega) hbase ?_
  · obtain ⟨ad, hA, _⟩ := hr.at_ hm
    exact ⟨ad, hA, by have := hr.cells ys.length hA; rwa [List.take_of_length_le (Nat.le_refl _)] at this⟩
  · intro A' c' w' h2 h3 h4
    rw [e] at h2 h4 ⊢
    have h2' : OwnB w' base (.slice A' N c') (xs ++ ys) := by unfold OwnB; rw [hN]; rwa [show vals .u8 (xs ++ ys) = vals .u8 xs ++ vals .u8 ys by simp [vals]]
    obtain ⟨_, _, he, hc, _⟩ := own_form h2
    injection he with _ _ h6
    exact h A' c' w' h2' (by omega) h3 h4
theorem Rd.take {w : World} {ok : Nat → Prop} {A : Option Addr} {n : Nat} {bs : List Nat} (h : Rd w ok A n bs) (k : Nat) : Rd w ok A (min n k) (bs.take k) := by
  refine ⟨by rw [List.length_take, h.len]; omega, h.bytes.take k, fun h0 => ?_⟩
  obtain ⟨ad, hA, ho, hlt, hc⟩ := h.at_ (by omega)
  refine ⟨ad, hA, ho, hlt, fun j hj => ?_⟩
  rw [hc j (by omega)]
  congr 2
  simp [List.getD, show j < k by omega]
end Go.Proofs.YtpigmibaeoceaaaDoor
