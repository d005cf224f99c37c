/- append onto a row of the call's own, from whatever source; what an owned row reads as. Contract of (*sha256.Hash).Write: the Hash has been given the bytes besides. Conditions: the bytes lie in another block, the sum of the lengths is an int, the table of constants lies in its variable, which is another block. Contracts of (*sha256.Hash).Sum, New. Conditions: fewer than 2^40 bytes; the table of constants lies in its variable. -/
import Derived.Test.YtbbdnlcjjcmllaaDoorVd
import Derived.Maps.AppendAt
import Derived.StillTailTactics
namespace Go.Proofs.YtbbdnlcjjcmllaaDoor
open Go Go.RowKit Go.Bul
section
variable {P : Program} {w : World}
theorem own_form {base : Nat} {e : TypeId} {size : Nat} {v : Value} {n : Nat} {xs : List Value} (h : w.ownsRow base e size v n xs) :
    ∃ A c, v = .slice A n c ∧ n ≤ c ∧ c ≤ maxLen ∧ (0 < n → ∃ g, A = some ⟨g, 0, none⟩ ∧ base ≤ g ∧ g < w.heap.size) := by
  rcases h.2 with ⟨rfl, rfl⟩ | ⟨g, cap, cur, rfl, hb, hg, hnc, hcm, _⟩
  · exact ⟨none, 0, rfl, Nat.le_refl _, by unfold maxLen; omega, fun h => absurd h (by omega)⟩
  · exact ⟨_, cap, rfl, hnc, hcm, fun _ => ⟨g, rfl, hb, (Array.getElem?_eq_some_iff.1 hg).1⟩⟩
theorem run_append_none (base : Nat) (t ty e : TypeId) (i : TypeInfo) (size : Nat) (ht : P.underlying t = some (.slice e)) (hi : P.info? e = some i)
    (v : Value) (n : Nat) (xs : List Value) (hown : w.ownsRow base e size v n xs) (c : Nat) : (Builtin.append_ #[t, t] ty #[v, .slice none 0 c]).run P w = .ok v w := by
  rcases hown.2 with ⟨rfl, rfl⟩ | ⟨g, cap, cur, rfl, _, _, hnc, _⟩
  · simp [Builtin.append_, run_underlying ht, sizeOf, typeInfo, hi, Builtin.lenOf, Builtin.firstCells]
  · simp [Builtin.append_, run_underlying ht, sizeOf, typeInfo, hi, Builtin.lenOf, Builtin.firstCells, hnc, storeCells]
theorem run_append_src (base : Nat) (t ty e : TypeId) (z : Value) (size bytes : Nat) (ht : P.underlying t = some (.slice e)) (hi : (P.info? e).map (fun i => (i.zero, i.size, i.bytes)) = some (some z, size, bytes)) (hzs : z.cells.size = size) (hsz : 0 < size)
    (v : Value) (n : Nat) (xs : List Value) (hown : w.ownsRow base e size v n xs)
    (A : Option Addr) (m c : Nat) (news : List Value) (hl : news.length = m * size) (hr : 0 < m → ∃ ad, A = some ad ∧ ∀ j u, news[j]? = some u → w.cell? (ad.add j) = some u) (h1 : ∀ u ∈ news, u.oneCell' = true)
    (h63 : n + m ≤ maxLen) (hbytes : (n + m) * bytes ≤ 140737488355328) (hbase : base ≤ w.heap.size) :
    ∃ A' c' w', (Builtin.append_ #[t, t] ty #[v, .slice A m c]).run P w = .ok (.slice A' (n + m) c') w' ∧ w'.ownsRow base e size (.slice A' (n + m) c') (n + m) (xs ++ news) ∧ w.grownBy w' v.ownBlock ∧
      ((Value.slice A' (n + m) c').ownBlock = v.ownBlock ∨ (Value.slice A' (n + m) c').ownBlock = some w.heap.size) := by
  obtain ⟨i, hi', hz', hs', hb'⟩ := info_parts hi
  have hgo : ∀ ad, A = some ad → (∀ j u, news[j]? = some u → w.cell? (ad.add j) = some u) → ∃ A' c' w', (Builtin.append_ #[t, t] ty #[v, .slice A m c]).run P w = .ok (.slice A' (n + m) c') w' ∧ w'.ownsRow base e size (.slice A' (n + m) c') (n + m) (xs ++ news) ∧ w.grownBy w' v.ownBlock ∧
      ((Value.slice A' (n + m) c').ownBlock = v.ownBlock ∨ (Value.slice A' (n + m) c').ownBlock = some w.heap.size) := by
    intro ad hA hc
    subst hA
    obtain ⟨v', w', hrun, h2, h3, _, h5⟩ := run_append_own_at (P := P) w base t ty e i z size bytes ht hi' hz' hs' hb' hzs hsz v n xs hown ad m c news hl hc h1 h63 hbytes hbase
    obtain ⟨A', c', rfl, _⟩ := own_form h2
    exact ⟨A', c', w', hrun, h2, h3, h5⟩
  rcases Nat.eq_zero_or_pos m with h0 | h0
  · subst h0
    have hn : news = [] := List.eq_nil_of_length_eq_zero (by simpa using hl)
    subst hn
    cases A with
    | none =>
      obtain ⟨A', c', rfl, _⟩ := own_form hown
      exact ⟨A', c', w, run_append_none base t ty e i size ht hi' _ n xs hown c, by simpa using hown, World.grownBy.refl w _, .inl rfl⟩
    | some ad => exact hgo ad rfl (fun j u hu => by simp at hu)
  · obtain ⟨ad, hA, hc⟩ := hr h0
    exact hgo ad hA hc
theorem wpList_append_src {ops : Array Oper} {rest : List Oper} {o : Oper} {a : Act} {Q : Exit → Act → World → Prop} (hgd : o.guard = none) (s x : Operand) (t : TypeId)
    (ho : o.op = .call { callee := .builtin .append, args := #[s, x], argTypes := #[t, t] })
    (base : Nat) (e : TypeId) (z : Value) (size bytes : Nat) (ht : P.underlying t = some (.slice e)) (hi : (P.info? e).map (fun i => (i.zero, i.size, i.bytes)) = some (some z, size, bytes)) (hzs : z.cells.size = size) (hsz : 0 < size)
    (v : Value) (n : Nat) (xs : List Value) (hs : a.eval s = v) (hown : w.ownsRow base e size v n xs)
    (A : Option Addr) (m c : Nat) (news : List Value) (hx : a.eval x = .slice A m c) (hl : news.length = m * size) (hr : 0 < m → ∃ ad, A = some ad ∧ ∀ j u, news[j]? = some u → w.cell? (ad.add j) = some u) (h1 : ∀ u ∈ news, u.oneCell' = true)
    (h63 : n + m ≤ maxLen) (hbytes : (n + m) * bytes ≤ 140737488355328) (hbase : base ≤ w.heap.size)
    (h : ∀ A' c' w', w'.ownsRow base e size (.slice A' (n + m) c') (n + m) (xs ++ news) → w.grownBy w' v.ownBlock → ((Value.slice A' (n + m) c').ownBlock = v.ownBlock ∨ (Value.slice A' (n + m) c').ownBlock = some w.heap.size) →
      wpList P ops Q rest (a.put o.dst (.slice A' (n + m) c')) w') : wpList P ops Q (o :: rest) a w :=
  wpList_plain hgd fun K hK => by
    obtain ⟨A', c', w', hrun, h2, h3, h4⟩ := run_append_src (P := P) base t o.type e z size bytes ht hi hzs hsz v n xs hown A m c news hl hr h1 h63 hbytes hbase
    unfold Oper.wp execOp
    simp only [ho, resolve, invoke, builtin, Sem.run_bind, Sem.run_pure, Result.andThen_ok, List.map_toArray, List.map_cons, List.map_nil, hs, hx, hrun]
    exact hK _ _ (h A' c' w' h2 h3 h4)
end
/-- A row of the call's own that reads as bytes. -/
def OwnB (w : World) (base : Nat) (v : Value) (xs : List Nat) : Prop := w.ownsRow base 5 1 v xs.length (vals .u8 xs)
theorem info_u8 : (Tryd.prog.info? 5).map (fun i => (i.zero, i.size, i.bytes)) = some (some (.int .u8 0), 1, 1) := by kernel_rfl
theorem OwnB.rd {w : World} {base : Nat} {A : Option Addr} {c : Nat} {xs : List Nat} {n : Nat} (h : OwnB w base (.slice A n c) xs) (hn : n = xs.length) (hb : Bytes xs) : Rd w (fun b => base ≤ b) A n xs ∧ n ≤ c := by
  subst hn
  obtain ⟨A', c', he, hc, _, hp⟩ := own_form h
  obtain ⟨rfl, rfl⟩ : A = A' ∧ c = c' := by injection he with h1 h2 h3; exact ⟨h1, h3⟩
  refine ⟨⟨rfl, hb, fun h0 => ?_⟩, hc⟩
  obtain ⟨g, rfl, hg, hlt⟩ := hp h0
  refine ⟨_, rfl, hg, hlt, fun j hj => h.cells rfl j _ ?_⟩
  rw [vals_get]
  simp [hj]
theorem OwnB.alloc {w : World} {base : Nat} {v : Value} {xs : List Nat} (h : OwnB w base v xs) (o : Obj) : OwnB (w.alloc o) base v xs := World.ownsRow.alloc h o
theorem OwnB.kept {w w' : World} {base : Nat} {v : Value} {xs : List Nat} (h : OwnB w base v xs) (hb : Below w.heap.size w w') : OwnB w' base v xs :=
  World.ownsRow.kept h (row := none) ⟨hb.os, hb.tape, hb.output, hb.size, fun i hi _ => hb.block i hi⟩ (by cases v.ownBlock <;> simp)
theorem OwnB.of_block {w : World} {base g : Nat} {xs : List Nat} (h : Blk w g 5 (cellsOf .u8 xs)) (hb : base ≤ g) (hm : xs.length ≤ maxLen) : OwnB w base (.slice (some ⟨g, 0, none⟩) xs.length xs.length) xs :=
  ⟨by simp, .inr ⟨g, _, _, rfl, hb, h, Nat.le_refl _, hm, by simp, by simp only [cellsOf, Nat.mul_one]; exact List.take_of_length_le (by simp)⟩⟩
theorem OwnB.block_ge {w : World} {base k : Nat} {v : Value} {xs : List Nat} (h : OwnB w base v xs) (hk : v.ownBlock = some k) : base ≤ k ∧ k < w.heap.size := by
  rcases h.2 with ⟨rfl, _⟩ | ⟨g, cap, cur, rfl, hb, hg, _⟩
  · simp [Value.ownBlock] at hk
  · simp [Value.ownBlock] at hk
    subst hk
    exact ⟨hb, (Array.getElem?_eq_some_iff.1 hg).1⟩
theorem OwnB.nil (w : World) (base : Nat) : OwnB w base (.slice none 0 0) [] := World.ownsRow_nil _ _ _ _
theorem Rd.one (w : World) (ok : Nat → Prop) (t : TypeId) (x : Nat) (y : Int) (hy : y = (x : Int)) (hx : x < 256) (ho : ok w.heap.size) : Rd (w.alloc (.cells #[.int .u8 y] t)) ok (some ⟨w.heap.size, 0, none⟩) 1 [x] := by
  refine ⟨rfl, Bytes.cons hx Bytes.nil, fun _ => ⟨_, rfl, ho, by simp, fun j hj => ?_⟩⟩
  obtain rfl : j = 0 := by omega
  subst hy
  exact (Blk.new w t _).cell 0
theorem Rd.of_block {w : World} {ok : Nat → Prop} {t : TypeId} {g : Nat} {xs : List Nat} (h : Blk w g t (cellsOf .u8 xs)) (hb : Bytes xs) (ho : ok g) : Rd w ok (some ⟨g, 0, none⟩) xs.length xs :=
  ⟨rfl, hb, fun _ => ⟨_, rfl, ho, h.lt, fun j hj => by rw [addr_at, Nat.zero_add]; exact h.num hj⟩⟩
/-- append bytes that a slice reads as. -/
theorem wpList_append_bytes {w : World} {ops : Array Oper} {rest : List Oper} {o : Oper} {a : Act} {Q : Exit → Act → World → Prop} (hgd : o.guard = none) (s x : Operand) (t : TypeId)
    (ho : o.op = .call { callee := .builtin .append, args := #[s, x], argTypes := #[t, t] }) (ht : Tryd.prog.underlying t = some (.slice 5))
    (base : Nat) (v : Value) (xs : List Nat) (hs : a.eval s = v) (hown : OwnB w base v xs) (ok : Nat → Prop) (A : Option Addr) (m c : Nat) (ys : List Nat) (hx : a.eval x = .slice A m c) (hr : Rd w ok A m ys)
    (zs : List Nat) (hzs : xs ++ ys = zs) (N : Nat) (hN : zs.length = N) (h63 : N ≤ 140737488355328) (hbase : base ≤ w.heap.size)
    (h : ∀ A' c' w', OwnB w' base (.slice A' N c') zs → N ≤ c' → w.grownBy w' v.ownBlock → ((Value.slice A' N c').ownBlock = v.ownBlock ∨ (Value.slice A' N c').ownBlock = some w.heap.size) →
      wpList Tryd.prog ops Q rest (a.put o.dst (.slice A' N c')) w') : wpList Tryd.prog ops Q (o :: rest) a w := by
  subst hzs
  have hl := hr.len
  have e : xs.length + m = N := by rw [← hN]; simp [hl]
  refine wpList_append_src hgd s x t ho base 5 (.int .u8 0) 1 1 ht info_u8 rfl (by decide) v xs.length (vals .u8 xs) hs hown A m c (vals .u8 ys) hx (by simp [hl]) (fun hm => ?_) (vals_one _ _) (by unfold maxLen; omega) (by omega) hbase ?_
  · obtain ⟨ad, hA, _⟩ := hr.at_ hm
    exact ⟨ad, hA, by have := hr.cells ys.length hA; rwa [List.take_of_length_le (Nat.le_refl _)] at this⟩
  · intro A' c' w' h2 h3 h4
    rw [e] at h2 h4 ⊢
    have h2' : OwnB w' base (.slice A' N c') (xs ++ ys) := by unfold OwnB; rw [hN]; rwa [show vals .u8 (xs ++ ys) = vals .u8 xs ++ vals .u8 ys by simp [vals]]
    obtain ⟨_, _, he, hc, _⟩ := own_form h2
    injection he with _ _ h6
    exact h A' c' w' h2' (by omega) h3 h4
theorem Rd.take {w : World} {ok : Nat → Prop} {A : Option Addr} {n : Nat} {bs : List Nat} (h : Rd w ok A n bs) (k : Nat) : Rd w ok A (min n k) (bs.take k) := by
  refine ⟨by rw [List.length_take, h.len]; omega, h.bytes.take k, fun h0 => ?_⟩
  obtain ⟨ad, hA, ho, hlt, hc⟩ := h.at_ (by omega)
  refine ⟨ad, hA, ho, hlt, fun j hj => ?_⟩
  rw [hc j (by omega)]
  congr 2
  simp [List.getD, show j < k by omega]
end Go.Proofs.YtbbdnlcjjcmllaaDoor
namespace Go.Proofs.YtbbdnlcjjcmllaaDoor
open Go Go.RowKit Go.Bul
theorem size_words : (Tryd.prog.info? 143).map (·.size) = some 8 := by kernel_rfl
theorem size_hash : (Tryd.prog.info? 145).map (·.size) = some 73 := by kernel_rfl
def lenOf : Value → Nat | .slice _ n _ => n | _ => 0
set_option maxRecDepth 20000 in
set_option maxHeartbeats 1000000 in
theorem write_any (g : Nat) (l bs : List Nat) (A : Option Addr) (n c : Nat) (w : World) (hh : HashAt w g l) (hr : Rd w (· ≠ g) A n bs) (hn : n ≤ c) (hsum : l.length + n ≤ 9223372036854775807) (hT : Tab w) (hg : 1 ≠ g) :
    Calls Tryd.prog 75 #[.pointer (some ⟨g, 0, none⟩), .slice A n c] w fun e w' => e = .returned (.int .i64 0) ∧ HashAt w' g (l ++ bs) ∧ Only g w w' := by
  obtain ⟨st, blk, hB, hblk, hbb, htk, hst⟩ := hh.ex
  have hlen := hashc_len st blk l.length hblk
  rw [← hB.cell] at hlen
  have hlt := hB.lt
  have HT := Lib.hid hT
  have HH := Lib.hid hh
  have HR := Lib.hid hr
  have HSt := Lib.hid hst
  have HTk := Lib.hid htk
  have HBlk := Lib.hid hblk
  have hL := hh.size
  clear hT hh hr hst htk hblk
  by_cases h0 : l = []
  · have e0 : (((l.length : Nat) : Int) == 0) = true := by simp [h0]
    have H0 := Lib.hid h0
    clear h0
    go_enter Tryd.func75, Tryd.ntmps75
    go_wp2_with fail
    (with_reducible refine (initial_any _).mono ?_)
    rintro e w1 ⟨rfl, hb1⟩
    have hB1 := hB.kept hb1
    go_wp2_with (refine wpList_store_part rfl 143 (.tmp 16) (.tmp 14) rfl g 0 rfl (stc Bul.ini) rfl 145 (hashc st blk l.length) 8 hB1 size_words rfl (by rw [hashc_size _ _ _ HBlk.out]; omega) (vals_one _ _) rfl ?_; intro w2 hw2)
    rw [hashc_set_state] at hw2
    have hstart : Rd w2 (· ≠ g) A n bs ∧ HashLoop w2 g l ∧ Only g w w2 := by
      have ho : Only g w w2 := by rw [hw2]; exact (Only.of_below hb1).setRow _
      refine ⟨HR.out.keep ho.size fun b hb hlt => ho.block b hlt (by rintro ⟨⟩; exact hb rfl), ⟨HH.out.bytes, HH.out.size, blk, ?_, HBlk.out, hbb, HTk.out⟩, ho⟩
      rw [hw2, H0.out]
      exact hB1.row _
    clear hlen hB hB1 hb1 hw2 hL
    go_loopw [1] (fun b wr => ∃ (k : Nat) (A' : Option Addr) (c' : Nat), k ≤ n ∧ n - k ≤ c' ∧ b = .slice A' (n - k) c' ∧ Rd wr (· ≠ g) A' (n - k) (bs.drop k) ∧ HashLoop wr g (l ++ bs.take k) ∧ Only g w wr) (fun b _ => lenOf b)
    case atStart => exact ⟨0, A, c, by omega, by omega, rfl, hstart.1, by simpa using hstart.2.1, hstart.2.2⟩
    case round =>
      clear hstart
      obtain ⟨k, A', c', hk, hc', rfl, hrd, hl, hon⟩ := hrel
      by_cases hlt : k < n
      · obtain ⟨blk', hB', hblk', hbb', htk'⟩ := hl.ex
        obtain ⟨m, hm⟩ : ∃ m, m = (l ++ bs.take k).length := ⟨_, rfl⟩
        obtain ⟨r, hr⟩ : ∃ r, r = m % 64 := ⟨_, rfl⟩
        have hml : m = l.length + k := by rw [hm, List.length_append, List.length_take, HR.out.len]; omega
        have c72 : wr.cell? ⟨g, 72, none⟩ = some (.int .i64 (m : Nat)) := by rw [hB'.cell, hashc_len _ _ _ hblk', hm]
        have f72 : wr.frozen? ⟨g, 72, none⟩ = false := hB'.free _
        have e0 : (m : Int).tmod 64 = (r : Int) := by rw [Int.tmod_eq_emod_of_nonneg (by omega)]; omega
        have b0 : (r : Int) < 64 := by omega
        have b1 : (r : Int) ≤ 64 := by omega
        have b2 : ¬ (64 = r) := by omega
        have hlen0 : (0 : Int) < ((n - k : Nat) : Int) := by omega
        have hml2 : m + (n - k) ≤ 9223372036854775807 := by omega
        have H := Lib.hid (And.intro hm (And.intro hr hml))
        clear hm hr hml
        go_wp2_with fail
        refine Go.Bul.wp_region_class_tail (fun w' => w' = Go.World.drew _) 10 (by kernel_rfl) (by kernel_rfl) rfl ?_
        simp only [List.take_succ_cons, List.take_zero, List.drop_succ_cons, List.drop_zero]
        repeat (quiet_step (fail))
        refine wpQuiet_nil ?_
        rintro w' rfl
        obtain ⟨hm, hr, hml⟩ := H.out
        obtain ⟨p, hp⟩ : ∃ p, p = min (n - k) (64 - r) := ⟨_, rfl⟩
        obtain ⟨ad, hA, hne, hadlt, hcells⟩ := hrd.at_ (by omega)
        have hbl : (bs.drop k).length = n - k := hrd.len
        have hcl : (vals .u8 ((bs.drop k).take p)).length = p := by rw [vals_length, List.length_take, hbl]; omega
        have hsrc := hrd.cells p hA
        have hbk : Blk wr.drew g 145 (hashc (after (l ++ bs.take k)) blk' m) := by rw [hm]; exact hB'.drew
        refine wpList_copy_named rfl (.tmp 28) (.tmp 29) 79 79 rfl 5 Tryd.underlying79 size_u8 g (8 + r) (64 - r) (64 - r) ad (n - k) c' rfl (by rw [hA]; rfl) _ _ hbk (vals .u8 ((bs.drop k).take p)) p hcl hp hsrc (by rw [hashc_size _ _ _ hblk']; omega) (vals_one _ _) ?_
        intro w2 hw2
        obtain ⟨blk2, hblk2⟩ : ∃ b, b = blk'.take r ++ ((bs.drop k).take p ++ blk'.drop (r + p)) := ⟨_, rfl⟩
        have hcl' : ((bs.drop k).take p).length = p := by simpa using hcl
        have hb2 : Blk w2 g 145 (hashc (after (l ++ bs.take k)) blk2 m) := by
          rw [hw2, hblk2]
          have := hashl_splice (after (l ++ bs.take k)) blk' m r ((bs.drop k).take p) hblk' (by omega)
          rw [hcl'] at this
          rw [this]
          exact hbk.row _
        have ho2 : Only g w w2 := by rw [hw2]; exact hon.drew.setRow _
        have hl2 : blk2.length = 64 := by rw [hblk2]; simp [hcl', hblk']; omega
        have hbb2 : Bytes blk2 := by rw [hblk2]; exact (hbb'.take _).append (((HR.out.bytes.drop _).take _).append (hbb'.drop _))
        have hrd2 : Rd w2 (· ≠ g) A' (n - k) (bs.drop k) := by
          rw [hw2]
          exact hrd.keep (by simp) fun b hb hlt => (setRow_other _ _ _ _ hb).trans rfl
        have hrd3 := hrd2.cut (k := p) (cap := c') (by omega) hc'
        obtain ⟨A3, hA3⟩ : ∃ A3, A3 = (if c' = p then A' else A'.map (·.add p)) := ⟨_, rfl⟩
        have EA : (if c' = p then A' else Option.map (fun x => x.add p) A') = A3 := hA3.symm
        rw [EA] at hrd3
        have d72 : w2.cell? ⟨g, 72, none⟩ = some (.int .i64 (m : Nat)) := by rw [hb2.cell, hashc_len _ _ _ hl2]
        have g72 : w2.frozen? ⟨g, 72, none⟩ = false := hb2.free _
        have bp : p ≤ n - k := by omega
        have bp0 : 0 < p := by omega
        have hch : ((bs.drop k).take p).length = p := hcl'
        have htake := take_more bs k p
        have hbk3 : ∀ u, Blk (w2.setCell ⟨g, 72, none⟩ (.int .i64 ((m + p : Nat) : Int))) g 145 (hashc u blk2 (m + p)) ∨ True := fun _ => .inr trivial
        clear hbk3
        have kB : Blk (w2.setCell ⟨g, 72, none⟩ (.int .i64 ((m + p : Nat) : Int))) g 145 (hashc (after (l ++ bs.take k)) blk2 (m + p)) := by
          rw [← hashc_set_len _ _ m _ hl2]; exact hb2.set _ _
        have kO : Only g w (w2.setCell ⟨g, 72, none⟩ (.int .i64 ((m + p : Nat) : Int))) := ho2.setCell _ _
        have kR : Rd (w2.setCell ⟨g, 72, none⟩ (.int .i64 ((m + p : Nat) : Int))) (· ≠ g) A3 (n - (k + p)) (bs.drop (k + p)) := by
          have h1 := hrd3.keep (w' := w2.setCell ⟨g, 72, none⟩ (.int .i64 ((m + p : Nat) : Int))) (by simp [World.setCell]) fun b hb _ => Below.heap_setCell _ _ _ _ hb
          rw [List.drop_drop, show n - k - p = n - (k + p) by omega] at h1
          exact h1
        by_cases hfull : r + p = 64
        · have ef : (((m : Int) + (p : Int)) % 64 == 0) = true := by simp; omega
          have G := Lib.hid (And.intro hp (And.intro hblk2 (And.intro hA (And.intro hw2 (And.intro hl2 (And.intro hfull (And.intro hch htake)))))))
          clear hm hr hml hp hblk2 hA hw2 hl2 hcl hcl' hsrc hbk hbl hcells hA3 e0 c72 f72 hrd hon hfull hch htake
          go_wp2_with fail
          refine wp_named (fun wb hwb => ?_)
          have ecast : (m : Int) + (p : Int) = ((m + p : Nat) : Int) := by omega
          rw [ecast] at hwb
          rw [← hwb] at kB kO kR
          clear hwb ecast
          have hT2 : Tab wb := HT.out.only kO hg
          have hl2 : blk2.length = 64 := by obtain ⟨_, _, _, _, h, _⟩ := G.out; exact h
          have HL2 := Lib.hid hl2
          have HTb := Lib.hid hT2
          clear hl2 hT2
          refine Go.Bul.wp_region_class_tail (fun w' => Below wb.heap.size wb w') 13 (by kernel_rfl) (by kernel_rfl) (Below.drew (Below.refl _ _)) ?_
          simp only [List.take_succ_cons, List.take_zero, List.drop_succ_cons, List.drop_zero]
          refine wpQuiet_step (fun K hK => ?_)
          refine Go.Bul.quiet_some rfl ?_
          apply Exists.intro
          refine ⟨fun w' hw' => ?_, ?_⟩
          · skip
            go_simp
            rfl
          go_simp
          refine hK _ ?_
          clear hK K
          refine wpQuiet_step (fun K hK => ?_)
          refine Go.Bul.quiet_some rfl ?_
          apply Exists.intro
          refine ⟨fun w' hw' => ?_, ?_⟩
          · skip
            go_simp
            rfl
          go_simp
          refine hK _ ?_
          clear hK K
          refine wpQuiet_step (fun K hK => ?_)
          refine Go.Bul.quiet_some rfl ?_
          apply Exists.intro
          refine ⟨fun w' hw' => ?_, ?_⟩
          · skip
            go_simp
            rfl
          go_simp
          refine hK _ ?_
          clear hK K
          refine wpQuiet_step (fun K hK => ?_)
          refine Go.Bul.quiet_some rfl ?_
          apply Exists.intro
          refine ⟨fun w' hw' => ?_, ?_⟩
          · skip
            go_simp
            rfl
          go_simp
          refine hK _ ?_
          clear hK K
          refine wpQuiet_step (fun K hK => ?_)
          refine Go.Bul.quiet_some rfl ?_
          apply Exists.intro
          refine ⟨fun w' hw' => ?_, ?_⟩
          · exact Go.Bul.quietAt_load 143 (.tmp 51) rfl g 0 rfl 145 _ 8 _ (kB.kept hw') Tryd.underlying143 rfl size_words (by rw [hashc_size _ _ _ HL2.out]; omega) _ (hashc_state8 _ _ _)
          go_simp
          refine hK _ ?_
          clear hK K
          refine wpQuiet_step (fun K hK => ?_)
          refine Go.Bul.quiet_some rfl ?_
          apply Exists.intro
          refine ⟨fun w' hw' => ?_, ?_⟩
          · skip
            go_simp
            rfl
          go_simp
          refine hK _ ?_
          clear hK K
          refine wpQuiet_step (fun K hK => ?_)
          refine Go.Bul.quiet_some rfl ?_
          apply Exists.intro
          refine ⟨fun w' hw' => ?_, ?_⟩
          · skip
            go_simp
            rfl
          go_simp
          refine hK _ ?_
          clear hK K
          refine wpQuiet_step (fun K hK => ?_)
          refine Go.Bul.quiet_some rfl ?_
          apply Exists.intro
          refine ⟨fun w' hw' => ?_, ?_⟩
          · skip
            go_simp
            rfl
          go_simp
          refine hK _ ?_
          clear hK K
          refine wpQuiet_step (fun K hK => ?_)
          refine Go.Bul.quiet_some rfl ?_
          apply Exists.intro
          refine ⟨fun w' hw' => ?_, ?_⟩
          · exact Go.Bul.quietAt_load 135 (.tmp 55) rfl g 8 rfl 145 _ 64 _ (kB.kept hw') Tryd.underlying135 rfl size_b64 (by rw [hashc_size _ _ _ HL2.out]; omega) _ (hashc_block _ _ _ HL2.out)
          go_simp
          refine hK _ ?_
          clear hK K
          refine wpQuiet_step (fun K hK => ?_)
          refine Go.Bul.quiet_some rfl ?_
          apply Exists.intro
          refine ⟨fun w' hw' => ?_, ?_⟩
          · go_simp
            exact Go.Bul.quiet_call hw' (load_any blk2 w' hbb2 HL2.out)
          go_simp
          refine hK _ ?_
          clear hK K
          refine wpQuiet_step (fun K hK => ?_)
          refine Go.Bul.quiet_some rfl ?_
          apply Exists.intro
          refine ⟨fun w' hw' => ?_, ?_⟩
          · go_simp
            exact Go.Bul.quiet_call hw' (process_any (after (l ++ bs.take k)) _ (word blk2) w' (after_ok _) (by simp) (fun j hj => range_map_getD _ _ _ hj) (fun j _ => word_lt hbb2 j) (HTb.out.keep hw'))
          go_simp
          refine hK _ ?_
          clear hK K
          refine wpQuiet_step (fun K hK => ?_)
          refine Go.Bul.quiet_some rfl ?_
          apply Exists.intro
          refine ⟨fun w' hw' => ?_, ?_⟩
          · skip
            go_simp
            rfl
          go_simp
          refine hK _ ?_
          clear hK K
          refine wpQuiet_step (fun K hK => ?_)
          refine Go.Bul.quiet_some rfl ?_
          apply Exists.intro
          refine ⟨fun w' hw' => ?_, ?_⟩
          · skip
            go_simp
            rfl
          go_simp
          refine hK _ ?_
          clear hK K
          refine wpQuiet_nil ?_
          intro w3 hb3
          refine wpList_store_part rfl 143 (.tmp 60) (.tmp 58) rfl g 0 rfl (stc (compress (after (l ++ bs.take k)) (word blk2))) rfl 145 _ 8 (kB.kept hb3) size_words rfl (by rw [hashc_size _ _ _ HL2.out]; omega) (vals_one _ _) rfl ?_
          intro w4 hw4
          rw [hashc_set_state] at hw4
          have HW4 := Lib.hid hw4
          clear hw4
          go_wp2_with fail
          obtain ⟨hm, hr, hml⟩ := H.out
          obtain ⟨hp, hblk2, hA, hw2, _, hfull, hch, htake⟩ := G.out
          have kB3 := kB.kept hb3
          have ho4 : Only g wb w4 := by rw [HW4.out]; exact (Only.of_below hb3).setRow _
          refine ⟨⟨k + p, A3, c' - p, by omega, by omega, by rw [show n - (k + p) = n - k - p by omega], kR.keep ho4.size (fun b hb hlt => ho4.block b hlt (by rintro ⟨⟩; exact hb rfl)), ?_, kO.trans ho4⟩, by simp only [lenOf]; omega⟩
          rw [htake, ← List.append_assoc]
          exact HashLoop.full hl.bytes ((HR.out.bytes.drop k).take p) (by rw [List.length_append, ← hm, hch]; omega) (by rw [← hm, hch]; omega) hblk' htk' (by rw [← hm, hch, ← hr]; exact hblk2) hbb2 (by rw [← hm, hch, HW4.out]; exact kB3.row _)
        · have ef : (((m : Int) + (p : Int)) % 64 == 0) = false := by simp; omega
          have G := Lib.hid (And.intro hp (And.intro hblk2 (And.intro hA (And.intro hw2 (And.intro hl2 (And.intro hfull (And.intro hch htake)))))))
          clear hm hr hml hp hblk2 hA hw2 hl2 hcl hcl' hsrc hbk hbl hcells hA3 e0 c72 f72 hrd hon hfull hch htake
          go_wp2_with fail
          obtain ⟨hm, hr, hml⟩ := H.out
          obtain ⟨hp, hblk2, hA, hw2, hl2, hfull, hch, htake⟩ := G.out
          have ecast : (m : Int) + (p : Int) = ((m + p : Nat) : Int) := by omega
          rw [ecast]
          refine ⟨⟨k + p, A3, c' - p, by omega, by omega, by rw [show n - (k + p) = n - k - p by omega], kR, ?_, kO⟩, by simp only [lenOf]; omega⟩
          rw [htake, ← List.append_assoc]
          exact HashLoop.part hl.bytes ((HR.out.bytes.drop k).take p) (by rw [List.length_append, ← hm, hch]; omega) (by rw [← hm, hch]; omega) hblk' htk' (by rw [← hm, hch, ← hr]; exact hblk2) hbb2 (by rw [← hm, hch]; exact kB)
      · obtain rfl : k = n := by omega
        go_wp2_with fail
        go_ret
        refine ⟨rfl, ?_, hon⟩
        have := hl.at_
        rwa [List.take_of_length_le (by rw [HR.out.len]; omega)] at this
  · have e0 : (((l.length : Nat) : Int) == 0) = false := by
      have : l.length ≠ 0 := fun h => h0 (List.eq_nil_of_length_eq_zero h)
      simp; omega
    have H0 := Lib.hid h0
    clear h0
    have hstart : Rd w (· ≠ g) A n bs ∧ HashLoop w g l ∧ Only g w w :=
      ⟨HR.out, ⟨HH.out.bytes, HH.out.size, blk, by rw [← HSt.out H0.out]; exact hB, HBlk.out, hbb, HTk.out⟩, Only.refl _ _⟩
    go_enter Tryd.func75, Tryd.ntmps75
    go_wp2_with fail
    clear hlen hB hL
    go_loopw [1] (fun b wr => ∃ (k : Nat) (A' : Option Addr) (c' : Nat), k ≤ n ∧ n - k ≤ c' ∧ b = .slice A' (n - k) c' ∧ Rd wr (· ≠ g) A' (n - k) (bs.drop k) ∧ HashLoop wr g (l ++ bs.take k) ∧ Only g w wr) (fun b _ => lenOf b)
    case atStart => exact ⟨0, A, c, by omega, by omega, rfl, hstart.1, by simpa using hstart.2.1, hstart.2.2⟩
    case round =>
      clear hstart
      obtain ⟨k, A', c', hk, hc', rfl, hrd, hl, hon⟩ := hrel
      by_cases hlt : k < n
      · obtain ⟨blk', hB', hblk', hbb', htk'⟩ := hl.ex
        obtain ⟨m, hm⟩ : ∃ m, m = (l ++ bs.take k).length := ⟨_, rfl⟩
        obtain ⟨r, hr⟩ : ∃ r, r = m % 64 := ⟨_, rfl⟩
        have hml : m = l.length + k := by rw [hm, List.length_append, List.length_take, HR.out.len]; omega
        have c72 : wr.cell? ⟨g, 72, none⟩ = some (.int .i64 (m : Nat)) := by rw [hB'.cell, hashc_len _ _ _ hblk', hm]
        have f72 : wr.frozen? ⟨g, 72, none⟩ = false := hB'.free _
        have e0 : (m : Int).tmod 64 = (r : Int) := by rw [Int.tmod_eq_emod_of_nonneg (by omega)]; omega
        have b0 : (r : Int) < 64 := by omega
        have b1 : (r : Int) ≤ 64 := by omega
        have b2 : ¬ (64 = r) := by omega
        have hlen0 : (0 : Int) < ((n - k : Nat) : Int) := by omega
        have hml2 : m + (n - k) ≤ 9223372036854775807 := by omega
        have H := Lib.hid (And.intro hm (And.intro hr hml))
        clear hm hr hml
        go_wp2_with fail
        refine Go.Bul.wp_region_class_tail (fun w' => w' = Go.World.drew _) 10 (by kernel_rfl) (by kernel_rfl) rfl ?_
        simp only [List.take_succ_cons, List.take_zero, List.drop_succ_cons, List.drop_zero]
        repeat (quiet_step (fail))
        refine wpQuiet_nil ?_
        rintro w' rfl
        obtain ⟨hm, hr, hml⟩ := H.out
        obtain ⟨p, hp⟩ : ∃ p, p = min (n - k) (64 - r) := ⟨_, rfl⟩
        obtain ⟨ad, hA, hne, hadlt, hcells⟩ := hrd.at_ (by omega)
        have hbl : (bs.drop k).length = n - k := hrd.len
        have hcl : (vals .u8 ((bs.drop k).take p)).length = p := by rw [vals_length, List.length_take, hbl]; omega
        have hsrc := hrd.cells p hA
        have hbk : Blk wr.drew g 145 (hashc (after (l ++ bs.take k)) blk' m) := by rw [hm]; exact hB'.drew
        refine wpList_copy_named rfl (.tmp 28) (.tmp 29) 79 79 rfl 5 Tryd.underlying79 size_u8 g (8 + r) (64 - r) (64 - r) ad (n - k) c' rfl (by rw [hA]; rfl) _ _ hbk (vals .u8 ((bs.drop k).take p)) p hcl hp hsrc (by rw [hashc_size _ _ _ hblk']; omega) (vals_one _ _) ?_
        intro w2 hw2
        obtain ⟨blk2, hblk2⟩ : ∃ b, b = blk'.take r ++ ((bs.drop k).take p ++ blk'.drop (r + p)) := ⟨_, rfl⟩
        have hcl' : ((bs.drop k).take p).length = p := by simpa using hcl
        have hb2 : Blk w2 g 145 (hashc (after (l ++ bs.take k)) blk2 m) := by
          rw [hw2, hblk2]
          have := hashl_splice (after (l ++ bs.take k)) blk' m r ((bs.drop k).take p) hblk' (by omega)
          rw [hcl'] at this
          rw [this]
          exact hbk.row _
        have ho2 : Only g w w2 := by rw [hw2]; exact hon.drew.setRow _
        have hl2 : blk2.length = 64 := by rw [hblk2]; simp [hcl', hblk']; omega
        have hbb2 : Bytes blk2 := by rw [hblk2]; exact (hbb'.take _).append (((HR.out.bytes.drop _).take _).append (hbb'.drop _))
        have hrd2 : Rd w2 (· ≠ g) A' (n - k) (bs.drop k) := by
          rw [hw2]
          exact hrd.keep (by simp) fun b hb hlt => (setRow_other _ _ _ _ hb).trans rfl
        have hrd3 := hrd2.cut (k := p) (cap := c') (by omega) hc'
        obtain ⟨A3, hA3⟩ : ∃ A3, A3 = (if c' = p then A' else A'.map (·.add p)) := ⟨_, rfl⟩
        have EA : (if c' = p then A' else Option.map (fun x => x.add p) A') = A3 := hA3.symm
        rw [EA] at hrd3
        have d72 : w2.cell? ⟨g, 72, none⟩ = some (.int .i64 (m : Nat)) := by rw [hb2.cell, hashc_len _ _ _ hl2]
        have g72 : w2.frozen? ⟨g, 72, none⟩ = false := hb2.free _
        have bp : p ≤ n - k := by omega
        have bp0 : 0 < p := by omega
        have hch : ((bs.drop k).take p).length = p := hcl'
        have htake := take_more bs k p
        have hbk3 : ∀ u, Blk (w2.setCell ⟨g, 72, none⟩ (.int .i64 ((m + p : Nat) : Int))) g 145 (hashc u blk2 (m + p)) ∨ True := fun _ => .inr trivial
        clear hbk3
        have kB : Blk (w2.setCell ⟨g, 72, none⟩ (.int .i64 ((m + p : Nat) : Int))) g 145 (hashc (after (l ++ bs.take k)) blk2 (m + p)) := by
          rw [← hashc_set_len _ _ m _ hl2]; exact hb2.set _ _
        have kO : Only g w (w2.setCell ⟨g, 72, none⟩ (.int .i64 ((m + p : Nat) : Int))) := ho2.setCell _ _
        have kR : Rd (w2.setCell ⟨g, 72, none⟩ (.int .i64 ((m + p : Nat) : Int))) (· ≠ g) A3 (n - (k + p)) (bs.drop (k + p)) := by
          have h1 := hrd3.keep (w' := w2.setCell ⟨g, 72, none⟩ (.int .i64 ((m + p : Nat) : Int))) (by simp [World.setCell]) fun b hb _ => Below.heap_setCell _ _ _ _ hb
          rw [List.drop_drop, show n - k - p = n - (k + p) by omega] at h1
          exact h1
        by_cases hfull : r + p = 64
        · have ef : (((m : Int) + (p : Int)) % 64 == 0) = true := by simp; omega
          have G := Lib.hid (And.intro hp (And.intro hblk2 (And.intro hA (And.intro hw2 (And.intro hl2 (And.intro hfull (And.intro hch htake)))))))
          clear hm hr hml hp hblk2 hA hw2 hl2 hcl hcl' hsrc hbk hbl hcells hA3 e0 c72 f72 hrd hon hfull hch htake
          go_wp2_with fail
          refine wp_named (fun wb hwb => ?_)
          have ecast : (m : Int) + (p : Int) = ((m + p : Nat) : Int) := by omega
          rw [ecast] at hwb
          rw [← hwb] at kB kO kR
          clear hwb ecast
          have hT2 : Tab wb := HT.out.only kO hg
          have hl2 : blk2.length = 64 := by obtain ⟨_, _, _, _, h, _⟩ := G.out; exact h
          have HL2 := Lib.hid hl2
          have HTb := Lib.hid hT2
          clear hl2 hT2
          refine Go.Bul.wp_region_class_tail (fun w' => Below wb.heap.size wb w') 13 (by kernel_rfl) (by kernel_rfl) (Below.drew (Below.refl _ _)) ?_
          simp only [List.take_succ_cons, List.take_zero, List.drop_succ_cons, List.drop_zero]
          refine wpQuiet_step (fun K hK => ?_)
          refine Go.Bul.quiet_some rfl ?_
          apply Exists.intro
          refine ⟨fun w' hw' => ?_, ?_⟩
          · skip
            go_simp
            rfl
          go_simp
          refine hK _ ?_
          clear hK K
          refine wpQuiet_step (fun K hK => ?_)
          refine Go.Bul.quiet_some rfl ?_
          apply Exists.intro
          refine ⟨fun w' hw' => ?_, ?_⟩
          · skip
            go_simp
            rfl
          go_simp
          refine hK _ ?_
          clear hK K
          refine wpQuiet_step (fun K hK => ?_)
          refine Go.Bul.quiet_some rfl ?_
          apply Exists.intro
          refine ⟨fun w' hw' => ?_, ?_⟩
          · skip
            go_simp
            rfl
          go_simp
          refine hK _ ?_
          clear hK K
          refine wpQuiet_step (fun K hK => ?_)
          refine Go.Bul.quiet_some rfl ?_
          apply Exists.intro
          refine ⟨fun w' hw' => ?_, ?_⟩
          · skip
            go_simp
            rfl
          go_simp
          refine hK _ ?_
          clear hK K
          refine wpQuiet_step (fun K hK => ?_)
          refine Go.Bul.quiet_some rfl ?_
          apply Exists.intro
          refine ⟨fun w' hw' => ?_, ?_⟩
          · exact Go.Bul.quietAt_load 143 (.tmp 51) rfl g 0 rfl 145 _ 8 _ (kB.kept hw') Tryd.underlying143 rfl size_words (by rw [hashc_size _ _ _ HL2.out]; omega) _ (hashc_state8 _ _ _)
          go_simp
          refine hK _ ?_
          clear hK K
          refine wpQuiet_step (fun K hK => ?_)
          refine Go.Bul.quiet_some rfl ?_
          apply Exists.intro
          refine ⟨fun w' hw' => ?_, ?_⟩
          · skip
            go_simp
            rfl
          go_simp
          refine hK _ ?_
          clear hK K
          refine wpQuiet_step (fun K hK => ?_)
          refine Go.Bul.quiet_some rfl ?_
          apply Exists.intro
          refine ⟨fun w' hw' => ?_, ?_⟩
          · skip
            go_simp
            rfl
          go_simp
          refine hK _ ?_
          clear hK K
          refine wpQuiet_step (fun K hK => ?_)
          refine Go.Bul.quiet_some rfl ?_
          apply Exists.intro
          refine ⟨fun w' hw' => ?_, ?_⟩
          · skip
            go_simp
            rfl
          go_simp
          refine hK _ ?_
          clear hK K
          refine wpQuiet_step (fun K hK => ?_)
          refine Go.Bul.quiet_some rfl ?_
          apply Exists.intro
          refine ⟨fun w' hw' => ?_, ?_⟩
          · exact Go.Bul.quietAt_load 135 (.tmp 55) rfl g 8 rfl 145 _ 64 _ (kB.kept hw') Tryd.underlying135 rfl size_b64 (by rw [hashc_size _ _ _ HL2.out]; omega) _ (hashc_block _ _ _ HL2.out)
          go_simp
          refine hK _ ?_
          clear hK K
          refine wpQuiet_step (fun K hK => ?_)
          refine Go.Bul.quiet_some rfl ?_
          apply Exists.intro
          refine ⟨fun w' hw' => ?_, ?_⟩
          · go_simp
            exact Go.Bul.quiet_call hw' (load_any blk2 w' hbb2 HL2.out)
          go_simp
          refine hK _ ?_
          clear hK K
          refine wpQuiet_step (fun K hK => ?_)
          refine Go.Bul.quiet_some rfl ?_
          apply Exists.intro
          refine ⟨fun w' hw' => ?_, ?_⟩
          · go_simp
            exact Go.Bul.quiet_call hw' (process_any (after (l ++ bs.take k)) _ (word blk2) w' (after_ok _) (by simp) (fun j hj => range_map_getD _ _ _ hj) (fun j _ => word_lt hbb2 j) (HTb.out.keep hw'))
          go_simp
          refine hK _ ?_
          clear hK K
          refine wpQuiet_step (fun K hK => ?_)
          refine Go.Bul.quiet_some rfl ?_
          apply Exists.intro
          refine ⟨fun w' hw' => ?_, ?_⟩
          · skip
            go_simp
            rfl
          go_simp
          refine hK _ ?_
          clear hK K
          refine wpQuiet_step (fun K hK => ?_)
          refine Go.Bul.quiet_some rfl ?_
          apply Exists.intro
          refine ⟨fun w' hw' => ?_, ?_⟩
          · skip
            go_simp
            rfl
          go_simp
          refine hK _ ?_
          clear hK K
          refine wpQuiet_nil ?_
          intro w3 hb3
          refine wpList_store_part rfl 143 (.tmp 60) (.tmp 58) rfl g 0 rfl (stc (compress (after (l ++ bs.take k)) (word blk2))) rfl 145 _ 8 (kB.kept hb3) size_words rfl (by rw [hashc_size _ _ _ HL2.out]; omega) (vals_one _ _) rfl ?_
          intro w4 hw4
          rw [hashc_set_state] at hw4
          have HW4 := Lib.hid hw4
          clear hw4
          go_wp2_with fail
          obtain ⟨hm, hr, hml⟩ := H.out
          obtain ⟨hp, hblk2, hA, hw2, _, hfull, hch, htake⟩ := G.out
          have kB3 := kB.kept hb3
          have ho4 : Only g wb w4 := by rw [HW4.out]; exact (Only.of_below hb3).setRow _
          refine ⟨⟨k + p, A3, c' - p, by omega, by omega, by rw [show n - (k + p) = n - k - p by omega], kR.keep ho4.size (fun b hb hlt => ho4.block b hlt (by rintro ⟨⟩; exact hb rfl)), ?_, kO.trans ho4⟩, by simp only [lenOf]; omega⟩
          rw [htake, ← List.append_assoc]
          exact HashLoop.full hl.bytes ((HR.out.bytes.drop k).take p) (by rw [List.length_append, ← hm, hch]; omega) (by rw [← hm, hch]; omega) hblk' htk' (by rw [← hm, hch, ← hr]; exact hblk2) hbb2 (by rw [← hm, hch, HW4.out]; exact kB3.row _)
        · have ef : (((m : Int) + (p : Int)) % 64 == 0) = false := by simp; omega
          have G := Lib.hid (And.intro hp (And.intro hblk2 (And.intro hA (And.intro hw2 (And.intro hl2 (And.intro hfull (And.intro hch htake)))))))
          clear hm hr hml hp hblk2 hA hw2 hl2 hcl hcl' hsrc hbk hbl hcells hA3 e0 c72 f72 hrd hon hfull hch htake
          go_wp2_with fail
          obtain ⟨hm, hr, hml⟩ := H.out
          obtain ⟨hp, hblk2, hA, hw2, hl2, hfull, hch, htake⟩ := G.out
          have ecast : (m : Int) + (p : Int) = ((m + p : Nat) : Int) := by omega
          rw [ecast]
          refine ⟨⟨k + p, A3, c' - p, by omega, by omega, by rw [show n - (k + p) = n - k - p by omega], kR, ?_, kO⟩, by simp only [lenOf]; omega⟩
          rw [htake, ← List.append_assoc]
          exact HashLoop.part hl.bytes ((HR.out.bytes.drop k).take p) (by rw [List.length_append, ← hm, hch]; omega) (by rw [← hm, hch]; omega) hblk' htk' (by rw [← hm, hch, ← hr]; exact hblk2) hbb2 (by rw [← hm, hch]; exact kB)
      · obtain rfl : k = n := by omega
        go_wp2_with fail
        go_ret
        refine ⟨rfl, ?_, hon⟩
        have := hl.at_
        rwa [List.take_of_length_le (by rw [HR.out.len]; omega)] at this
end Go.Proofs.YtbbdnlcjjcmllaaDoor
namespace Go.Proofs.YtbbdnlcjjcmllaaDoor
open Go Go.RowKit Go.Bul
theorem zero_hash : (Tryd.prog.info? 145).map (·.zero) = some (some (.agg (hashc ⟨0, 0, 0, 0, 0, 0, 0, 0⟩ (List.replicate 64 0) 0))) := by kernel_rfl
theorem tab_lt {w : World} (h : Tab w) : 1 < w.heap.size := by
  rcases Nat.lt_or_ge 1 w.heap.size with h' | h'
  · exact h'
  · have h0 := h 0 (by omega)
    simp [World.cell?, Array.getElem?_eq_none h'] at h0
theorem HashAt.fresh (w : World) : HashAt (w.alloc (.cells (hashc ⟨0, 0, 0, 0, 0, 0, 0, 0⟩ (List.replicate 64 0) 0) 145)) w.heap.size [] :=
  ⟨Bytes.nil, by simp, _, _, Blk.new _ _ _, by simp, bytes_rep _, by simp [rest], fun h => absurd rfl h⟩
theorem new_any (w : World) : Calls Tryd.prog 74 #[] w fun e w' => e = .returned (.pointer (some ⟨w.heap.size, 0, none⟩)) ∧ HashAt w' w.heap.size [] ∧ Below w.heap.size w w' := by
  go_enter Tryd.func74, Tryd.ntmps74
  go_wp2_with (with_reducible refine wpList_alloc_zero rfl 145 rfl _ zero_hash ?_)
  go_ret
  exact ⟨rfl, HashAt.fresh w, (Below.refl _ _).alloc (Nat.le_refl _) _⟩
theorem zeros_more (z : Nat) : 128 :: List.replicate (z + 1) 0 = (128 :: List.replicate z 0) ++ [0] := by rw [List.replicate_succ']; rfl
theorem be_more (z c k : Nat) (hk : k < 8) : (128 :: (List.replicate z 0 ++ (be64 c).take k)) ++ [(be64 c).getD k 0] = 128 :: (List.replicate z 0 ++ (be64 c).take (k + 1)) := by
  rcases (show k = 0 ∨ k = 1 ∨ k = 2 ∨ k = 3 ∨ k = 4 ∨ k = 5 ∨ k = 6 ∨ k = 7 by omega) with rfl | rfl | rfl | rfl | rfl | rfl | rfl | rfl <;> simp [be64]
theorem pad_length (n z : Nat) (hz : z = (119 - n % 64) % 64) : padding n = 128 :: (List.replicate z 0 ++ (be64 (8 * n)).take 8) := by
  rw [padding, hz]
  congr 2
set_option maxRecDepth 20000 in
set_option maxHeartbeats 1000000 in
theorem sumh_any (g : Nat) (l : List Nat) (w : World) (hh : HashAt w g l) (hl : l.length ≤ 1099511627776) (hT : Tab w) :
    Calls Tryd.prog 76 #[.pointer (some ⟨g, 0, none⟩)] w fun e w' => e = .returned (.agg (cellsOf .u8 (sha l))) ∧ Below w.heap.size w w' := by
  obtain ⟨st, blk, hB, hblk, hbb, htk, hst⟩ := hh.ex
  have hlen := hashc_len st blk l.length hblk
  rw [← hB.cell] at hlen
  obtain ⟨n, hn⟩ : ∃ n, n = l.length := ⟨_, rfl⟩
  rw [← hn] at hlen hB hl
  have hlt := hB.lt
  have HT := Lib.hid hT
  have HH := Lib.hid hh
  have H := Lib.hid (And.intro hn (And.intro hst (And.intro htk hblk)))
  clear hT hh hn hst htk hblk
  go_enter Tryd.func76, Tryd.ntmps76
  go_wp2_with (first
    | (with_reducible refine wpList_alloc_zero rfl 128 rfl _ zero_dig ?_))
  go_loopw [3] (fun v wr => ∃ (z : Nat) (A : Option Addr) (c : Nat), z ≤ (119 - n % 64) % 64 ∧ v = .slice A (z + 1) c ∧ OwnB wr (w.heap.size + 1) v (128 :: List.replicate z 0) ∧ Blk wr w.heap.size 128 (cellsOf .u8 (List.replicate 32 0)) ∧ Below w.heap.size w wr)
    (fun v _ => 100 - lenOf v)
  case atStart =>
    refine ⟨0, _, _, by omega, rfl, ?_, ?_, ?_⟩
    · have := OwnB.of_block (base := w.heap.size + 1) (xs := [128]) (Blk.new' (w.alloc (.cells (cellsOf .u8 (List.replicate 32 0)) 128)) 5 _ (w.heap.size + 1) (by simp)) (Nat.le_refl _) (by unfold maxLen; simp)
      exact this
    · exact (Blk.new w _ _).alloc _
    · exact ((Below.refl _ _).alloc (Nat.le_refl _) _).alloc (by simp) _
  case round =>
    obtain ⟨z, A, c, hz, rfl, hown, hres, hold⟩ := hrel
    have c72 : wr.cell? ⟨g, 72, none⟩ = some (.int .i64 (n : Nat)) := by rw [hold.cell (p := ⟨g, 72, none⟩) hlt]; exact hlen
    have hsz := hold.size
    have hrl := hres.lt
    by_cases hlt : z < (119 - n % 64) % 64
    · have ht : (((n : Int) + ((z : Int) + 1)) % 64 != 56) = true := by simp; omega
      go_wp2_with (refine wpList_append_bytes rfl (.tmp 20) (.tmp 21) 79 rfl Tryd.underlying79 (w.heap.size + 1) _ (128 :: List.replicate z 0) rfl (hown.alloc _) (fun _ => True) _ 1 1 [0] rfl (Rd.one wr _ _ 0 0 rfl (by omega) trivial) _ (zeros_more z).symm (z + 1 + 1) (by simp) (by omega) (by simp; omega) ?_; intro A' c' w' hown' hc' hgrow hwhere; have hgrow' := Lib.hid hgrow; have hown2 := Lib.hid hown'; clear hgrow hwhere hown')
      go_roundw
      case measure => simp only [lenOf]; omega
      case rel =>
        refine ⟨z + 1, A', c', by omega, rfl, hown2.out, ?_, ?_⟩
        · refine (hgrow'.out.block _ (by simp; omega) ?_).trans (hres.alloc _)
          intro he
          have := hown.block_ge he.symm
          omega
        · refine (hold.alloc hsz _).grown hgrow'.out (by simp; omega) (fun k hk => ?_)
          have := hown.block_ge hk
          omega
    · have hz' : z = (119 - n % 64) % 64 := by omega
      have ht : (((n : Int) + ((z : Int) + 1)) % 64 != 56) = false := by simp; omega
      have hzz : z < 64 := by omega
      have HZ := Lib.hid hz'
      clear hz' hz hlt
      have hn8 : ((8 : Int) * (n : Int)) % 18446744073709551616 = ((8 * n : Nat) : Int) := by omega
      go_wp2_with fail
      obtain ⟨q, hq⟩ : ∃ q, q = 8 * n := ⟨_, rfl⟩
      have e8 : (8 : Int) * (n : Int) = (q : Int) := by omega
      rw [e8]
      have hq2 : q ≤ 8796093022208 := by omega
      have HQ := Lib.hid hq
      clear hq e8 ht c72 hn8
      go_loopw [3, 29] (fun v i w2 => ∃ (k : Nat) (A : Option Addr) (c : Nat), k ≤ 8 ∧ i = .int .i64 (k : Nat) ∧ v = .slice A (z + 1 + k) c ∧ OwnB w2 (w.heap.size + 1) v (128 :: (List.replicate z 0 ++ (be64 q).take k)) ∧ Blk w2 w.heap.size 128 (cellsOf .u8 (List.replicate 32 0)) ∧ Below w.heap.size w w2)
        (fun _ i _ => 8 - (intOf i).toNat)
      case atStart => exact ⟨0, A, c, by omega, rfl, rfl, by simpa using hown, hres, hold⟩
      case round =>
        clear hown hres hold hsz hrl
        obtain ⟨k, A, c, hk, rfl, rfl, hown, hres, hold⟩ := hrel
        have hsz := hold.size
        have hrl := hres.lt
        by_cases hlt8 : k < 8
        · obtain ⟨x, hx⟩ : ∃ x, x = (be64 q).getD k 0 := ⟨_, rfl⟩
          obtain ⟨N, hN⟩ : ∃ N, N = z + 1 + k := ⟨_, rfl⟩
          obtain ⟨L, hL⟩ : ∃ L, L = 128 :: (List.replicate z 0 ++ (be64 q).take k) := ⟨_, rfl⟩
          obtain ⟨L2, hL2⟩ : ∃ L, L = 128 :: (List.replicate z 0 ++ (be64 q).take (k + 1)) := ⟨_, rfl⟩
          have hmore : L ++ [x] = L2 := by rw [hL, hL2, hx]; exact be_more z q k hlt8
          have hlen2 : L2.length = N + 1 := by
            rw [hL2, hN]
            have : ((be64 q).take (k + 1)).length = k + 1 := by rw [List.length_take]; simp [be64]; omega
            simp only [List.length_cons, List.length_append, List.length_replicate, this]
            omega
          have hx2 : x < 256 := by
            rcases (show k = 0 ∨ k = 1 ∨ k = 2 ∨ k = 3 ∨ k = 4 ∨ k = 5 ∨ k = 6 ∨ k = 7 by omega) with rfl | rfl | rfl | rfl | rfl | rfl | rfl | rfl <;> simp [hx, be64] <;> omega
          have hN2 : N < 1000 := by omega
          rw [← hN] at hown ⊢
          rw [← hL] at hown
          obtain ⟨k1, hk1⟩ : ∃ k1, k1 = k + 1 := ⟨_, rfl⟩
          rw [← hk1] at hL2
          have G := Lib.hid (And.intro hN (And.intro hL hL2))
          clear hN hL hL2
          rcases (show k = 0 ∨ k = 1 ∨ k = 2 ∨ k = 3 ∨ k = 4 ∨ k = 5 ∨ k = 6 ∨ k = 7 by omega) with rfl | rfl | rfl | rfl | rfl | rfl | rfl | rfl
          all_goals
            have HX := Lib.hid hx
            clear hx
            go_wp2_with (refine wpList_append_bytes rfl (.tmp 32) (.tmp 39) 79 rfl Tryd.underlying79 (w.heap.size + 1) _ L rfl (hown.alloc _) (fun _ => True) _ 1 1 [x] rfl (Rd.one wr _ _ x _ (by rw [HX.out]; simp [be64] <;> omega) hx2 trivial) L2 hmore (N + 1) hlen2 (by omega) (by simp; omega) ?_; intro A' c' w' hown' hc' hgrow hwhere; have hgrow' := Lib.hid hgrow; have hown2 := Lib.hid hown'; clear hgrow hwhere hown')
            obtain ⟨hN, hL, hL2⟩ := G.out
            refine ⟨⟨k1, A', c', ?_, by rw [hk1]; rfl, ?_, by rw [← hL2]; exact hown2.out, ?_, ?_⟩, ?_⟩
            · omega
            · rw [hN, hk1]
            · refine (hgrow'.out.block _ (by simp; omega) ?_).trans (hres.alloc _)
              intro he
              have := hown.block_ge he.symm
              omega
            · refine (hold.alloc hsz _).grown hgrow'.out (by simp; omega) (fun k hk => ?_)
              have := hown.block_ge hk
              omega
            · simp [intOf]
        · obtain rfl : k = 8 := by omega
          obtain ⟨hn, hst, htk, hblk⟩ := H.out
          have hQ := HQ.out
          have hZ := HZ.out
          obtain ⟨L, hL⟩ : ∃ L, L = padding n := ⟨_, rfl⟩
          have hpad := pad_length n z hZ
          rw [← hQ, ← hL] at hpad
          rw [← hpad] at hown
          obtain ⟨N, hN⟩ : ∃ N, N = z + 1 + 8 := ⟨_, rfl⟩
          have hBr := hB.below hold hlt
          have hsz73 := hashc_size st blk n hblk
          rw [← hN] at hown ⊢
          clear hlt8 hk
          have hLl : N = L.length := by
            rw [hpad, hN]
            have : ((be64 q).take 8).length = 8 := by simp [be64]
            simp only [List.length_cons, List.length_append, List.length_replicate, this]
          have hN2 : N < 100 := by omega
          have hLb : Bytes L := by rw [hL]; exact bytes_padding n
          have G := Lib.hid (And.intro hL (And.intro hLl (And.intro hblk (And.intro hn (And.intro hst htk)))))
          clear hn hst htk hblk hQ hZ hpad hN hL hLl HQ HZ
          go_wp2_with (first
            | (with_reducible refine wpList_alloc_zero rfl 145 rfl _ zero_hash ?_)
            | (refine wpList_load_blk rfl 145 (.tmp 43) rfl g rfl 145 (hashc st blk n) 73 _ hBr Tryd.underlying145 rfl size_hash hsz73 ?_)
            | (refine wpList_store_blk rfl 145 (.tmp 6) (.tmp 44) rfl wr.heap.size rfl (hashc st blk n) rfl 145 (hashc ⟨0, 0, 0, 0, 0, 0, 0, 0⟩ (List.replicate 64 0) 0) 73 (Blk.new wr _ _) size_hash hsz73 (hashc_size _ _ _ (by simp)) (hashc_one _ _ _) rfl ?_; intro w2 hw2; have HW := Lib.hid hw2; clear hw2))
          obtain ⟨hL, hLl, hblk, hn, hst, htk⟩ := G.out
          obtain ⟨hrd, hNc⟩ := hown.rd hLl hLb
          have hw2 := HW.out
          have kB : Below w.heap.size w w2 := by rw [hw2]; exact below_setRow (hold.alloc hsz _) hsz _
          have kB2 : Below wr.heap.size wr w2 := by rw [hw2]; exact below_setRow ((Below.refl _ _).alloc (Nat.le_refl _) _) (Nat.le_refl _) _
          have kR : Rd w2 (· ≠ wr.heap.size) A N L := (hrd.imp (ok' := (· ≠ wr.heap.size)) (fun b hb _ => by omega)).kept kB2
          have kH : HashAt w2 wr.heap.size l := ⟨HH.out.bytes, HH.out.size, st, blk, by rw [← hn, hw2]; exact (Blk.new wr _ _).row _, hblk, hbb, htk, hst⟩
          have hlL : (l ++ L) = padded l := by rw [hL, hn]; rfl
          have kT : Tab w2 := HT.out.keep kB
          have hg0 := tab_lt HT.out
          (with_reducible refine (write_any wr.heap.size l L A N c w2 kH kR hNc (by omega) kT (by omega)).mono ?_)
          rintro e w3 ⟨rfl, hH3, hO3⟩
          rw [hlL] at hH3
          obtain ⟨st3, blk3, hB3, hblk3, _, _, hst3⟩ := hH3.ex
          have hst3 := hst3 (by rw [← hlL]; intro h0; have := congrArg List.length h0; simp at this; rw [hL] at this; simp [padding] at this)
          subst hst3
          have hres3 : Blk w3 w.heap.size 128 (cellsOf .u8 (List.replicate 32 0)) := (hres.kept kB2).only hO3 (by omega)
          have kB3 : Below w.heap.size w w3 := kB.trans (hO3.to_below' hsz (by rw [hw2]; simp; omega))
          have hOk := after_ok (padded l)
          have hsd := sha_after l
          obtain ⟨M, hM⟩ : ∃ M, M = (padded l).length := ⟨_, rfl⟩
          obtain ⟨S, hS⟩ : ∃ S, S = after (padded l) := ⟨_, rfl⟩
          rw [← hM] at hB3
          rw [← hS] at hB3 hOk hsd
          have HSD := Lib.hid hsd
          have hsz3 := hashc_size S blk3 M hblk3
          clear hL hLl hblk hn hst htk hblk3 hM hS hlL hsd hst3 hH3
          go_wp2_with (first
            | (refine wpList_load_part rfl 143 (.tmp 47) rfl wr.heap.size 0 rfl 145 (hashc S blk3 M) 8 _ hB3 Tryd.underlying143 rfl size_words (by rw [hsz3]; omega) _ (hashc_state8 _ _ _) ?_))
          have hdg := digest_any S w3 hOk
          rw [show stv S = .agg (stc S) from rfl] at hdg
          (with_reducible refine hdg.mono ?_)
          rintro e w4 ⟨rfl, hb4⟩
          have hres4 := hres3.kept hb4
          have kB4 : Below w.heap.size w w4 := Below.step kB3 hb4
          go_wp2_with (first
            | (refine wpList_store_blk rfl 128 (.tmp 2) (.tmp 49) rfl w.heap.size rfl (cellsOf .u8 S.out) rfl 128 (cellsOf .u8 (List.replicate 32 0)) 32 hres4 size_dig (by simp [Bul.out_length]) (by simp) (vals_one _ _) rfl ?_; intro w5 hw5; have HW5 := Lib.hid hw5; clear hw5))
          exact bodyPost_ret (results_cell_row rfl _ _ w.heap.size _ _ _ _ rfl (by rw [HW5.out]; exact hres4.row _) Tryd.underlying128 rfl (by rw [size_dig]; simp [Bul.out_length])) rfl ⟨by rw [HSD.out], by rw [HW5.out]; exact below_setRow kB4 (Nat.le_refl _) _⟩
end Go.Proofs.YtbbdnlcjjcmllaaDoor
