/- A Hash in memory: what its cells say of the bytes that were written; slices that read as bytes. -/
import Derived.Test.YtpigmibaeoceaaaDoorZc
namespace Go.Proofs.YtpigmibaeoceaaaDoor
open Go Go.RowKit Go.Bul
/-- The cells of a Hash: the state, the block, the length. -/
def hashl (st : Bul.St) (blk : List Nat) (n : Nat) : List Value := vals .u32 st.list ++ (vals .u8 blk ++ [.int .i64 (n : Nat)])
def hashc (st : Bul.St) (blk : List Nat) (n : Nat) : Array Value := (hashl st blk n).toArray
theorem stl_length (st : Bul.St) : st.list.length = 8 := rfl
theorem hashl_length (st : Bul.St) (blk : List Nat) (n : Nat) (hb : blk.length = 64) : (hashl st blk n).length = 73 := by simp [hashl, stl_length, hb]
theorem hashc_size (st : Bul.St) (blk : List Nat) (n : Nat) (hb : blk.length = 64) : (hashc st blk n).size = 73 := by simp [hashc, hashl_length st blk n hb]
theorem hashc_one (st : Bul.St) (blk : List Nat) (n : Nat) : ∀ v ∈ (hashc st blk n).toList, v.oneCell' = true := by
  intro v hv
  simp only [hashc, hashl, List.mem_append, List.mem_singleton] at hv
  rcases hv with hv | hv | rfl
  · exact vals_one _ _ v hv
  · exact vals_one _ _ v hv
  · rfl
theorem hashc_len (st : Bul.St) (blk : List Nat) (n : Nat) (hb : blk.length = 64) : (hashc st blk n)[72]? = some (.int .i64 (n : Nat)) := by
  simp only [hashc, hashl, List.getElem?_toArray]
  rw [List.getElem?_append_right (by simp [stl_length]), List.getElem?_append_right (by simp [stl_length, hb])]
  simp [stl_length, hb]
theorem hashc_set_len (st : Bul.St) (blk : List Nat) (n m : Nat) (hb : blk.length = 64) : (hashc st blk n).setIfInBounds 72 (.int .i64 (m : Nat)) = hashc st blk m := by
  simp only [hashc, hashl, List.setIfInBounds_toArray]
  rw [List.set_append_right _ _ (by simp [stl_length]), List.set_append_right _ _ (by simp [stl_length, hb])]
  simp [stl_length, hb]
theorem hashc_block (st : Bul.St) (blk : List Nat) (n : Nat) (hb : blk.length = 64) : (hashc st blk n).extract 8 (8 + 64) = cellsOf .u8 blk := by
  apply Array.ext'
  simp only [hashc, hashl, List.extract_toArray, cellsOf, List.extract_eq_take_drop]
  rw [List.drop_append_of_le_length (by simp [stl_length]), List.drop_of_length_le (by simp [stl_length]), List.nil_append, List.take_append_of_le_length (by simp [hb]), List.take_of_length_le (by simp [hb])]
theorem hashc_state8 (st : Bul.St) (blk : List Nat) (n : Nat) : (hashc st blk n).extract 0 (0 + 8) = stc st := by
  apply Array.ext'
  simp only [hashc, hashl, List.extract_toArray, stc, cellsOf, List.extract_eq_take_drop]
  rw [List.drop_zero, List.take_append_of_le_length (by simp [stl_length]), List.take_of_length_le (by simp [stl_length])]
theorem hashc_set_state (st st' : Bul.St) (blk : List Nat) (n : Nat) : (splice (hashc st blk n).toList 0 (stc st').toList).toArray = hashc st' blk n := by
  simp only [hashc, hashl, splice, stc, cellsOf, List.take_zero, List.nil_append, Nat.zero_add, vals_length, stl_length]
  rw [List.drop_append_of_le_length (by simp [stl_length]), List.drop_of_length_le (by simp [stl_length]), List.nil_append]
theorem hashl_splice (st : Bul.St) (blk : List Nat) (n r : Nat) (cs : List Nat) (hb : blk.length = 64) (hr : r + cs.length ≤ 64) :
    (hashc st blk n).toList.take (8 + r) ++ (vals .u8 cs ++ (hashc st blk n).toList.drop (8 + r + (vals .u8 cs).length)) = hashl st (blk.take r ++ (cs ++ blk.drop (r + cs.length))) n := by
  simp only [hashc, hashl]
  have h8 : (vals .u32 st.list).length = 8 := by simp [stl_length]
  have e1 : (vals IntKind.u32 st.list ++ (vals .u8 blk ++ [Value.int .i64 (n : Nat)])).take (8 + r) = vals .u32 st.list ++ vals .u8 (blk.take r) := by
    rw [List.take_append, List.take_of_length_le (by rw [h8]; omega), h8, show 8 + r - 8 = r by omega, List.take_append_of_le_length (by simp [hb]; omega)]
    simp [vals, List.map_take]
  have e2 : (vals IntKind.u32 st.list ++ (vals .u8 blk ++ [Value.int .i64 (n : Nat)])).drop (8 + r + (vals .u8 cs).length) = vals .u8 (blk.drop (r + cs.length)) ++ [Value.int .i64 (n : Nat)] := by
    rw [List.drop_append, List.drop_of_length_le (by rw [h8]; omega), h8, vals_length, show 8 + r + cs.length - 8 = r + cs.length by omega, List.drop_append_of_le_length (by simp [hb]; omega)]
    simp [vals, List.map_drop]
  rw [e1, e2]
  simp [vals]
/-- The Hash in block g has been given the bytes l; its state is right even if none came. -/
structure HashLoop (w : World) (g : Nat) (l : List Nat) : Prop where
  bytes : Bytes l
  size : l.length ≤ 9223372036854775807
  ex : ∃ blk, Blk w g 99 (hashc (after l) blk l.length) ∧ blk.length = 64 ∧ Bytes blk ∧ blk.take (l.length % 64) = rest l
/-- The Hash in block g has been given the bytes l. -/
structure HashAt (w : World) (g : Nat) (l : List Nat) : Prop where
  bytes : Bytes l
  size : l.length ≤ 9223372036854775807
  ex : ∃ st blk, Blk w g 99 (hashc st blk l.length) ∧ blk.length = 64 ∧ Bytes blk ∧ blk.take (l.length % 64) = rest l ∧ (l ≠ [] → st = after l)
theorem HashLoop.at_ {w : World} {g : Nat} {l : List Nat} (h : HashLoop w g l) : HashAt w g l := by
  obtain ⟨blk, h1, h2, h3, h4⟩ := h.ex
  exact ⟨h.bytes, h.size, _, blk, h1, h2, h3, h4, fun _ => rfl⟩
theorem HashAt.of_block {w w' : World} {g : Nat} {l : List Nat} (h : HashAt w g l) (hb : w'.heap[g]? = w.heap[g]?) : HashAt w' g l := by
  obtain ⟨st, blk, h1, h2⟩ := h.ex
  exact ⟨h.bytes, h.size, st, blk, hb.trans h1, h2⟩
theorem HashAt.keep {w w' : World} {g : Nat} {l : List Nat} (h : HashAt w g l) (hb : Below w.heap.size w w') : HashAt w' g l := by
  obtain ⟨st, blk, h1, h2⟩ := h.ex
  exact ⟨h.bytes, h.size, st, blk, h1.kept hb, h2⟩
theorem take_more (bs : List Nat) (k p : Nat) : bs.take (k + p) = bs.take k ++ (bs.drop k).take p := by rw [List.take_add]
/-- A piece that does not fill the block. -/
theorem HashLoop.part {w : World} {g : Nat} {L ch blk blk2 : List Nat} (hL : Bytes L) (hc : Bytes ch) (hs : (L ++ ch).length ≤ 9223372036854775807) (hp : L.length % 64 + ch.length < 64)
    (hb : blk.length = 64) (ht : blk.take (L.length % 64) = rest L) (h2 : blk2 = blk.take (L.length % 64) ++ (ch ++ blk.drop (L.length % 64 + ch.length))) (hbb : Bytes blk2)
    (hB : Blk w g 99 (hashc (after L) blk2 (L.length + ch.length))) : HashLoop w g (L ++ ch) := by
  obtain ⟨e1, e2⟩ := after_part hp
  refine ⟨hL.append hc, hs, blk2, ?_, ?_, hbb, ?_⟩
  · rw [e1, List.length_append]; exact hB
  · rw [h2]; simp [hb]; omega
  · rw [e2, List.length_append, show (L.length + ch.length) % 64 = L.length % 64 + ch.length by omega, h2, ← ht]
    rw [← List.append_assoc, List.take_append_of_le_length (by simp [hb]; omega), List.take_of_length_le (by simp [hb]; omega)]
/-- A piece that fills it. -/
theorem HashLoop.full {w : World} {g : Nat} {L ch blk blk2 : List Nat} (hL : Bytes L) (hc : Bytes ch) (hs : (L ++ ch).length ≤ 9223372036854775807) (hp : L.length % 64 + ch.length = 64)
    (hb : blk.length = 64) (ht : blk.take (L.length % 64) = rest L) (h2 : blk2 = blk.take (L.length % 64) ++ (ch ++ blk.drop (L.length % 64 + ch.length))) (hbb : Bytes blk2)
    (hB : Blk w g 99 (hashc (compress (after L) (word blk2)) blk2 (L.length + ch.length))) : HashLoop w g (L ++ ch) := by
  obtain ⟨e1, e2⟩ := after_full hp
  have h3 : blk2 = rest L ++ ch := by rw [h2, hp, List.drop_of_length_le (by omega), List.append_nil, ht]
  refine ⟨hL.append hc, hs, blk2, ?_, ?_, hbb, ?_⟩
  · rw [e1, ← h3, List.length_append]; exact hB
  · rw [h2]; simp [hb]; omega
  · rw [e2, List.length_append, show (L.length + ch.length) % 64 = 0 by omega]; rfl
theorem Tab.only {w w' : World} {g : Nat} (h : Tab w) (ho : Only g w w') (hg : 0 ≠ g) : Tab w' := fun i hi => by
  have h0 := h i hi
  have hlt := block_lt_of_cell (h 0 (by omega))
  exact (World.cell?_of_block (w := w) (a := ⟨0, i, none⟩) (ho.block _ hlt (by rintro ⟨⟩; exact hg rfl))).trans h0
theorem range_map_getD (f : Nat → Nat) (n j : Nat) (hj : j < n) : ((List.range n).map f).getD j 0 = f j := by
  rw [List.getD_eq_getElem?_getD, List.getElem?_map, List.getElem?_range hj]
  rfl
/-- A slice reads as bytes, and lies in no block of which B says so. -/
structure Rd (w : World) (ok : Nat → Prop) (A : Option Addr) (n : Nat) (bs : List Nat) : Prop where
  len : bs.length = n
  bytes : Bytes bs
  at_ : 0 < n → ∃ ad, A = some ad ∧ ok ad.block ∧ ad.block < w.heap.size ∧ ∀ j, j < n → w.cell? (ad.add j) = some (.int .u8 (bs.getD j 0 : Nat))
theorem block_of_add (a : Addr) (n : Nat) : (a.add n).block = a.block := by unfold Addr.add; split <;> rfl
theorem add_of_add (a : Addr) (i j : Nat) : (a.add i).add j = a.add (i + j) := by
  unfold Addr.add
  by_cases hi : i = 0 <;> by_cases hj : j = 0 <;> simp [hi, hj, Nat.add_assoc]
section
variable {w w' : World} {ok ok' : Nat → Prop} {A : Option Addr} {n : Nat} {bs : List Nat}
theorem Rd.nil (w : World) (ok : Nat → Prop) (A : Option Addr) : Rd w ok A 0 [] := ⟨rfl, Bytes.nil, fun h => absurd h (by omega)⟩
theorem Rd.keep (h : Rd w ok A n bs) (hs : w.heap.size ≤ w'.heap.size) (hk : ∀ b, ok b → b < w.heap.size → w'.heap[b]? = w.heap[b]?) : Rd w' ok A n bs :=
  ⟨h.len, h.bytes, fun hn => by
    obtain ⟨ad, e, ho, hb, hc⟩ := h.at_ hn
    refine ⟨ad, e, ho, by omega, fun j hj => ?_⟩
    rw [World.cell?_of_block (w := w) (by rw [block_of_add]; exact hk _ ho hb)]
    exact hc j hj⟩
theorem Rd.kept (h : Rd w ok A n bs) (hb : Below w.heap.size w w') : Rd w' ok A n bs := h.keep hb.size fun b _ h => hb.block b h
theorem Rd.imp (h : Rd w ok A n bs) (hi : ∀ b, b < w.heap.size → ok b → ok' b) : Rd w ok' A n bs :=
  ⟨h.len, h.bytes, fun hn => by
    obtain ⟨ad, e, ho, hb, hc⟩ := h.at_ hn
    exact ⟨ad, e, hi _ hb ho, hb, hc⟩⟩
theorem Rd.cut {cap k : Nat} (h : Rd w ok A n bs) (hk : k ≤ n) (hc : n ≤ cap) : Rd w ok (if cap = k then A else A.map (·.add k)) (n - k) (bs.drop k) := by
  refine ⟨by rw [List.length_drop, h.len], h.bytes.drop k, fun hn => ?_⟩
  obtain ⟨ad, rfl, ho, hb, hcell⟩ := h.at_ (by omega)
  rw [if_neg (by omega)]
  refine ⟨ad.add k, rfl, by rw [block_of_add]; exact ho, by rw [block_of_add]; exact hb, fun j hj => ?_⟩
  rw [add_of_add, hcell _ (by omega)]
  simp [List.getD_eq_getElem?_getD]
/-- As the laws of the library ask it. -/
theorem Rd.cells (h : Rd w ok A n bs) (k : Nat) {ad : Addr} (hA : A = some ad) : ∀ j v, (vals .u8 (bs.take k))[j]? = some v → w.cell? (ad.add j) = some v := fun j v hv => by
  rw [vals_get] at hv
  have hj : j < (bs.take k).length := by
    rcases Nat.lt_or_ge j (bs.take k).length with h1 | h1
    · exact h1
    · rw [List.getElem?_eq_none h1] at hv; cases hv
  have hj' : j < bs.length := by simp at hj; omega
  obtain ⟨ad', e, _, _, hc⟩ := h.at_ (by have := h.len; omega)
  obtain rfl : ad = ad' := Option.some.inj (hA.symm.trans e)
  rw [hc j (by rw [← h.len]; exact hj')]
  rw [← hv, List.getElem?_eq_getElem hj]
  simp [hj']
end
end Go.Proofs.YtpigmibaeoceaaaDoor
