/- Seat n: slices.Delete of one candidate. -/
import Derived.Test.YtpjphjokhccdaaaGreatNjh
namespace Go.Thg
open Go Go.RowKit Go.Bul
/-- append within the room that a slice has. -/
theorem run_append_in {P : Program} {w : World} (t tx ty e : TypeId) (z : Value) (size bytes : Nat) (ht : P.underlying t = some (.slice e)) (hi : (P.info? e).map (fun i => (i.zero, i.size, i.bytes)) = some (some z, size, bytes))
    (g off n c : Nat) (xs : List Value) (hown : OffRow w e size (.slice (some ⟨g, off, none⟩) n c) n xs) (hc : 0 < c) (x : Value) (m : Nat) (news : List Value) (hs : Src P size tx x m news w) (hroom : n + m ≤ c) :
    ∃ w', (Builtin.append_ #[t, tx] ty #[.slice (some ⟨g, off, none⟩) n c, x]).run P w = .ok (.slice (some ⟨g, off, none⟩) (n + m) c) w' ∧ OffRow w' e size (.slice (some ⟨g, off, none⟩) (n + m) c) (n + m) (xs ++ news) ∧ KeptBut [g] w w' := by
  obtain ⟨i, hi', hz', hs', hb'⟩ := info_parts hi
  subst hs' hb'
  obtain ⟨hxl, A, c', he, hnc, hcm, hblk⟩ := hown
  have e1 : some (⟨g, off, none⟩ : Addr) = A := by injection he
  have e2 : c = c' := by injection he
  subst e1 e2
  have hnl := hs.newsLen
  have hlen : (xs ++ news).length = (n + m) * i.size := by rw [List.length_append, hxl, hnl, Nat.add_mul]
  obtain ⟨g', off', cur, hA, hg, hsz, hcur⟩ := hblk hc
  have e3 : g = g' := by injection hA with hA; injection hA
  have e4 : off = off' := by injection hA with hA; injection hA
  subst e3 e4
  have hmul : (n + m) * i.size ≤ c * i.size := Nat.mul_le_mul_right _ hroom
  rw [Nat.add_mul] at hmul
  have hcell : ∀ k, w.cell? ⟨g, k, none⟩ = cur[k]? := fun k => cell_of_row w g k cur e (0, 0) hg
  have hsome : ∀ j, j < news.length → (w.cell? ⟨g, off + n * i.size + j, none⟩).isSome = true := fun j hj => by
    rw [hcell, Array.getElem?_eq_getElem (by omega)]; rfl
  have hrun := run_append_room_src (P := P) w t tx ty e i ht hi' g off n c x m news hs hroom hsome (fun j _ => frozen_of_row w g _ cur e hg)
  obtain ⟨cur', hg', hsz'⟩ := heap_setCells g e news (off + n * i.size) w cur hg
  have hcell' : ∀ k, (w.setCells g (off + n * i.size) news).cell? ⟨g, k, none⟩ = cur'[k]? := fun k => cell_of_row _ g k cur' e (0, 0) hg'
  refine ⟨_, hrun, ⟨hlen, some ⟨g, off, none⟩, c, rfl, hroom, hcm, fun _ => ⟨g, off, cur', rfl, hg', by omega, fun j hj => ?_⟩⟩, ⟨World.os_setCells _ _ _ _, tape_setCells _ _ _ _, World.output_setCells _ _ _ _, by rw [size_setCells]; exact Nat.le_refl _, fun k hk hn => World.heap_setCells_other w g _ news hk (by rintro rfl; exact hn (by simp))⟩⟩
  rw [← hcell']
  by_cases hjx : j < xs.length
  · rw [World.cell?_setCells_out g _ _ _ _ (fun _ _ => Or.inl (by show off + j < off + n * i.size; omega)), hcell, hcur j (by omega), List.getElem?_append_left hjx]
  · have hjn : j - xs.length < news.length := by rw [List.length_append] at hlen; rw [Nat.add_mul] at hj; omega
    have h1 := World.cell?_setCells_in g news (off + n * i.size) w hsome (j - xs.length) hjn
    rw [show off + n * i.size + (j - xs.length) = off + j by omega] at h1
    rw [h1, List.getElem?_append_right (by omega), List.getElem?_eq_getElem hjn]
/-- The last element is cleared, of a slice that is one shorter already. -/
theorem run_clear_last {P : Program} {w : World} (t ty e : TypeId) (z : Value) (size : Nat) (ht : P.underlying t = some (.slice e)) (hz : ∀ w, (zeroValue e).run P w = .ok z w) (hzs : z.cells.size = size) (h1 : ∀ u ∈ (Builtin.zeroCells z.cells 1).toList, u.oneCell' = true) (hz1 : (Builtin.zeroCells z.cells 1).size = size)
    (g off n c d : Nat) (xs : List Value) (hown : OffRow w e size (.slice (some ⟨g, off, none⟩) n c) n xs) (hc : n < c) :
    ∃ w', (Builtin.clear_ #[t] ty #[.slice (some ⟨g, off + n * size, none⟩) 1 d]).run P w = .ok (.tuple #[]) w' ∧ OffRow w' e size (.slice (some ⟨g, off, none⟩) n c) n xs ∧ KeptBut [g] w w' := by
  obtain ⟨hxl, A, c', he, hnc, hcm, hblk⟩ := hown
  have e1 : some (⟨g, off, none⟩ : Addr) = A := by injection he
  have e2 : c = c' := by injection he
  subst e1 e2
  obtain ⟨g', off', cur, hA, hg, hsz, hcur⟩ := hblk (by omega)
  have e3 : g = g' := by injection hA with hA; injection hA
  have e4 : off = off' := by injection hA with hA; injection hA
  subst e3 e4
  have hmul : (n + 1) * size ≤ c * size := Nat.mul_le_mul_right _ hc
  rw [Nat.add_mul, Nat.one_mul] at hmul
  obtain ⟨Z, hZ⟩ : ∃ Z, Builtin.zeroCells z.cells 1 = Z := ⟨_, rfl⟩
  rw [hZ] at h1 hz1
  have hs : (storeCells ⟨g, off + n * size, none⟩ Z.toList 0).run P w = .ok () (w.setRow g (splice cur.toList (off + n * size) Z.toList).toArray) := by
    have h := run_storeCells_at P g (off + n * size) e Z.toList 0 cur w hg (by rw [Array.length_toList, hz1]; omega) h1
    simp only [Nat.add_zero] at h
    rw [h]
    simp [splice]
  have hsp : off + n * size + Z.toList.length ≤ cur.toList.length := by rw [Array.length_toList, hz1, Array.length_toList]; omega
  refine ⟨w.setRow g (splice cur.toList (off + n * size) Z.toList).toArray, ?_, ⟨hxl, some ⟨g, off, none⟩, c, rfl, hnc, hcm, fun _ => ⟨g, off, (splice cur.toList (off + n * size) Z.toList).toArray, rfl, (show Blk w g e cur from hg).row _, ?_, fun j hj => ?_⟩⟩, KeptBut.only ((Only.refl g w).setRow _)⟩
  · unfold Builtin.clear_
    simp only [Sem.run_bind, run_underlying ht, Result.andThen_ok, hz, Sem.run_pure]
    simp [hZ, hs, Sem.run_bind, run_underlying ht, hz, Result.andThen]
  · rw [List.size_toArray, Go.Lin.splice_length hsp, Array.length_toList]
    exact hsz
  · rw [List.getElem?_toArray, Go.Lin.splice_get _ _ _ _ hsp, if_neg (by omega)]
    simpa using hcur j hj
end Go.Thg
