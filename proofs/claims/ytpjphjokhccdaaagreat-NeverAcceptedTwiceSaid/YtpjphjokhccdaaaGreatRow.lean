/- Slices that own what lies behind them, wherever they begin in their block; groups of things. -/
import Derived.Test.YtpjphjokhccdaaaGreatThg
import Derived.Deep.Upon
namespace Go.Thg
open Go Go.RowKit Go.Bul
/-- A slice of n elements whose cells are xs; nothing else looks at its block. -/
def OffRow (w : World) (e : TypeId) (size : Nat) (v : Value) (n : Nat) (xs : List Value) : Prop :=
  xs.length = n * size ∧ ∃ A c, v = .slice A n c ∧ n ≤ c ∧ c ≤ maxLen ∧ (0 < c → ∃ g off cur, A = some ⟨g, off, none⟩ ∧ w.heap[g]? = some (.cells cur e (0, 0)) ∧ off + c * size ≤ cur.size ∧ ∀ j, j < n * size → cur[off + j]? = xs[j]?)
def sFp : Value → List Nat
  | .slice (some a) _ (_ + 1) => [a.block]
  | _ => []
theorem sFp_pos {a : Addr} {n c : Nat} (hc : 0 < c) : sFp (.slice (some a) n c) = [a.block] := by
  cases c with
  | zero => omega
  | succ c => rfl
theorem sFp_zero {A : Option Addr} {n : Nat} : sFp (.slice A n 0) = [] := by cases A <;> rfl
theorem OffRow.keep {w w' : World} {e : TypeId} {size : Nat} {v : Value} {n : Nat} {xs : List Value} (h : OffRow w e size v n xs) (hk : ∀ g ∈ sFp v, w'.heap[g]? = w.heap[g]?) : OffRow w' e size v n xs := by
  obtain ⟨h1, A, c, rfl, h2, h3, h4⟩ := h
  refine ⟨h1, A, c, rfl, h2, h3, fun hc => ?_⟩
  obtain ⟨g, off, cur, rfl, h5, h6⟩ := h4 hc
  exact ⟨g, off, cur, rfl, (hk g (by rw [sFp_pos hc]; simp)).trans h5, h6⟩
theorem OffRow.lt {w : World} {e : TypeId} {size : Nat} {v : Value} {n : Nat} {xs : List Value} (h : OffRow w e size v n xs) : ∀ g ∈ sFp v, g < w.heap.size := by
  obtain ⟨h1, A, c, rfl, h2, h3, h4⟩ := h
  intro g hg
  rcases Nat.eq_zero_or_pos c with hc | hc
  · subst hc; rw [sFp_zero] at hg; cases hg
  · obtain ⟨g', off, cur, rfl, h5, h6⟩ := h4 hc
    rw [sFp_pos hc] at hg
    rw [List.mem_singleton.1 hg]
    exact (Array.getElem?_eq_some_iff.1 h5).1
theorem sFp_nodup (v : Value) : (sFp v).Nodup := by
  unfold sFp
  split <;> simp
/-- The slice, as a thing. -/
def rowT (e : TypeId) (size : Nat) (v : Value) (n : Nat) (xs : List Value) : Thing :=
  ⟨sFp v, fun w => OffRow w e size v n xs, fun _ _ hk h => h.keep hk, fun _ h => h.lt, fun _ _ => sFp_nodup v⟩
theorem OffRow.nil (w : World) (e : TypeId) (size : Nat) : OffRow w e size (.slice none 0 0) 0 [] := ⟨by simp, none, 0, rfl, Nat.le_refl _, by unfold maxLen; omega, fun h => by omega⟩
theorem OffRow.empty (w : World) (e : TypeId) (size : Nat) (A : Option Addr) : OffRow w e size (.slice A 0 0) 0 [] := ⟨by simp, A, 0, rfl, Nat.le_refl _, by unfold maxLen; omega, fun h => by omega⟩
theorem OffRow.form {w : World} {e : TypeId} {size : Nat} {v : Value} {n : Nat} {xs : List Value} (h : OffRow w e size v n xs) : ∃ A c, v = .slice A n c ∧ n ≤ c ∧ c ≤ maxLen := by
  obtain ⟨_, A, c, h1, h2, h3, _⟩ := h
  exact ⟨A, c, h1, h2, h3⟩
/-- What the slice reads as. -/
theorem OffRow.cells {w : World} {e : TypeId} {size : Nat} {A : Option Addr} {n c : Nat} {xs : List Value} (h : OffRow w e size (.slice A n c) n xs) (hn : 0 < n) :
    ∃ g off, A = some ⟨g, off, none⟩ ∧ g < w.heap.size ∧ (∀ j u, xs[j]? = some u → w.cell? ⟨g, off + j, none⟩ = some u) ∧ ∀ j, w.frozen? ⟨g, off + j, none⟩ = false := by
  obtain ⟨h1, A', c', he, h2, h3, h4⟩ := h
  have e1 : A = A' := by injection he
  have e2 : c = c' := by injection he
  subst e1 e2
  obtain ⟨g, off, cur, rfl, h5, h6, h7⟩ := h4 (by omega)
  refine ⟨g, off, rfl, (Array.getElem?_eq_some_iff.1 h5).1, fun j u hu => ?_, fun j => frozen_of_row w g _ cur e h5⟩
  rw [cell_of_row w g _ cur e (0, 0) h5, h7 j ?_, hu]
  have := (List.getElem?_eq_some_iff.1 hu).1
  omega
theorem OffRow.src {P : Program} {w : World} {e : TypeId} {size : Nat} {A : Option Addr} {n c : Nat} {xs : List Value} {tx e' : TypeId} (h : OffRow w e size (.slice A n c) n xs) (hk : P.underlying tx = some (.slice e')) (h1 : ∀ u ∈ xs, u.oneCell' = true) : Src P size tx (.slice A n c) n xs w := by
  rcases Nat.eq_zero_or_pos n with hn | hn
  · subst hn
    have hx : xs = [] := List.eq_nil_of_length_eq_zero (by simpa using h.1)
    subst hx
    cases A with
    | none => exact Src.ofNil w hk c
    | some a => exact Src.ofSlice w hk a 0 c [] (by simp) (by simp) h1
  · obtain ⟨g, off, rfl, _, h2, _⟩ := h.cells hn
    exact Src.ofSlice w hk _ n c xs h.1 (fun j u hu => by rw [addr_at]; exact h2 j u hu) h1
/-- Cells written into a block. -/
theorem heap_setCells (g : Nat) (e : TypeId) : ∀ (vs : List Value) (o : Nat) (w : World) (cur : Array Value), w.heap[g]? = some (.cells cur e (0, 0)) → ∃ cur', (w.setCells g o vs).heap[g]? = some (.cells cur' e (0, 0)) ∧ cur'.size = cur.size
  | [], o, w, cur, h => ⟨cur, h, rfl⟩
  | v :: vs, o, w, cur, h => by
    obtain ⟨cur', h1, h2⟩ := heap_setCells g e vs (o + 1) (w.setCell ⟨g, o, none⟩ v) _ (heap_setCell_same w g o cur e v h)
    exact ⟨cur', h1, by simpa using h2⟩
theorem size_setCells (g : Nat) : ∀ (vs : List Value) (o : Nat) (w : World), (w.setCells g o vs).heap.size = w.heap.size
  | [], _, _ => rfl
  | v :: vs, o, w => by
    show ((w.setCell ⟨g, o, none⟩ v).setCells g (o + 1) vs).heap.size = _
    rw [size_setCells g vs]
    simp [World.setCell]
theorem tape_setCells (g : Nat) : ∀ (vs : List Value) (o : Nat) (w : World), (w.setCells g o vs).tape = w.tape
  | [], _, _ => rfl
  | v :: vs, o, w => by
    show ((w.setCell ⟨g, o, none⟩ v).setCells g (o + 1) vs).tape = _
    rw [tape_setCells g vs]
    rfl
/-- append onto such a slice, from whatever source. -/
theorem run_append_off {P : Program} {w : World} (t tx ty e : TypeId) (z : Value) (size bytes : Nat) (ht : P.underlying t = some (.slice e)) (hi : (P.info? e).map (fun i => (i.zero, i.size, i.bytes)) = some (some z, size, bytes)) (hzs : z.cells.size = size)
    (v : Value) (n : Nat) (xs : List Value) (hown : OffRow w e size v n xs) (x : Value) (m : Nat) (news : List Value) (hs : Src P size tx x m news w) (h63 : n + m ≤ maxLen) (hbytes : (n + m) * bytes ≤ 140737488355328) :
    ∃ A' c' w', (Builtin.append_ #[t, tx] ty #[v, x]).run P w = .ok (.slice A' (n + m) c') w' ∧ Becomes (sFp v) w (rowT e size (.slice A' (n + m) c') (n + m) (xs ++ news)) w' := by
  obtain ⟨i, hi', hz', hs', hb'⟩ := info_parts hi
  subst hs' hb'
  obtain ⟨hxl, A, c, rfl, hnc, hcm, hblk⟩ := hown
  have hnl := hs.newsLen
  have hlen : (xs ++ news).length = (n + m) * i.size := by rw [List.length_append, hxl, hnl, Nat.add_mul]
  by_cases hroom : n + m ≤ c
  · rcases Nat.eq_zero_or_pos c with hc | hc
    · subst hc
      obtain rfl : n = 0 := by omega
      obtain rfl : m = 0 := by omega
      obtain rfl : xs = [] := List.eq_nil_of_length_eq_zero (by simpa using hxl)
      obtain rfl : news = [] := List.eq_nil_of_length_eq_zero (by simpa using hnl)
      exact ⟨A, 0, w, run_append_nothing w t tx ty e i ht hi' A 0 0 (Nat.le_refl _) x hs, OffRow.empty w e i.size A, KeptBut.refl _ _, fun g hg => .inl hg⟩
    · obtain ⟨g, off, cur, rfl, hg, hsz, hcur⟩ := hblk hc
      have hmul : (n + m) * i.size ≤ c * i.size := Nat.mul_le_mul_right _ hroom
      rw [Nat.add_mul] at hmul
      have hcell : ∀ k, w.cell? ⟨g, k, none⟩ = cur[k]? := fun k => cell_of_row w g k cur e (0, 0) hg
      have hsome : ∀ j, j < news.length → (w.cell? ⟨g, off + n * i.size + j, none⟩).isSome = true := fun j hj => by
        rw [hcell, Array.getElem?_eq_getElem (by omega)]; rfl
      have hrun := run_append_room_src (P := P) w t tx ty e i ht hi' g off n c x m news hs hroom hsome (fun j _ => frozen_of_row w g _ cur e hg)
      obtain ⟨cur', hg', hsz'⟩ := heap_setCells g e news (off + n * i.size) w cur hg
      have hcell' : ∀ k, (w.setCells g (off + n * i.size) news).cell? ⟨g, k, none⟩ = cur'[k]? := fun k => cell_of_row _ g k cur' e (0, 0) hg'
      refine ⟨_, c, _, hrun, ⟨hlen, some ⟨g, off, none⟩, c, rfl, hroom, hcm, fun _ => ⟨g, off, cur', rfl, hg', by omega, fun j hj => ?_⟩⟩, ⟨World.os_setCells _ _ _ _, tape_setCells _ _ _ _, World.output_setCells _ _ _ _, by rw [size_setCells]; exact Nat.le_refl _, fun k hk hn => World.heap_setCells_other w g _ news hk (by rintro rfl; exact hn (by rw [sFp_pos hc]; simp))⟩, fun k hk => ?_⟩
      · rw [← hcell']
        by_cases hjx : j < xs.length
        · rw [World.cell?_setCells_out g _ _ _ _ (fun _ _ => Or.inl (by show off + j < off + n * i.size; omega)), hcell, hcur j (by omega), List.getElem?_append_left hjx]
        · have hjn : j - xs.length < news.length := by rw [List.length_append] at hlen; rw [Nat.add_mul] at hj; omega
          have h1 := World.cell?_setCells_in g news (off + n * i.size) w hsome (j - xs.length) hjn
          rw [show off + n * i.size + (j - xs.length) = off + j by omega] at h1
          rw [h1, List.getElem?_append_right (by omega), List.getElem?_eq_getElem hjn]
      · refine .inl ?_
        have hk' : k ∈ sFp (.slice (some ⟨g, off, none⟩) (n + m) c) := hk
        rw [sFp_pos hc] at hk' ⊢
        exact hk'
  · have hold : (Builtin.firstCells i.size n (.slice A n c)).run P w.drew = .ok xs.toArray w.drew := by
      rcases Nat.eq_zero_or_pos c with hc | hc
      · subst hc
        obtain rfl : n = 0 := by omega
        obtain rfl : xs = [] := List.eq_nil_of_length_eq_zero (by simpa using hxl)
        cases A with
        | none => exact run_firstCells_none w.drew i.size 0 0 0
        | some a => exact run_firstCells_some w.drew i.size 0 a 0 0 [] (by simp) (by simp)
      · obtain ⟨g, off, cur, rfl, hg, hsz, hcur⟩ := hblk hc
        refine run_firstCells_some w.drew i.size n ⟨g, off, none⟩ n c xs hxl fun j u hu => ?_
        rw [addr_at]
        show w.cell? _ = _
        rw [cell_of_row w g _ cur e (0, 0) hg, hcur j (by have := (List.getElem?_eq_some_iff.1 hu).1; omega), hu]
    have hsmall : n + m ≤ 9223372036854775807 := by simp only [maxLen] at h63; omega
    have hrun := run_append_grow_src (P := P) w t tx ty e i z ht hi' hz' A n c xs hold x m news hs (by omega) (by omega) (growslice_fits (by omega) hbytes)
    have hge := grownCap_ge w (n + m) c e
    have hcm' := grownCap_le_maxLen w (n + m) c e h63
    refine ⟨_, _, _, hrun, ⟨hlen, _, _, rfl, hge, hcm', fun _ => ⟨w.heap.size, 0, _, rfl, heap_alloc_new w.drew _, ?_, fun j hj => ?_⟩⟩, ⟨rfl, rfl, rfl, by simp, fun k hk _ => Below.heap_alloc w.drew _ k hk⟩, fun k hk => ?_⟩
    · rw [Array.size_append, List.size_toArray, hlen, size_zeroCells, hzs, ← Nat.add_mul, Nat.zero_add]
      apply Nat.le_of_eq
      congr 1
      omega
    · rw [Nat.zero_add, Array.getElem?_append_left (by rw [List.size_toArray, hlen]; exact hj), List.getElem?_toArray]
    · refine .inr ?_
      have hk' : k ∈ sFp (.slice (some ⟨w.heap.size, 0, none⟩) (n + m) (grownCap w (n + m) c e)) := hk
      rcases Nat.eq_zero_or_pos (grownCap w (n + m) c e) with h0 | h0
      · rw [h0, sFp_zero] at hk'; cases hk'
      · rw [sFp_pos h0] at hk'
        rw [List.mem_singleton.1 hk']
        exact Nat.le_refl _
/-- The rest of such a slice. -/
theorem OffRow.rest {w : World} {e : TypeId} {size : Nat} {A : Option Addr} {n c : Nat} {xs : List Value} (h : OffRow w e size (.slice A n c) n xs) (k : Nat) (hk : k ≤ n) :
    ∃ A', OffRow w e size (.slice A' (n - k) (c - k)) (n - k) (xs.drop (k * size)) ∧ (∀ g ∈ sFp (.slice A' (n - k) (c - k)), g ∈ sFp (.slice A n c)) ∧
      ((k < c → ∀ g off, A = some ⟨g, off, none⟩ → A' = some ⟨g, off + k * size, none⟩) ∧ (c ≤ k → A' = A)) := by
  obtain ⟨h1, A', c', he, h2, h3, h4⟩ := h
  have e1 : A = A' := by injection he
  have e2 : c = c' := by injection he
  subst e1 e2
  have hl : (xs.drop (k * size)).length = (n - k) * size := by rw [List.length_drop, h1, Nat.sub_mul]
  by_cases hc : k < c
  · obtain ⟨g, off, cur, rfl, h5, h6, h7⟩ := h4 (by omega)
    refine ⟨some ⟨g, off + k * size, none⟩, ⟨hl, _, _, rfl, by omega, by omega, fun _ => ⟨g, off + k * size, cur, rfl, h5, ?_, fun j hj => ?_⟩⟩, fun x hx => ?_, fun _ g' off' hg => ?_, fun hck => by omega⟩
    · have : (c - k) * size + k * size = c * size := by rw [← Nat.add_mul]; congr 1; omega
      omega
    · have hm : (n - k) * size + k * size = n * size := by rw [← Nat.add_mul]; congr 1; omega
      rw [List.getElem?_drop, Nat.add_assoc, h7 _ (by omega)]
    · rw [sFp_pos (by omega)] at hx ⊢
      exact hx
    · injection hg with hg
      injection hg with h8 h9
      subst h8 h9
      rfl
  · have e3 : c = n := by omega
    have e4 : k = n := by omega
    subst e3 e4
    refine ⟨A, ?_, ?_, fun h => absurd h hc, fun _ => rfl⟩
    · rw [Nat.sub_self, List.drop_of_length_le (by omega)]
      exact OffRow.empty w e size A
    · rw [Nat.sub_self, sFp_zero]
      intro g hg
      cases hg
/-! ### Groups -/
def grp (L : List Ent) (R : List Thing) : Thing :=
  ⟨foot L R, fun w => (∀ b ∈ L, Blk w b.g b.t b.cs ∧ b.cs.size = b.n) ∧ (∀ r ∈ R, r.P w) ∧ (foot L R).Nodup,
    fun w w' hk h => ⟨fun b hb => ⟨(hk b.g (mem_foot.2 (.inl ⟨b, hb, rfl⟩))).trans (h.1 b hb).1, (h.1 b hb).2⟩, fun r hr => r.keep w w' (fun g hg => hk g (mem_foot.2 (.inr ⟨r, hr, hg⟩))) (h.2.1 r hr), h.2.2⟩,
    fun w h g hg => by
      rcases mem_foot.1 hg with ⟨b, hb, rfl⟩ | ⟨r, hr, hg⟩
      · exact (h.1 b hb).1.lt
      · exact r.lt w (h.2.1 r hr) g hg,
    fun _ h => h.2.2⟩
/-- One of several groups, all with one footprint. -/
def anyT {α : Type} (fp : List Nat) (f : α → List Ent × List Thing) (ok : α → Prop) : Thing :=
  ⟨fp, fun w => ∃ x, ok x ∧ foot (f x).1 (f x).2 = fp ∧ (grp (f x).1 (f x).2).P w,
    fun w w' hk ⟨x, h1, h2, h3⟩ => ⟨x, h1, h2, (grp (f x).1 (f x).2).keep w w' (fun g hg => hk g (h2 ▸ hg)) h3⟩,
    fun w ⟨x, _, h2, h3⟩ g hg => (grp (f x).1 (f x).2).lt w h3 g (by show g ∈ foot _ _; rw [h2]; exact hg),
    fun w ⟨x, _, h2, h3⟩ => h2 ▸ (grp (f x).1 (f x).2).nd w h3⟩
section
variable {G : List Nat} {w0 w : World} {L : List Ent} {R : List Thing}
theorem foot_app (L1 L : List Ent) (R1 R : List Thing) : (foot (L1 ++ L) (R1 ++ R)).Perm (foot L (grp L1 R1 :: R)) := by
  simp only [foot, List.map_append, List.flatMap_append, List.flatMap_cons, grp]
  rw [List.append_assoc, List.append_assoc]
  have h1 : (L.map (·.g) ++ (R1.flatMap (·.fp) ++ R.flatMap (·.fp))).Perm (R1.flatMap (·.fp) ++ (L.map (·.g) ++ R.flatMap (·.fp))) := by
    rw [← List.append_assoc, ← List.append_assoc]
    exact List.Perm.append_right _ List.perm_append_comm
  refine (List.Perm.append_left _ h1).trans ?_
  rw [← List.append_assoc, ← List.append_assoc, ← List.append_assoc, ← List.append_assoc]
  refine List.Perm.append_right _ ?_
  exact List.perm_append_comm.trans (by rw [List.append_assoc])
theorem Mem.open {L1 : List Ent} {R1 : List Thing} (h : Mem G w0 L (grp L1 R1 :: R) w) : Mem G w0 (L1 ++ L) (R1 ++ R) w := by
  have hg := h.thing (grp L1 R1) (by simp)
  refine h.repack (fun b hb => ?_) (fun r hr => ?_) (foot_app _ _ _ _)
  · rcases List.mem_append.1 hb with hb | hb
    · exact hg.1 b hb
    · exact h.blk_ b hb
  · rcases List.mem_append.1 hr with hr | hr
    · exact hg.2.1 r hr
    · exact h.thing r (by simp [hr])
theorem Mem.close {L1 : List Ent} {R1 : List Thing} (h : Mem G w0 (L1 ++ L) (R1 ++ R) w) : Mem G w0 L (grp L1 R1 :: R) w := by
  refine h.repack (fun b hb => h.blk_ b (by simp [hb])) (fun r hr => ?_) (foot_app _ _ _ _).symm
  rcases List.mem_cons.1 hr with rfl | hr
  · refine ⟨fun b hb => h.blk_ b (by simp [hb]), fun r hr => h.thing r (by simp [hr]), ?_⟩
    have := (foot_app L1 L R1 R).nodup_iff.1 h.sep
    rw [foot, List.flatMap_cons] at this
    exact (List.nodup_append.1 (List.nodup_append.1 this).2.1).1
  · exact h.thing r (by simp [hr])
theorem Mem.unpack {α : Type} {fp : List Nat} {f : α → List Ent × List Thing} {ok : α → Prop} (h : Mem G w0 L (anyT fp f ok :: R) w) : ∃ x, ok x ∧ foot (f x).1 (f x).2 = fp ∧ Mem G w0 ((f x).1 ++ L) ((f x).2 ++ R) w := by
  obtain ⟨x, h1, h2, h3⟩ := h.thing (anyT fp f ok) (by simp)
  refine ⟨x, h1, h2, Mem.open (h.repack (fun b hb => h.blk_ b hb) (fun r hr => ?_) ?_)⟩
  · rcases List.mem_cons.1 hr with rfl | hr
    · exact h3
    · exact h.thing r (by simp [hr])
  · simp only [foot, List.flatMap_cons]
    show (_ ++ (foot _ _ ++ _)).Perm (_ ++ (fp ++ _))
    rw [h2]
theorem Mem.pack {α : Type} {f : α → List Ent × List Thing} {ok : α → Prop} (x : α) (h : Mem G w0 ((f x).1 ++ L) ((f x).2 ++ R) w) (hx : ok x) : Mem G w0 L (anyT (foot (f x).1 (f x).2) f ok :: R) w := by
  have k := Mem.close h
  refine k.repack (fun b hb => k.blk_ b hb) (fun r hr => ?_) (List.Perm.refl _)
  rcases List.mem_cons.1 hr with rfl | hr
  · exact ⟨x, hx, rfl, k.thing _ (by simp)⟩
  · exact k.thing r (by simp [hr])
/-- Things in another order. -/
theorem Mem.perm {R' : List Thing} (h : Mem G w0 L R w) (hp : R'.Perm R) : Mem G w0 L R' w :=
  h.repack (fun b hb => h.blk_ b hb) (fun r hr => h.thing r (hp.mem_iff.1 hr)) (List.Perm.append_left _ (List.Perm.flatMap_right _ hp))
theorem Mem.permL {L' : List Ent} (h : Mem G w0 L R w) (hp : L'.Perm L) : Mem G w0 L' R w :=
  h.repack (fun b hb => h.blk_ b (hp.mem_iff.1 hb)) (fun r hr => h.thing r hr) (List.Perm.append_right _ (hp.map _))
end
end Go.Thg
