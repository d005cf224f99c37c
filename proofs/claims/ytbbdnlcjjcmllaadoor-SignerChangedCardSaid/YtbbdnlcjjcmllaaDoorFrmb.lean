/- From the rows' openings to the contracts, for arguments of any kind that reads: what was handed in reads again wherever all that lay before stays; bytes, texts, arrays of bytes. -/
import Derived.Test.YtbbdnlcjjcmllaaDoorFrm
import Derived.WideKeyArgs
import Derived.ChangeMaps5
namespace Go.Proofs.YtbbdnlcjjcmllaaDoor
open Go Go.RowKit Go.WideShapes Go.ChangeShapes Go.ChangeAt Go.Bul
section
variable {H : Type} {enc : TypeId × Value → H} {P : Program}
theorem same_of_below {W W' : World} (hb : Below W.heap.size W W') (p : MemPlace) (hp : p.block < W.heap.size) : W.sameAt W' p := by
  cases p with
  | cell b off => exact hb.cell (p := ⟨b, off, none⟩) hp
  | map b => exact hb.block b hp
theorem all_stay (hl : laidOutB P = true) {W W' : World} {sp : Nat → Bool} : ∀ {ts : List TypeId} {vs : List Value} {ds : List (DataW H)} {ps : List MemPlace}, (∀ t ∈ ts, P.readableRec t = true ∧ t < P.types.size) →
    DataW.TrodAll enc P W 0 (fun _ => true) true ts vs ds ps → (∀ p ∈ ps, W.sameAt W' p) → (∀ p ∈ ps, sp p.block = true) → DataW.TrodAll enc P W' 0 sp true ts vs ds ps
  | [], vs, ds, ps, _, h, _, _ => by
    obtain ⟨rfl, rfl, rfl⟩ := trodAll_nil h
    exact trodAll_mk0
  | t :: ts, vs, ds, ps, ht, h, hs, hp => by
    obtain ⟨v0, vs0, d0, ds0, p0, q0, rfl, rfl, rfl, h0, r0⟩ := trodAll_cons h
    refine trodAll_cons_mk (WideElems.Trod_stays hl (ht t (by simp)).1 (ht t (by simp)).2 h0 (fun p hp' => hs p (by simp [hp'])) (fun p hp' => hp p (by simp [hp']))) (all_stay hl (fun t' ht' => ht t' (by simp [ht'])) r0 (fun p hp' => hs p (by simp [hp'])) (fun p hp' => hp p (by simp [hp'])))
theorem mapM_some {α β : Type} {f : α → Option β} : ∀ {l : List α} {r : List β}, l.mapM f = some r → ∀ x ∈ l, ∃ y, f x = some y
  | [], _, _ => fun x hx => by cases hx
  | a :: l, r, h => fun x hx => by
    rw [List.mapM_cons] at h
    simp only [bind, Option.bind_eq_some_iff, pure, Option.some.injEq] at h
    obtain ⟨y, hy, ys, hys, rfl⟩ := h
    rcases List.mem_cons.1 hx with rfl | hx
    · exact ⟨y, hy⟩
    · exact mapM_some hys x hx
/-- An array of bytes that came in. -/
theorem arr_arg {W : World} {base n : Nat} {t e : TypeId} {v : Value} {d : DataW H} {p : List MemPlace} (ht : P.underlying t = some (.array n e)) (he : P.underlying e = some (.int .u8)) (hc : P.cellsOf e = 1) (hct : P.cellsOf t = n)
    (hok : Value.okWide P W .any base t v) (h : DataW.Trod enc P W 0 (fun _ => true) true t v d p) : ∃ bs : List Nat, v = .agg (cellsOf .u8 bs) ∧ bs.length = n ∧ Bytes bs := by
  obtain ⟨cs, rfl, hsz⟩ : ∃ cs : Array Value, v = .agg cs ∧ cs.size = n := by
    simp only [Value.okWide, ht] at hok
    obtain ⟨cs, h1, h2, _⟩ := hok
    exact ⟨cs, h1, by rw [h2, hct]⟩
  obtain ⟨fuel, hf⟩ := h
  have hcells : ∀ i, i < n → ∃ m : Nat, cs[i]? = some (.int .u8 (m : Int)) ∧ m < 256 := by
    cases fuel with
    | zero => simp [DataW.trod] at hf
    | succ k =>
      rw [DataW.trod_step] at hf
      unfold DataW.trodStep at hf
      rw [ht] at hf
      simp only [Value.cells, hc, Option.ite_none_right_eq_some, Option.map_eq_some_iff] at hf
      obtain ⟨_, xs, hm, _⟩ := hf
      intro i hi
      obtain ⟨y, hy⟩ := mapM_some hm i (List.mem_range.2 hi)
      obtain ⟨m, hm, _, hw⟩ := DataW.trod_int he hy
      have h0 : cs.toList[i]? = some (.int .u8 m) := by
        have := congrArg (·[0]?) hm
        simpa [List.getElem?_take] using this
      have h1 := (Go.Lit.wf_int_iff .u8 m).1 hw
      have e1 : IntKind.u8.min = 0 := rfl
      have e2 : IntKind.u8.max = 255 := rfl
      refine ⟨m.toNat, ?_, by omega⟩
      rw [← Array.getElem?_toList, h0]
      congr 2
      omega
  refine ⟨cs.toList.map fun v => match v with | .int _ m => m.toNat | _ => 0, ?_, by simp [hsz], ?_⟩
  · congr 1
    apply Array.ext'
    refine List.ext_getElem (by simp [cellsOf, vals]) (fun i h1 h2 => ?_)
    obtain ⟨m, hm, _⟩ := hcells i (by simpa [hsz] using h1)
    have hi : i < cs.size := by simpa using h1
    rw [Array.getElem?_eq_getElem hi, Option.some.injEq] at hm
    simp [cellsOf, vals, hm]
  · intro x hx
    simp only [List.mem_map] at hx
    obtain ⟨u, hu, rfl⟩ := hx
    obtain ⟨i, hi, rfl⟩ := List.mem_iff_getElem.1 hu
    obtain ⟨m, hm, hlt⟩ := hcells i (by simpa [hsz] using hi)
    have hi' : i < cs.size := by simpa using hi
    rw [Array.getElem?_eq_getElem hi', Option.some.injEq] at hm
    simp [hm]
    omega
/-- A byte that came in. -/
theorem byte_arg {W : World} {base : Nat} {t : TypeId} {v : Value} {d : DataW H} {p : List MemPlace} (ht : P.underlying t = some (.int .u8))
    (hok : Value.okWide P W .any base t v) (h : DataW.Trod enc P W 0 (fun _ => true) true t v d p) : ∃ x : Nat, v = .int .u8 (x : Nat) ∧ x < 256 := by
  obtain ⟨n, rfl, _, _, hw⟩ := open_int ht hok h
  have h1 := (Go.Lit.wf_int_iff .u8 n).1 hw
  have e1 : IntKind.u8.min = 0 := rfl
  have e2 : IntKind.u8.max = 255 := rfl
  exact ⟨n.toNat, by congr 1; omega, by omega⟩
end
theorem laid_book : laidOutB Tryd.prog = true := by kernel_rfl
end Go.Proofs.YtbbdnlcjjcmllaaDoor
