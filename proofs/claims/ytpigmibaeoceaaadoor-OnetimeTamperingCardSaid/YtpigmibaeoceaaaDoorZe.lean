/- From the rows' openings to the contracts: a slice of bytes that came in; the row's last step; the table of constants. From the rows' openings to the contracts, for arguments of any kind that reads: what was handed in reads again wherever all that lay before stays; bytes, texts, arrays of bytes. Openings of more kinds of arguments: arrays of integers, arrays of arrays of bytes, slices of arrays of bytes. -/
import Derived.Test.YtpigmibaeoceaaaDoorZd
import Derived.Test.YtpigmibaeoceaaaDoorCards
import Derived.Test.YtpigmibaeoceaaaDoorTie
import Derived.WalkKit
import Derived.ProofKit
import Derived.OpenShut
import Derived.Below
import Derived.ChangeSame
import Derived.ChangeSlices
import Derived.DataShut
import Derived.Deep.DeepHandedRow
import Derived.Lib.LaidTab
import Derived.WideKeyArgs
import Derived.ChangeMaps5
import Derived.Deep.Slices
namespace Go.Proofs.YtpigmibaeoceaaaDoor
open Go Go.RowKit Go.WideShapes Go.ChangeShapes Go.ChangeAt Go.Bul
theorem own : ownKnob Tryd.prog.godebug = none := by kernel_rfl
section
variable {H : Type} {enc : TypeId × Value → H} {P : Program}
/-- The row's last step where all that lay before stays. -/
theorem post_of_below {f : Func} {s : ChangeSpec} {apart fresh handsOn again : Bool} {W W' : World} {args : Array Value} {v : Value} {ds gs : List (DataW H)} {before pa pv : List MemPlace}
    (hW : DataW.Whole enc P f.params.toList s.vars apart W args.toList ds gs before)
    (hres : ∀ (b : Nat) (sp : Nat → Bool) (hd : Bool), DataW.TrodAll enc P W' b sp hd f.resultTypes.toList (v.resultList f.resultTypes.size) (s.fn H (ds ++ gs)).results [])
    (hargs : ∀ sp : Nat → Bool, (∀ p ∈ before, sp p.block = true) → DataW.TrodAll enc P W' 0 sp true f.params.toList args.toList (s.fn H (ds ++ gs)).args pa)
    (hvars : ∀ sp : Nat → Bool, (∀ p ∈ before, sp p.block = true) → DataW.TrodVars enc P W' sp s.vars (s.fn H (ds ++ gs)).vars pv)
    (hps : before = pa ++ pv) (hb : Below W.heap.size W W')
    (hok : ∀ (j : Nat) (t : TypeId) (r : Value), f.resultTypes[j]? = some t → (v.resultList f.resultTypes.size)[j]? = some r → Value.okWide P W' .any 0 t r) :
    s.post enc P f apart fresh handsOn again W args v W' := by
  have hlt : ∀ p ∈ before, p.block < W.heap.size := fun p hp => hW.lt p hp
  have hold : ∀ p ∈ before, (fun b => decide (b < W.heap.size)) p.block = true := fun p hp => by simpa using hlt p hp
  refine ⟨ds, gs, before, [], pa, pv, hW, hres _ _ _, hargs _ hold, hvars _ hold, World.keptBut_mono (fun p hp => ⟨hp, ?_⟩) (hb.frame (· ∈ before)), fun _ => ?_⟩
  · rw [hps, List.mem_append] at hp
    exact Or.inr hp
  · obtain ⟨_, _, _, _, _, hz, hn⟩ := hW
    refine ⟨hok, _, _, ([] ++ pa) ++ pv, ⟨[] ++ pa, pv, trodAll_append (hargs _ (fun _ _ => rfl)) (hres _ _ _), hvars _ (fun _ _ => rfl), rfl, ?_, ?_⟩, ?_⟩
    · intro b off hp
      have hin : MemPlace.cell b off ∈ before := by rw [hps]; simpa using hp
      rw [hb.frozen (hlt _ hin)]
      exact hz b off hin
    · intro ha
      have := hn ha
      rw [hps] at this
      simpa using this
    · intro p hp _
      rw [hps]
      simpa using hp
theorem cells_u8 : Tryd.prog.cellsOf 5 = 1 := by kernel_rfl
end
theorem gTab : Tryd.prog.globalNamed "bulletin/sha256.constants" = some 0 := by kernel_rfl
theorem gTabType : (Tryd.prog.globals[0]?).map (·.type) = some 83 := by kernel_rfl
theorem cells_w64 : Tryd.prog.cellsOf 83 = 64 := by kernel_rfl
theorem cells_u32 : Tryd.prog.cellsOf 81 = 1 := by kernel_rfl
theorem table {W : World} (h : laidMetH Tryd.prog [("bulletin/sha256.constants", Rows.laid_bulletin_sha256_constants)] W) : Lib.TabIs Tryd.prog W "bulletin/sha256.constants" .u32 (Bul.ks.map fun (n : Nat) => (n : Int)) :=
  Lib.tabIs_of_head (rest := []) gTab gTabType Tryd.underlying83 Tryd.underlying81 cells_u32 cells_w64 h
theorem tab_of {W : World} (h : laidMetH Tryd.prog [("bulletin/sha256.constants", Rows.laid_bulletin_sha256_constants)] W) : Tab W := fun i hi => by
  have hl : Bul.ks.length = 64 := rfl
  rw [(table h).cell gTab i (by simp [hl]; exact hi)]
  simp [List.getD, Bul.K, hl, hi]
/-- A world for the witnesses: the settled one, the table holding what its initialiser lays. -/
noncomputable def laidWorld (os : Os) : World :=
  { World.holding Tryd.prog os ⟨#[], #[], []⟩ with heap := (World.holding Tryd.prog os ⟨#[], #[], []⟩).heap.modify 0 fun
      | .cells _ t frozen => .cells #[.int .u32 1116352408, .int .u32 1899447441, .int .u32 3049323471, .int .u32 3921009573, .int .u32 961987163, .int .u32 1508970993, .int .u32 2453635748, .int .u32 2870763221, .int .u32 3624381080, .int .u32 310598401, .int .u32 607225278, .int .u32 1426881987, .int .u32 1925078388, .int .u32 2162078206, .int .u32 2614888103, .int .u32 3248222580, .int .u32 3835390401, .int .u32 4022224774, .int .u32 264347078, .int .u32 604807628, .int .u32 770255983, .int .u32 1249150122, .int .u32 1555081692, .int .u32 1996064986, .int .u32 2554220882, .int .u32 2821834349, .int .u32 2952996808, .int .u32 3210313671, .int .u32 3336571891, .int .u32 3584528711, .int .u32 113926993, .int .u32 338241895, .int .u32 666307205, .int .u32 773529912, .int .u32 1294757372, .int .u32 1396182291, .int .u32 1695183700, .int .u32 1986661051, .int .u32 2177026350, .int .u32 2456956037, .int .u32 2730485921, .int .u32 2820302411, .int .u32 3259730800, .int .u32 3345764771, .int .u32 3516065817, .int .u32 3600352804, .int .u32 4094571909, .int .u32 275423344, .int .u32 430227734, .int .u32 506948616, .int .u32 659060556, .int .u32 883997877, .int .u32 958139571, .int .u32 1322822218, .int .u32 1537002063, .int .u32 1747873779, .int .u32 1955562222, .int .u32 2024104815, .int .u32 2227730452, .int .u32 2361852424, .int .u32 2428436474, .int .u32 2756734187, .int .u32 3204031479, .int .u32 3329325298] t frozen
      | o => o }
end Go.Proofs.YtpigmibaeoceaaaDoor
namespace Go.Proofs.YtpigmibaeoceaaaDoor
open Go Go.RowKit Go.WideShapes Go.ChangeShapes Go.ChangeAt Go.Bul
section
variable {H : Type} {enc : TypeId × Value → H} {P : Program}
theorem same_of_below {W W' : World} (hb : Below W.heap.size W W') (p : MemPlace) (hp : p.block < W.heap.size) : W.sameAt W' p := by
  cases p with
  | cell b off => exact hb.cell (p := ⟨b, off, none⟩) hp
  | map b => exact hb.block b hp
theorem all_stay (hl : laidOutB P = true) {W W' : World} {sp : Nat → Bool} : ∀ {ts : List TypeId} {vs : List Value} {ds : List (DataW H)} {ps : List MemPlace}, (∀ t ∈ ts, P.readableRec t = true ∧ t < P.types.size) →
    DataW.TrodAll enc P W 0 (fun _ => true) true ts vs ds ps → (∀ p ∈ ps, W.sameAt W' p) → (∀ p ∈ ps, sp p.block = true) → DataW.TrodAll enc P W' 0 sp true ts vs ds ps
  | [], vs, ds, ps, _, h, _, _ => by
    obtain ⟨rfl, rfl, rfl⟩ := trodAll_nil h
    exact trodAll_mk0
  | t :: ts, vs, ds, ps, ht, h, hs, hp => by
    obtain ⟨v0, vs0, d0, ds0, p0, q0, rfl, rfl, rfl, h0, r0⟩ := trodAll_cons h
    refine trodAll_cons_mk (WideElems.Trod_stays hl (ht t (by simp)).1 (ht t (by simp)).2 h0 (fun p hp' => hs p (by simp [hp'])) (fun p hp' => hp p (by simp [hp']))) (all_stay hl (fun t' ht' => ht t' (by simp [ht'])) r0 (fun p hp' => hs p (by simp [hp'])) (fun p hp' => hp p (by simp [hp'])))
theorem mapM_some {α β : Type} {f : α → Option β} : ∀ {l : List α} {r : List β}, l.mapM f = some r → ∀ x ∈ l, ∃ y, f x = some y
  | [], _, _ => fun x hx => by cases hx
  | a :: l, r, h => fun x hx => by
    rw [List.mapM_cons] at h
    simp only [bind, Option.bind_eq_some_iff, pure, Option.some.injEq] at h
    obtain ⟨y, hy, ys, hys, rfl⟩ := h
    rcases List.mem_cons.1 hx with rfl | hx
    · exact ⟨y, hy⟩
    · exact mapM_some hys x hx
/-- An array of bytes that came in. -/
theorem arr_arg {W : World} {base n : Nat} {t e : TypeId} {v : Value} {d : DataW H} {p : List MemPlace} (ht : P.underlying t = some (.array n e)) (he : P.underlying e = some (.int .u8)) (hc : P.cellsOf e = 1) (hct : P.cellsOf t = n)
    (hok : Value.okWide P W .any base t v) (h : DataW.Trod enc P W 0 (fun _ => true) true t v d p) : ∃ bs : List Nat, v = .agg (cellsOf .u8 bs) ∧ bs.length = n ∧ Bytes bs := by
  obtain ⟨cs, rfl, hsz⟩ : ∃ cs : Array Value, v = .agg cs ∧ cs.size = n := by
    simp only [Value.okWide, ht] at hok
    obtain ⟨cs, h1, h2, _⟩ := hok
    exact ⟨cs, h1, by rw [h2, hct]⟩
  obtain ⟨fuel, hf⟩ := h
  have hcells : ∀ i, i < n → ∃ m : Nat, cs[i]? = some (.int .u8 (m : Int)) ∧ m < 256 := by
    cases fuel with
    | zero => simp [DataW.trod] at hf
    | succ k =>
      rw [DataW.trod_step] at hf
      unfold DataW.trodStep at hf
      rw [ht] at hf
      simp only [Value.cells, hc, Option.ite_none_right_eq_some, Option.map_eq_some_iff] at hf
      obtain ⟨_, xs, hm, _⟩ := hf
      intro i hi
      obtain ⟨y, hy⟩ := mapM_some hm i (List.mem_range.2 hi)
      obtain ⟨m, hm, _, hw⟩ := DataW.trod_int he hy
      have h0 : cs.toList[i]? = some (.int .u8 m) := by
        have := congrArg (·[0]?) hm
        simpa [List.getElem?_take] using this
      have h1 := (Go.Lit.wf_int_iff .u8 m).1 hw
      have e1 : IntKind.u8.min = 0 := rfl
      have e2 : IntKind.u8.max = 255 := rfl
      refine ⟨m.toNat, ?_, by omega⟩
      rw [← Array.getElem?_toList, h0]
      congr 2
      omega
  refine ⟨cs.toList.map fun v => match v with | .int _ m => m.toNat | _ => 0, ?_, by simp [hsz], ?_⟩
  · congr 1
    apply Array.ext'
    refine List.ext_getElem (by simp [cellsOf, vals]) (fun i h1 h2 => ?_)
    obtain ⟨m, hm, _⟩ := hcells i (by simpa [hsz] using h1)
    have hi : i < cs.size := by simpa using h1
    rw [Array.getElem?_eq_getElem hi, Option.some.injEq] at hm
    simp [cellsOf, vals, hm]
  · intro x hx
    simp only [List.mem_map] at hx
    obtain ⟨u, hu, rfl⟩ := hx
    obtain ⟨i, hi, rfl⟩ := List.mem_iff_getElem.1 hu
    obtain ⟨m, hm, hlt⟩ := hcells i (by simpa [hsz] using hi)
    have hi' : i < cs.size := by simpa using hi
    rw [Array.getElem?_eq_getElem hi', Option.some.injEq] at hm
    simp [hm]
    omega
end
theorem laid_book : laidOutB Tryd.prog = true := by kernel_rfl
end Go.Proofs.YtpigmibaeoceaaaDoor
namespace Go.Proofs.YtpigmibaeoceaaaDoor
open Go Go.RowKit Go.WideShapes Go.ChangeShapes Go.ChangeAt Go.Bul
section
variable {H : Type} {enc : TypeId × Value → H} {P : Program}
/-- The parts of an array that reads. -/
theorem arr_parts {W : World} {base n k fuel : Nat} {sp : Nat → Bool} {held : Bool} {t e : TypeId} {cs : List Value} {x : DataW H × List MemPlace} (ht : P.underlying t = some (.array n e)) (hk : P.cellsOf e = k)
    (hf : DataW.trod enc P W base sp held fuel t cs = some x) : cs.length = P.cellsOf t ∧ ∃ m, ∀ i, i < n → ∃ y, DataW.trod enc P W base sp held m e ((cs.drop (i * k)).take k) = some y := by
  cases fuel with
  | zero => simp [DataW.trod] at hf
  | succ m =>
    rw [DataW.trod_step] at hf
    unfold DataW.trodStep at hf
    rw [ht] at hf
    simp only [hk, Option.ite_none_right_eq_some, Option.map_eq_some_iff] at hf
    obtain ⟨hl, xs, hm, _⟩ := hf
    exact ⟨hl, m, fun i hi => mapM_some hm i (List.mem_range.2 hi)⟩
/-- The cells of an array of integers that reads. -/
theorem arr_ints {W : World} {base n fuel : Nat} {sp : Nat → Bool} {held : Bool} {t e : TypeId} {q : IntKind} {cs : List Value} {x : DataW H × List MemPlace} (ht : P.underlying t = some (.array n e)) (he : P.underlying e = some (.int q)) (hc : P.cellsOf e = 1) (hct : P.cellsOf t = n)
    (hf : DataW.trod enc P W base sp held fuel t cs = some x) : ∃ zs : List Int, cs = zs.map (Value.int q) ∧ zs.length = n ∧ ∀ z ∈ zs, (Lit.int q z).wf = true := by
  obtain ⟨hl, m, hp⟩ := arr_parts ht hc hf
  rw [hct] at hl
  have hcells : ∀ i, i < n → ∃ z, cs[i]? = some (.int q z) ∧ (Lit.int q z).wf = true := fun i hi => by
    obtain ⟨y, hy⟩ := hp i hi
    obtain ⟨z, hz, _, hw⟩ := DataW.trod_int he hy
    refine ⟨z, ?_, hw⟩
    have := congrArg (·[0]?) hz
    simpa [List.getElem?_take] using this
  refine ⟨cs.map fun v => match v with | .int _ z => z | _ => 0, ?_, by simp [hl], fun z hz => ?_⟩
  · refine List.ext_getElem (by simp) (fun i h1 h2 => ?_)
    obtain ⟨z, hz, _⟩ := hcells i (by omega)
    rw [List.getElem?_eq_getElem h1, Option.some.injEq] at hz
    simp [hz]
  · simp only [List.mem_map] at hz
    obtain ⟨u, hu, rfl⟩ := hz
    obtain ⟨i, hi, rfl⟩ := List.mem_iff_getElem.1 hu
    obtain ⟨z, hz, hw⟩ := hcells i (by omega)
    rw [List.getElem?_eq_getElem hi, Option.some.injEq] at hz
    simp [hz, hw]
/-- An array of integers that came in. -/
theorem ints_arg {W : World} {base n : Nat} {t e : TypeId} {q : IntKind} {v : Value} {d : DataW H} {p : List MemPlace} (ht : P.underlying t = some (.array n e)) (he : P.underlying e = some (.int q)) (hc : P.cellsOf e = 1) (hct : P.cellsOf t = n)
    (hok : Value.okWide P W .any base t v) (h : DataW.Trod enc P W 0 (fun _ => true) true t v d p) : ∃ zs : List Int, v = .agg (zs.map (Value.int q)).toArray ∧ zs.length = n ∧ ∀ z ∈ zs, (Lit.int q z).wf = true := by
  obtain ⟨cs, rfl, hsz⟩ : ∃ cs : Array Value, v = .agg cs ∧ cs.size = n := by
    simp only [Value.okWide, ht] at hok
    obtain ⟨cs, h1, h2, _⟩ := hok
    exact ⟨cs, h1, by rw [h2, hct]⟩
  obtain ⟨fuel, hf⟩ := h
  obtain ⟨zs, h1, h2, h3⟩ := arr_ints ht he hc hct hf
  refine ⟨zs, ?_, h2, h3⟩
  rw [← h1]
  rfl
/-- A slice of arrays of k bytes reads as these bytes. -/
structure RdArr (w : World) (A : Option Addr) (n k : Nat) (bs : List Nat) : Prop where
  len : bs.length = n * k
  bytes : Bytes bs
  at_ : 0 < n → ∃ ad, A = some ad ∧ ad.block < w.heap.size ∧ ∀ j, j < n * k → w.cell? (ad.add j) = some (.int .u8 (bs.getD j 0 : Nat))
end
end Go.Proofs.YtpigmibaeoceaaaDoor
