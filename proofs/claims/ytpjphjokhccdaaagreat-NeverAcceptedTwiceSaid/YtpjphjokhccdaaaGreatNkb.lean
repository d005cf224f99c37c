/- Seat n: what a site knows of its ten articles, in plain Lean. -/
import Derived.Test.YtpjphjokhccdaaaGreatNjq
import Derived.Test.YtpjphjokhccdaaaGreatNka
import Derived.Test.YtpjphjokhccdaaaGreatNig
namespace Go.Lin
open Go Go.Bul
theorem stC_tl {j : Nat} {t u : List Value} (h : stC j t = stC j u) : t = u := by
  have h1 := congrArg Array.toList h
  exact List.append_cancel_left h1
/-- The kind of the article of an id, whether it is permanent, its text. -/
def kd (j : Nat) : Int := if j ≤ 8 then 0 else 3 + (((j : Int) - 1) % 2)
def pm (j : Nat) : Bool := decide (9 ≤ j)
abbrev digs : ByteArray := ⟨#[48, 49, 50, 51, 52, 53, 54, 55, 56, 57]⟩
def tx (j : Nat) : ByteArray := digs.extract 0 j
theorem tx_size {j : Nat} (h : j ≤ 10) : (tx j).size = j := by
  unfold tx
  rw [ByteArray.size_extract]
  show min j 10 - 0 = j
  omega
theorem tx_te {q : Nat} (h : q < 10) : (tx (q + 1)).toList.isEmpty = false := (show ∀ q : Fin 10, (tx (q.val + 1)).toList.isEmpty = false by decide +kernel) ⟨q, h⟩
theorem kd_range (j : Nat) : 0 ≤ kd j ∧ kd j ≤ 5 := by
  unfold kd
  split <;> omega
theorem kd_pm (j : Nat) : (kd j != 0) = pm j := by
  unfold kd pm
  by_cases h : j ≤ 8
  · rw [if_pos h, decide_eq_false (by omega)]
    rfl
  · rw [if_neg h, decide_eq_true (by omega)]
    simp
    omega
end Go.Lin
namespace Go.Proofs.YtpjphjokhccdaaaGreat
open Go Go.RowKit Go.Bul Go.Thg Go.Lin Go.Maps
theorem hent_inj {j : Nat} {a d s a' d' s' : Int} {p p' : Bool} (h : hentV j a d s p = hentV j a' d' s' p') : a = a' ∧ d = d' ∧ s = s' ∧ p = p' := by
  injection h with h
  have h1 := stC_tl h
  simp only [List.cons.injEq, Value.int.injEq, Value.bool.injEq, true_and, and_true] at h1
  exact h1
/-- What is in the map of articles for an id. -/
def ArtAt (GS : List Nat) (dt : Nat → Int) (ma : Nat → Option Value) (j : Nat) : Prop := ∃ a gg, ma j = some (.agg (stC j (artTl (dt j) a gg (j : Nat) (kd j)))) ∧ (0 ≤ a ∧ a ≤ 1000000) ∧ gg ∈ GS
/-- An article is there; gone; forgotten. -/
def StA (dt : Nat → Int) (cut : Int) (mh ms : Nat → Option Value) (j : Nat) : Prop :=
  (∃ a p, mh j = some (hentV j a (dt j) 0 (pm j)) ∧ ms j = some (artV (tx j) a p)) ∨ (∃ a, mh j = some (hentV j a (dt j) 1 (pm j)) ∧ ms j = none) ∨ (mh j = none ∧ ms j = none ∧ pm j = false ∧ dt j < cut - 20160)
structure St (GS : List Nat) (dt : Nat → Int) (cut : Int) (ac : List Bool) (mh ms ma : Nat → Option Value) : Prop where
  len : ac.length = 10
  zh : mh 0 = some (hentV 0 0 0 0 false)
  zs : ms 0 = none
  each : ∀ k, k < 10 → (ac[k]? = some false ∧ mh (k + 1) = none ∧ ms (k + 1) = none) ∨ (ac[k]? = some true ∧ ArtAt GS dt ma (k + 1) ∧ StA dt cut mh ms (k + 1))
section
variable {GS : List Nat} {dt : Nat → Int} {cut now : Int} {ac : List Bool} {mh ms ma : Nat → Option Value}
theorem St.start (dt : Nat → Int) : St [] dt 0 (List.replicate 10 false) (updM (fun _ => none) 0 (some (hentV 0 0 0 0 false))) (fun _ => none) (fun _ => none) :=
  ⟨by simp, by simp [updM], rfl, fun k hk => .inl ⟨by rw [List.getElem?_replicate, if_pos hk], by simp [updM], rfl⟩⟩
theorem St.histM (h : St GS dt cut ac mh ms ma) : HistM mh := by
  intro j v hj hv
  cases j with
  | zero =>
    rw [h.zh] at hv
    injection hv with hv
    exact ⟨_, _, _, _, hv.symm⟩
  | succ k =>
    rcases h.each k (by omega) with ⟨_, h1, _⟩ | ⟨_, _, ⟨a, p, h1, _⟩ | ⟨a, h1, _⟩ | ⟨h1, _⟩⟩
    · rw [h1] at hv; cases hv
    · rw [h1] at hv; injection hv with hv; exact ⟨_, _, _, _, hv.symm⟩
    · rw [h1] at hv; injection hv with hv; exact ⟨_, _, _, _, hv.symm⟩
    · rw [h1] at hv; cases hv
theorem St.spoolM (h : St GS dt cut ac mh ms ma) : SpoolM ms := by
  intro j v hj hv
  cases j with
  | zero => rw [h.zs] at hv; cases hv
  | succ k =>
    rcases h.each k (by omega) with ⟨_, _, h1⟩ | ⟨_, _, ⟨a, p, _, h1⟩ | ⟨a, _, h1⟩ | ⟨_, h1, _⟩⟩
    · rw [h1] at hv; cases hv
    · rw [h1] at hv; injection hv with hv; exact ⟨_, _, _, hv.symm⟩
    · rw [h1] at hv; cases hv
    · rw [h1] at hv; cases hv
/-- What was judged acceptable has never been accepted. -/
theorem St.fresh (h : St GS dt cut ac mh ms ma) {k : Nat} (hk : k < 10) (hn : mh (k + 1) = none) (hj : judgeE (dt (k + 1)) now cut (pm (k + 1)) = 0) : ac[k]? = some false ∧ ms (k + 1) = none := by
  rcases h.each k hk with ⟨h1, _, h2⟩ | ⟨_, _, ⟨a, p, h1, _⟩ | ⟨a, h1, _⟩ | ⟨_, h2, h3, h4⟩⟩
  · exact ⟨h1, h2⟩
  · rw [h1] at hn; cases hn
  · rw [h1] at hn; cases hn
  · exfalso
    unfold judgeE at hj
    rw [h3] at hj
    split at hj
    · omega
    · simp [h4] at hj
theorem ArtAt.other {GS' : List Nat} {ma' : Nat → Option Value} {j : Nat} (h : ArtAt GS dt ma j) (hG : ∀ g ∈ GS, g ∈ GS') (hm : ma' j = ma j) : ArtAt GS' dt ma' j := by
  obtain ⟨a, gg, h1, h2, h3⟩ := h
  exact ⟨a, gg, by rw [hm]; exact h1, h2, hG _ h3⟩
theorem StA.other {mh' ms' : Nat → Option Value} {j : Nat} (h : StA dt cut mh ms j) (h1 : mh' j = mh j) (h2 : ms' j = ms j) : StA dt cut mh' ms' j := by
  unfold StA
  rw [h1, h2]
  exact h
theorem St.accept (h : St GS dt cut ac mh ms ma) {k gg : Nat} {p : Int} (hk : k < 10) (n0 : 0 ≤ now) (n1 : now ≤ 1000000) :
    St (gg :: GS) dt cut (ac.set k true) (updM mh (k + 1) (some (hentV (k + 1) now (dt (k + 1)) 0 (pm (k + 1))))) (updM ms (k + 1) (some (artV (tx (k + 1)) now p))) (updM ma (k + 1) (some (.agg (stC (k + 1) (artTl (dt (k + 1)) now gg (k + 1 : Nat) (kd (k + 1))))))) := by
  refine ⟨by rw [List.length_set]; exact h.len, by unfold updM; rw [if_neg (by omega)]; exact h.zh, by unfold updM; rw [if_neg (by omega)]; exact h.zs, fun i hi => ?_⟩
  by_cases e : i = k
  · subst e
    exact .inr ⟨by rw [List.getElem?_set_self (by rw [h.len]; exact hi)], ⟨now, gg, by simp [updM], ⟨n0, n1⟩, List.mem_cons_self ..⟩, .inl ⟨now, p, by simp [updM], by simp [updM]⟩⟩
  · have e1 : ∀ (mp : Nat → Option Value) (v : Option Value), updM mp (k + 1) v (i + 1) = mp (i + 1) := fun mp v => by unfold updM; rw [if_neg (by omega)]
    rw [List.getElem?_set_ne (Ne.symm e), e1, e1]
    rcases h.each i hi with h1 | ⟨h1, h2, h3⟩
    · exact .inl h1
    · exact .inr ⟨h1, h2.other (fun g hg => List.mem_cons_of_mem _ hg) (e1 _ _), h3.other (e1 _ _) (e1 _ _)⟩
/-- What the spool has, the history records as here. -/
theorem St.here (h : St GS dt cut ac mh ms ma) {j : Nat} (hj : j < 11) (hs : (ms j).isSome = true) : (1 ≤ j ∧ ac[j - 1]? = some true) ∧ ArtAt GS dt ma j ∧ ∃ a p, mh j = some (hentV j a (dt j) 0 (pm j)) ∧ ms j = some (artV (tx j) a p) := by
  cases j with
  | zero => rw [h.zs] at hs; cases hs
  | succ k =>
    rcases h.each k (by omega) with ⟨_, _, h1⟩ | ⟨h0, h2, h1 | ⟨a, _, h1⟩ | ⟨_, h1, _⟩⟩
    · rw [h1] at hs; cases hs
    · exact ⟨⟨by omega, h0⟩, h2, h1⟩
    · rw [h1] at hs; cases hs
    · rw [h1] at hs; cases hs
theorem St.remove (h : St GS dt cut ac mh ms ma) {j : Nat} (hj : j < 11) (hs : (ms j).isSome = true) (a : Int) : St GS dt cut ac (updM mh j (some (hentV j a (dt j) 1 (pm j)))) (updM ms j none) ma := by
  obtain ⟨⟨h1, h2⟩, h3, _⟩ := h.here hj hs
  refine ⟨h.len, by unfold updM; rw [if_neg (by omega)]; exact h.zh, by unfold updM; rw [if_neg (by omega)]; exact h.zs, fun i hi => ?_⟩
  by_cases e : i + 1 = j
  · subst e
    exact .inr ⟨h2, h3, .inr (.inl ⟨a, by simp [updM], by simp [updM]⟩)⟩
  · have e1 : ∀ (mp : Nat → Option Value) (v : Option Value), updM mp j v (i + 1) = mp (i + 1) := fun mp v => by unfold updM; rw [if_neg e]
    rw [e1, e1]
    rcases h.each i hi with h1 | ⟨h1, h2, h3⟩
    · exact .inl h1
    · exact .inr ⟨h1, h2, h3.other (e1 _ _) (e1 _ _)⟩
theorem St.forget (h : St GS dt cut ac mh ms ma) {ids : List Nat} {cut' : Int} (hi : ∀ j ∈ ids, j < 11 ∧ ∃ a d p, mh j = some (hentV j a d 1 p) ∧ p = false ∧ d < now - 20160) (hc : cut' = cut ∧ ids = [] ∨ cut' = max cut now) : St GS dt cut' ac (lessM mh ids) ms ma := by
  have hcc : cut ≤ cut' := by omega
  refine ⟨h.len, ?_, h.zs, fun k hk => ?_⟩
  · unfold lessM
    rw [if_neg]
    · exact h.zh
    · intro h0
      obtain ⟨_, a, d, p, h1, _⟩ := hi 0 h0
      rw [h.zh] at h1
      injection h1 with h1
      have := (hent_inj h1).2.2.1
      omega
  · by_cases hm : k + 1 ∈ ids
    · obtain ⟨_, a, d, p, h1, h2, h3⟩ := hi _ hm
      have hids : cut' = max cut now := by
        rcases hc with ⟨_, e⟩ | e
        · rw [e] at hm; cases hm
        · exact e
      have e0 : lessM mh ids (k + 1) = none := by unfold lessM; rw [if_pos hm]
      rcases h.each k hk with ⟨_, h4, _⟩ | ⟨h0, hA, ⟨a', p', h4, _⟩ | ⟨a', h4, h5⟩ | ⟨h4, _⟩⟩
      · rw [h4] at h1; cases h1
      · rw [h4] at h1
        injection h1 with h1
        have := (hent_inj h1).2.2.1
        omega
      · rw [h4] at h1
        injection h1 with h1
        obtain ⟨_, e2, _, e4⟩ := hent_inj h1
        refine .inr ⟨h0, hA, .inr (.inr ⟨e0, h5, by rw [e4]; exact h2, by omega⟩)⟩
      · rw [h4] at h1; cases h1
    · have e0 : lessM mh ids (k + 1) = mh (k + 1) := by unfold lessM; rw [if_neg hm]
      rw [e0]
      rcases h.each k hk with h1 | ⟨h1, h2, h3 | h3 | ⟨h4, h5, h6, h7⟩⟩
      · exact .inl h1
      · exact .inr ⟨h1, h2, .inl (by rw [e0]; exact h3)⟩
      · exact .inr ⟨h1, h2, .inr (.inl (by rw [e0]; exact h3))⟩
      · exact .inr ⟨h1, h2, .inr (.inr ⟨by rw [e0]; exact h4, h5, h6, by omega⟩)⟩
/-- An entry that the history shows: here exactly if the spool has it. -/
theorem St.shown (h : St GS dt cut ac mh ms ma) {j : Nat} (hj : j < 11) {a d s : Int} {p : Bool} (hm : mh j = some (hentV j a d s p)) : (j = 0 → s = 0) ∧ (j ≠ 0 → (ms j).isSome = decide (s = 0)) := by
  cases j with
  | zero =>
    rw [h.zh] at hm
    injection hm with hm
    exact ⟨fun _ => (hent_inj hm).2.2.1.symm, fun h => absurd rfl h⟩
  | succ k =>
    refine ⟨fun h => (by omega), fun _ => ?_⟩
    rcases h.each k (by omega) with ⟨_, h1, _⟩ | ⟨_, _, ⟨a', p', h1, h2⟩ | ⟨a', h1, h2⟩ | ⟨h1, _⟩⟩
    · rw [h1] at hm; cases hm
    · rw [h1] at hm
      injection hm with hm
      have := (hent_inj hm).2.2.1
      rw [h2, decide_eq_true this.symm]
      rfl
    · rw [h1] at hm
      injection hm with hm
      have := (hent_inj hm).2.2.1
      rw [h2, decide_eq_false (by omega)]
      rfl
    · rw [h1] at hm; cases hm
/-- How many of some ids the spool has. -/
def cntE (ms : Nat → Option Value) (l : List Nat) : Nat := l.countP fun j => (ms j).isSome
theorem cntE_snoc (ms : Nat → Option Value) (l : List Nat) (j : Nat) : cntE ms (l ++ [j]) = cntE ms l + if (ms j).isSome then 1 else 0 := by
  simp [cntE, List.countP_append, List.countP_cons]
theorem cntE_le (ms : Nat → Option Value) (l : List Nat) : cntE ms l ≤ l.length := List.countP_le_length
theorem St.count (h : St GS dt cut ac mh ms ma) {lf : Nat → Bool} {l : List El} (hc : Come mh lf l) (hl : ∀ j, j < 11 → lf j = false) : cntE ms (l.map (·.1)) = cntM ms := by
  unfold cntE cntM
  rw [List.countP_eq_length_filter, List.countP_eq_length_filter]
  refine ((List.perm_ext_iff_of_nodup (hc.nd.sublist List.filter_sublist) (List.nodup_range.sublist List.filter_sublist)).2 fun j => ?_).length_eq
  rw [List.mem_filter, List.mem_filter, List.mem_range]
  refine ⟨fun ⟨h1, h2⟩ => ⟨?_, h2⟩, fun ⟨h1, h2⟩ => ⟨?_, h2⟩⟩
  · obtain ⟨x, hx, rfl⟩ := List.mem_map.1 h1
    exact (hc.val x hx).1
  · have h3 := hc.left j h1
    rw [hl j h1] at h3
    obtain ⟨_, _, a, p, h4, _⟩ := h.here h1 h2
    rw [h4] at h3
    simp only [Option.isSome_some, Bool.true_and] at h3
    by_cases hm : j ∈ l.map (·.1)
    · exact hm
    · rw [decide_eq_false hm] at h3
      cases h3
end
end Go.Proofs.YtpjphjokhccdaaaGreat
