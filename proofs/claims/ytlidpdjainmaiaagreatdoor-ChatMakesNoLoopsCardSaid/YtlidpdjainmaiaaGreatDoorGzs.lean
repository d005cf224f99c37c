/- Seat c: what two rooms know, without the program. -/
import Derived.Test.YtlidpdjainmaiaaGreatDoorGzr
namespace Go.Cht
open Go Go.Bul Go.Lin
abbrev raB : ByteArray := ⟨#[35, 97]⟩
abbrev rbB : ByteArray := ⟨#[35, 98]⟩
abbrev gaB : ByteArray := ⟨#[103, 97, 116, 101, 45, 97]⟩
abbrev gbB : ByteArray := ⟨#[103, 97, 116, 101, 45, 98]⟩
abbrev bobB : ByteArray := ⟨#[98, 111, 98]⟩
abbrev carB : ByteArray := ⟨#[99, 97, 114, 108]⟩
abbrev gateB : ByteArray := ⟨#[103, 97, 116, 101]⟩
/-- A line that somebody says. -/
structure GoodL (l : Ln) : Prop where
  ok : OkL l
  tx : l.text.size ≤ 100
theorem GoodL.nk {l : Ln} (h : GoodL l) : l.nick.size ≤ 16 := by
  have := h.ok.nick
  simp only [nickB, Bool.and_eq_true, decide_eq_true_eq] at this
  rw [← nums_length]
  exact this.1.1.2
theorem GoodL.sz {l : Ln} (h : GoodL l) : l.m ≤ 1000000000 ∧ l.nick.size ≤ 1000 ∧ l.text.size ≤ 1000 := by
  have h1 := h.nk
  have h2 := h.tx
  have h3 := h.ok.m
  omega
theorem GoodL.prl {l : Ln} (h : GoodL l) : (prL l).length ≤ 400 := by
  have h1 := h.nk
  have h2 := h.tx
  have h3 := digN_len l.m 10 (by decide) (by have := h.ok.m; omega)
  simp only [prL, List.length_cons, List.length_append, nums_length]
  omega
/-- A room and its gateway. -/
structure Rm where
  g : Nat
  r : Nat
  mm : Nat
  mr : Nat
  rm : ByteArray
  nk : ByteArray
  V : Value
  ws : List Ln
  last : Nat
  S : Value
  said : List Ln
  P : Value
  posts : List Ln
  pm : Nat → Option Value
  pr : Nat → Option Value
structure RmOk (a : Rm) (now made : Nat) : Prop where
  eq : a.said = a.posts ++ a.ws
  good : ∀ l ∈ a.ws, GoodL l
  last : a.last ≤ now
  ids : ∀ j, made < j → a.pm j = none ∧ a.pr j = none
  nm : (a.rm = raB ∨ a.rm = rbB) ∧ (a.nk = gaB ∨ a.nk = gbB)
theorem RmOk.more {a : Rm} {now made now' made' : Nat} (h : RmOk a now made) (h1 : now ≤ now') (h2 : made ≤ made') : RmOk a now' made' :=
  ⟨h.eq, h.good, by have := h.last; omega, fun j hj => h.ids j (by omega), h.nm⟩
/-- A line is heard. -/
theorem RmOk.hear {a : Rm} {now made : Nat} (h : RmOk a now made) (l : Ln) (hl : GoodL l) (V S : Value) : RmOk { a with V := V, ws := a.ws ++ [l], last := now, S := S, said := a.said ++ [l] } now made :=
  ⟨by simp only [h.eq, List.append_assoc], fun x hx => by
    rcases List.mem_append.1 hx with hx | hx
    · exact h.good x hx
    · rw [List.mem_singleton.1 hx]; exact hl, Nat.le_refl _, h.ids, h.nm⟩
/-- What waits is posted. -/
theorem RmOk.take {a : Rm} {now made : Nat} (h : RmOk a now made) (V P v u : Value) : RmOk { a with V := V, ws := [], P := P, posts := a.posts ++ a.ws, pm := updM a.pm (made + 1) (some v), pr := updM a.pr (made + 1) (some u) } now (made + 1) :=
  ⟨by simp only [h.eq, List.append_nil], fun x hx => (by cases hx), h.last, fun j hj => by
    have := h.ids j (by omega)
    show updM a.pm (made + 1) (some v) j = none ∧ updM a.pr (made + 1) (some u) j = none
    unfold updM
    rw [if_neg (by omega), if_neg (by omega)]
    exact this, h.nm⟩
/-- The other room reads it. -/
theorem RmOk.read {a : Rm} {now made : Nat} (h : RmOk a now made) (u : Value) (last : Nat) (hl : last ≤ now) : RmOk { a with last := last, pr := updM a.pr (made + 1) (some u) } now (made + 1) :=
  ⟨h.eq, h.good, hl, fun j hj => by
    have := h.ids j (by omega)
    refine ⟨this.1, ?_⟩
    show updM a.pr (made + 1) (some u) j = none
    unfold updM
    rw [if_neg (by omega)]
    exact this.2, h.nm⟩
/-- The head of what is said of an article. -/
theorem head_text {rm s : ByteArray} {m : Nat} (hr : rm = raB ∨ rm = rbB) (hm : m ≤ 1000000000) (hs : nums s = [67, 104, 97, 116, 32] ++ (nums rm ++ (32 :: digN m))) : ∃ t, nums ((gateB ++ ⟨#[58, 32]⟩) ++ s) = 103 :: t ∧ Pr (103 :: t) ∧ (103 :: t).length ≤ 400 := by
  have h : nums ((gateB ++ ⟨#[58, 32]⟩) ++ s) = 103 :: ([97, 116, 101, 58, 32] ++ ([67, 104, 97, 116, 32] ++ (nums rm ++ (32 :: digN m)))) := by
    rw [nums_append, nums_append, hs]
    rfl
  refine ⟨_, h, ?_, ?_⟩
  · refine Pr.ascii _ (fun b hb => ?_)
    have hd := digN_digits m b
    rcases hr with rfl | rfl
    all_goals
      simp only [nums_mk, List.map_cons, List.map_nil, List.mem_cons, List.mem_append, List.not_mem_nil, or_false] at hb
      rcases hb with rfl | (rfl | rfl | rfl | rfl | rfl) | (rfl | rfl | rfl | rfl | rfl) | (hb | hb) | rfl | hb
      all_goals first | omega | (have := hd hb; omega) | (rw [hb]; decide)
  · have hl := digN_len m 10 (by decide) (by omega)
    have hrl : (nums rm).length = 2 := by rcases hr with rfl | rfl <;> rfl
    simp only [List.length_cons, List.length_append, List.length_nil, hrl]
    omega
theorem low_nick {a nk : ByteArray} (ha : a = annB ∨ a = bobB ∨ a = carB) (hn : nk = gaB ∨ nk = gbB) : (lowL (nums a) == lowL (nums nk)) = false := by
  rcases ha with rfl | rfl | rfl <;> rcases hn with rfl | rfl <;> decide +kernel
theorem nick_ok {a : ByteArray} (ha : a = annB ∨ a = bobB ∨ a = carB) : nickB (nums a) = true := by
  rcases ha with rfl | rfl | rfl <;> decide +kernel
theorem gate_ok {a : ByteArray} (ha : a = gaB ∨ a = gbB) : nickB (nums a) = true ∧ a.size = 6 := by
  rcases ha with rfl | rfl <;> exact ⟨by decide +kernel, rfl⟩
/-- What is said of an article is heard as the gateway's own. -/
theorem own_chk {nk x : ByteArray} {now : Nat} (hn : nk = gaB ∨ nk = gbB) (hw : now ≤ 105190559) (hx : chkT (nums x) = 0) : chkL (now : Nat) (nums nk) (nums x) = 0 := chkL_zero.2 ⟨hw, (gate_ok hn).1, hx⟩
theorem chkT_size {x : ByteArray} (h : chkT (nums x) = 0) : x.size ≤ 400 := by
  have := (chkT_zero.1 h).2.1
  rwa [nums_length] at this
/-- Whose turn it is. -/
def Pick (k : Nat) (A B O T : Rm) : Prop := (k = 0 ∧ O = A ∧ T = B) ∨ (k = 1 ∧ O = B ∧ T = A)
theorem pick_ex {k : Nat} (hk : k < 2) (A B : Rm) : ∃ O T, Pick k A B O T := by
  have : k = 0 ∨ k = 1 := by omega
  rcases this with rfl | rfl
  · exact ⟨A, B, .inl ⟨rfl, rfl, rfl⟩⟩
  · exact ⟨B, A, .inr ⟨rfl, rfl, rfl⟩⟩
theorem pick_back {k : Nat} (hk : k < 2) (O T : Rm) : ∃ A B, Pick k A B O T := by
  have : k = 0 ∨ k = 1 := by omega
  rcases this with rfl | rfl
  · exact ⟨O, T, .inl ⟨rfl, rfl, rfl⟩⟩
  · exact ⟨T, O, .inr ⟨rfl, rfl, rfl⟩⟩
theorem Pick.both {k : Nat} {A B O T : Rm} (h : Pick k A B O T) (P : Rm → Prop) : (P A ∧ P B) ↔ (P O ∧ P T) := by
  rcases h with ⟨_, rfl, rfl⟩ | ⟨_, rfl, rfl⟩
  · exact Iff.rfl
  · exact And.comm
structure Turn (k n i now : Nat) (A B : Rm) : Prop where
  k0 : k = 0 → (n ≤ i → A.last + 10 ≤ now ∧ B.last + 10 ≤ now) ∧ (n + 1 ≤ i → A.ws = [])
  k1 : k = 1 → (n ≤ i → A.ws = []) ∧ (n + 1 ≤ i → B.last + 10 ≤ now)
  k2 : k = 2 → (n ≤ i → A.ws = []) ∧ (n + 1 ≤ i → B.ws = [])
  fewA : A.ws.length ≤ 50 ∧ (1 ≤ k → A.ws.length ≤ 49)
  fewB : B.ws.length ≤ 50 ∧ (2 ≤ k → B.ws.length ≤ 49)
theorem Turn.no {k n i now : Nat} {A B O T : Rm} (h : Turn k n i now A B) (hp : Pick k A B O T) (hno : O.ws = [] ∨ (O.ws.length < 50 ∧ now < O.last + 10)) : Turn (k + 1) n i now A B := by
  have hf := h.fewA
  have hg := h.fewB
  have hl : O.ws.length ≤ 49 := by
    rcases hno with e | ⟨e, _⟩
    · rw [e]; simp
    · omega
  rcases hp with ⟨rfl, rfl, rfl⟩ | ⟨rfl, rfl, rfl⟩
  · have h0 := h.k0 rfl
    refine ⟨fun e => by omega, fun _ => ⟨fun f => ?_, fun f => ?_⟩, fun e => by omega, ⟨hf.1, fun _ => hl⟩, ⟨hg.1, fun e => by omega⟩⟩
    · rcases hno with e | ⟨_, e⟩
      · exact e
      · have := (h0.1 f).1; omega
    · exact (h0.1 (by omega)).2
  · have h1 := h.k1 rfl
    refine ⟨fun e => by omega, fun e => by omega, fun _ => ⟨h1.1, fun f => ?_⟩, ⟨hf.1, fun _ => hf.2 (by omega)⟩, ⟨hg.1, fun _ => hl⟩⟩
    rcases hno with e | ⟨_, e⟩
    · exact e
    · have := h1.2 f; omega
theorem Turn.yes {k n i now : Nat} {A B O T A' B' O' T' : Rm} (h : Turn k n i now A B) (hp : Pick k A B O T) (hp' : Pick k A' B' O' T') (hw : 0 < O.ws.length) (ho : O'.ws = []) (ht : T'.ws = T.ws) : Turn (k + 1) n i now A' B' := by
  have hf := h.fewA
  have hg := h.fewB
  rcases hp with ⟨rfl, rfl, rfl⟩ | ⟨rfl, rfl, rfl⟩
  · rcases hp' with ⟨_, rfl, rfl⟩ | ⟨e, _, _⟩
    · have h0 := h.k0 rfl
      refine ⟨fun e => by omega, fun _ => ⟨fun _ => ho, fun f => ?_⟩, fun e => by omega, by rw [ho]; simp, ⟨by rw [ht]; exact hg.1, fun e => by omega⟩⟩
      have := h0.2 f
      rw [this] at hw
      simp at hw
    · omega
  · rcases hp' with ⟨e, _, _⟩ | ⟨_, rfl, rfl⟩
    · omega
    · have h1 := h.k1 rfl
      exact ⟨fun e => by omega, fun e => by omega, fun _ => ⟨fun f => by rw [ht]; exact h1.1 f, fun _ => ho⟩, ⟨by rw [ht]; exact hf.1, fun _ => by rw [ht]; exact hf.2 (by omega)⟩, by rw [ho]; simp⟩
/-- Between two rounds. -/
structure Betw (n i : Nat) (A B : Rm) : Prop where
  a : n + 1 ≤ i → A.ws = []
  b : n + 2 ≤ i → B.ws = []
  fewA : A.ws.length ≤ 49
  fewB : B.ws.length ≤ 49
theorem Turn.over {n i now : Nat} {A B : Rm} (h : Turn 2 n i now A B) : Betw n (i + 1) A B :=
  ⟨fun f => (h.k2 rfl).1 (by omega), fun f => (h.k2 rfl).2 (by omega), h.fewA.2 (by omega), h.fewB.2 (by omega)⟩
theorem Betw.late {n i now : Nat} {A B : Rm} (h : Betw n i A B) (ha : A.last ≤ now) (hb : B.last ≤ now) : Turn 0 n i (now + 50) A B :=
  ⟨fun _ => ⟨fun _ => ⟨by omega, by omega⟩, h.a⟩, fun e => by omega, fun e => by omega, ⟨by have := h.fewA; omega, fun e => by omega⟩, ⟨by have := h.fewB; omega, fun e => by omega⟩⟩
theorem Turn.early {n i now : Nat} {A B : Rm} (hi : i < n) (ha : A.ws.length ≤ 50) (hb : B.ws.length ≤ 50) : Turn 0 n i now A B :=
  ⟨fun _ => ⟨fun _ => by omega, fun _ => by omega⟩, fun e => by omega, fun e => by omega, ⟨ha, fun e => by omega⟩, ⟨hb, fun e => by omega⟩⟩
end Go.Cht
