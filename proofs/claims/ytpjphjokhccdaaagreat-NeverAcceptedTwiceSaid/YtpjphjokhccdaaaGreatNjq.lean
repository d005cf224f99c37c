/- Seat n: Forget. -/
import Derived.Test.YtpjphjokhccdaaaGreatNif
import Derived.Test.YtpjphjokhccdaaaGreatNih
import Derived.Test.YtpjphjokhccdaaaGreatNjp
namespace Go.Proofs.YtpjphjokhccdaaaGreat
open Go Go.RowKit Go.Bul Go.Thg Go.Lin Go.Maps
/-- The history without what was forgotten. -/
def lessM (mp : Nat → Option Value) (ids : List Nat) : Nat → Option Value := fun j => if j ∈ ids then none else mp j
theorem lessM_nil (mp : Nat → Option Value) : lessM mp [] = mp := by funext j; simp [lessM]
theorem lessM_snoc (mp : Nat → Option Value) (ids : List Nat) (j : Nat) : updM (lessM mp ids) j none = lessM mp (ids ++ [j]) := by
  funext i
  unfold updM lessM
  by_cases h : i = j
  · simp [h]
  · simp [h]
theorem nodup_len : ∀ (n : Nat) (l : List Nat), l.Nodup → (∀ x ∈ l, x < n) → l.length ≤ n
  | 0, l, _, h => by
    cases l with
    | nil => exact Nat.le_refl _
    | cons x _ => exact absurd (h x (List.Mem.head _)) (by omega)
  | n + 1, l, hn, h => by
    have h1 := nodup_len n (l.erase n) (hn.erase n) (fun x hx => by
      have h1 := h x (List.mem_of_mem_erase hx)
      have h2 : x ≠ n := by
        rintro rfl
        exact hn.not_mem_erase hx
      omega)
    have h2 := List.length_erase (a := n) (l := l)
    split at h2 <;> omega
set_option maxRecDepth 20000 in
theorem hallf_any (h : Nat) (w : World) : Calls Tryz.prog 16 #[.pointer (some ⟨h, 0, none⟩)] w fun e w' => ∃ gh, e = .returned (.func (.func 31) #[] #[.pointer (some ⟨gh, 0, none⟩)]) ∧ Mem [] w [⟨gh, 26, 1, #[.pointer (some ⟨h, 0, none⟩)]⟩] [] w' := by
  have hM := Mem.start [] w
  go_enter Tryz.func16, Tryz.ntmps16
  go_wp2_with (first | ((with_reducible refine at_box ?_); refine nlx (v := .pointer (some ⟨h, 0, none⟩)) hM ?_; clear hM; intro gb wb hM) | ((first | with_reducible refine at_load ?_ | ((with_reducible refine at_load_g ?_ ?_); (· rfl))); first | refine nll hM ?_ | refine nlc hM ?_ | refine nlp hM ?_) | ((with_reducible refine at_store ?_); first | (refine nlw hM ?_; clear hM; intro wx hM) | (refine nls hM ?_; clear hM; intro wx hM) | (refine nlt hM ?_; clear hM; intro wx hM)) | ((with_reducible refine at_alloc ?_); refine nlz hM ?_; clear hM; intro gx wx hM) | ((with_reducible refine at_box ?_); first | (refine nlb hM ?_; clear hM; intro gx wx hM) | (refine nlx hM ?_; clear hM; intro gx wx hM)))
  go_ret
  exact ⟨gb, rfl, hM⟩
/-- A region that ends only as usual. -/
def onlyN (Q : Exit → Act → World → Prop) : Exit → Act → World → Prop
  | .normal, a, w => Q .normal a w
  | _, _, _ => False
theorem wp_onlyN {P : Program} {c : Code} {Q : Exit → Act → World → Prop} {a : Act} {w : World} (h : c.wp P (onlyN Q) a w) : c.wp P Q a w :=
  wp_mono h (fun e a w he => by cases e <;> first | exact he | exact he.elim)
theorem updL_same {g n : Nat} {t : TypeId} {cs : Array Value} {L : List Ent} {F : Array Value → List Ent} (h : UpdL g t n cs L F) : F cs = L := by
  obtain ⟨A, B, rfl, hF⟩ := h
  exact hF cs
theorem updR_same {r : Thing} {R : List Thing} {F : Thing → List Thing} (h : UpdR r R F) : F r = R := by
  obtain ⟨A, B, rfl, hF⟩ := h
  exact hF r
/-- What the ids gathered so far are. -/
structure ForgI (mp : Nat → Option Value) (now : Int) (s : Option Addr × Nat × Nat × List El) (done : List El) : Prop where
  len : s.2.1 = s.2.2.2.length
  le : s.2.2.2.length ≤ done.length
  nd : (done.map (·.1)).Nodup ∧ ∀ x ∈ done.map (·.1), x < 11
  ok : ∀ x ∈ s.2.2.2, x.2 = [] ∧ x.1 < 11 ∧ ∃ a d, mp x.1 = some (hentV x.1 a d 1 false) ∧ d < now - 20160
theorem ForgI.small {mp : Nat → Option Value} {now : Int} {s : Option Addr × Nat × Nat × List El} {done : List El} (h : ForgI mp now s done) : s.2.2.2.length ≤ 11 := by
  have h1 := nodup_len 11 _ h.nd.1 h.nd.2
  rw [List.length_map] at h1
  exact Nat.le_trans h.le h1
theorem ForgI.skip {mp : Nat → Option Value} {now : Int} {s : Option Addr × Nat × Nat × List El} {done : List El} (h : ForgI mp now s done) (x : El) (hx : x.1 < 11) (hn : x.1 ∉ done.map (·.1)) : ForgI mp now s (done ++ [x]) := by
  refine ⟨h.len, by rw [List.length_append]; exact Nat.le_trans h.le (Nat.le_add_right _ _), ⟨?_, fun y hy => ?_⟩, h.ok⟩
  · rw [List.map_append]
    refine List.nodup_append.2 ⟨h.nd.1, by simp, fun a ha b hb => ?_⟩
    obtain rfl := List.mem_singleton.1 hb
    rintro rfl
    exact hn ha
  · rw [List.map_append] at hy
    rcases List.mem_append.1 hy with hy | hy
    · exact h.nd.2 y hy
    · obtain rfl := List.mem_singleton.1 hy
      exact hx
theorem ForgI.more {mp : Nat → Option Value} {now : Int} {A A2 : Option Addr} {N N2 c c2 : Nat} {il done : List El} (h : ForgI mp now (A, N, c, il) done) (x : El) (hx : x.1 < 11) (hn : x.1 ∉ done.map (·.1)) (hN : N2 = il.length + 1) {a d : Int} (hm : mp x.1 = some (hentV x.1 a d 1 false)) (hd : d < now - 20160) : ForgI mp now (A2, N2, c2, il ++ [(x.1, [])]) (done ++ [x]) := by
  have h1 := h.skip x hx hn
  refine ⟨by simp only [List.length_append, List.length_cons, List.length_nil]; exact hN, ?_, h1.nd, fun y hy => ?_⟩
  · have := h.le
    simp only [List.length_append, List.length_cons, List.length_nil] at this ⊢
    omega
  · rcases List.mem_append.1 hy with hy | hy
    · exact h.ok y hy
    · obtain rfl := List.mem_singleton.1 hy
      exact ⟨rfl, hx, a, d, hm, hd⟩
section
variable {w w0 : World} {G : List Nat} {L : List Ent} {R : List Thing} {F : Thing → List Thing} {FL : Array Value → List Ent}
set_option maxRecDepth 100000 in
set_option maxHeartbeats 8000000 in
theorem hforget_any (h b : Nat) (cut now : Int) (mp : Nat → Option Value) (hm : HistM mp) (n0 : 0 ≤ now) (n1 : now ≤ 1000000) (c0 : 0 ≤ cut) (c1 : cut ≤ 1000000) (hM : Mem G w0 L R w) (hL : UpdL h 71 2 (hist b cut) L FL) (hR : UpdR (mapT b mp) R F) :
    Calls Tryz.prog 15 #[.pointer (some ⟨h, 0, none⟩), .int .i64 now] w fun e w' => ∃ v ids cut', e = .returned v ∧ (∀ j ∈ ids, j < 11 ∧ ∃ a d p, mp j = some (hentV j a d 1 p) ∧ p = false ∧ d < now - 20160) ∧ (cut' = cut ∧ ids = [] ∨ cut' = max cut now) ∧ Mem G w0 (FL (hist b cut')) (F (mapT b (lessM mp ids))) w' := by
  have HMI := Lib.hid (fun w => isMinute_yes now w n0 (by omega))
  have HAL := Lib.hid (fun w => hallf_any h w)
  have HTO := Lib.hid (fun d w => tooOld_any d now w n0 (by omega))
  refine (callsIn_wide (n := 3)).1 ?_
  refine callsIn_of_wp_marks Tryz.func15 rfl trivial ?_ rfl
  refine wpIn_wide.2 ?_
  simp only [Tryz.ntmps15, List.size_toArray, List.length_cons, List.length_nil, Nat.reduceAdd, Nat.reduceSub, Array.replicate_succ, Array.replicate_zero, List.push_toArray, List.append_toArray, List.nil_append, List.cons_append]
  go_wp2_with (first | ((with_reducible refine at_box ?_); refine nlx (v := .int .i64 now) hM ?_; clear hM; intro gb wb hM) | ((with_reducible refine (HMI.out _).mono ?_); rintro e w1 ⟨rfl, rfl⟩) | ((with_reducible refine (HAL.out _).mono ?_); rintro e w1 ⟨gh, rfl, hA⟩; replace hM := hM.frame hA; clear hA) | ((first | with_reducible refine at_load ?_ | ((with_reducible refine at_load_g ?_ ?_); (· rfl))); first | refine nll hM ?_ | refine nlc hM ?_ | refine nlp hM ?_) | ((with_reducible refine at_store ?_); first | (refine nlw hM ?_; clear hM; intro wx hM) | (refine nls hM ?_; clear hM; intro wx hM) | (refine nlt hM ?_; clear hM; intro wx hM)) | ((with_reducible refine at_alloc ?_); refine nlz hM ?_; clear hM; intro gx wx hM) | ((with_reducible refine at_box ?_); first | (refine nlb hM ?_; clear hM; intro gx wx hM) | (refine nlx hM ?_; clear hM; intro gx wx hM)))
  simp only [List.cons_append, List.nil_append] at hM
  skip
  obtain ⟨D, hD⟩ : ∃ D, w1.heap.size = D := ⟨_, rfl⟩
  refine (wpIn_wide (n := 3)).1 ?_
  refine rangeFunc_of 2 rfl (enters_of Tryz.func31 (by kernel_rfl) rfl) ?_
  intro rec hR2
  replace hM := Mem.elNil hM 38 0
  have hM2 := hM.loopNew (rec .ready none)
  clear hM
  rw [hD] at hM2 ⊢
  clear hD
  obtain ⟨l, hl⟩ : ∃ l, D + 1 = l := ⟨_, rfl⟩
  rw [hl] at hM2 ⊢
  clear hl
  refine (hall_in l gh h b cut mp hm (fun s : Option Addr × Nat × Nat × List El => ⟨gh, 26, 1, #[.pointer (some ⟨h, 0, none⟩)]⟩ :: ⟨gx, 49, 1, #[.slice s.1 s.2.1 s.2.2.1]⟩ :: ⟨gb, 3, 1, #[.int .i64 now]⟩ :: L) (fun s => objT l (.loop (rec .ready none)) :: objT D (.deferred (some [])) :: elT 38 0 (.slice s.1 s.2.1 s.2.2.1) s.2.2.2 :: R) (ForgI mp now) (none, 0, 0, []) ⟨rfl, Nat.le_refl _, ⟨by simp, by simp⟩, fun x hx => by cases hx⟩ hM2 (.head _) (.tail _ (.tail _ (.tail _ (mem_of_updL hL)))) (UpdR.tail _ (UpdR.tail _ (UpdR.tail _ hR))) ?yield).mono ?after
  case yield =>
    rintro ⟨A', N, c', il⟩ done x T W hinv hmx hx11 hnd hM
    obtain ⟨a, d, st, p, hex⟩ := hm x.1 _ hx11 hmx
    rw [hex] at hmx
    rw [show Value.agg (elC x) = .agg (stC x.1 [.int .i64 a, .int .i64 d, .int .i64 st, .bool p]) from hex]
    generalize hj : x.1 = j at hmx hex hx11 hnd ⊢
    replace hM := hM.perm (List.Perm.swap _ _ _)
    refine round_goes hR2 hM.loopAt rfl ?_
    refine wpIn_round_lit (k := l) (by rintro ⟨_, _, h⟩; exact h) (by rfl) ?_
    go_simp
    refine nlz hM ?_
    clear hM
    intro g6 w6 hM
    refine nlw (vs := stC j [.int .i64 a, .int .i64 d, .int .i64 st, .bool p]) hM ?_
    clear hM
    intro w7 hM
    refine ⟨hM.loopAt, ?_⟩
    replace hM := hM.loopPut (rec .busy none)
    generalize World.putObj _ l (Obj.loop (rec LoopState.busy none)) = wy at hM ⊢
    have HINV := Lib.hid hinv
    have HJ := Lib.hid hj
    have HX := Lib.hid (show x.1 < 11 ∧ x.1 ∉ done.map (·.1) by rw [hj]; exact ⟨hx11, hnd⟩)
    have HMX := Lib.hid hmx
    have HXX := Lib.hid hx11
    have HLN := Lib.hid (show il.length < 1000000 by have := hinv.small; simp only at this; omega)
    clear hinv hmx hex hx11 hnd hj
    go_simp
    gi_wp2_with (refine wpListIn_round (by rintro ⟨_, _, h⟩; exact h) _ _ _ (by rfl) ?_)
    cases hst : (st == 1)
    · go_wp2_with (first | ((first | with_reducible refine at_load ?_ | ((with_reducible refine at_load_g ?_ ?_); (· rfl))); first | refine nll hM ?_ | refine nlc hM ?_ | refine nlp hM ?_) | ((with_reducible refine at_store ?_); first | (refine nlw hM ?_; clear hM; intro wx hM) | (refine nls hM ?_; clear hM; intro wx hM) | (refine nlt hM ?_; clear hM; intro wx hM)) | ((with_reducible refine at_alloc ?_); refine nlz hM ?_; clear hM; intro gx wx hM) | ((with_reducible refine at_box ?_); first | (refine nlb hM ?_; clear hM; intro gx wx hM) | (refine nlx hM ?_; clear hM; intro gx wx hM)))
      gi_wp2_with fail
      refine ⟨hM.loopAt, rfl, A', N, c', il, HINV.out.skip x HX.out.1 HX.out.2, ?_⟩
      exact ((hM.subL (by exact List.Sublist.cons _ (List.Sublist.refl _))).loopPut _).perm (List.Perm.swap _ _ _)
    · obtain rfl : st = 1 := by simpa using hst
      clear hst
      cases p
      · cases hd : decide (d < now - 20160)
        · go_wp2_with (first | ((with_reducible refine (HTO.out d _).mono ?_); rintro e W1 ⟨rfl, rfl⟩; rw [hd]) | ((first | with_reducible refine at_load ?_ | ((with_reducible refine at_load_g ?_ ?_); (· rfl))); first | refine nll hM ?_ | refine nlc hM ?_ | refine nlp hM ?_) | ((with_reducible refine at_store ?_); first | (refine nlw hM ?_; clear hM; intro wx hM) | (refine nls hM ?_; clear hM; intro wx hM) | (refine nlt hM ?_; clear hM; intro wx hM)) | ((with_reducible refine at_alloc ?_); refine nlz hM ?_; clear hM; intro gx wx hM) | ((with_reducible refine at_box ?_); first | (refine nlb hM ?_; clear hM; intro gx wx hM) | (refine nlx hM ?_; clear hM; intro gx wx hM)))
          gi_wp2_with fail
          refine ⟨hM.loopAt, rfl, A', N, c', il, HINV.out.skip x HX.out.1 HX.out.2, ?_⟩
          exact ((hM.subL (by exact List.Sublist.cons _ (List.Sublist.refl _))).loopPut _).perm (List.Perm.swap _ _ _)
        · go_wp2_with (first | ((with_reducible refine (HTO.out d _).mono ?_); rintro e W1 ⟨rfl, rfl⟩; rw [hd]) | ((first | with_reducible refine at_load ?_ | ((with_reducible refine at_load_g ?_ ?_); (· rfl))); first | refine nll hM ?_ | refine nlc hM ?_ | refine nlp hM ?_) | ((with_reducible refine at_store ?_); first | (refine nlw hM ?_; clear hM; intro wx hM) | (refine nls hM ?_; clear hM; intro wx hM) | (refine nlt hM ?_; clear hM; intro wx hM)) | ((with_reducible refine at_alloc ?_); refine nlz hM ?_; clear hM; intro gx wx hM) | ((with_reducible refine at_box ?_); first | (refine nlb hM ?_; clear hM; intro gx wx hM) | (refine nlx hM ?_; clear hM; intro gx wx hM)))
          gi_wp2_with (refine wpListIn_round (by rintro ⟨_, _, h⟩; exact h) _ _ _ (by rfl) ?_)
          go_wp2_with (first | ((with_reducible refine at_bslice ?_); refine nbs hM ely_id ?_; clear hM; intro g5 wb5 hM) | ((with_reducible refine at_append ?_); refine nap (l := il) hM ely_id HLN.out ?_; clear hM; intro A2 N2 c2 wz HN hM) | ((first | with_reducible refine at_load ?_ | ((with_reducible refine at_load_g ?_ ?_); (· rfl))); first | refine nll hM ?_ | refine nlc hM ?_ | refine nlp hM ?_) | ((with_reducible refine at_store ?_); first | (refine nlw hM ?_; clear hM; intro wx hM) | (refine nls hM ?_; clear hM; intro wx hM) | (refine nlt hM ?_; clear hM; intro wx hM)) | ((with_reducible refine at_alloc ?_); refine nlz hM ?_; clear hM; intro gx wx hM) | ((with_reducible refine at_box ?_); first | (refine nlb hM ?_; clear hM; intro gx wx hM) | (refine nlx hM ?_; clear hM; intro gx wx hM)))
          refine ⟨hM.loopAt, rfl, A2, N2, c2, il ++ [(j, [])], ?_, ((hM.subL (by exact List.Sublist.cons _ (List.Sublist.cons _ (List.Sublist.refl _)))).loopPut _).perm (List.Perm.swap _ _ _)⟩
          have h1 := HJ.out
          subst h1
          exact HINV.out.more x HX.out.1 HX.out.2 HN.out HMX.out (of_decide_eq_true hd)
      · go_wp2_with (first | ((first | with_reducible refine at_load ?_ | ((with_reducible refine at_load_g ?_ ?_); (· rfl))); first | refine nll hM ?_ | refine nlc hM ?_ | refine nlp hM ?_) | ((with_reducible refine at_store ?_); first | (refine nlw hM ?_; clear hM; intro wx hM) | (refine nls hM ?_; clear hM; intro wx hM) | (refine nlt hM ?_; clear hM; intro wx hM)) | ((with_reducible refine at_alloc ?_); refine nlz hM ?_; clear hM; intro gx wx hM) | ((with_reducible refine at_box ?_); first | (refine nlb hM ?_; clear hM; intro gx wx hM) | (refine nlx hM ?_; clear hM; intro gx wx hM)))
        gi_wp2_with fail
        refine ⟨hM.loopAt, rfl, A', N, c', il, HINV.out.skip x HX.out.1 HX.out.2, ?_⟩
        exact ((hM.subL (by exact List.Sublist.cons _ (List.Sublist.refl _))).loopPut _).perm (List.Perm.swap _ _ _)
  case after =>
    rintro e W ⟨⟨v, rfl⟩, ⟨A', N, c', il⟩, ls, _, hinv, hM⟩
    refine ⟨⟨v, rfl⟩, .inl ⟨hM.loopAt, ?_⟩⟩
    replace hM := hM.loopPut (rec .exhausted none)
    generalize World.putObj _ l (Obj.loop (rec LoopState.exhausted none)) = wy at hM ⊢
    have HINV := Lib.hid hinv
    have hN : N = il.length := hinv.len
    have h11 : il.length ≤ 11 := hinv.small
    have n11 : N ≤ 11 := by omega
    have HN := Lib.hid hN
    have HU := Lib.hid hR
    have HL2 := Lib.hid hL
    clear hinv hN h11
    simp only at hM
    go_wp2_with (first | ((first | with_reducible refine at_load ?_ | ((with_reducible refine at_load_g ?_ ?_); (· rfl))); first | refine nll hM ?_ | refine nlc hM ?_ | refine nlp hM ?_) | ((with_reducible refine at_store ?_); first | (refine nlw hM ?_; clear hM; intro wx hM) | (refine nls hM ?_; clear hM; intro wx hM) | (refine nlt hM ?_; clear hM; intro wx hM)) | ((with_reducible refine at_alloc ?_); refine nlz hM ?_; clear hM; intro gx wx hM) | ((with_reducible refine at_box ?_); first | (refine nlb hM ?_; clear hM; intro gx wx hM) | (refine nlx hM ?_; clear hM; intro gx wx hM)))
    have M0 := Lib.hid hM
    clear hM hL hR
    go_loopw [40] (fun i wr => ∃ k : Nat, k ≤ N ∧ i = .int .i64 (k : Nat) ∧ Mem G w0 (⟨gh, 26, 1, #[.pointer (some ⟨h, 0, none⟩)]⟩ :: ⟨gx, 49, 1, #[.slice A' N c']⟩ :: ⟨gb, 3, 1, #[.int .i64 now]⟩ :: L) (objT l (.loop (rec .exhausted none)) :: objT D (.deferred (some [])) :: elT 38 0 (.slice A' N c') il :: F (mapT b (lessM mp ((il.take k).map (·.1))))) wr) (fun i _ => N - (intOf i).toNat)
    case atStart => exact ⟨0, Nat.zero_le _, rfl, by rw [List.take_zero, List.map_nil, lessM_nil, updR_same HU.out]; exact M0.out⟩
    case round =>
      clear M0
      obtain ⟨k, hk, rfl, hM⟩ := hrel
      have k0 : (0 : Int) ≤ (k : Int) := Int.natCast_nonneg _
      have k1 : (k : Int) ≤ 11 := by omega
      by_cases hlt : k < N
      · have hlt' : (k : Int) < (N : Int) := by omega
        have hkl : k < il.length := by have := HN.out; omega
        have HUA := Lib.hid (fun r => HU.out.again r)
        obtain ⟨g, off, rfl, _, hcell⟩ := elT_at (hM.thing _ (.tail _ (.tail _ (.head _)))) k hkl
        have HX := Lib.hid (hcell k hkl)
        have hok := HINV.out.ok _ (List.getElem_mem hkl)
        have hj := hok.2.1
        have e1 : elC il[k] = stC (il[k]).1 [] := by unfold elC; rw [hok.1]
        rw [e1] at HX
        clear hok e1 hcell
        generalize hjj : (il[k]).1 = j at HX hj
        have HJ2 := Lib.hid (show ∃ hi : k < il.length, (il[k]).1 = j from ⟨hkl, hjj⟩)
        clear hjj hkl
        go_upto_region 11 with (first | ((with_reducible refine at_load ?_); refine nlr HX.out ?_ (hty := row_id)) | ((first | with_reducible refine at_load ?_ | ((with_reducible refine at_load_g ?_ ?_); (· rfl))); first | refine nll hM ?_ | refine nlc hM ?_ | refine nlp hM ?_) | ((with_reducible refine at_store ?_); first | (refine nlw hM ?_; clear hM; intro wx hM) | (refine nls hM ?_; clear hM; intro wx hM) | (refine nlt hM ?_; clear hM; intro wx hM)) | ((with_reducible refine at_alloc ?_); refine nlz hM ?_; clear hM; intro gx wx hM) | ((with_reducible refine at_box ?_); first | (refine nlb hM ?_; clear hM; intro gx wx hM) | (refine nlx hM ?_; clear hM; intro gx wx hM)))
        refine wp_onlyN ?_
        have hLm := mem_of_updL HL2.out
        refine wp_region_allB hM 5 (by kernel_rfl) ?_
        clear hM
        intro wd hM
        have HM0 := Lib.hid hM
        have hS := Below.refl wd.heap.size wd
        refine wpAllT_takes [0, 1, 2, 3, 4] (by kernel_rfl) (fun _ _ _ _ _ h => h) hS (by kernel_rfl) ?_
        simp only [pickOps, List.filterMap_cons, List.filterMap_nil, List.getElem?_cons_zero, List.getElem?_cons_succ]
        repeat ((with_reducible apply wpHeld_step); (· rfl); (· (intro wq hSw; first | (go_simp; rfl) | (have hM' := HM0.out.step hSw; first | exact yields_load (C := fun _ => True) (nqc hM') rfl | exact yields_load (C := fun _ => True) (nql hM') rfl | exact yields_load (C := fun _ => True) (nqp hM') rfl | fail))); intro K hK; go_simp; (with_reducible refine hK _ ?_); clear hK K)
        refine wpHeld_nil ?_
        refine wpAllT_one 5 rfl (by kernel_rfl) ?_
        refine nmd hM mty_hist hj ?_ (hR := UpdR.tail _ (UpdR.tail _ (UpdR.tail _ (HUA.out _))))
        clear hM HM0 hS
        intro wx hM
        refine wpList_then ⟨.inl (by kernel_rfl), wpAllT_drop (by kernel_rfl) (wpAll_done (by kernel_rfl) ?_)⟩
        simp only [onlyN]
        go_wp2_with fail
        obtain ⟨hkl, rfl⟩ := HJ2.out
        rw [lessM_snoc] at hM
        refine ⟨⟨k + 1, by omega, by go_num, ?_⟩, by simp [intOf]; omega⟩
        rw [List.take_succ_eq_append_getElem hkl, List.map_append]
        exact hM.subL (by exact List.Sublist.cons _ (List.Sublist.refl _))
      · obtain rfl : k = N := by omega
        by_cases hz : k = 0
        · have z1 : ¬ 0 < k := by omega
          clear hz hlt
          go_wp2_with (first | ((first | with_reducible refine at_load ?_ | ((with_reducible refine at_load_g ?_ ?_); (· rfl))); first | refine nll hM ?_ | refine nlc hM ?_ | refine nlp hM ?_) | ((with_reducible refine at_store ?_); first | (refine nlw hM ?_; clear hM; intro wx hM) | (refine nls hM ?_; clear hM; intro wx hM) | (refine nlt hM ?_; clear hM; intro wx hM)) | ((with_reducible refine at_alloc ?_); refine nlz hM ?_; clear hM; intro gx wx hM) | ((with_reducible refine at_box ?_); first | (refine nlb hM ?_; clear hM; intro gx wx hM) | (refine nlx hM ?_; clear hM; intro gx wx hM)))
          refine ⟨by simp, .inl ⟨_, _, rfl, run_takeDeferred hM.markAt, ?_⟩⟩
          replace hM := hM.markPut (.deferred none)
          obtain rfl : k = 0 := by omega
          rw [List.take_zero, List.map_nil] at hM
          refine ⟨_, results_tmp rfl _ _ _, _, [], cut, rfl, (by simp), .inl ⟨rfl, rfl⟩, ?_⟩
          rw [updL_same HL2.out]
          exact (hM.subL (by exact List.Sublist.cons _ (List.Sublist.cons _ (List.Sublist.cons _ (List.Sublist.refl _))))).subR (by exact List.Sublist.cons _ (List.Sublist.cons _ (List.Sublist.cons _ (List.Sublist.refl _))))
        · have z1 : 0 < k := by omega
          have z2 : (0 : Int) < (k : Int) := by omega
          clear hz hlt
          go_upto_region 14 with (first | ((first | with_reducible refine at_load ?_ | ((with_reducible refine at_load_g ?_ ?_); (· rfl))); first | refine nll hM ?_ | refine nlc hM ?_ | refine nlp hM ?_) | ((with_reducible refine at_store ?_); first | (refine nlw hM ?_; clear hM; intro wx hM) | (refine nls hM ?_; clear hM; intro wx hM) | (refine nlt hM ?_; clear hM; intro wx hM)) | ((with_reducible refine at_alloc ?_); refine nlz hM ?_; clear hM; intro gx wx hM) | ((with_reducible refine at_box ?_); first | (refine nlb hM ?_; clear hM; intro gx wx hM) | (refine nlx hM ?_; clear hM; intro gx wx hM)))
          refine wp_onlyN ?_
          have hLm := mem_of_updL HL2.out
          refine wp_region_allB hM 9 (by kernel_rfl) ?_
          clear hM
          intro wd hM
          have HM0 := Lib.hid hM
          have hS := Below.refl wd.heap.size wd
          refine wpAllT_takes [0, 1, 2, 3, 4, 5, 6, 7, 8] (by kernel_rfl) (fun _ _ _ _ _ h => h) hS (by kernel_rfl) ?_
          simp only [pickOps, List.filterMap_cons, List.filterMap_nil, List.getElem?_cons_zero, List.getElem?_cons_succ]
          repeat ((with_reducible apply wpHeld_step); (· rfl); (· (intro wq hSw; first | (go_simp; rfl) | (have hM' := HM0.out.step hSw; first | exact yields_load (C := fun _ => True) (nqc hM') rfl | exact yields_load (C := fun _ => True) (nql hM') rfl | exact yields_load (C := fun _ => True) (nqp hM') rfl | fail))); intro K hK; go_simp; (with_reducible refine hK _ ?_); clear hK K)
          refine wpHeld_nil ?_
          refine wpAllT_one 9 rfl (by kernel_rfl) ?_
          refine nls hM ?_ (hL := UpdL.tail _ (UpdL.tail _ (UpdL.tail _ HL2.out))) (hX := rfl)
          clear hM HM0 hS
          intro wx hM
          refine wpList_then ⟨.inl (by kernel_rfl), wpAllT_drop (by kernel_rfl) (wpAll_done (by kernel_rfl) ?_)⟩
          have em : (if cut < now then now else cut) = max cut now := by split <;> omega
          rw [em, show (hist b cut).setIfInBounds 1 (Value.int .i64 (max cut now)) = hist b (max cut now) from rfl] at hM
          simp only [onlyN]
          go_wp2_with (first | ((first | with_reducible refine at_load ?_ | ((with_reducible refine at_load_g ?_ ?_); (· rfl))); first | refine nll hM ?_ | refine nlc hM ?_ | refine nlp hM ?_) | ((with_reducible refine at_store ?_); first | (refine nlw hM ?_; clear hM; intro wx hM) | (refine nls hM ?_; clear hM; intro wx hM) | (refine nlt hM ?_; clear hM; intro wx hM)) | ((with_reducible refine at_alloc ?_); refine nlz hM ?_; clear hM; intro gx wx hM) | ((with_reducible refine at_box ?_); first | (refine nlb hM ?_; clear hM; intro gx wx hM) | (refine nlx hM ?_; clear hM; intro gx wx hM)))
          refine ⟨by simp, .inl ⟨_, _, rfl, run_takeDeferred hM.markAt, ?_⟩⟩
          replace hM := hM.markPut (.deferred none)
          refine ⟨_, results_tmp rfl _ _ _, ?_⟩
          refine ⟨_, (il.take k).map (fun x => x.1), max cut now, rfl, fun j hj => ?_, .inr rfl, ?_⟩
          · obtain ⟨x, hx, rfl⟩ := List.mem_map.1 hj
            obtain ⟨_, h2, a, d, h3, h4⟩ := HINV.out.ok x (List.mem_of_mem_take hx)
            exact ⟨h2, a, d, false, h3, rfl, h4⟩
          · exact (hM.subL (by exact List.Sublist.cons _ (List.Sublist.cons _ (List.Sublist.cons _ (List.Sublist.refl _))))).subR (by exact List.Sublist.cons _ (List.Sublist.cons _ (List.Sublist.cons _ (List.Sublist.refl _))))
end
end Go.Proofs.YtpjphjokhccdaaaGreat
