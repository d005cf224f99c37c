/- Contract of the reference's Advance; what ties the two lines. -/
import Derived.Test.YtenflgbaibjeoaaLqu
namespace Go.Lin
open Go
theorem minuteR_now (T : RL) : (minuteR T).now = T.now + 1 := by
  have h : (comeR (sentR T)).now = T.now + 1 := by
    show (sentR T).now + 1 = _
    unfold sentR
    split <;> rfl
  unfold minuteR turnR
  repeat' split
  all_goals exact h
theorem minutesR_now (T : RL) : ∀ k : Nat, (minutesR k T).now = T.now + k
  | 0 => by simp [minutesR]
  | k + 1 => by rw [minutesR, minuteR_now, minutesR_now T k]; omega
theorem minuteR_cfg (T : RL) : (minuteR T).r = T.r ∧ (minuteR T).d = T.d ∧ (minuteR T).p = T.p ∧ (minuteR T).ws = T.ws := by
  have h : (sentR T).r = T.r ∧ (sentR T).d = T.d ∧ (sentR T).p = T.p ∧ (sentR T).ws = T.ws := by
    unfold sentR
    split <;> exact ⟨rfl, rfl, rfl, rfl⟩
  unfold minuteR turnR
  repeat' split
  all_goals exact h
theorem passS_cfg (S : Ln) : (passS S).r = S.r ∧ (passS S).d = S.d ∧ (passS S).p = S.p ∧ (passS S).ws = S.ws := by
  have h : (arrive (sendAll S)).r = S.r ∧ (arrive (sendAll S)).d = S.d ∧ (arrive (sendAll S)).p = S.p ∧ (arrive (sendAll S)).ws = S.ws := by
    unfold sendAll
    split <;> exact ⟨rfl, rfl, rfl, rfl⟩
  unfold passS turnS
  repeat' split
  all_goals exact h
/-- The two lines are the same, and all is within bounds. -/
structure Tie (B : Nat) (S : Ln) (T : RL) : Prop where
  fit : Fit B S
  wok : WOk S
  rel : Rel S T
  chk : chk S.r S.d S.p S.ws = 0
  v0 : Go.Bul.Bytes T.w0
  v1 : Go.Bul.Bytes T.w1
theorem Tie.mono {B C : Nat} {S : Ln} {T : RL} (h : Tie B S T) (hbc : B ≤ C) : Tie C S T := ⟨h.fit.mono hbc, h.wok, h.rel, h.chk, h.v0, h.v1⟩
theorem tie_rb {B : Nat} {S : Ln} {T : RL} (h : Tie B S T) (hB : B ≤ 1000000) : RB T := by
  obtain ⟨l1, l2, l3, l4, l5, l6⟩ := h.fit.len
  have ok := h.fit.ok
  obtain ⟨hb, hl, _, _⟩ := chk_parts h.chk
  have hr := h.rel
  refine ⟨?_, ?_, ?_, ?_, ?_, ?_, ?_, ?_, ?_, ?_, ?_, ?_, ?_, ?_, ?_, h.v0, h.v1⟩
  · rw [hr.r]; exact ok.r1
  · rw [hr.r]; exact ok.r2
  · rw [hr.d]; exact ok.d1
  · rw [hr.d]; exact ok.d2
  · rw [hr.ws]; omega
  · rw [hr.now]; exact ok.now1
  · rw [hr.now]; exact ok.now2
  · rw [hr.ses]; exact ok.ses1
  · rw [hr.ses]; have := ok.ses2; have := ok.now2; omega
  · rw [hr.w0]; omega
  · rw [hr.w1]; omega
  · rw [hr.y0, spread_length]; omega
  · rw [hr.y1, spread_length]; omega
  · rw [hr.a0]; omega
  · rw [hr.a1]; omega
theorem tie_new {r d p : Int} {ws : List Win} (hc : Go.Lin.chk r d p ws = 0) : Tie 0 (newS r d p ws) (newR r d p ws) := by
  refine ⟨fit_new hc, ?_, rel_new hc, ?_, ?_, ?_⟩
  · unfold newS
    split
    all_goals exact ⟨List.Pairwise.nil, List.Pairwise.nil, fun x hx => by simp at hx, fun x hx => by simp at hx⟩
  · unfold newS
    split <;> exact hc
  · unfold newR
    split <;> exact Go.Bul.Bytes.nil
  · unfold newR
    split <;> exact Go.Bul.Bytes.nil
theorem tie_send {B : Nat} {S : Ln} {T : RL} (h : Tie B S T) (hB : B ≤ 1000000) (s : Int) (t : List Nat) (ht : t.length ≤ 200) (hb : Go.Bul.Bytes t) : Tie (B + 200) (sendS S s t) (sendR T s t) := by
  refine ⟨fit_send h.fit hB s t ht, ?_, rel_sendS h.rel s t, ?_, ?_, ?_⟩
  · unfold sendS
    repeat' split
    all_goals exact ⟨h.wok.s0, h.wok.s1, h.wok.b0, h.wok.b1⟩
  · unfold sendS
    repeat' split
    all_goals exact h.chk
  · unfold sendR
    repeat' split
    · exact fun x hx => (List.mem_append.1 hx).elim (h.v0 x) (hb x)
    · exact h.v0
    · exact h.v0
  · unfold sendR
    repeat' split
    · exact h.v1
    · exact fun x hx => (List.mem_append.1 hx).elim (h.v1 x) (hb x)
    · exact h.v1
theorem tie_down {B : Nat} {S : Ln} {T : RL} (h : Tie B S T) : Tie B (downS S) (downR T) :=
  ⟨fit_down h.fit, ⟨List.Pairwise.nil, List.Pairwise.nil, fun x hx => by simp [downS] at hx, fun x hx => by simp [downS] at hx⟩, rel_down h.rel, h.chk, Go.Bul.Bytes.nil, Go.Bul.Bytes.nil⟩
theorem tie_recv0 {B : Nat} {S : Ln} {T : RL} (h : Tie B S T) (k : Nat) : Tie B { S with e0 := { S.e0 with arr := S.e0.arr.drop k } } (recvR T 0 k) := by
  have r := h.rel
  refine ⟨fit_recv0 h.fit k, ⟨h.wok.s0, h.wok.s1, h.wok.b0, h.wok.b1⟩, ?_, h.chk, h.v0, h.v1⟩
  exact ⟨r.r, r.d, r.p, r.ws, r.now, r.up, r.ses, r.w0, r.y0, by simp [recvR, r.a0], r.w1, r.y1, r.a1⟩
theorem tie_recv1 {B : Nat} {S : Ln} {T : RL} (h : Tie B S T) (k : Nat) : Tie B { S with e1 := { S.e1 with arr := S.e1.arr.drop k } } (recvR T 1 k) := by
  have r := h.rel
  refine ⟨fit_recv1 h.fit k, ⟨h.wok.s0, h.wok.s1, h.wok.b0, h.wok.b1⟩, ?_, h.chk, h.v0, h.v1⟩
  exact ⟨r.r, r.d, r.p, r.ws, r.now, r.up, r.ses, r.w0, r.y0, r.a0, r.w1, r.y1, by simp [recvR, r.a1]⟩
theorem bytes_sub {l l' : List Nat} (h : Go.Bul.Bytes l) (hs : ∀ x ∈ l', x ∈ l) : Go.Bul.Bytes l' := fun x hx => h x (hs x hx)
theorem minuteR_bytes {T : RL} (h0 : Go.Bul.Bytes T.w0) (h1 : Go.Bul.Bytes T.w1) : Go.Bul.Bytes (minuteR T).w0 ∧ Go.Bul.Bytes (minuteR T).w1 := by
  have h : Go.Bul.Bytes (comeR (sentR T)).w0 ∧ Go.Bul.Bytes (comeR (sentR T)).w1 := by
    show Go.Bul.Bytes (sentR T).w0 ∧ Go.Bul.Bytes (sentR T).w1
    unfold sentR
    split
    · exact ⟨bytes_sub h0 fun x hx => List.mem_of_mem_drop hx, bytes_sub h1 fun x hx => List.mem_of_mem_drop hx⟩
    · exact ⟨h0, h1⟩
  unfold minuteR turnR
  repeat' split
  · exact h
  · exact ⟨Go.Bul.Bytes.nil, Go.Bul.Bytes.nil⟩
  · exact h
  · exact h
theorem tie_minutes {B : Nat} {S : Ln} {T : RL} (h : Tie B S T) : ∀ k : Nat, S.now + k ≤ 10000000 → Tie B (passN k S) (minutesR k T)
  | 0, _ => h
  | k + 1, hk => by
    have ih := tie_minutes h k (by omega)
    obtain ⟨c1, c2, c3, c4⟩ := passS_cfg (passN k S)
    obtain ⟨v0, v1⟩ := minuteR_bytes ih.v0 ih.v1
    have hn := h.fit.ok.now1
    refine ⟨fit_passN h.fit (k + 1) hk, wok_pass ih.wok, rel_minute ih.rel ih.wok ih.chk (by rw [passN_now]; omega), ?_, v0, v1⟩
    show Go.Lin.chk (passS (passN k S)).r (passS (passN k S)).d (passS (passN k S)).p (passS (passN k S)).ws = 0
    rw [c1, c2, c3, c4]
    exact ih.chk
end Go.Lin
namespace Go.Proofs.Ytenflgbaibjeoaa
open Go Go.RowKit Go.Bul Go.Thg Go.Lin
section
variable {w w0 : World} {G : List Nat} {L : List Ent} {R : List Thing} {F : Thing → List Thing} {T : RL} {v : RV}
theorem minute_in (hM : Mem G w0 L R w) (hu : UpdR (refT T v) R F) (hB : RB T) (hn : T.now < 10000000) :
    Calls Try.prog 56 #[.agg (refCs T v)] w fun e w' => ∃ v', e = .returned (.agg (refCs (minuteR T) v')) ∧ Mem G w0 L (F (refT (minuteR T) v')) w' := by
  refine (minute_any T v w (refT_in hM (mem_of_updR hu)) hB hn).mono ?_
  rintro e w' ⟨v', rfl, hb, hI, hs⟩
  exact ⟨v', rfl, turnRef hM hu hI hb hs⟩
end
set_option maxRecDepth 20000 in
set_option maxHeartbeats 4000000 in
theorem radv_yes (n : Nat) (T : RL) (v : RV) (w : World) (hR : RIn w T v) (hk : T.now + n ≤ 10000000) (h0 : 0 ≤ T.now) (hB : ∀ j, j ≤ n → RB (minutesR j T)) :
    Calls Try.prog 51 #[.agg (refCs T v), .int .i64 (n : Int)] w fun e w' => ∃ v', e = .returned (.tuple #[.agg (refCs (minutesR n T) v'), .int .i64 0]) ∧ Becomes (refT T v).fp w (refT (minutesR n T) v') w' := by
  have hM := Mem.enter (refT T v) hR
  have HB := Lib.hid hB
  have c1 : decide ((n : Int) < 0) = false := decide_eq_false (by omega)
  have w1 : IntKind.i64.wrap (10000000 - T.now) = 10000000 - T.now := IntWalk.i64_in _ ⟨by omega, by omega⟩
  have c2 : decide (10000000 - T.now < (n : Int)) = false := decide_eq_false (by omega)
  have HK := Lib.hid hk
  clear hR hB hk
  obtain ⟨G, hG⟩ : ∃ G, (refT T v).fp = G := ⟨_, rfl⟩
  rw [hG] at hM ⊢
  clear hG
  go_enter Try.func51, Try.ntmps51
  go_wp2_with (first | ((first | with_reducible refine at_load ?_ | ((with_reducible refine at_load_g ?_ ?_); (· rfl))); first | refine lc hM ?_ | refine ll hM ?_ | refine lp hM ?_) | ((with_reducible refine at_store ?_); first | (refine ls hM ?_; clear hM; intro wx hM) | (refine lw hM ?_; clear hM; intro wx hM) | (refine lt hM ?_; clear hM; intro wx hM)) | ((with_reducible refine at_alloc ?_); refine lz hM ?_; clear hM; intro gx wx hM) | ((with_reducible refine at_box ?_); refine lb hM ?_; clear hM; intro gx wx hM))
  obtain ⟨g4, hg4⟩ := hM.name1
  obtain ⟨g2, hg2⟩ := (hM.subL (List.sublist_cons_self _ _)).name1
  subst hg4 hg2
  have M0 := Lib.hid hM
  go_loopg [6] n (fun g u wr => ∃ (j : Nat) (v' : RV), u = .int .i64 (j : Int) ∧ j + g = n ∧ Mem G w [⟨g4, 66, 13, zeroL⟩, ⟨g2, 66, 13, refCs (minutesR j T) v'⟩] [refT (minutesR j T) v'] wr)
  case atStart => exact ⟨0, v, rfl, by omega, M0.out⟩
  case round =>
  clear hM M0
  obtain ⟨j, v', rfl, hj, hM⟩ := hrel
  by_cases hg : gk = 0
  · have hjn : j = n := by omega
    subst hjn
    clear hj hg c1 c2 w1
    go_wp2_with (first | ((first | with_reducible refine at_load ?_ | ((with_reducible refine at_load_g ?_ ?_); (· rfl))); first | refine lc hM ?_ | refine ll hM ?_ | refine lp hM ?_) | ((with_reducible refine at_store ?_); first | (refine ls hM ?_; clear hM; intro wx hM) | (refine lw hM ?_; clear hM; intro wx hM) | (refine lt hM ?_; clear hM; intro wx hM)) | ((with_reducible refine at_alloc ?_); refine lz hM ?_; clear hM; intro gx wx hM) | ((with_reducible refine at_box ?_); refine lb hM ?_; clear hM; intro gx wx hM))
    exact bodyPost_ret (results_mem_cell_tmp hM rfl (by rfl) (by repeat (first | exact List.Mem.head _ | apply List.Mem.tail)) (by first | exact row_cfg | exact row_win | exact row_line | exact row_end | exact row_ends | exact row_pkt | exact row_C | exact row_W | exact row_L | exact row_End | exact row_Ends | exact row_B | exact row_op | exact row_str2 | exact row_b3) (by rfl)) rfl ⟨v', rfl, hM.becomes (List.Mem.head _)⟩
  · have c3 : decide ((j : Int) < (n : Int)) = true := decide_eq_true (by omega)
    have c4 : decide (j < n) = true := decide_eq_true (by omega)
    have w2 : IntKind.i64.wrap ((j : Int) + 1) = ((j + 1 : Nat) : Int) := by have := HK.out; rw [IntWalk.i64_in _ ⟨by omega, by omega⟩]; omega
    have hnow := minutesR_now T j
    have HP := Lib.hid (fun (w' : World) (h : Mem G w [⟨g4, 66, 13, zeroL⟩, ⟨g2, 66, 13, refCs (minutesR j T) v'⟩] [refT (minutesR j T) v'] w') => minute_in h (UpdR.head _ _) (HB.out j (by omega)) (by rw [hnow]; have := HK.out; omega))
    have e : minutesR (j + 1) T = minuteR (minutesR j T) := rfl
    have HE := Lib.hid e
    have HJ := Lib.hid hj
    clear hj hnow e c1 c2 w1
    generalize minutesR j T = Tj at hM HP HE
    go_wp2_with (first | ((with_reducible refine (HP.out _ hM).mono ?_); clear hM; rintro e w1 ⟨v2, rfl, hM⟩) | ((first | with_reducible refine at_load ?_ | ((with_reducible refine at_load_g ?_ ?_); (· rfl))); first | refine lc hM ?_ | refine ll hM ?_ | refine lp hM ?_) | ((with_reducible refine at_store ?_); first | (refine ls hM ?_; clear hM; intro wx hM) | (refine lw hM ?_; clear hM; intro wx hM) | (refine lt hM ?_; clear hM; intro wx hM)) | ((with_reducible refine at_alloc ?_); refine lz hM ?_; clear hM; intro gx wx hM) | ((with_reducible refine at_box ?_); refine lb hM ?_; clear hM; intro gx wx hM))
    go_roundg (gk - 1)
    case measure => omega
    case rel => exact ⟨j + 1, v2, rfl, by have := HJ.out; omega, by rw [HE.out]; exact hM⟩
set_option maxRecDepth 20000 in
set_option maxHeartbeats 4000000 in
theorem radv_no (k : Int) (T : RL) (v : RV) (w : World) (h0 : 0 ≤ T.now) (h1 : T.now ≤ 10000000) (hb : k < 0 ∨ 10000000 - T.now < k) :
    Calls Try.prog 51 #[.agg (refCs T v), .int .i64 k] w fun e w' => e = .returned (.tuple #[.agg (refCs T v), .int .i64 2]) ∧ Below w.heap.size w w' := by
  have hM := Mem.start [] w
  have w1 : IntKind.i64.wrap (10000000 - T.now) = 10000000 - T.now := IntWalk.i64_in _ ⟨by omega, by omega⟩
  by_cases hk0 : k < 0
  · have c1 : decide (k < 0) = true := decide_eq_true hk0
    clear hb hk0 h0 h1
    go_enter Try.func51, Try.ntmps51
    go_wp2_with (first | ((first | with_reducible refine at_load ?_ | ((with_reducible refine at_load_g ?_ ?_); (· rfl))); first | refine lc hM ?_ | refine ll hM ?_ | refine lp hM ?_) | ((with_reducible refine at_store ?_); first | (refine ls hM ?_; clear hM; intro wx hM) | (refine lw hM ?_; clear hM; intro wx hM) | (refine lt hM ?_; clear hM; intro wx hM)) | ((with_reducible refine at_alloc ?_); refine lz hM ?_; clear hM; intro gx wx hM) | ((with_reducible refine at_box ?_); refine lb hM ?_; clear hM; intro gx wx hM))
    exact bodyPost_ret (results_mem_cell_tmp hM rfl (by rfl) (by repeat (first | exact List.Mem.head _ | apply List.Mem.tail)) (by first | exact row_cfg | exact row_win | exact row_line | exact row_end | exact row_ends | exact row_pkt | exact row_C | exact row_W | exact row_L | exact row_End | exact row_Ends | exact row_B | exact row_op | exact row_str2 | exact row_b3) (by rfl)) rfl ⟨rfl, hM.below⟩
  · have c1 : decide (k < 0) = false := decide_eq_false hk0
    have c2 : decide (10000000 - T.now < k) = true := decide_eq_true (by omega)
    clear hb hk0 h0 h1
    go_enter Try.func51, Try.ntmps51
    go_wp2_with (first | ((first | with_reducible refine at_load ?_ | ((with_reducible refine at_load_g ?_ ?_); (· rfl))); first | refine lc hM ?_ | refine ll hM ?_ | refine lp hM ?_) | ((with_reducible refine at_store ?_); first | (refine ls hM ?_; clear hM; intro wx hM) | (refine lw hM ?_; clear hM; intro wx hM) | (refine lt hM ?_; clear hM; intro wx hM)) | ((with_reducible refine at_alloc ?_); refine lz hM ?_; clear hM; intro gx wx hM) | ((with_reducible refine at_box ?_); refine lb hM ?_; clear hM; intro gx wx hM))
    exact bodyPost_ret (results_mem_cell_tmp hM rfl (by rfl) (by repeat (first | exact List.Mem.head _ | apply List.Mem.tail)) (by first | exact row_cfg | exact row_win | exact row_line | exact row_end | exact row_ends | exact row_pkt | exact row_C | exact row_W | exact row_L | exact row_End | exact row_Ends | exact row_B | exact row_op | exact row_str2 | exact row_b3) (by rfl)) rfl ⟨rfl, hM.below⟩
section
variable {w w0 : World} {G : List Nat} {L : List Ent} {R : List Thing} {F : Thing → List Thing} {T : RL} {v : RV}
/-- What the reference's Advance says, and leaves. -/
def advE (T : RL) (k : Int) : Int := if k < 0 ∨ 10000000 - T.now < k then 2 else 0
def advR (T : RL) (k : Int) : RL := if k < 0 ∨ 10000000 - T.now < k then T else minutesR k.toNat T
theorem radv_in (k : Int) (hM : Mem G w0 L R w) (hu : UpdR (refT T v) R F) (h0 : 0 ≤ T.now) (h1 : T.now ≤ 10000000) (hB : ∀ j : Nat, T.now + j ≤ 10000000 → RB (minutesR j T)) :
    Calls Try.prog 51 #[.agg (refCs T v), .int .i64 k] w fun e w' => ∃ v', e = .returned (.tuple #[.agg (refCs (advR T k) v'), .int .i64 (advE T k)]) ∧ Mem G w0 L (F (refT (advR T k) v')) w' := by
  have hI := refT_in hM (mem_of_updR hu)
  unfold advR advE
  by_cases hb : k < 0 ∨ 10000000 - T.now < k
  · rw [if_pos hb, if_pos hb]
    refine (radv_no k T v w h0 h1 hb).mono ?_
    rintro e w' ⟨rfl, hk⟩
    exact ⟨v, rfl, turnRef hM hu (hI.keep hk) hk (RSub.same _ _ rfl rfl rfl)⟩
  · rw [if_neg hb, if_neg hb]
    obtain ⟨n, rfl⟩ : ∃ n : Nat, k = (n : Int) := ⟨k.toNat, by omega⟩
    rw [Int.toNat_natCast]
    refine (radv_yes n T v w hI (by omega) h0 fun j hj => hB j (by omega)).mono ?_
    rintro e w' ⟨v', rfl, hc⟩
    exact ⟨v', rfl, hM.turn hu hc⟩
end
end Go.Proofs.Ytenflgbaibjeoaa
