/- LineDelivers: what the walk needs, for every rate, delay and text. -/
import Derived.Test.YtenflgbaibjeoaaLqh
namespace Go.Lin
open Go Go.Bul
theorem run_recv {T : List Nat} {R d c j : Nat} {a : List Nat} {S : Ln} (h : Run T R d c j a S) : Run T R d c j (a ++ S.e1.arr) { S with e1 := { S.e1 with arr := [] } } :=
  ⟨h.r, h.dd, h.p, h.ws, h.now, h.up, h.ses, by have := h.all; simpa using this, h.wait, h.w1, h.y1, h.srt, h.le, h.late, h.last⟩
theorem run_all {T : List Nat} {R d c : Nat} {Z : Ln} (hR : 0 < R) (hc : 0 < c) (hc1 : T.length ≤ c * R) (hc2 : ∀ i, i < c → i * R < T.length) (hT : T.length ≤ 200) (h : Run T R d c 0 [] Z) :
    ((passN (c + d - 1) Z).e1.arr.take 1000).length < T.length ∧
    (passN (c + d - 1) Z).e1.arr.take 1000 ++ ((passN 1 { passN (c + d - 1) Z with e1 := { (passN (c + d - 1) Z).e1 with arr := (passN (c + d - 1) Z).e1.arr.drop 1000 } }).e1.arr.take 1000) = T ∧
    (passN 1 { passN (c + d - 1) Z with e1 := { (passN (c + d - 1) Z).e1 with arr := (passN (c + d - 1) Z).e1.arr.drop 1000 } }).ses = 1 := by
  have h2 := run_steps hR hc1 hc2 h (c + d - 1)
  rw [Nat.zero_add] at h2
  generalize passN (c + d - 1) Z = S2 at h2 ⊢
  have he := run_early hc2 hc h2
  rw [List.nil_append] at he
  have ht : S2.e1.arr.take 1000 = S2.e1.arr := List.take_of_length_le (by omega)
  have hd : S2.e1.arr.drop 1000 = [] := List.drop_of_length_le (by omega)
  rw [ht, hd]
  have h3 := run_recv h2
  rw [List.nil_append] at h3
  have h4 := run_steps hR hc1 hc2 h3 1
  rw [show c + d - 1 + 1 = c + d by omega] at h4
  generalize passN 1 { S2 with e1 := { S2.e1 with arr := [] } } = S4 at h4 ⊢
  have h5 := run_done hc1 h4
  have ht4 : S4.e1.arr.take 1000 = S4.e1.arr := List.take_of_length_le (by have := congrArg List.length h5; rw [List.length_append] at this; omega)
  exact ⟨he, by rw [ht4]; exact h5, h4.ses⟩
theorem ceil_facts {L R : Nat} (hR : 0 < R) (hL : 0 < L) : 0 < (L + R - 1) / R ∧ L ≤ (L + R - 1) / R * R ∧ ∀ i, i < (L + R - 1) / R → i * R < L := by
  have h1 := Nat.div_add_mod (L + R - 1) R
  have h2 := Nat.mod_lt (L + R - 1) hR
  obtain ⟨c, hc⟩ : ∃ c, (L + R - 1) / R = c := ⟨_, rfl⟩
  rw [hc] at h1 ⊢
  rw [Nat.mul_comm] at h1
  refine ⟨Nat.pos_of_ne_zero fun h0 => ?_, by omega, fun i hi => ?_⟩
  · subst h0
    rw [Nat.zero_mul] at h1
    omega
  · have : (i + 1) * R ≤ c * R := Nat.mul_le_mul_right _ hi
    rw [Nat.add_mul] at this
    omega
theorem bstr_append (a b : List Nat) : bstr a ++ bstr b = bstr (a ++ b) := by
  apply ByteArray.ext
  simp [bstr]
/-- The line as it comes to be. -/
def zS (R d : Nat) : Ln := ⟨R, d, 10, alw, 0, true, 1, ⟨[], [], []⟩, ⟨[], [], []⟩⟩
theorem new_zS (R d : Nat) : newS R d 10 alw = zS R d := by
  unfold newS
  rw [alw_on, if_pos rfl]
  rfl
theorem ok_recv0 {S : Ln} (k : Nat) (h : Ok S) : Ok { S with e0 := { S.e0 with arr := S.e0.arr.drop k } } := by
  have := h.n1
  exact ⟨h.r1, h.r2, h.d1, h.d2, h.p1, h.p2, h.ws, h.now1, h.now2, h.ses1, h.ses2, h.n0, by simp only [List.length_drop]; omega, h.w0, h.w1⟩
theorem Ok.arr1 {S : Ln} (h : Ok S) : S.e1.arr.length ≤ 1000000000 := by have := h.n0; omega
theorem Ok.arr0 {S : Ln} (h : Ok S) : S.e0.arr.length ≤ 1000000000 := by have := h.n1; omega
end Go.Lin
namespace Go.Proofs.Ytenflgbaibjeoaa
open Go Go.RowKit Go.Bul Go.Thg Go.Lin
theorem ses_at {G : List Nat} {w0 w : World} {L : List Ent} {R : List Thing} {p : Nat} {S : Ln} (h : HasLine G w0 L R p S w) (hs : S.ses = 1) : Calls Try.prog 19 #[.pointer (some ⟨p, 0, none⟩)] w fun e w' => e = .returned (.int .i64 1) ∧ w = w' := by
  have := ses_any h
  rwa [hs] at this
attribute [local irreducible] HasLine
theorem deliver_any (zr zd : Int) (text : ByteArray) (w : World) (hr0 : 0 ≤ zr) (hd0 : 0 ≤ zd) (hr1 : zr < 65536) (hd1 : zd < 65536) :
    Calls Try.prog 3 #[.int .u16 zr, .int .u16 zd, .string text] w fun e w' => e = .returned (.bool true) ∧ Below w.heap.size w w' := by
  obtain ⟨M, hm⟩ : ∃ M : Int, (if (200 : Int) < (text.size : Int) then (200 : Int) else (text.size : Int)) = M := ⟨_, rfl⟩
  have hM2 : 0 ≤ M ∧ M ≤ 200 ∧ M.toNat ≤ text.size := by split at hm <;> omega
  obtain ⟨b, hb⟩ : ∃ b, text.extract 0 M.toNat = b := ⟨_, rfl⟩
  have hbs : min M.toNat text.size = b.size := by rw [← hb, ByteArray.size_extract]; omega
  have hb200 : b.size ≤ 200 := by omega
  obtain ⟨R, hR⟩ : ∃ R : Nat, 1 + zr % 300 = (R : Int) := ⟨(1 + zr % 300).toNat, by omega⟩
  obtain ⟨D, hD⟩ : ∃ D : Nat, zd % 50 = (D : Int) := ⟨(zd % 50).toNat, by omega⟩
  have hRp : 0 < R ∧ R ≤ 300 := by omega
  have hDp : D ≤ 50 := by omega
  obtain ⟨C, hCC⟩ : ∃ C, (b.size + R - 1) / R = C := ⟨_, rfl⟩
  have hC : ((b.size : Int) + (R : Int) - 1).tdiv (R : Int) = (C : Int) := by
    rw [← hCC, show (b.size : Int) + (R : Int) - 1 = ((b.size + R - 1 : Nat) : Int) by omega]
    rw [Int.tdiv_eq_ediv_of_nonneg (by omega)]
    rfl
  have hC2 : (C : Int) ≤ 1000 := by
    have : C ≤ b.size + R - 1 := by rw [← hCC]; exact Nat.div_le_self _ _
    omega
  have hck : chk R D 10 alw = 0 := alw_chk (by omega) (by omega) (by omega) (by omega)
  have hok0 : Ok (zS R D) := by have := ok_new hck; rwa [new_zS] at this
  have H0 := Lib.hid (fun (A : Option Addr) (c : Nat) w' (hW : Wins w' A 2 alw) => (new_zS R D ▸ new_any (w := w') R D 10 A 2 c alw hW (by decide) hck : Calls Try.prog 14 #[cfgV R D 10 A 2 c] w' fun e w'' => ∃ g, e = .returned (.tuple #[.pointer (some ⟨g, 0, none⟩), .int .i64 0]) ∧ HasLine [] w' [] [] g (zS R D) w''))
  have hnl := nums_length b
  rcases (show (b.size : Int) % 2 = 0 ∨ (b.size : Int) % 2 = 1 by omega) with hpar | hpar
  · have H1 := Lib.hid (fun (L : List Ent) (T : List Thing) p w' h => send_0 (G := []) (w0 := w) (L := L) (R := T) (p := p) (w := w') (S := zS R D) b h rfl (by simp [zS]; omega))
    by_cases hb0 : b.size = 0
    · exact deliver_empty zr zd text b w R D C 0 (zS R D) _ hr0 hd0 hr1 hd1 M hm hb hbs hR hD hpar hb200 hb0 hC hC2 H0 H1
    · obtain ⟨c0, c1, c2⟩ := ceil_facts hRp.1 (show 0 < b.size by omega)
      rw [hCC] at c0 c1 c2
      have hok1 : Ok { zS R D with e0 := { (zS R D).e0 with wait := (zS R D).e0.wait ++ nums b } } :=
        ⟨hok0.r1, hok0.r2, hok0.d1, hok0.d2, hok0.p1, hok0.p2, hok0.ws, hok0.now1, hok0.now2, hok0.ses1, hok0.ses2, by simp [zS, wb]; omega, by simp [zS, wb], by simp [zS], by simp [zS]⟩
      have hrun : Run (nums b) R D C 0 [] { zS R D with e0 := { (zS R D).e0 with wait := (zS R D).e0.wait ++ nums b } } :=
        ⟨rfl, rfl, rfl, rfl, rfl, rfl, rfl, by simp [zS, flat], by simp [zS], rfl, rfl, List.Pairwise.nil, by simp [zS], by simp [zS], fun h1 h2 => by omega⟩
      generalize { zS R D with e0 := { (zS R D).e0 with wait := (zS R D).e0.wait ++ nums b } } = Z at H1 hok1 hrun
      obtain ⟨r1, r2, r3⟩ := run_all hRp.1 c0 (by rw [hnl]; exact c1) (fun i hi => by rw [hnl]; exact c2 i hi) (by omega) hrun
      have hz0 : Z.now = 0 := hrun.now
      have hok2 := ok_passN hok1 (C + D - 1) (by omega)
      have hn2 : (passN (C + D - 1) Z).now = (C + D - 1 : Nat) := by rw [passN_now]; omega
      have H2 := fun (L : List Ent) (T : List Thing) p w' h => adv_any (G := []) (w0 := w) (L := L) (R := T) (p := p) (w := w') (S := Z) ((C : Int) + (D : Int) - 1) h hok1 (by omega) (by omega)
      rw [show ((C : Int) + (D : Int) - 1).toNat = C + D - 1 by omega] at H2
      generalize passN (C + D - 1) Z = S2 at r1 r2 r3 hok2 hn2 H2
      have hok3 := ok_recv 1000 hok2
      have H3 := fun (L : List Ent) (T : List Thing) p w' h => recv_1 (G := []) (w0 := w) (L := L) (R := T) (p := p) (w := w') (S := S2) 1000 h (by decide) hok2.arr1
      rw [show (1000 : Int).toNat = 1000 from rfl] at H3
      have hn3 : ({ S2 with e1 := { S2.e1 with arr := S2.e1.arr.drop 1000 } } : Ln).now = (C + D - 1 : Nat) := hn2
      generalize ({ S2 with e1 := { S2.e1 with arr := S2.e1.arr.drop 1000 } } : Ln) = S3 at r2 r3 hok3 H3 hn3
      have H4 := fun (L : List Ent) (T : List Thing) p w' h => adv_any (G := []) (w0 := w) (L := L) (R := T) (p := p) (w := w') (S := S3) 1 h hok3 (by omega) (by omega)
      rw [show (1 : Int).toNat = 1 from rfl] at H4
      have hok4 := ok_passN hok3 1 (by omega)
      generalize passN 1 S3 = S4 at r2 r3 hok4 H4
      have H5 := fun (L : List Ent) (T : List Thing) p w' h => recv_1 (G := []) (w0 := w) (L := L) (R := T) (p := p) (w := w') (S := S4) 1000 h (by decide) hok4.arr1
      rw [show (1000 : Int).toNat = 1000 from rfl] at H5
      have H6 := fun (L : List Ent) (T : List Thing) p w' h => ses_at (G := []) (w0 := w) (L := L) (R := T) (p := p) (w := w') (S := { S4 with e1 := { S4.e1 with arr := S4.e1.arr.drop 1000 } }) h r3
      exact deliver_at zr zd text b w R D C 0 1 (zS R D) Z _ _ _ _ _ _ hr0 hd0 hr1 hd1 M hm hb hbs hR hD hpar (by omega) hb200 hb0 (by rw [bstr_size]; omega) (by rw [bstr_append, r2, bstr_of_nums]) hC hC2 H0 H1 (Lib.hid H2) (Lib.hid H3) (Lib.hid H4) (Lib.hid H5) (Lib.hid H6)
  · have H1 := Lib.hid (fun (L : List Ent) (T : List Thing) p w' h => send_1 (G := []) (w0 := w) (L := L) (R := T) (p := p) (w := w') (S := zS R D) b h rfl (by simp [zS]; omega))
    by_cases hb0 : b.size = 0
    · exact deliver_empty zr zd text b w R D C 1 (zS R D) _ hr0 hd0 hr1 hd1 M hm hb hbs hR hD hpar hb200 hb0 hC hC2 H0 H1
    · obtain ⟨c0, c1, c2⟩ := ceil_facts hRp.1 (show 0 < b.size by omega)
      rw [hCC] at c0 c1 c2
      have hok1 : Ok { zS R D with e1 := { (zS R D).e1 with wait := (zS R D).e1.wait ++ nums b } } :=
        ⟨hok0.r1, hok0.r2, hok0.d1, hok0.d2, hok0.p1, hok0.p2, hok0.ws, hok0.now1, hok0.now2, hok0.ses1, hok0.ses2, by simp [zS, wb], by simp [zS, wb]; omega, by simp [zS], by simp [zS]⟩
      have hrun : Run (nums b) R D C 0 [] (swS { zS R D with e1 := { (zS R D).e1 with wait := (zS R D).e1.wait ++ nums b } }) :=
        ⟨rfl, rfl, rfl, rfl, rfl, rfl, rfl, by simp [zS, flat, swS], by simp [zS, swS], rfl, rfl, List.Pairwise.nil, by simp [zS, swS], by simp [zS, swS], fun h1 h2 => by omega⟩
      generalize { zS R D with e1 := { (zS R D).e1 with wait := (zS R D).e1.wait ++ nums b } } = Z at H1 hok1 hrun
      have hz0 : Z.now = 0 := hrun.now
      obtain ⟨r1, r2, r3⟩ := run_all hRp.1 c0 (by rw [hnl]; exact c1) (fun i hi => by rw [hnl]; exact c2 i hi) (by omega) hrun
      rw [sw_passN] at r1 r2 r3
      have hsw : ({ swS (passN (C + D - 1) Z) with e1 := { (swS (passN (C + D - 1) Z)).e1 with arr := (swS (passN (C + D - 1) Z)).e1.arr.drop 1000 } } : Ln) = swS { passN (C + D - 1) Z with e0 := { (passN (C + D - 1) Z).e0 with arr := (passN (C + D - 1) Z).e0.arr.drop 1000 } } := rfl
      rw [hsw, sw_passN] at r2 r3
      simp only [swS] at r1 r2 r3
      have hok2 := ok_passN hok1 (C + D - 1) (by omega)
      have hn2 : (passN (C + D - 1) Z).now = (C + D - 1 : Nat) := by rw [passN_now]; omega
      have H2 := fun (L : List Ent) (T : List Thing) p w' h => adv_any (G := []) (w0 := w) (L := L) (R := T) (p := p) (w := w') (S := Z) ((C : Int) + (D : Int) - 1) h hok1 (by omega) (by omega)
      rw [show ((C : Int) + (D : Int) - 1).toNat = C + D - 1 by omega] at H2
      generalize passN (C + D - 1) Z = S2 at r1 r2 r3 hok2 hn2 H2
      have hok3 := ok_recv0 1000 hok2
      have H3 := fun (L : List Ent) (T : List Thing) p w' h => recv_0 (G := []) (w0 := w) (L := L) (R := T) (p := p) (w := w') (S := S2) 1000 h (by decide) hok2.arr0
      rw [show (1000 : Int).toNat = 1000 from rfl] at H3
      have hn3 : ({ S2 with e0 := { S2.e0 with arr := S2.e0.arr.drop 1000 } } : Ln).now = (C + D - 1 : Nat) := hn2
      generalize ({ S2 with e0 := { S2.e0 with arr := S2.e0.arr.drop 1000 } } : Ln) = S3 at r2 r3 hok3 H3 hn3
      have H4 := fun (L : List Ent) (T : List Thing) p w' h => adv_any (G := []) (w0 := w) (L := L) (R := T) (p := p) (w := w') (S := S3) 1 h hok3 (by omega) (by omega)
      rw [show (1 : Int).toNat = 1 from rfl] at H4
      have hok4 := ok_passN hok3 1 (by omega)
      generalize passN 1 S3 = S4 at r2 r3 hok4 H4
      have H5 := fun (L : List Ent) (T : List Thing) p w' h => recv_0 (G := []) (w0 := w) (L := L) (R := T) (p := p) (w := w') (S := S4) 1000 h (by decide) hok4.arr0
      rw [show (1000 : Int).toNat = 1000 from rfl] at H5
      have H6 := fun (L : List Ent) (T : List Thing) p w' h => ses_at (G := []) (w0 := w) (L := L) (R := T) (p := p) (w := w') (S := { S4 with e0 := { S4.e0 with arr := S4.e0.arr.drop 1000 } }) h r3
      exact deliver_at zr zd text b w R D C 1 0 (zS R D) Z _ _ _ _ _ _ hr0 hd0 hr1 hd1 M hm hb hbs hR hD hpar (by omega) hb200 hb0 (by rw [bstr_size]; omega) (by rw [bstr_append, r2, bstr_of_nums]) hC hC2 H0 H1 (Lib.hid H2) (Lib.hid H3) (Lib.hid H4) (Lib.hid H5) (Lib.hid H6)
end Go.Proofs.Ytenflgbaibjeoaa
