/- The walk of bulletinlaw05.Sha256Write. -/
import Derived.Test.YtcdabngkpocnbaaDoorRefe
import Derived.Laws.OwnMore
namespace Go.Proofs.YtcdabngkpocnbaaDoor
open Go Go.RowKit Go.Bul
/-- A slice of slices of bytes. -/
structure RdRows (w : World) (A : Option Addr) (n : Nat) : Prop where
  at_ : 0 < n → ∃ ad, A = some ad ∧ ad.block < w.heap.size ∧ ∀ j, j < n → ∃ Aj nj cj bsj, w.cell? (ad.add j) = some (.slice Aj nj cj) ∧ nj ≤ cj ∧ cj ≤ 9223372036854775807 ∧ Rd w (· < w.heap.size) Aj nj bsj
/-- While a piece that was written is turned: the piece in its own row, all bytes in theirs, the Hash. -/
structure WInv (w wr : World) (base : Nat) (Ap : Option Addr) (np cp : Nat) (A : Option Addr) (n c : Nat) (L : List Nat) : Prop where
  p : 0 < np → ∃ gp, Ap = some ⟨gp, 0, none⟩ ∧ base ≤ gp ∧ (Value.slice A n c).ownBlock ≠ some gp ∧ ∃ xs : List Value, wr.ownsRow base 5 1 (.slice (some ⟨gp, 0, none⟩) np cp) np xs ∧ ∀ j, j < np → ∃ y : Int, xs[j]? = some (.int .u8 y)
  own : OwnB wr (w.heap.size + 1) (.slice A n c) L
  hash : HashAt wr w.heap.size L
  old : Below w.heap.size w wr
theorem WInv.store {w wr : World} {base : Nat} {Ap : Option Addr} {np cp : Nat} {A : Option Addr} {n c : Nat} {L : List Nat} (h : WInv w wr base Ap np cp A n c L) (hb : w.heap.size < base) {gp k : Nat} (hA : Ap = some ⟨gp, 0, none⟩) (hk : k < np) (z : Int) :
    WInv w (wr.setCell ⟨gp, k, none⟩ (.int .u8 z)) base Ap np cp A n c L := by
  obtain ⟨gp', hA', hge, hne, xs, hown, hy⟩ := h.p (by omega)
  obtain rfl : gp = gp' := by rw [hA] at hA'; injection hA' with h1; injection h1
  have hst := hown.stored k (.int .u8 z)
  refine ⟨fun _ => ⟨gp, hA, hge, hne, _, hst.1, fun j hj => ?_⟩, World.ownsRow.kept h.own hst.2 (.inr hne), h.hash.of_block (Below.heap_setCell _ _ _ _ (by dsimp only; omega)), h.old.setCell (by dsimp only; omega) _⟩
  obtain ⟨y, hy⟩ := hy j hj
  have hlt : j < xs.length := by
    rcases Nat.lt_or_ge j xs.length with h' | h'
    · exact h'
    · rw [List.getElem?_eq_none h'] at hy; cases hy
  rw [List.getElem?_set]
  by_cases he : k = j
  · rw [if_pos he, if_pos (by rw [he]; exact hlt)]
    exact ⟨z, rfl⟩
  · rw [if_neg he]
    exact ⟨y, hy⟩
/-- Between the pieces. -/
structure WOut (w : World) (k : Nat) (A : Option Addr) (n c : Nat) (L : List Nat) (wr : World) : Prop where
  len : L.length = n
  most : n ≤ 500 * k
  own : OwnB wr (w.heap.size + 1) (.slice A n c) L
  hash : HashAt wr w.heap.size L
  old : Below w.heap.size w wr
set_option maxRecDepth 20000 in
set_option maxHeartbeats 4000000 in
theorem wrw_any (A : Option Addr) (n c : Nat) (w : World) (hr : RdRows w A n) (hn : n ≤ c) (hc : c ≤ 9223372036854775807) (hT : Tab w) :
    Calls Tryd.prog 6 #[.slice A n c] w fun e w' => e = .returned (.bool true) ∧ Below w.heap.size w w' := by
  have htl := hT.lt
  have HT := Lib.hid hT
  have HR := Lib.hid hr
  clear hT hr
  have e0 : ∃ m : Nat, m ≤ n ∧ m ≤ 12 ∧ m = min n 12 := ⟨min n 12, by omega, by omega, rfl⟩
  obtain ⟨m, hmn, hm12, hm⟩ := e0
  have HM := Lib.hid hm
  have s0 := sha_length []
  obtain ⟨d0, hd0⟩ : ∃ d, d = sha [] := ⟨_, rfl⟩
  have ES := Lib.hid (self_b32 d0 (by rw [hd0, sha_length]))
  have HD := Lib.hid hd0
  clear s0 hd0
  have hsplit : (n ≤ 12 ∧ m = n) ∨ (12 < n ∧ m = 12) := by omega
  have hsp2 : ((n : Int) ≤ 12 ∧ m = n) ∨ ((12 : Int) < (n : Int) ∧ m = 12) := by omega
  have hm12i : (12 : Int) ≤ (c : Int) ∨ (n : Int) ≤ 12 := by omega
  clear hm hsplit
  have hcm : m ≤ c := by omega
  rcases hsp2 with ⟨h12, hme⟩ | ⟨h12, hme⟩
  · have hcc : (n : Int) ≤ (c : Int) := by omega
    have HME := Lib.hid hme
    clear hm12i
    subst hme
    go_enter Tryd.func6, Tryd.ntmps6
    go_wp2_with fail
    (with_reducible refine (new_any _).mono ?_)
    rintro e w1 ⟨rfl, hh1, hb1⟩
    go_wp2_with fail
    (with_reducible refine (len_any w.heap.size [] w1 hh1).mono ?_)
    rintro e w2 ⟨rfl, rfl⟩
    go_wp2_with fail
    (with_reducible refine (sumh_any w.heap.size [] w1 hh1 (by simp) (HT.out.keep hb1)).mono ?_)
    rintro e w2 ⟨rfl, hb2⟩
    rw [← HD.out]
    go_wp2_with fail
    (with_reducible refine (ref_sum [] none 0 0 (fun _ => True) w2 (Rd.nil _ _ _) (by omega)).mono ?_)
    rintro e w3 ⟨rfl, hb3⟩
    rw [← HD.out]
    have k3 := Below.step (Below.step hb1 hb2) hb3
    have hh3 := (hh1.keep hb2).keep hb3
    have es := ES.out
    clear hb1 hb2 hb3 hh1
    go_wp2_with fail
    clear es ES
    go_loopw [4, 5] (fun v i wr => ∃ (k : Nat) (A' : Option Addr) (n' c' : Nat) (L : List Nat), k ≤ m ∧ v = .slice A' n' c' ∧ i = .int .i64 (k : Nat) ∧ WOut w k A' n' c' L wr) (fun _ i _ => m - (intOf i).toNat)
    case atStart => exact ⟨0, none, 0, 0, [], by omega, rfl, rfl, ⟨rfl, by omega, OwnB.nil _ _, hh3, k3⟩⟩
    case round =>
      clear hh3 k3
      obtain ⟨k, A', n', c', L, hk, rfl, rfl, hI⟩ := hrel
      obtain ⟨hLl, hmost, hown, hhash, hold⟩ := hI
      by_cases hlt : k < m
      · obtain ⟨ad, rfl, hadlt, hrows⟩ := HR.out.at_ (by omega)
        obtain ⟨Aj, nj, cj, bsj, hcell, hnj, hcj, hrj⟩ := hrows k (by omega)
        have c0 : wr.cell? (ad.add k) = some (.slice Aj nj cj) := by rw [hold.cell (by rw [block_of_add]; exact hadlt)]; exact hcell
        have c1 : (wr.alloc (.cells #[] 5)).cell? (ad.add k) = some (.slice Aj nj cj) := by
          rw [((Below.refl wr.heap.size wr).alloc (Nat.le_refl _) (.cells #[] 5)).cell (by rw [block_of_add]; have := hold.size; omega)]
          exact c0
        clear c0
        have hcut := fun w => cut_any Aj nj cj w hnj hcj
        have hrx := hrj.take 500
        obtain ⟨q, hq⟩ : ∃ q, q = min nj 500 := ⟨_, rfl⟩
        obtain ⟨x, hx⟩ : ∃ x, x = bsj.take 500 := ⟨_, rfl⟩
        rw [← hq] at hcut
        rw [← hq, ← hx] at hrx
        have hq5 : q ≤ 500 := by omega
        have hqc : q ≤ cj := by omega
        have hbL : Bytes L := hhash.bytes
        have HC := Lib.hid hcut
        have HX := Lib.hid hrx
        have HL := Lib.hid hLl
        have hsz := hold.size
        have hltI : (k : Int) < (m : Int) := by omega
        clear hcut hrx hq hx hrows hcell hrj hLl hk
        go_wp2_with fail
        (with_reducible refine (HC.out _).mono ?_)
        rintro e wa ⟨rfl, rfl⟩
        obtain ⟨L2, hL2⟩ : ∃ L2, L2 = L ++ x := ⟨_, rfl⟩
        obtain ⟨n2, hn2⟩ : ∃ n2, n2 = n' + q := ⟨_, rfl⟩
        have hL2l : L2.length = n2 := by rw [hL2, hn2, List.length_append, HL.out, HX.out.len]
        have hn2b : n2 ≤ 500 * (k + 1) := by omega
        have HN := Lib.hid (And.intro hL2 (And.intro hn2 hL2l))
        clear hL2 hn2 hL2l
        have hpre := OwnB.of_block (base := wr.heap.size) (xs := []) (Blk.new wr 5 (cellsOf .u8 [])) (Nat.le_refl _) (Nat.zero_le _)
        have HPRE := Lib.hid hpre
        clear hpre
        have HOW := Lib.hid hown
        clear hown
        go_wp2_with (first
          | (refine wpList_append_bytes rfl (.tmp 33) (.tmp 38) 22 rfl Tryd.underlying22 wr.heap.size _ [] rfl HPRE.out (· < w.heap.size) Aj q cj x rfl ((HX.out.keep hold.size (fun b hb _ => hold.block b hb)).kept ((Below.refl _ _).alloc (Nat.le_refl _) _)) x rfl q HX.out.len (by omega) (by simp) ?_; intro Ap cp w2 hownp hqcp hgrow1 hwhere1; have HG1 := Lib.hid hgrow1; have HP := Lib.hid hownp; clear hgrow1 hwhere1 hownp; have B1 : Below wr.heap.size wr w2 := ((Below.refl _ _).alloc (Nat.le_refl _) _).grown HG1.out (by simp) (fun k hk => (HPRE.out.block_ge hk).1); have HO2 := Lib.hid (HOW.out.kept B1); have HRP := Lib.hid (HP.out.rd HX.out.len.symm HX.out.bytes).1; have hsz2 := B1.size)
          | (refine wpList_append_bytes rfl (.tmp 40) (.tmp 41) 22 rfl Tryd.underlying22 (w.heap.size + 1) _ L rfl HO2.out (fun b => wr.heap.size ≤ b) Ap q cp x rfl HRP.out L2 HN.out.1.symm n2 HN.out.2.2 (by omega) (by have := hhash.lt; omega) ?_; intro A2 c2 w3 hown3 hc2 hgrow2 hwhere2; have HG2 := Lib.hid hgrow2; have HO3 := Lib.hid hown3; have HW2 := Lib.hid hwhere2; clear hgrow2 hwhere2 hown3))
        have hglt := hhash.lt
        have hne : ∀ gp, (Value.slice Ap q cp).ownBlock = some gp → (Value.slice A' n' c').ownBlock ≠ some gp := fun gp h1 h2 => by
          have h3 := (HP.out.block_ge h1).1
          have h4 := (HOW.out.block_ge h2).2
          omega
        have hp3 : OwnB w3 wr.heap.size (.slice Ap q cp) x := by
          cases hb : (Value.slice Ap q cp).ownBlock with
          | none => exact World.ownsRow.kept HP.out HG2.out (.inl hb)
          | some gp => exact World.ownsRow.kept HP.out HG2.out (.inr (fun he => hne gp hb (he.symm.trans hb)))
        have hh3 : HashAt w3 w.heap.size L := HashAt.grown (hhash.keep B1) HO2.out HG2.out (by omega)
        have k3 : Below w.heap.size w w3 := (Below.step hold B1).grown HG2.out (Below.step hold B1).size (fun k hk => by have := (HO2.out.block_ge hk).1; omega)
        have hrp3 : Rd w3 (· ≠ w.heap.size) Ap q x := ((hp3.rd HX.out.len.symm HX.out.bytes).1).imp (fun b _ h => by omega)
        have hsz3 := HG2.out.size
        have hqcp2 : q ≤ cp := hqcp
        have hform : 0 < q → ∃ gp, Ap = some ⟨gp, 0, none⟩ ∧ wr.heap.size ≤ gp ∧ gp < w2.heap.size := fun h0 => by
          obtain ⟨_, _, he, _, _, hf⟩ := own_form HP.out
          obtain ⟨gp, h1, h2, h3⟩ := hf (by rw [HX.out.len]; exact h0)
          exact ⟨gp, by injection he with h4; rw [h4, h1], h2, h3⟩
        have hne2 : ∀ gp, Ap = some ⟨gp, 0, none⟩ → wr.heap.size ≤ gp → gp < w2.heap.size → (Value.slice A2 n2 c2).ownBlock ≠ some gp := fun gp h1 h2 h3 h4 => by
          rcases HW2.out with h5 | h5
          · exact hne gp (by rw [h1]; rfl) (h5.symm.trans h4)
          · rw [h5] at h4; injection h4 with h4; omega
        have HF := Lib.hid (And.intro hform hne2)
        have HP3 := Lib.hid hp3
        have HRP3 := Lib.hid hrp3
        clear hform hne2 hp3 hrp3 hne B1 hhash hold
        (with_reducible refine (write_any w.heap.size L x Ap q cp w3 hh3 HRP3.out hqcp2 (by rw [HL.out]; omega) (HT.out.keep k3) (by omega)).mono ?_)
        rintro e w4 ⟨rfl, hh4, ho4⟩
        rw [← HN.out.1] at hh4
        have k4 : Below w.heap.size w w4 := k3.trans (ho4.to_below' (Nat.le_refl _) (by omega))
        have hown4 : OwnB w4 (w.heap.size + 1) (.slice A2 n2 c2) L2 := HO3.out.only ho4 (by omega)
        have hp4 : OwnB w4 wr.heap.size (.slice Ap q cp) x := HP3.out.only ho4 (by omega)
        have hWI : WInv w w4 wr.heap.size Ap q cp A2 n2 c2 L2 := by
          refine ⟨fun h0 => ?_, hown4, hh4, k4⟩
          obtain ⟨gp, h1, h2, h3⟩ := HF.out.1 h0
          refine ⟨gp, h1, h2, HF.out.2 gp h1 h2 h3, vals .u8 x, ?_, fun j hj => ⟨((x.getD j 0 : Nat) : Int), ?_⟩⟩
          · have := hp4
            unfold OwnB at this
            rw [h1, HX.out.len] at this
            exact this
          · rw [vals_get]
            simp [List.getD, show j < x.length by rw [HX.out.len]; exact hj]
        clear hh3 k3 hh4 k4 hown4 hp4 ho4
        obtain ⟨B, hB⟩ : ∃ B, B = wr.heap.size := ⟨_, rfl⟩
        rw [← hB] at hWI
        have hBg : w.heap.size < B := by omega
        clear hB
        go_wp2_with fail
        go_loopw [7] (fun t w5 => ∃ j : Nat, j ≤ q ∧ t = .int .i64 (j : Nat) ∧ WInv w w5 B Ap q cp A2 n2 c2 L2) (fun t _ => q - (intOf t).toNat)
        case atStart => exact ⟨0, by omega, rfl, hWI⟩
        case round =>
          clear hWI
          obtain ⟨j, hj, rfl, hWI⟩ := hrel
          by_cases hjq : j < q
          · obtain ⟨gp, hAp, hge, _, xs, hxo, hxy⟩ := hWI.p (by omega)
            obtain ⟨y, hy⟩ := hxy j hjq
            subst hAp
            have cj : wr.cell? ⟨gp, j, none⟩ = some (.int .u8 y) := by rw [hxo.cellAt j (by omega)]; exact hy
            have fj : wr.frozen? ⟨gp, j, none⟩ = false := hxo.frozenAt j
            have hjI : (j : Int) < (q : Int) := by omega
            clear hy hxy hxo
            go_wp2_with fail
            exact ⟨⟨j + 1, by omega, by go_num, hWI.store hBg rfl hjq _⟩, by simp [intOf]; omega⟩
          · obtain rfl : j = q := by omega
            obtain ⟨_, hown, hhash, hold⟩ := hWI
            have hb2 := hhash.bytes
            have hrd5 := (hown.rd HN.out.2.2.symm hb2).1
            have HRD := Lib.hid hrd5
            have hsz5 := hold.size
            obtain ⟨d, hd⟩ : ∃ d, d = sha L2 := ⟨_, rfl⟩
            have hdl : d.length = 32 := by rw [hd, sha_length]
            have E1 := Lib.hid (self_b32 d hdl)
            have E2 := Lib.hid (self_dig d hdl)
            have HDD := Lib.hid hd
            have HOW5 := Lib.hid hown
            have hn2c : n2 ≤ 6000 := by omega
            clear hd hdl hrd5 hb2 hown
            go_wp2_with fail
            (with_reducible refine (len_any w.heap.size L2 _ hhash).mono ?_)
            rintro e w6 ⟨rfl, rfl⟩
            rw [HN.out.2.2]
            go_wp2_with fail
            (with_reducible refine (sumh_any w.heap.size L2 _ hhash (by rw [HN.out.2.2]; omega) (HT.out.keep hold)).mono ?_)
            rintro e w6 ⟨rfl, hb6⟩
            rw [← HDD.out]
            go_wp2_with fail
            (with_reducible refine (ref_sum L2 A2 n2 c2 _ w6 (HRD.out.kept hb6) (by omega)).mono ?_)
            rintro e w7 ⟨rfl, hb7⟩
            rw [← HDD.out]
            have k7 := Below.step hb6 hb7
            have e1 := E1.out
            clear hb6 hb7
            go_wp2_with fail
            clear e1
            (with_reducible refine (sumh_any w.heap.size L2 w7 (hhash.keep k7) (by rw [HN.out.2.2]; omega) (HT.out.keep (Below.step hold k7))).mono ?_)
            rintro e w8 ⟨rfl, hb8⟩
            rw [← HDD.out]
            have k8 := Below.step k7 hb8
            clear hb8
            go_wp2_with fail
            (with_reducible refine (sumh_any w.heap.size L2 w8 (hhash.keep k8) (by rw [HN.out.2.2]; omega) (HT.out.keep (Below.step hold k8))).mono ?_)
            rintro e w9 ⟨rfl, hb9⟩
            rw [← HDD.out]
            have k9 := Below.step k8 hb9
            have e2 := E2.out
            clear hb9
            go_wp2_with fail
            exact ⟨⟨k + 1, A2, n2, c2, L2, by omega, rfl, by go_num, ⟨HN.out.2.2, hn2b, HOW5.out.kept k9, hhash.keep k9, Below.step hold k9⟩⟩, by simp [intOf]; omega⟩
      · obtain rfl : k = m := by omega
        clear hown hhash hLl
        go_wp2_with fail
        (with_reducible refine (known_any _ (HT.out.keep hold)).mono ?_)
        rintro e w6 ⟨rfl, hb6⟩
        go_wp2_with fail
        go_ret
        exact ⟨rfl, Below.step hold hb6⟩
  · have hcc : (12 : Int) ≤ (c : Int) := by omega
    clear hm12i
    have HME := Lib.hid hme
    subst hme
    go_enter Tryd.func6, Tryd.ntmps6
    go_wp2_with fail
    (with_reducible refine (new_any _).mono ?_)
    rintro e w1 ⟨rfl, hh1, hb1⟩
    go_wp2_with fail
    (with_reducible refine (len_any w.heap.size [] w1 hh1).mono ?_)
    rintro e w2 ⟨rfl, rfl⟩
    go_wp2_with fail
    (with_reducible refine (sumh_any w.heap.size [] w1 hh1 (by simp) (HT.out.keep hb1)).mono ?_)
    rintro e w2 ⟨rfl, hb2⟩
    rw [← HD.out]
    go_wp2_with fail
    (with_reducible refine (ref_sum [] none 0 0 (fun _ => True) w2 (Rd.nil _ _ _) (by omega)).mono ?_)
    rintro e w3 ⟨rfl, hb3⟩
    rw [← HD.out]
    have k3 := Below.step (Below.step hb1 hb2) hb3
    have hh3 := (hh1.keep hb2).keep hb3
    have es := ES.out
    clear hb1 hb2 hb3 hh1
    go_wp2_with fail
    clear es ES
    go_loopw [4, 5] (fun v i wr => ∃ (k : Nat) (A' : Option Addr) (n' c' : Nat) (L : List Nat), k ≤ 12 ∧ v = .slice A' n' c' ∧ i = .int .i64 (k : Nat) ∧ WOut w k A' n' c' L wr) (fun _ i _ => 12 - (intOf i).toNat)
    case atStart => exact ⟨0, none, 0, 0, [], by omega, rfl, rfl, ⟨rfl, by omega, OwnB.nil _ _, hh3, k3⟩⟩
    case round =>
      clear hh3 k3
      obtain ⟨k, A', n', c', L, hk, rfl, rfl, hI⟩ := hrel
      obtain ⟨hLl, hmost, hown, hhash, hold⟩ := hI
      by_cases hlt : k < 12
      · obtain ⟨ad, rfl, hadlt, hrows⟩ := HR.out.at_ (by omega)
        obtain ⟨Aj, nj, cj, bsj, hcell, hnj, hcj, hrj⟩ := hrows k (by omega)
        have c0 : wr.cell? (ad.add k) = some (.slice Aj nj cj) := by rw [hold.cell (by rw [block_of_add]; exact hadlt)]; exact hcell
        have c1 : (wr.alloc (.cells #[] 5)).cell? (ad.add k) = some (.slice Aj nj cj) := by
          rw [((Below.refl wr.heap.size wr).alloc (Nat.le_refl _) (.cells #[] 5)).cell (by rw [block_of_add]; have := hold.size; omega)]
          exact c0
        clear c0
        have hcut := fun w => cut_any Aj nj cj w hnj hcj
        have hrx := hrj.take 500
        obtain ⟨q, hq⟩ : ∃ q, q = min nj 500 := ⟨_, rfl⟩
        obtain ⟨x, hx⟩ : ∃ x, x = bsj.take 500 := ⟨_, rfl⟩
        rw [← hq] at hcut
        rw [← hq, ← hx] at hrx
        have hq5 : q ≤ 500 := by omega
        have hqc : q ≤ cj := by omega
        have hbL : Bytes L := hhash.bytes
        have HC := Lib.hid hcut
        have HX := Lib.hid hrx
        have HL := Lib.hid hLl
        have hsz := hold.size
        have hltI : (k : Int) < (12 : Int) := by omega
        clear hcut hrx hq hx hrows hcell hrj hLl hk
        go_wp2_with fail
        (with_reducible refine (HC.out _).mono ?_)
        rintro e wa ⟨rfl, rfl⟩
        obtain ⟨L2, hL2⟩ : ∃ L2, L2 = L ++ x := ⟨_, rfl⟩
        obtain ⟨n2, hn2⟩ : ∃ n2, n2 = n' + q := ⟨_, rfl⟩
        have hL2l : L2.length = n2 := by rw [hL2, hn2, List.length_append, HL.out, HX.out.len]
        have hn2b : n2 ≤ 500 * (k + 1) := by omega
        have HN := Lib.hid (And.intro hL2 (And.intro hn2 hL2l))
        clear hL2 hn2 hL2l
        have hpre := OwnB.of_block (base := wr.heap.size) (xs := []) (Blk.new wr 5 (cellsOf .u8 [])) (Nat.le_refl _) (Nat.zero_le _)
        have HPRE := Lib.hid hpre
        clear hpre
        have HOW := Lib.hid hown
        clear hown
        go_wp2_with (first
          | (refine wpList_append_bytes rfl (.tmp 33) (.tmp 38) 22 rfl Tryd.underlying22 wr.heap.size _ [] rfl HPRE.out (· < w.heap.size) Aj q cj x rfl ((HX.out.keep hold.size (fun b hb _ => hold.block b hb)).kept ((Below.refl _ _).alloc (Nat.le_refl _) _)) x rfl q HX.out.len (by omega) (by simp) ?_; intro Ap cp w2 hownp hqcp hgrow1 hwhere1; have HG1 := Lib.hid hgrow1; have HP := Lib.hid hownp; clear hgrow1 hwhere1 hownp; have B1 : Below wr.heap.size wr w2 := ((Below.refl _ _).alloc (Nat.le_refl _) _).grown HG1.out (by simp) (fun k hk => (HPRE.out.block_ge hk).1); have HO2 := Lib.hid (HOW.out.kept B1); have HRP := Lib.hid (HP.out.rd HX.out.len.symm HX.out.bytes).1; have hsz2 := B1.size)
          | (refine wpList_append_bytes rfl (.tmp 40) (.tmp 41) 22 rfl Tryd.underlying22 (w.heap.size + 1) _ L rfl HO2.out (fun b => wr.heap.size ≤ b) Ap q cp x rfl HRP.out L2 HN.out.1.symm n2 HN.out.2.2 (by omega) (by have := hhash.lt; omega) ?_; intro A2 c2 w3 hown3 hc2 hgrow2 hwhere2; have HG2 := Lib.hid hgrow2; have HO3 := Lib.hid hown3; have HW2 := Lib.hid hwhere2; clear hgrow2 hwhere2 hown3))
        have hglt := hhash.lt
        have hne : ∀ gp, (Value.slice Ap q cp).ownBlock = some gp → (Value.slice A' n' c').ownBlock ≠ some gp := fun gp h1 h2 => by
          have h3 := (HP.out.block_ge h1).1
          have h4 := (HOW.out.block_ge h2).2
          omega
        have hp3 : OwnB w3 wr.heap.size (.slice Ap q cp) x := by
          cases hb : (Value.slice Ap q cp).ownBlock with
          | none => exact World.ownsRow.kept HP.out HG2.out (.inl hb)
          | some gp => exact World.ownsRow.kept HP.out HG2.out (.inr (fun he => hne gp hb (he.symm.trans hb)))
        have hh3 : HashAt w3 w.heap.size L := HashAt.grown (hhash.keep B1) HO2.out HG2.out (by omega)
        have k3 : Below w.heap.size w w3 := (Below.step hold B1).grown HG2.out (Below.step hold B1).size (fun k hk => by have := (HO2.out.block_ge hk).1; omega)
        have hrp3 : Rd w3 (· ≠ w.heap.size) Ap q x := ((hp3.rd HX.out.len.symm HX.out.bytes).1).imp (fun b _ h => by omega)
        have hsz3 := HG2.out.size
        have hqcp2 : q ≤ cp := hqcp
        have hform : 0 < q → ∃ gp, Ap = some ⟨gp, 0, none⟩ ∧ wr.heap.size ≤ gp ∧ gp < w2.heap.size := fun h0 => by
          obtain ⟨_, _, he, _, _, hf⟩ := own_form HP.out
          obtain ⟨gp, h1, h2, h3⟩ := hf (by rw [HX.out.len]; exact h0)
          exact ⟨gp, by injection he with h4; rw [h4, h1], h2, h3⟩
        have hne2 : ∀ gp, Ap = some ⟨gp, 0, none⟩ → wr.heap.size ≤ gp → gp < w2.heap.size → (Value.slice A2 n2 c2).ownBlock ≠ some gp := fun gp h1 h2 h3 h4 => by
          rcases HW2.out with h5 | h5
          · exact hne gp (by rw [h1]; rfl) (h5.symm.trans h4)
          · rw [h5] at h4; injection h4 with h4; omega
        have HF := Lib.hid (And.intro hform hne2)
        have HP3 := Lib.hid hp3
        have HRP3 := Lib.hid hrp3
        clear hform hne2 hp3 hrp3 hne B1 hhash hold
        (with_reducible refine (write_any w.heap.size L x Ap q cp w3 hh3 HRP3.out hqcp2 (by rw [HL.out]; omega) (HT.out.keep k3) (by omega)).mono ?_)
        rintro e w4 ⟨rfl, hh4, ho4⟩
        rw [← HN.out.1] at hh4
        have k4 : Below w.heap.size w w4 := k3.trans (ho4.to_below' (Nat.le_refl _) (by omega))
        have hown4 : OwnB w4 (w.heap.size + 1) (.slice A2 n2 c2) L2 := HO3.out.only ho4 (by omega)
        have hp4 : OwnB w4 wr.heap.size (.slice Ap q cp) x := HP3.out.only ho4 (by omega)
        have hWI : WInv w w4 wr.heap.size Ap q cp A2 n2 c2 L2 := by
          refine ⟨fun h0 => ?_, hown4, hh4, k4⟩
          obtain ⟨gp, h1, h2, h3⟩ := HF.out.1 h0
          refine ⟨gp, h1, h2, HF.out.2 gp h1 h2 h3, vals .u8 x, ?_, fun j hj => ⟨((x.getD j 0 : Nat) : Int), ?_⟩⟩
          · have := hp4
            unfold OwnB at this
            rw [h1, HX.out.len] at this
            exact this
          · rw [vals_get]
            simp [List.getD, show j < x.length by rw [HX.out.len]; exact hj]
        clear hh3 k3 hh4 k4 hown4 hp4 ho4
        obtain ⟨B, hB⟩ : ∃ B, B = wr.heap.size := ⟨_, rfl⟩
        rw [← hB] at hWI
        have hBg : w.heap.size < B := by omega
        clear hB
        go_wp2_with fail
        go_loopw [7] (fun t w5 => ∃ j : Nat, j ≤ q ∧ t = .int .i64 (j : Nat) ∧ WInv w w5 B Ap q cp A2 n2 c2 L2) (fun t _ => q - (intOf t).toNat)
        case atStart => exact ⟨0, by omega, rfl, hWI⟩
        case round =>
          clear hWI
          obtain ⟨j, hj, rfl, hWI⟩ := hrel
          by_cases hjq : j < q
          · obtain ⟨gp, hAp, hge, _, xs, hxo, hxy⟩ := hWI.p (by omega)
            obtain ⟨y, hy⟩ := hxy j hjq
            subst hAp
            have cj : wr.cell? ⟨gp, j, none⟩ = some (.int .u8 y) := by rw [hxo.cellAt j (by omega)]; exact hy
            have fj : wr.frozen? ⟨gp, j, none⟩ = false := hxo.frozenAt j
            have hjI : (j : Int) < (q : Int) := by omega
            clear hy hxy hxo
            go_wp2_with fail
            exact ⟨⟨j + 1, by omega, by go_num, hWI.store hBg rfl hjq _⟩, by simp [intOf]; omega⟩
          · obtain rfl : j = q := by omega
            obtain ⟨_, hown, hhash, hold⟩ := hWI
            have hb2 := hhash.bytes
            have hrd5 := (hown.rd HN.out.2.2.symm hb2).1
            have HRD := Lib.hid hrd5
            have hsz5 := hold.size
            obtain ⟨d, hd⟩ : ∃ d, d = sha L2 := ⟨_, rfl⟩
            have hdl : d.length = 32 := by rw [hd, sha_length]
            have E1 := Lib.hid (self_b32 d hdl)
            have E2 := Lib.hid (self_dig d hdl)
            have HDD := Lib.hid hd
            have HOW5 := Lib.hid hown
            have hn2c : n2 ≤ 6000 := by omega
            clear hd hdl hrd5 hb2 hown
            go_wp2_with fail
            (with_reducible refine (len_any w.heap.size L2 _ hhash).mono ?_)
            rintro e w6 ⟨rfl, rfl⟩
            rw [HN.out.2.2]
            go_wp2_with fail
            (with_reducible refine (sumh_any w.heap.size L2 _ hhash (by rw [HN.out.2.2]; omega) (HT.out.keep hold)).mono ?_)
            rintro e w6 ⟨rfl, hb6⟩
            rw [← HDD.out]
            go_wp2_with fail
            (with_reducible refine (ref_sum L2 A2 n2 c2 _ w6 (HRD.out.kept hb6) (by omega)).mono ?_)
            rintro e w7 ⟨rfl, hb7⟩
            rw [← HDD.out]
            have k7 := Below.step hb6 hb7
            have e1 := E1.out
            clear hb6 hb7
            go_wp2_with fail
            clear e1
            (with_reducible refine (sumh_any w.heap.size L2 w7 (hhash.keep k7) (by rw [HN.out.2.2]; omega) (HT.out.keep (Below.step hold k7))).mono ?_)
            rintro e w8 ⟨rfl, hb8⟩
            rw [← HDD.out]
            have k8 := Below.step k7 hb8
            clear hb8
            go_wp2_with fail
            (with_reducible refine (sumh_any w.heap.size L2 w8 (hhash.keep k8) (by rw [HN.out.2.2]; omega) (HT.out.keep (Below.step hold k8))).mono ?_)
            rintro e w9 ⟨rfl, hb9⟩
            rw [← HDD.out]
            have k9 := Below.step k8 hb9
            have e2 := E2.out
            clear hb9
            go_wp2_with fail
            exact ⟨⟨k + 1, A2, n2, c2, L2, by omega, rfl, by go_num, ⟨HN.out.2.2, hn2b, HOW5.out.kept k9, hhash.keep k9, Below.step hold k9⟩⟩, by simp [intOf]; omega⟩
      · obtain rfl : k = 12 := by omega
        clear hown hhash hLl
        go_wp2_with fail
        (with_reducible refine (known_any _ (HT.out.keep hold)).mono ?_)
        rintro e w6 ⟨rfl, hb6⟩
        go_wp2_with fail
        go_ret
        exact ⟨rfl, Below.step hold hb6⟩
end Go.Proofs.YtcdabngkpocnbaaDoor
