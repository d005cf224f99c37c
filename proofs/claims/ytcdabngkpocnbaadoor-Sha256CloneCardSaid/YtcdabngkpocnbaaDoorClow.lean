/- The walk of bulletinlaw05.Sha256Clone. -/
import Derived.Test.YtcdabngkpocnbaaDoorRefe
namespace Go.Proofs.YtcdabngkpocnbaaDoor
open Go Go.RowKit Go.Bul
set_option maxHeartbeats 2000000 in
theorem clow_any (a b d : List Nat) (A1 A2 A3 : Option Addr) (n1 n2 n3 c1 c2 c3 : Nat) (w : World) (hr1 : Rd w (fun _ => True) A1 n1 a) (hr2 : Rd w (fun _ => True) A2 n2 b) (hr3 : Rd w (fun _ => True) A3 n3 d)
    (hn1 : n1 ≤ c1) (hn2 : n2 ≤ c2) (hn3 : n3 ≤ c3) (hc1 : c1 ≤ 9223372036854775807) (hc2 : c2 ≤ 9223372036854775807) (hc3 : c3 ≤ 9223372036854775807) (hT : Tab w) :
    Calls Tryd.prog 7 #[.slice A1 n1 c1, .slice A2 n2 c2, .slice A3 n3 c3] w fun e w' => e = .returned (.bool true) ∧ Below w.heap.size w w' := by
  have htl := hT.lt
  have hr1' := (hr1.take 500).imp (ok' := (· < w.heap.size)) (fun _ h _ => h)
  have hr2' := (hr2.take 500).imp (ok' := (· < w.heap.size)) (fun _ h _ => h)
  have hr3' := (hr3.take 500).imp (ok' := (· < w.heap.size)) (fun _ h _ => h)
  have hcut1 := cut_any A1 n1 c1 w hn1 hc1
  have hcut2 := cut_any A2 n2 c2 w hn2 hc2
  have hcut3 := cut_any A3 n3 c3 w hn3 hc3
  obtain ⟨m1, hm1⟩ : ∃ k, k = min n1 500 := ⟨_, rfl⟩
  obtain ⟨m2, hm2⟩ : ∃ k, k = min n2 500 := ⟨_, rfl⟩
  obtain ⟨m3, hm3⟩ : ∃ k, k = min n3 500 := ⟨_, rfl⟩
  obtain ⟨x, hx⟩ : ∃ l, l = a.take 500 := ⟨_, rfl⟩
  obtain ⟨y, hy⟩ : ∃ l, l = b.take 500 := ⟨_, rfl⟩
  obtain ⟨z, hz⟩ : ∃ l, l = d.take 500 := ⟨_, rfl⟩
  rw [← hm1, ← hx] at hr1'
  rw [← hm2, ← hy] at hr2'
  rw [← hm3, ← hz] at hr3'
  rw [← hm1] at hcut1
  rw [← hm2] at hcut2
  rw [← hm3] at hcut3
  have hnc1 : m1 ≤ c1 := by omega
  have hnc2 : m2 ≤ c2 := by omega
  have hnc3 : m3 ≤ c3 := by omega
  have h51 : m1 ≤ 500 := by omega
  have h52 : m2 ≤ 500 := by omega
  have h53 : m3 ≤ 500 := by omega
  have R1 := Lib.hid hr1'
  have R2 := Lib.hid hr2'
  have R3 := Lib.hid hr3'
  have HT := Lib.hid hT
  have C1 := Lib.hid hcut1
  have C2 := Lib.hid hcut2
  have C3 := Lib.hid hcut3
  have X := Lib.hid (And.intro hr1'.len (And.intro hr2'.len hr3'.len))
  clear hr1 hr2 hr3 hr1' hr2' hr3' hm1 hm2 hm3 hx hy hz hcut1 hcut2 hcut3 hT hn1 hn2 hn3 hc1 hc2 hc3
  go_enter Tryd.func7, Tryd.ntmps7
  go_wp2_with fail
  (with_reducible refine C1.out.mono ?_)
  rintro e w1 ⟨rfl, rfl⟩
  go_wp2_with fail
  (with_reducible refine C2.out.mono ?_)
  rintro e w1 ⟨rfl, rfl⟩
  go_wp2_with fail
  (with_reducible refine C3.out.mono ?_)
  rintro e w1 ⟨rfl, rfl⟩
  go_wp2_with fail
  (with_reducible refine (new_any _).mono ?_)
  rintro e w1 ⟨rfl, hh1, k1⟩
  go_wp2_with fail
  (with_reducible refine (write_any w.heap.size [] x A1 m1 c1 w1 hh1 ((R1.out.kept k1).imp (fun _ _ h => by omega)) hnc1 (by simp; omega) (HT.out.keep k1) (by omega)).mono ?_)
  rintro e w2 ⟨rfl, hh2, ho2⟩
  rw [List.nil_append] at hh2
  have hlt1 := hh1.lt
  have k2 : Below w.heap.size w w2 := k1.trans (ho2.to_below' (by omega) (by omega))
  have hlt2 := hh2.lt
  clear hh1 ho2 k1
  go_wp2_with fail
  (with_reducible refine (clone_any w.heap.size x w2 hh2).mono ?_)
  rintro e w3 ⟨rfl, hk3, hb3⟩
  obtain ⟨g, hg⟩ : ∃ g, g = w2.heap.size := ⟨_, rfl⟩
  have hh3 := hh2.keep hb3
  rw [← hg] at hk3 hlt2 ⊢
  have k3 := Below.step k2 hb3
  clear hh2 k2 hb3 hg
  go_wp2_with fail
  (with_reducible refine (write_any w.heap.size x y A2 m2 c2 w3 hh3 ((R2.out.kept k3).imp (fun _ _ h => by omega)) hnc2 (by rw [X.out.1]; omega) (HT.out.keep k3) (by omega)).mono ?_)
  rintro e w4 ⟨rfl, hh4, ho4⟩
  have hlt3 := hk3.lt
  have hk4 := hk3.only ho4 (by omega)
  have k4 : Below w.heap.size w w4 := k3.trans (ho4.to_below' (by omega) (by omega))
  clear hh3 hk3 ho4 k3
  go_wp2_with fail
  (with_reducible refine (write_any g x z A3 m3 c3 w4 hk4 ((R3.out.kept k4).imp (fun _ _ h => by omega)) hnc3 (by rw [X.out.1]; omega) (HT.out.keep k4) (by omega)).mono ?_)
  rintro e w5 ⟨rfl, hk5, ho5⟩
  have hh5 := hh4.only ho5 (by omega)
  have hlt4 := hk4.lt
  have k5 : Below w.heap.size w w5 := k4.trans (ho5.to_below' (by omega) (by omega))
  clear hh4 hk4 ho5 k4
  go_wp2_with fail
  (with_reducible refine (known_any w5 (HT.out.keep k5)).mono ?_)
  rintro e w6 ⟨rfl, hb6⟩
  have hh6 := hh5.keep hb6
  have hk6 := hk5.keep hb6
  have k6 := Below.step k5 hb6
  clear hh5 hk5 k5 hb6
  obtain ⟨L, hL⟩ : ∃ L, L = x ++ y := ⟨_, rfl⟩
  obtain ⟨M, hM⟩ : ∃ L, L = x ++ z := ⟨_, rfl⟩
  have hLl : L.length = m1 + m2 := by rw [hL, List.length_append, X.out.1, X.out.2.1]
  have hMl : M.length = m1 + m3 := by rw [hM, List.length_append, X.out.1, X.out.2.2]
  rw [← hL] at hh6
  rw [← hM] at hk6
  obtain ⟨s, hs⟩ : ∃ s, s = sha L := ⟨_, rfl⟩
  obtain ⟨t, ht⟩ : ∃ s, s = sha M := ⟨_, rfl⟩
  have ES := Lib.hid (self_b32 s (by rw [hs, sha_length]))
  have ET := Lib.hid (self_b32 t (by rw [ht, sha_length]))
  have H := Lib.hid (And.intro hL (And.intro hM (And.intro hs (And.intro ht (And.intro hLl hMl)))))
  clear hL hM hLl hMl hs ht
  go_wp2_with fail
  (with_reducible refine (sumh_any w.heap.size L w6 hh6 (by have := H.out.2.2.2.2.1; omega) (HT.out.keep k6)).mono ?_)
  rintro e w7 ⟨rfl, hb7⟩
  rw [← H.out.2.2.1]
  have hk7 := hk6.keep hb7
  have k7 := Below.step k6 hb7
  clear hh6 hk6 k6 hb7
  go_wp2_with (first
    | (refine wpList_unguard rfl ?_; refine wpList_append_bytes rfl (.tmp 35) (.tmp 36) 22 rfl Tryd.underlying22 w7.heap.size _ [] rfl (OwnB.of_block (xs := []) (Blk.new w7 5 (cellsOf .u8 [])) (Nat.le_refl _) (Nat.zero_le _)) (· < w.heap.size) A1 m1 c1 x rfl ((R1.out.kept k7).kept ((Below.refl _ _).alloc (Nat.le_refl _) _)) x rfl m1 X.out.1 (by omega) (by simp) ?_; intro A8 c8 w8 hown8 hc8 hgrow8 hwhere8; have HG8 := Lib.hid hgrow8; have HO8 := Lib.hid hown8; clear hgrow8 hwhere8 hown8)
    | (refine wpList_unguard rfl ?_; refine wpList_append_bytes rfl (.tmp 37) (.tmp 38) 22 rfl Tryd.underlying22 w7.heap.size _ x rfl HO8.out (· < w.heap.size) A2 m2 c2 y rfl ((R2.out.kept k7).kept (((Below.refl _ _).alloc (Nat.le_refl _) _).grown HG8.out (by simp) (fun k hk => (OwnB.block_ge (OwnB.of_block (base := w7.heap.size) (xs := []) (Blk.new w7 5 (cellsOf .u8 [])) (Nat.le_refl _) (Nat.zero_le _)) hk).1))) L H.out.1.symm (m1 + m2) H.out.2.2.2.2.1 (by omega) (by have := HG8.out.size; simp at this; omega) ?_; intro A9 c9 w9 hown9 hc9 hgrow9 hwhere9; have HG9 := Lib.hid hgrow9; have HO9 := Lib.hid hown9; clear hgrow9 hwhere9 hown9))
  have B8 : Below w7.heap.size w7 w8 := ((Below.refl _ _).alloc (Nat.le_refl _) _).grown HG8.out (by simp) (fun k hk => (OwnB.block_ge (OwnB.of_block (base := w7.heap.size) (xs := []) (Blk.new w7 5 (cellsOf .u8 [])) (Nat.le_refl _) (Nat.zero_le _)) hk).1)
  have B9 : Below w7.heap.size w7 w9 := B8.grown HG9.out B8.size (fun k hk => (HO8.out.block_ge hk).1)
  have hk9 := hk7.keep B9
  have k9 := Below.step k7 B9
  have hLb : Bytes L := by rw [H.out.1]; exact R1.out.bytes.append R2.out.bytes
  obtain ⟨hrd9, hc9'⟩ := HO9.out.rd H.out.2.2.2.2.1.symm hLb
  have HR9 := Lib.hid hrd9
  clear hk7 k7 B8 B9 hrd9 hLb
  have e2 : m1 + m2 ≤ 1000 := by omega
  (with_reducible refine (ref_sum L A9 (m1 + m2) c9 _ w9 HR9.out (by omega)).mono ?_)
  rintro e w10 ⟨rfl, hb10⟩
  rw [← H.out.2.2.1]
  have hk10 := hk9.keep hb10
  have k10 := Below.step k9 hb10
  have es := ES.out
  clear hk9 k9 hb10
  go_wp2_with fail
  clear es
  (with_reducible refine (sumh_any g M w10 hk10 (by have := H.out.2.2.2.2.2; omega) (HT.out.keep k10)).mono ?_)
  rintro e w11 ⟨rfl, hb11⟩
  rw [← H.out.2.2.2.1]
  have hk11 := hk10.keep hb11
  have k11 := Below.step k10 hb11
  clear hk10 k10 hb11
  go_wp2_with (first
    | (refine wpList_unguard rfl ?_; refine wpList_append_bytes rfl (.tmp 46) (.tmp 47) 22 rfl Tryd.underlying22 w11.heap.size _ [] rfl (OwnB.of_block (xs := []) (Blk.new w11 5 (cellsOf .u8 [])) (Nat.le_refl _) (Nat.zero_le _)) (· < w.heap.size) A1 m1 c1 x rfl ((R1.out.kept k11).kept ((Below.refl _ _).alloc (Nat.le_refl _) _)) x rfl m1 X.out.1 (by omega) (by simp) ?_; intro A12 c12 w12 hown12 hc12 hgrow12 hwhere12; have HG12 := Lib.hid hgrow12; have HO12 := Lib.hid hown12; clear hgrow12 hwhere12 hown12)
    | (refine wpList_unguard rfl ?_; refine wpList_append_bytes rfl (.tmp 48) (.tmp 49) 22 rfl Tryd.underlying22 w11.heap.size _ x rfl HO12.out (· < w.heap.size) A3 m3 c3 z rfl ((R3.out.kept k11).kept (((Below.refl _ _).alloc (Nat.le_refl _) _).grown HG12.out (by simp) (fun k hk => (OwnB.block_ge (OwnB.of_block (base := w11.heap.size) (xs := []) (Blk.new w11 5 (cellsOf .u8 [])) (Nat.le_refl _) (Nat.zero_le _)) hk).1))) M H.out.2.1.symm (m1 + m3) H.out.2.2.2.2.2 (by omega) (by have := HG12.out.size; simp at this; omega) ?_; intro A13 c13 w13 hown13 hc13 hgrow13 hwhere13; have HG13 := Lib.hid hgrow13; have HO13 := Lib.hid hown13; clear hgrow13 hwhere13 hown13))
  have B12 : Below w11.heap.size w11 w12 := ((Below.refl _ _).alloc (Nat.le_refl _) _).grown HG12.out (by simp) (fun k hk => (OwnB.block_ge (OwnB.of_block (base := w11.heap.size) (xs := []) (Blk.new w11 5 (cellsOf .u8 [])) (Nat.le_refl _) (Nat.zero_le _)) hk).1)
  have B13 : Below w11.heap.size w11 w13 := B12.grown HG13.out B12.size (fun k hk => (HO12.out.block_ge hk).1)
  have hk13 := hk11.keep B13
  have k13 := Below.step k11 B13
  have hMb : Bytes M := by rw [H.out.2.1]; exact R1.out.bytes.append R3.out.bytes
  obtain ⟨hrd13, hc13'⟩ := HO13.out.rd H.out.2.2.2.2.2.symm hMb
  have HR13 := Lib.hid hrd13
  clear hk11 k11 B12 B13 hrd13 hMb
  (with_reducible refine (ref_sum M A13 (m1 + m3) c13 _ w13 HR13.out (by omega)).mono ?_)
  rintro e w14 ⟨rfl, hb14⟩
  rw [← H.out.2.2.2.1]
  have hk14 := hk13.keep hb14
  have k14 := Below.step k13 hb14
  have es := ET.out
  clear hk13 k13 hb14
  go_wp2_with fail
  clear es
  (with_reducible refine (len_any g M w14 hk14).mono ?_)
  rintro e w15 ⟨rfl, rfl⟩
  rw [H.out.2.2.2.2.2]
  obtain ⟨S, hS⟩ : ∃ S, S = m1 + m3 := ⟨_, rfl⟩
  have e9 : (m1 : Int) + (m3 : Int) = (S : Int) := by omega
  rw [← hS]
  clear hS
  go_wp2_with fail
  go_ret
  exact ⟨rfl, k14⟩
end Go.Proofs.YtcdabngkpocnbaaDoor
