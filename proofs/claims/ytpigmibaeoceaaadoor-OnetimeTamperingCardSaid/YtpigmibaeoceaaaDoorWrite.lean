/- Contract of (*sha256.Hash).Write: the Hash has been given the bytes besides. Conditions: the bytes lie in another block, the sum of the lengths is an int, the table of constants lies in its variable, which is another block. -/
import Derived.Test.YtpigmibaeoceaaaDoorHash
import Derived.StillTailTactics
namespace Go.Proofs.YtpigmibaeoceaaaDoor
open Go Go.RowKit Go.Bul
theorem size_words : (Tryd.prog.info? 96).map (·.size) = some 8 := by kernel_rfl
theorem size_hash : (Tryd.prog.info? 99).map (·.size) = some 73 := by kernel_rfl
def lenOf : Value → Nat | .slice _ n _ => n | _ => 0
set_option maxRecDepth 20000 in
set_option maxHeartbeats 1000000 in
theorem write_any (g : Nat) (l bs : List Nat) (A : Option Addr) (n c : Nat) (w : World) (hh : HashAt w g l) (hr : Rd w (· ≠ g) A n bs) (hn : n ≤ c) (hsum : l.length + n ≤ 9223372036854775807) (hT : Tab w) (hg : 0 ≠ g) :
    Calls Tryd.prog 48 #[.pointer (some ⟨g, 0, none⟩), .slice A n c] w fun e w' => e = .returned (.int .i64 0) ∧ HashAt w' g (l ++ bs) ∧ Only g w w' := by
  obtain ⟨st, blk, hB, hblk, hbb, htk, hst⟩ := hh.ex
  have hlen := hashc_len st blk l.length hblk
  rw [← hB.cell] at hlen
  have hlt := hB.lt
  have HT := Lib.hid hT
  have HH := Lib.hid hh
  have HR := Lib.hid hr
  have HSt := Lib.hid hst
  have HTk := Lib.hid htk
  have HBlk := Lib.hid hblk
  have hL := hh.size
  clear hT hh hr hst htk hblk
  by_cases h0 : l = []
  · have e0 : (((l.length : Nat) : Int) == 0) = true := by simp [h0]
    have H0 := Lib.hid h0
    clear h0
    go_enter Tryd.func48, Tryd.ntmps48
    go_wp2_with fail
    (with_reducible refine (initial_any _).mono ?_)
    rintro e w1 ⟨rfl, hb1⟩
    have hB1 := hB.kept hb1
    go_wp2_with (refine wpList_store_part rfl 96 (.tmp 16) (.tmp 14) rfl g 0 rfl (stc Bul.ini) rfl 99 (hashc st blk l.length) 8 hB1 size_words rfl (by rw [hashc_size _ _ _ HBlk.out]; omega) (vals_one _ _) rfl ?_; intro w2 hw2)
    rw [hashc_set_state] at hw2
    have hstart : Rd w2 (· ≠ g) A n bs ∧ HashLoop w2 g l ∧ Only g w w2 := by
      have ho : Only g w w2 := by rw [hw2]; exact (Only.of_below hb1).setRow _
      refine ⟨HR.out.keep ho.size fun b hb hlt => ho.block b hlt (by rintro ⟨⟩; exact hb rfl), ⟨HH.out.bytes, HH.out.size, blk, ?_, HBlk.out, hbb, HTk.out⟩, ho⟩
      rw [hw2, H0.out]
      exact hB1.row _
    clear hlen hB hB1 hb1 hw2 hL
    go_loopw [1] (fun b wr => ∃ (k : Nat) (A' : Option Addr) (c' : Nat), k ≤ n ∧ n - k ≤ c' ∧ b = .slice A' (n - k) c' ∧ Rd wr (· ≠ g) A' (n - k) (bs.drop k) ∧ HashLoop wr g (l ++ bs.take k) ∧ Only g w wr) (fun b _ => lenOf b)
    case atStart => exact ⟨0, A, c, by omega, by omega, rfl, hstart.1, by simpa using hstart.2.1, hstart.2.2⟩
    case round =>
      clear hstart
      obtain ⟨k, A', c', hk, hc', rfl, hrd, hl, hon⟩ := hrel
      by_cases hlt : k < n
      · obtain ⟨blk', hB', hblk', hbb', htk'⟩ := hl.ex
        obtain ⟨m, hm⟩ : ∃ m, m = (l ++ bs.take k).length := ⟨_, rfl⟩
        obtain ⟨r, hr⟩ : ∃ r, r = m % 64 := ⟨_, rfl⟩
        have hml : m = l.length + k := by rw [hm, List.length_append, List.length_take, HR.out.len]; omega
        have c72 : wr.cell? ⟨g, 72, none⟩ = some (.int .i64 (m : Nat)) := by rw [hB'.cell, hashc_len _ _ _ hblk', hm]
        have f72 : wr.frozen? ⟨g, 72, none⟩ = false := hB'.free _
        have e0 : (m : Int).tmod 64 = (r : Int) := by rw [Int.tmod_eq_emod_of_nonneg (by omega)]; omega
        have b0 : (r : Int) < 64 := by omega
        have b1 : (r : Int) ≤ 64 := by omega
        have b2 : ¬ (64 = r) := by omega
        have hlen0 : (0 : Int) < ((n - k : Nat) : Int) := by omega
        have hml2 : m + (n - k) ≤ 9223372036854775807 := by omega
        have H := Lib.hid (And.intro hm (And.intro hr hml))
        clear hm hr hml
        go_wp2_with fail
        refine Go.Bul.wp_region_class_tail (fun w' => w' = Go.World.drew _) 10 (by kernel_rfl) (by kernel_rfl) rfl ?_
        simp only [List.take_succ_cons, List.take_zero, List.drop_succ_cons, List.drop_zero]
        repeat (quiet_step (fail))
        refine wpQuiet_nil ?_
        rintro w' rfl
        obtain ⟨hm, hr, hml⟩ := H.out
        obtain ⟨p, hp⟩ : ∃ p, p = min (n - k) (64 - r) := ⟨_, rfl⟩
        obtain ⟨ad, hA, hne, hadlt, hcells⟩ := hrd.at_ (by omega)
        have hbl : (bs.drop k).length = n - k := hrd.len
        have hcl : (vals .u8 ((bs.drop k).take p)).length = p := by rw [vals_length, List.length_take, hbl]; omega
        have hsrc := hrd.cells p hA
        have hbk : Blk wr.drew g 99 (hashc (after (l ++ bs.take k)) blk' m) := by rw [hm]; exact hB'.drew
        refine wpList_copy_named rfl (.tmp 28) (.tmp 29) 67 67 rfl 5 Tryd.underlying67 size_u8 g (8 + r) (64 - r) (64 - r) ad (n - k) c' rfl (by rw [hA]; rfl) _ _ hbk (vals .u8 ((bs.drop k).take p)) p hcl hp hsrc (by rw [hashc_size _ _ _ hblk']; omega) (vals_one _ _) ?_
        intro w2 hw2
        obtain ⟨blk2, hblk2⟩ : ∃ b, b = blk'.take r ++ ((bs.drop k).take p ++ blk'.drop (r + p)) := ⟨_, rfl⟩
        have hcl' : ((bs.drop k).take p).length = p := by simpa using hcl
        have hb2 : Blk w2 g 99 (hashc (after (l ++ bs.take k)) blk2 m) := by
          rw [hw2, hblk2]
          have := hashl_splice (after (l ++ bs.take k)) blk' m r ((bs.drop k).take p) hblk' (by omega)
          rw [hcl'] at this
          rw [this]
          exact hbk.row _
        have ho2 : Only g w w2 := by rw [hw2]; exact hon.drew.setRow _
        have hl2 : blk2.length = 64 := by rw [hblk2]; simp [hcl', hblk']; omega
        have hbb2 : Bytes blk2 := by rw [hblk2]; exact (hbb'.take _).append (((HR.out.bytes.drop _).take _).append (hbb'.drop _))
        have hrd2 : Rd w2 (· ≠ g) A' (n - k) (bs.drop k) := by
          rw [hw2]
          exact hrd.keep (by simp) fun b hb hlt => (setRow_other _ _ _ _ hb).trans rfl
        have hrd3 := hrd2.cut (k := p) (cap := c') (by omega) hc'
        obtain ⟨A3, hA3⟩ : ∃ A3, A3 = (if c' = p then A' else A'.map (·.add p)) := ⟨_, rfl⟩
        have EA : (if c' = p then A' else Option.map (fun x => x.add p) A') = A3 := hA3.symm
        rw [EA] at hrd3
        have d72 : w2.cell? ⟨g, 72, none⟩ = some (.int .i64 (m : Nat)) := by rw [hb2.cell, hashc_len _ _ _ hl2]
        have g72 : w2.frozen? ⟨g, 72, none⟩ = false := hb2.free _
        have bp : p ≤ n - k := by omega
        have bp0 : 0 < p := by omega
        have hch : ((bs.drop k).take p).length = p := hcl'
        have htake := take_more bs k p
        have hbk3 : ∀ u, Blk (w2.setCell ⟨g, 72, none⟩ (.int .i64 ((m + p : Nat) : Int))) g 99 (hashc u blk2 (m + p)) ∨ True := fun _ => .inr trivial
        clear hbk3
        have kB : Blk (w2.setCell ⟨g, 72, none⟩ (.int .i64 ((m + p : Nat) : Int))) g 99 (hashc (after (l ++ bs.take k)) blk2 (m + p)) := by
          rw [← hashc_set_len _ _ m _ hl2]; exact hb2.set _ _
        have kO : Only g w (w2.setCell ⟨g, 72, none⟩ (.int .i64 ((m + p : Nat) : Int))) := ho2.setCell _ _
        have kR : Rd (w2.setCell ⟨g, 72, none⟩ (.int .i64 ((m + p : Nat) : Int))) (· ≠ g) A3 (n - (k + p)) (bs.drop (k + p)) := by
          have h1 := hrd3.keep (w' := w2.setCell ⟨g, 72, none⟩ (.int .i64 ((m + p : Nat) : Int))) (by simp [World.setCell]) fun b hb _ => Below.heap_setCell _ _ _ _ hb
          rw [List.drop_drop, show n - k - p = n - (k + p) by omega] at h1
          exact h1
        by_cases hfull : r + p = 64
        · have ef : (((m : Int) + (p : Int)) % 64 == 0) = true := by simp; omega
          have G := Lib.hid (And.intro hp (And.intro hblk2 (And.intro hA (And.intro hw2 (And.intro hl2 (And.intro hfull (And.intro hch htake)))))))
          clear hm hr hml hp hblk2 hA hw2 hl2 hcl hcl' hsrc hbk hbl hcells hA3 e0 c72 f72 hrd hon hfull hch htake
          go_wp2_with fail
          refine wp_named (fun wb hwb => ?_)
          have ecast : (m : Int) + (p : Int) = ((m + p : Nat) : Int) := by omega
          rw [ecast] at hwb
          rw [← hwb] at kB kO kR
          clear hwb ecast
          have hT2 : Tab wb := HT.out.only kO hg
          have hl2 : blk2.length = 64 := by obtain ⟨_, _, _, _, h, _⟩ := G.out; exact h
          have HL2 := Lib.hid hl2
          have HTb := Lib.hid hT2
          clear hl2 hT2
          refine Go.Bul.wp_region_class_tail (fun w' => Below wb.heap.size wb w') 13 (by kernel_rfl) (by kernel_rfl) (Below.drew (Below.refl _ _)) ?_
          simp only [List.take_succ_cons, List.take_zero, List.drop_succ_cons, List.drop_zero]
          refine wpQuiet_step (fun K hK => ?_)
          refine Go.Bul.quiet_some rfl ?_
          apply Exists.intro
          refine ⟨fun w' hw' => ?_, ?_⟩
          · skip
            go_simp
            rfl
          go_simp
          refine hK _ ?_
          clear hK K
          refine wpQuiet_step (fun K hK => ?_)
          refine Go.Bul.quiet_some rfl ?_
          apply Exists.intro
          refine ⟨fun w' hw' => ?_, ?_⟩
          · skip
            go_simp
            rfl
          go_simp
          refine hK _ ?_
          clear hK K
          refine wpQuiet_step (fun K hK => ?_)
          refine Go.Bul.quiet_some rfl ?_
          apply Exists.intro
          refine ⟨fun w' hw' => ?_, ?_⟩
          · skip
            go_simp
            rfl
          go_simp
          refine hK _ ?_
          clear hK K
          refine wpQuiet_step (fun K hK => ?_)
          refine Go.Bul.quiet_some rfl ?_
          apply Exists.intro
          refine ⟨fun w' hw' => ?_, ?_⟩
          · skip
            go_simp
            rfl
          go_simp
          refine hK _ ?_
          clear hK K
          refine wpQuiet_step (fun K hK => ?_)
          refine Go.Bul.quiet_some rfl ?_
          apply Exists.intro
          refine ⟨fun w' hw' => ?_, ?_⟩
          · exact Go.Bul.quietAt_load 96 (.tmp 51) rfl g 0 rfl 99 _ 8 _ (kB.kept hw') Tryd.underlying96 rfl size_words (by rw [hashc_size _ _ _ HL2.out]; omega) _ (hashc_state8 _ _ _)
          go_simp
          refine hK _ ?_
          clear hK K
          refine wpQuiet_step (fun K hK => ?_)
          refine Go.Bul.quiet_some rfl ?_
          apply Exists.intro
          refine ⟨fun w' hw' => ?_, ?_⟩
          · skip
            go_simp
            rfl
          go_simp
          refine hK _ ?_
          clear hK K
          refine wpQuiet_step (fun K hK => ?_)
          refine Go.Bul.quiet_some rfl ?_
          apply Exists.intro
          refine ⟨fun w' hw' => ?_, ?_⟩
          · skip
            go_simp
            rfl
          go_simp
          refine hK _ ?_
          clear hK K
          refine wpQuiet_step (fun K hK => ?_)
          refine Go.Bul.quiet_some rfl ?_
          apply Exists.intro
          refine ⟨fun w' hw' => ?_, ?_⟩
          · skip
            go_simp
            rfl
          go_simp
          refine hK _ ?_
          clear hK K
          refine wpQuiet_step (fun K hK => ?_)
          refine Go.Bul.quiet_some rfl ?_
          apply Exists.intro
          refine ⟨fun w' hw' => ?_, ?_⟩
          · exact Go.Bul.quietAt_load 97 (.tmp 55) rfl g 8 rfl 99 _ 64 _ (kB.kept hw') Tryd.underlying97 rfl size_b64 (by rw [hashc_size _ _ _ HL2.out]; omega) _ (hashc_block _ _ _ HL2.out)
          go_simp
          refine hK _ ?_
          clear hK K
          refine wpQuiet_step (fun K hK => ?_)
          refine Go.Bul.quiet_some rfl ?_
          apply Exists.intro
          refine ⟨fun w' hw' => ?_, ?_⟩
          · go_simp
            exact Go.Bul.quiet_call hw' (load_any blk2 w' hbb2 HL2.out)
          go_simp
          refine hK _ ?_
          clear hK K
          refine wpQuiet_step (fun K hK => ?_)
          refine Go.Bul.quiet_some rfl ?_
          apply Exists.intro
          refine ⟨fun w' hw' => ?_, ?_⟩
          · go_simp
            exact Go.Bul.quiet_call hw' (process_any (after (l ++ bs.take k)) _ (word blk2) w' (after_ok _) (by simp) (fun j hj => range_map_getD _ _ _ hj) (fun j _ => word_lt hbb2 j) (HTb.out.keep hw'))
          go_simp
          refine hK _ ?_
          clear hK K
          refine wpQuiet_step (fun K hK => ?_)
          refine Go.Bul.quiet_some rfl ?_
          apply Exists.intro
          refine ⟨fun w' hw' => ?_, ?_⟩
          · skip
            go_simp
            rfl
          go_simp
          refine hK _ ?_
          clear hK K
          refine wpQuiet_step (fun K hK => ?_)
          refine Go.Bul.quiet_some rfl ?_
          apply Exists.intro
          refine ⟨fun w' hw' => ?_, ?_⟩
          · skip
            go_simp
            rfl
          go_simp
          refine hK _ ?_
          clear hK K
          refine wpQuiet_nil ?_
          intro w3 hb3
          refine wpList_store_part rfl 96 (.tmp 60) (.tmp 58) rfl g 0 rfl (stc (compress (after (l ++ bs.take k)) (word blk2))) rfl 99 _ 8 (kB.kept hb3) size_words rfl (by rw [hashc_size _ _ _ HL2.out]; omega) (vals_one _ _) rfl ?_
          intro w4 hw4
          rw [hashc_set_state] at hw4
          have HW4 := Lib.hid hw4
          clear hw4
          go_wp2_with fail
          obtain ⟨hm, hr, hml⟩ := H.out
          obtain ⟨hp, hblk2, hA, hw2, _, hfull, hch, htake⟩ := G.out
          have kB3 := kB.kept hb3
          have ho4 : Only g wb w4 := by rw [HW4.out]; exact (Only.of_below hb3).setRow _
          refine ⟨⟨k + p, A3, c' - p, by omega, by omega, by rw [show n - (k + p) = n - k - p by omega], kR.keep ho4.size (fun b hb hlt => ho4.block b hlt (by rintro ⟨⟩; exact hb rfl)), ?_, kO.trans ho4⟩, by simp only [lenOf]; omega⟩
          rw [htake, ← List.append_assoc]
          exact HashLoop.full hl.bytes ((HR.out.bytes.drop k).take p) (by rw [List.length_append, ← hm, hch]; omega) (by rw [← hm, hch]; omega) hblk' htk' (by rw [← hm, hch, ← hr]; exact hblk2) hbb2 (by rw [← hm, hch, HW4.out]; exact kB3.row _)
        · have ef : (((m : Int) + (p : Int)) % 64 == 0) = false := by simp; omega
          have G := Lib.hid (And.intro hp (And.intro hblk2 (And.intro hA (And.intro hw2 (And.intro hl2 (And.intro hfull (And.intro hch htake)))))))
          clear hm hr hml hp hblk2 hA hw2 hl2 hcl hcl' hsrc hbk hbl hcells hA3 e0 c72 f72 hrd hon hfull hch htake
          go_wp2_with fail
          obtain ⟨hm, hr, hml⟩ := H.out
          obtain ⟨hp, hblk2, hA, hw2, hl2, hfull, hch, htake⟩ := G.out
          have ecast : (m : Int) + (p : Int) = ((m + p : Nat) : Int) := by omega
          rw [ecast]
          refine ⟨⟨k + p, A3, c' - p, by omega, by omega, by rw [show n - (k + p) = n - k - p by omega], kR, ?_, kO⟩, by simp only [lenOf]; omega⟩
          rw [htake, ← List.append_assoc]
          exact HashLoop.part hl.bytes ((HR.out.bytes.drop k).take p) (by rw [List.length_append, ← hm, hch]; omega) (by rw [← hm, hch]; omega) hblk' htk' (by rw [← hm, hch, ← hr]; exact hblk2) hbb2 (by rw [← hm, hch]; exact kB)
      · obtain rfl : k = n := by omega
        go_wp2_with fail
        go_ret
        refine ⟨rfl, ?_, hon⟩
        have := hl.at_
        rwa [List.take_of_length_le (by rw [HR.out.len]; omega)] at this
  · have e0 : (((l.length : Nat) : Int) == 0) = false := by
      have : l.length ≠ 0 := fun h => h0 (List.eq_nil_of_length_eq_zero h)
      simp; omega
    have H0 := Lib.hid h0
    clear h0
    have hstart : Rd w (· ≠ g) A n bs ∧ HashLoop w g l ∧ Only g w w :=
      ⟨HR.out, ⟨HH.out.bytes, HH.out.size, blk, by rw [← HSt.out H0.out]; exact hB, HBlk.out, hbb, HTk.out⟩, Only.refl _ _⟩
    go_enter Tryd.func48, Tryd.ntmps48
    go_wp2_with fail
    clear hlen hB hL
    go_loopw [1] (fun b wr => ∃ (k : Nat) (A' : Option Addr) (c' : Nat), k ≤ n ∧ n - k ≤ c' ∧ b = .slice A' (n - k) c' ∧ Rd wr (· ≠ g) A' (n - k) (bs.drop k) ∧ HashLoop wr g (l ++ bs.take k) ∧ Only g w wr) (fun b _ => lenOf b)
    case atStart => exact ⟨0, A, c, by omega, by omega, rfl, hstart.1, by simpa using hstart.2.1, hstart.2.2⟩
    case round =>
      clear hstart
      obtain ⟨k, A', c', hk, hc', rfl, hrd, hl, hon⟩ := hrel
      by_cases hlt : k < n
      · obtain ⟨blk', hB', hblk', hbb', htk'⟩ := hl.ex
        obtain ⟨m, hm⟩ : ∃ m, m = (l ++ bs.take k).length := ⟨_, rfl⟩
        obtain ⟨r, hr⟩ : ∃ r, r = m % 64 := ⟨_, rfl⟩
        have hml : m = l.length + k := by rw [hm, List.length_append, List.length_take, HR.out.len]; omega
        have c72 : wr.cell? ⟨g, 72, none⟩ = some (.int .i64 (m : Nat)) := by rw [hB'.cell, hashc_len _ _ _ hblk', hm]
        have f72 : wr.frozen? ⟨g, 72, none⟩ = false := hB'.free _
        have e0 : (m : Int).tmod 64 = (r : Int) := by rw [Int.tmod_eq_emod_of_nonneg (by omega)]; omega
        have b0 : (r : Int) < 64 := by omega
        have b1 : (r : Int) ≤ 64 := by omega
        have b2 : ¬ (64 = r) := by omega
        have hlen0 : (0 : Int) < ((n - k : Nat) : Int) := by omega
        have hml2 : m + (n - k) ≤ 9223372036854775807 := by omega
        have H := Lib.hid (And.intro hm (And.intro hr hml))
        clear hm hr hml
        go_wp2_with fail
        refine Go.Bul.wp_region_class_tail (fun w' => w' = Go.World.drew _) 10 (by kernel_rfl) (by kernel_rfl) rfl ?_
        simp only [List.take_succ_cons, List.take_zero, List.drop_succ_cons, List.drop_zero]
        repeat (quiet_step (fail))
        refine wpQuiet_nil ?_
        rintro w' rfl
        obtain ⟨hm, hr, hml⟩ := H.out
        obtain ⟨p, hp⟩ : ∃ p, p = min (n - k) (64 - r) := ⟨_, rfl⟩
        obtain ⟨ad, hA, hne, hadlt, hcells⟩ := hrd.at_ (by omega)
        have hbl : (bs.drop k).length = n - k := hrd.len
        have hcl : (vals .u8 ((bs.drop k).take p)).length = p := by rw [vals_length, List.length_take, hbl]; omega
        have hsrc := hrd.cells p hA
        have hbk : Blk wr.drew g 99 (hashc (after (l ++ bs.take k)) blk' m) := by rw [hm]; exact hB'.drew
        refine wpList_copy_named rfl (.tmp 28) (.tmp 29) 67 67 rfl 5 Tryd.underlying67 size_u8 g (8 + r) (64 - r) (64 - r) ad (n - k) c' rfl (by rw [hA]; rfl) _ _ hbk (vals .u8 ((bs.drop k).take p)) p hcl hp hsrc (by rw [hashc_size _ _ _ hblk']; omega) (vals_one _ _) ?_
        intro w2 hw2
        obtain ⟨blk2, hblk2⟩ : ∃ b, b = blk'.take r ++ ((bs.drop k).take p ++ blk'.drop (r + p)) := ⟨_, rfl⟩
        have hcl' : ((bs.drop k).take p).length = p := by simpa using hcl
        have hb2 : Blk w2 g 99 (hashc (after (l ++ bs.take k)) blk2 m) := by
          rw [hw2, hblk2]
          have := hashl_splice (after (l ++ bs.take k)) blk' m r ((bs.drop k).take p) hblk' (by omega)
          rw [hcl'] at this
          rw [this]
          exact hbk.row _
        have ho2 : Only g w w2 := by rw [hw2]; exact hon.drew.setRow _
        have hl2 : blk2.length = 64 := by rw [hblk2]; simp [hcl', hblk']; omega
        have hbb2 : Bytes blk2 := by rw [hblk2]; exact (hbb'.take _).append (((HR.out.bytes.drop _).take _).append (hbb'.drop _))
        have hrd2 : Rd w2 (· ≠ g) A' (n - k) (bs.drop k) := by
          rw [hw2]
          exact hrd.keep (by simp) fun b hb hlt => (setRow_other _ _ _ _ hb).trans rfl
        have hrd3 := hrd2.cut (k := p) (cap := c') (by omega) hc'
        obtain ⟨A3, hA3⟩ : ∃ A3, A3 = (if c' = p then A' else A'.map (·.add p)) := ⟨_, rfl⟩
        have EA : (if c' = p then A' else Option.map (fun x => x.add p) A') = A3 := hA3.symm
        rw [EA] at hrd3
        have d72 : w2.cell? ⟨g, 72, none⟩ = some (.int .i64 (m : Nat)) := by rw [hb2.cell, hashc_len _ _ _ hl2]
        have g72 : w2.frozen? ⟨g, 72, none⟩ = false := hb2.free _
        have bp : p ≤ n - k := by omega
        have bp0 : 0 < p := by omega
        have hch : ((bs.drop k).take p).length = p := hcl'
        have htake := take_more bs k p
        have hbk3 : ∀ u, Blk (w2.setCell ⟨g, 72, none⟩ (.int .i64 ((m + p : Nat) : Int))) g 99 (hashc u blk2 (m + p)) ∨ True := fun _ => .inr trivial
        clear hbk3
        have kB : Blk (w2.setCell ⟨g, 72, none⟩ (.int .i64 ((m + p : Nat) : Int))) g 99 (hashc (after (l ++ bs.take k)) blk2 (m + p)) := by
          rw [← hashc_set_len _ _ m _ hl2]; exact hb2.set _ _
        have kO : Only g w (w2.setCell ⟨g, 72, none⟩ (.int .i64 ((m + p : Nat) : Int))) := ho2.setCell _ _
        have kR : Rd (w2.setCell ⟨g, 72, none⟩ (.int .i64 ((m + p : Nat) : Int))) (· ≠ g) A3 (n - (k + p)) (bs.drop (k + p)) := by
          have h1 := hrd3.keep (w' := w2.setCell ⟨g, 72, none⟩ (.int .i64 ((m + p : Nat) : Int))) (by simp [World.setCell]) fun b hb _ => Below.heap_setCell _ _ _ _ hb
          rw [List.drop_drop, show n - k - p = n - (k + p) by omega] at h1
          exact h1
        by_cases hfull : r + p = 64
        · have ef : (((m : Int) + (p : Int)) % 64 == 0) = true := by simp; omega
          have G := Lib.hid (And.intro hp (And.intro hblk2 (And.intro hA (And.intro hw2 (And.intro hl2 (And.intro hfull (And.intro hch htake)))))))
          clear hm hr hml hp hblk2 hA hw2 hl2 hcl hcl' hsrc hbk hbl hcells hA3 e0 c72 f72 hrd hon hfull hch htake
          go_wp2_with fail
          refine wp_named (fun wb hwb => ?_)
          have ecast : (m : Int) + (p : Int) = ((m + p : Nat) : Int) := by omega
          rw [ecast] at hwb
          rw [← hwb] at kB kO kR
          clear hwb ecast
          have hT2 : Tab wb := HT.out.only kO hg
          have hl2 : blk2.length = 64 := by obtain ⟨_, _, _, _, h, _⟩ := G.out; exact h
          have HL2 := Lib.hid hl2
          have HTb := Lib.hid hT2
          clear hl2 hT2
          refine Go.Bul.wp_region_class_tail (fun w' => Below wb.heap.size wb w') 13 (by kernel_rfl) (by kernel_rfl) (Below.drew (Below.refl _ _)) ?_
          simp only [List.take_succ_cons, List.take_zero, List.drop_succ_cons, List.drop_zero]
          refine wpQuiet_step (fun K hK => ?_)
          refine Go.Bul.quiet_some rfl ?_
          apply Exists.intro
          refine ⟨fun w' hw' => ?_, ?_⟩
          · skip
            go_simp
            rfl
          go_simp
          refine hK _ ?_
          clear hK K
          refine wpQuiet_step (fun K hK => ?_)
          refine Go.Bul.quiet_some rfl ?_
          apply Exists.intro
          refine ⟨fun w' hw' => ?_, ?_⟩
          · skip
            go_simp
            rfl
          go_simp
          refine hK _ ?_
          clear hK K
          refine wpQuiet_step (fun K hK => ?_)
          refine Go.Bul.quiet_some rfl ?_
          apply Exists.intro
          refine ⟨fun w' hw' => ?_, ?_⟩
          · skip
            go_simp
            rfl
          go_simp
          refine hK _ ?_
          clear hK K
          refine wpQuiet_step (fun K hK => ?_)
          refine Go.Bul.quiet_some rfl ?_
          apply Exists.intro
          refine ⟨fun w' hw' => ?_, ?_⟩
          · skip
            go_simp
            rfl
          go_simp
          refine hK _ ?_
          clear hK K
          refine wpQuiet_step (fun K hK => ?_)
          refine Go.Bul.quiet_some rfl ?_
          apply Exists.intro
          refine ⟨fun w' hw' => ?_, ?_⟩
          · exact Go.Bul.quietAt_load 96 (.tmp 51) rfl g 0 rfl 99 _ 8 _ (kB.kept hw') Tryd.underlying96 rfl size_words (by rw [hashc_size _ _ _ HL2.out]; omega) _ (hashc_state8 _ _ _)
          go_simp
          refine hK _ ?_
          clear hK K
          refine wpQuiet_step (fun K hK => ?_)
          refine Go.Bul.quiet_some rfl ?_
          apply Exists.intro
          refine ⟨fun w' hw' => ?_, ?_⟩
          · skip
            go_simp
            rfl
          go_simp
          refine hK _ ?_
          clear hK K
          refine wpQuiet_step (fun K hK => ?_)
          refine Go.Bul.quiet_some rfl ?_
          apply Exists.intro
          refine ⟨fun w' hw' => ?_, ?_⟩
          · skip
            go_simp
            rfl
          go_simp
          refine hK _ ?_
          clear hK K
          refine wpQuiet_step (fun K hK => ?_)
          refine Go.Bul.quiet_some rfl ?_
          apply Exists.intro
          refine ⟨fun w' hw' => ?_, ?_⟩
          · skip
            go_simp
            rfl
          go_simp
          refine hK _ ?_
          clear hK K
          refine wpQuiet_step (fun K hK => ?_)
          refine Go.Bul.quiet_some rfl ?_
          apply Exists.intro
          refine ⟨fun w' hw' => ?_, ?_⟩
          · exact Go.Bul.quietAt_load 97 (.tmp 55) rfl g 8 rfl 99 _ 64 _ (kB.kept hw') Tryd.underlying97 rfl size_b64 (by rw [hashc_size _ _ _ HL2.out]; omega) _ (hashc_block _ _ _ HL2.out)
          go_simp
          refine hK _ ?_
          clear hK K
          refine wpQuiet_step (fun K hK => ?_)
          refine Go.Bul.quiet_some rfl ?_
          apply Exists.intro
          refine ⟨fun w' hw' => ?_, ?_⟩
          · go_simp
            exact Go.Bul.quiet_call hw' (load_any blk2 w' hbb2 HL2.out)
          go_simp
          refine hK _ ?_
          clear hK K
          refine wpQuiet_step (fun K hK => ?_)
          refine Go.Bul.quiet_some rfl ?_
          apply Exists.intro
          refine ⟨fun w' hw' => ?_, ?_⟩
          · go_simp
            exact Go.Bul.quiet_call hw' (process_any (after (l ++ bs.take k)) _ (word blk2) w' (after_ok _) (by simp) (fun j hj => range_map_getD _ _ _ hj) (fun j _ => word_lt hbb2 j) (HTb.out.keep hw'))
          go_simp
          refine hK _ ?_
          clear hK K
          refine wpQuiet_step (fun K hK => ?_)
          refine Go.Bul.quiet_some rfl ?_
          apply Exists.intro
          refine ⟨fun w' hw' => ?_, ?_⟩
          · skip
            go_simp
            rfl
          go_simp
          refine hK _ ?_
          clear hK K
          refine wpQuiet_step (fun K hK => ?_)
          refine Go.Bul.quiet_some rfl ?_
          apply Exists.intro
          refine ⟨fun w' hw' => ?_, ?_⟩
          · skip
            go_simp
            rfl
          go_simp
          refine hK _ ?_
          clear hK K
          refine wpQuiet_nil ?_
          intro w3 hb3
          refine wpList_store_part rfl 96 (.tmp 60) (.tmp 58) rfl g 0 rfl (stc (compress (after (l ++ bs.take k)) (word blk2))) rfl 99 _ 8 (kB.kept hb3) size_words rfl (by rw [hashc_size _ _ _ HL2.out]; omega) (vals_one _ _) rfl ?_
          intro w4 hw4
          rw [hashc_set_state] at hw4
          have HW4 := Lib.hid hw4
          clear hw4
          go_wp2_with fail
          obtain ⟨hm, hr, hml⟩ := H.out
          obtain ⟨hp, hblk2, hA, hw2, _, hfull, hch, htake⟩ := G.out
          have kB3 := kB.kept hb3
          have ho4 : Only g wb w4 := by rw [HW4.out]; exact (Only.of_below hb3).setRow _
          refine ⟨⟨k + p, A3, c' - p, by omega, by omega, by rw [show n - (k + p) = n - k - p by omega], kR.keep ho4.size (fun b hb hlt => ho4.block b hlt (by rintro ⟨⟩; exact hb rfl)), ?_, kO.trans ho4⟩, by simp only [lenOf]; omega⟩
          rw [htake, ← List.append_assoc]
          exact HashLoop.full hl.bytes ((HR.out.bytes.drop k).take p) (by rw [List.length_append, ← hm, hch]; omega) (by rw [← hm, hch]; omega) hblk' htk' (by rw [← hm, hch, ← hr]; exact hblk2) hbb2 (by rw [← hm, hch, HW4.out]; exact kB3.row _)
        · have ef : (((m : Int) + (p : Int)) % 64 == 0) = false := by simp; omega
          have G := Lib.hid (And.intro hp (And.intro hblk2 (And.intro hA (And.intro hw2 (And.intro hl2 (And.intro hfull (And.intro hch htake)))))))
          clear hm hr hml hp hblk2 hA hw2 hl2 hcl hcl' hsrc hbk hbl hcells hA3 e0 c72 f72 hrd hon hfull hch htake
          go_wp2_with fail
          obtain ⟨hm, hr, hml⟩ := H.out
          obtain ⟨hp, hblk2, hA, hw2, hl2, hfull, hch, htake⟩ := G.out
          have ecast : (m : Int) + (p : Int) = ((m + p : Nat) : Int) := by omega
          rw [ecast]
          refine ⟨⟨k + p, A3, c' - p, by omega, by omega, by rw [show n - (k + p) = n - k - p by omega], kR, ?_, kO⟩, by simp only [lenOf]; omega⟩
          rw [htake, ← List.append_assoc]
          exact HashLoop.part hl.bytes ((HR.out.bytes.drop k).take p) (by rw [List.length_append, ← hm, hch]; omega) (by rw [← hm, hch]; omega) hblk' htk' (by rw [← hm, hch, ← hr]; exact hblk2) hbb2 (by rw [← hm, hch]; exact kB)
      · obtain rfl : k = n := by omega
        go_wp2_with fail
        go_ret
        refine ⟨rfl, ?_, hon⟩
        have := hl.at_
        rwa [List.take_of_length_le (by rw [HR.out.len]; omega)] at this
end Go.Proofs.YtpigmibaeoceaaaDoor
