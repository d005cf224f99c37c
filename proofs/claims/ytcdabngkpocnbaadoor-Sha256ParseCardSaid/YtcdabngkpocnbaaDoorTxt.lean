/- Contracts of the reference's Hex and of sha256.Parse. Conditions: lengths that memory holds. -/
import Derived.Test.YtcdabngkpocnbaaDoorUnp
import Derived.Test.YtcdabngkpocnbaaDoorRefe
namespace Go.Bul
open Go
theorem pairs_hexs_lt (l : List Nat) : ∀ (i : Nat), i < l.length → (hexs l).getD (2 * i) 0 = hexd (l.getD i 0 / 16) ∧ (hexs l).getD (2 * i + 1) 0 = hexd (l.getD i 0 % 16) := by
  induction l with
  | nil => intro i hi; simp at hi
  | cons a l ih =>
    intro i hi
    cases i with
    | zero => exact ⟨rfl, rfl⟩
    | succ i =>
      have := ih i (by simpa using hi)
      rw [show 2 * (i + 1) = 2 * i + 1 + 1 by omega]
      simpa [hexs] using this
theorem isHex_hexs {l : List Nat} (hb : Bytes l) : IsHex (hexs l) := by
  refine ⟨by rw [hexs_length]; omega, fun j hj => ?_⟩
  rw [hexs_length] at hj
  have h := pairs_hexs_lt l (j / 2) (by omega)
  have hx := hb.getD (j / 2)
  rcases (show j = 2 * (j / 2) ∨ j = 2 * (j / 2) + 1 by omega) with e | e
  · rw [e, h.1]; exact (hval_hexd (by omega)).1
  · rw [e, h.2]; exact (hval_hexd (by omega)).1
theorem unhexs_hexs {l : List Nat} (hb : Bytes l) : unhexs (hexs l) = l := by
  have hl : (hexs l).length / 2 = l.length := by rw [hexs_length]; omega
  refine List.ext_getElem (by rw [unhexs, pairs_length, hl]) (fun i h1 h2 => ?_)
  have h := pairs_hexs_lt l i h2
  have hx := hb.getD i
  simp only [unhexs, pairs, List.getElem_map, List.getElem_range, h.1, h.2]
  rw [(hval_hexd (n := l.getD i 0 / 16) (by omega)).2, (hval_hexd (n := l.getD i 0 % 16) (by omega)).2]
  simp only [List.getD, List.getElem?_eq_getElem h2, Option.getD_some] at hx ⊢
  omega
theorem bytes_unhexs {l : List Nat} (h : IsHex l) : Bytes (unhexs l) := by
  intro x hx
  simp only [unhexs, pairs, List.mem_map, List.mem_range] at hx
  obtain ⟨i, hi, rfl⟩ := hx
  have h1 := hval_lt (h.2 (2 * i) (by omega))
  have h2 := hval_lt (h.2 (2 * i + 1) (by have := h.1; omega))
  omega
theorem results_row_tmp {P : Program} {fn : Func} {p u : Tmp} {ty : TypeId} (h : fn.results = #[.cell p ty, .tmp u]) (tmps : Array Value) (w : World) (g : Nat) (t : TypeId) (cs : Array Value) (fr : Nat × Nat) (d : TypeDesc)
    (hp : tmps.getD p undef = .pointer (some ⟨g, 0, none⟩)) (hg : w.heap[g]? = some (.cells cs t fr))
    (hu : P.underlying ty = some d) (hd : (match d with | .struct _ | .array _ _ => true | _ => false) = true) (hi : (P.info? ty).map (·.size) = some cs.size) (e : Value) (he : tmps.getD u undef = e) :
    (results fn tmps).run P w = .ok (.tuple #[.agg cs, e]) w := by
  rw [results_cell_tmp h, hp, he]
  simp [asAddr, run_loadVar_row w g t ty cs fr d hg hu hd hi]
end Go.Bul
namespace Go.Proofs.YtcdabngkpocnbaaDoor
open Go Go.RowKit Go.Bul
/-- An owned row that is not empty, as a block. -/
theorem OwnB.block {w : World} {base : Nat} {A : Option Addr} {n c : Nat} {xs : List Nat} (h : OwnB w base (.slice A n c) xs) (hn : 0 < xs.length) :
    ∃ g cur, A = some ⟨g, 0, none⟩ ∧ base ≤ g ∧ Blk w g 5 cur ∧ xs.length ≤ cur.size ∧ cur.extract 0 (0 + xs.length) = cellsOf .u8 xs := by
  rcases h.2 with ⟨he, h0⟩ | ⟨g, cap, cur, he, hb, hg, hnc, hcm, hsz, htk⟩
  · exfalso
    omega
  · injection he with h1 h2 h3
    refine ⟨g, cur, h1, hb, hg, by omega, ?_⟩
    apply Array.ext'
    simp only [Array.toList_extract, List.extract_eq_take_drop, List.drop_zero, Nat.zero_add, Nat.sub_zero, cellsOf]
    simpa using htk
theorem ref_hex_any (bs : List Nat) (A : Option Addr) (n c : Nat) (ok : Nat → Prop) (w : World) (hr : Rd w ok A n bs) (hn : n ≤ 17592186044416) :
    Calls Tryd.prog 24 #[.slice A n c] w fun e w' => e = .returned (.string (bstr (hexs bs))) ∧ Below w.heap.size w w' := by
  have HR := Lib.hid hr
  clear hr
  go_enter Tryd.func24, Tryd.ntmps24
  go_wp2_with fail
  go_loopw [3, 4] (fun v i w2 => ∃ (k : Nat) (A' : Option Addr) (c' : Nat), k ≤ n ∧ i = .int .i64 (k : Nat) ∧ v = .slice A' (2 * k) c' ∧ OwnB w2 w.heap.size v (hexs (bs.take k)) ∧ Below w.heap.size w w2) (fun _ i _ => n - (intOf i).toNat)
  case atStart => exact ⟨0, none, 0, by omega, rfl, rfl, OwnB.nil _ _, Below.refl _ _⟩
  case round =>
    obtain ⟨k, A', c', hk, rfl, rfl, hown, hold⟩ := hrel
    by_cases hlt : k < n
    · obtain ⟨ad, rfl, _, hadlt, hcell⟩ := HR.out.at_ (by omega)
      have hck := hcell k hlt
      obtain ⟨b, hb⟩ : ∃ b, b = bs.getD k 0 := ⟨_, rfl⟩
      rw [← hb] at hck
      have hb2 : b < 256 := by rw [hb]; exact HR.out.bytes.getD k
      have cb : wr.cell? (ad.add k) = some (.int .u8 (b : Nat)) := by rw [hold.cell (by rw [block_of_add]; exact hadlt)]; exact hck
      obtain ⟨N, hN⟩ : ∃ N, N = 2 * k := ⟨_, rfl⟩
      rw [← hN] at hown ⊢
      obtain ⟨L, hL⟩ : ∃ L, L = hexs (bs.take k) := ⟨_, rfl⟩
      rw [← hL] at hown
      have H := Lib.hid (And.intro hN (And.intro hL hb))
      clear hN hL hb hcell hck
      have i1 : ∀ W, (Instr.index 9 (.string { data := #[48, 49, 50, 51, 52, 53, 54, 55, 56, 57, 97, 98, 99, 100, 101, 102] }) (.int .u8 ((b : Int) / (16 : Int)))).run Tryd.prog W = .ok (.int .u8 (hexd (b / 16) : Nat)) W := fun W => run_hex_digit .u8 (b / 16) _ (by omega) (by omega) W
      have i2 : ∀ W, (Instr.index 9 (.string { data := #[48, 49, 50, 51, 52, 53, 54, 55, 56, 57, 97, 98, 99, 100, 101, 102] }) (.int .u8 ((b : Int) % (16 : Int)))).run Tryd.prog W = .ok (.int .u8 (hexd (b % 16) : Nat)) W := fun W => run_hex_digit .u8 (b % 16) _ (by omega) (by omega) W
      have v1 : IntKind.u8.wrap ((b : Int) / (16 : Int)) = (b : Int) / (16 : Int) := by rw [IntKind.wrap_u8]; omega
      have v2 : IntKind.u8.wrap ((b : Int) % (16 : Int)) = (b : Int) % (16 : Int) := by rw [IntKind.wrap_u8]; omega
      have v3 : (b : Int).tmod 16 = (b : Int) % (16 : Int) := by rw [Int.tmod_eq_emod_of_nonneg (by omega)]
      have v4 : (b : Int).tdiv 16 = (b : Int) / (16 : Int) := by rw [Int.tdiv_eq_ediv_of_nonneg (by omega)]
      go_wp2_with fail
      have hx1 : hexd (b / 16) < 256 := hexd_lt (by omega)
      have hx2 : hexd (b % 16) < 256 := hexd_lt (by omega)
      obtain ⟨x, hx⟩ : ∃ x, x = hexd (b / 16) := ⟨_, rfl⟩
      obtain ⟨y, hy⟩ : ∃ y, y = hexd (b % 16) := ⟨_, rfl⟩
      rw [← hx] at i1 hx1
      rw [← hy] at i2 hx2
      obtain ⟨L2, hL2⟩ : ∃ L2, L2 = hexs (bs.take (k + 1)) := ⟨_, rfl⟩
      have hmore : L ++ [x, y] = L2 := by
        obtain ⟨hN, hL, hb⟩ := H.out
        rw [hL, hx, hy, hL2, hb]
        exact hexs_take bs k (by rw [HR.out.len]; omega)
      have hlen2 : L2.length = N + 2 := by
        rw [← hmore, List.length_append, H.out.2.1, H.out.1, hexs_length, List.length_take, HR.out.len]
        simp; omega
      have hN2 : N < 70368744177664 := by rw [H.out.1]; omega
      have G := Lib.hid (And.intro hx (And.intro hy hL2))
      clear hx hy hL2
      have hsz := hold.size
      go_region_law (refine step_append_bytes rfl (.tmp 11) (.tmp 24) 22 rfl Tryd.underlying22 w.heap.size _ L rfl ((OwnB.drew hown).alloc (.cells (cellsOf .u8 [x, y]) 5)) (fun _ => True) (some ⟨wr.heap.size, 0, none⟩) 2 2 [x, y] rfl (Rd.of_block (xs := [x, y]) (Blk.new wr.drew 5 (cellsOf .u8 [x, y])) (Bytes.cons hx1 (Bytes.cons hx2 Bytes.nil)) trivial) L2 hmore (N + 2) hlen2 (by omega) (by simp; omega) ?_; intro A2 c2 w2 hown' hc' hgrow hwhere; have hgrow' := Lib.hid hgrow; have hown2 := Lib.hid hown'; clear hgrow hwhere hown')
      all_goals
        go_wp2_with fail
        obtain ⟨hx, hy, hL2⟩ := G.out
        refine ⟨⟨k + 1, A2, c2, by omega, by go_num, by rw [H.out.1, Nat.mul_add], by rw [← hL2]; exact hown2.out, ?_⟩, by simp [intOf]; omega⟩
        refine ((hold.alloc hsz _).drew).grown hgrow'.out (by simp; omega) (fun k hk => ?_)
        exact (hown.block_ge hk).1
    · obtain rfl : k = n := by omega
      rw [List.take_of_length_le (by rw [HR.out.len]; omega)] at hown
      have hs := (hown.rd (by rw [hexs_length, HR.out.len]) (hexs_bytes HR.out.bytes)).1.str c'
      clear hown
      go_wp2_with fail
      go_ret
      exact ⟨rfl, hold⟩
/-- Parse refuses. -/
theorem parse_no (s : ByteArray) (w : World) (hs : s.size ≤ 70368744177664) (v : Nat) (hv : (64 < s.size ∧ v = 5) ∨ (s.size < 64 ∧ v = 4) ∨ (s.size = 64 ∧ ¬ IsHex (nums s) ∧ v = 3)) :
    Calls Tryd.prog 23 #[.string s] w fun e w' => e = .returned (.tuple #[.agg (cellsOf .u8 (List.replicate 32 0)), .int .i64 (v : Nat)]) ∧ Below w.heap.size w w' := by
  have hz := zero_dig
  have hb : ∀ W, (Instr.build 25 #[]).run Tryd.prog W = .ok (.agg (cellsOf .u8 (List.replicate 32 0))) W := fun W => by kernel_rfl
  rcases hv with ⟨h1, rfl⟩ | ⟨h1, rfl⟩ | ⟨h1, h2, rfl⟩
  · go_enter Tryd.func23, Tryd.ntmps23
    go_wp2_with (first
      | (with_reducible refine wpList_alloc_zero rfl 25 rfl _ hz ?_)
      | (refine wpList_store_blk rfl 25 (.tmp 2) (.tmp 10) rfl w.heap.size rfl (cellsOf .u8 (List.replicate 32 0)) rfl 25 (cellsOf .u8 (List.replicate 32 0)) 32 (Blk.new w _ _) size_dig (by simp) (by simp) (vals_one _ _) rfl ?_; intro w2 hw2; have HW := Lib.hid hw2; clear hw2))
    exact bodyPost_ret (results_row_tmp rfl _ _ w.heap.size _ _ _ _ rfl (by rw [HW.out]; exact (Blk.new _ _ _).row _) Tryd.underlying25 rfl (by rw [size_dig]; simp) _ rfl) rfl ⟨rfl, by rw [HW.out]; exact below_setRow ((Below.refl _ _).alloc (Nat.le_refl _) _) (Nat.le_refl _) _⟩
  · go_enter Tryd.func23, Tryd.ntmps23
    go_wp2_with (first
      | (with_reducible refine wpList_alloc_zero rfl 25 rfl _ hz ?_)
      | (refine wpList_store_blk rfl 25 (.tmp 2) (.tmp 15) rfl w.heap.size rfl (cellsOf .u8 (List.replicate 32 0)) rfl 25 (cellsOf .u8 (List.replicate 32 0)) 32 (Blk.new w _ _) size_dig (by simp) (by simp) (vals_one _ _) rfl ?_; intro w2 hw2; have HW := Lib.hid hw2; clear hw2))
    exact bodyPost_ret (results_row_tmp rfl _ _ w.heap.size _ _ _ _ rfl (by rw [HW.out]; exact (Blk.new _ _ _).row _) Tryd.underlying25 rfl (by rw [size_dig]; simp) _ rfl) rfl ⟨rfl, by rw [HW.out]; exact below_setRow ((Below.refl _ _).alloc (Nat.le_refl _) _) (Nat.le_refl _) _⟩
  · have H2 := Lib.hid h2
    have b1 : ¬ (64 : Int) < (s.size : Int) := by omega
    have b2 : ¬ (s.size : Int) < 64 := by omega
    have H1 := Lib.hid h1
    clear h1 h2
    go_enter Tryd.func23, Tryd.ntmps23
    go_wp2_with (with_reducible refine wpList_alloc_zero rfl 25 rfl _ hz ?_)
    (with_reducible refine (unhex_any s _ hs).mono ?_)
    rintro e w1 ⟨⟨h, _⟩ | ⟨_, rfl⟩, hb1⟩
    · exact absurd h H2.out
    have r1 : Blk w1 w.heap.size 25 (cellsOf .u8 (List.replicate 32 0)) := (Blk.new w _ _).kept hb1
    have k1 : Below w.heap.size w w1 := Below.trans ((Below.refl _ _).alloc (Nat.le_refl _) _) (hb1.mono (by simp))
    go_wp2_with (refine wpList_store_blk rfl 25 (.tmp 2) (.tmp 23) rfl w.heap.size rfl (cellsOf .u8 (List.replicate 32 0)) rfl 25 (cellsOf .u8 (List.replicate 32 0)) 32 r1 size_dig (by simp) (by simp) (vals_one _ _) rfl ?_; intro w2 hw2; have HW := Lib.hid hw2; clear hw2)
    exact bodyPost_ret (results_row_tmp rfl _ _ w.heap.size _ _ _ _ rfl (by rw [HW.out]; exact r1.row _) Tryd.underlying25 rfl (by rw [size_dig]; simp) _ rfl) rfl ⟨rfl, by rw [HW.out]; exact below_setRow k1 (Nat.le_refl _) _⟩
/-- Parse accepts. -/
theorem parse_yes (s : ByteArray) (w : World) (h1 : s.size = 64) (h2 : IsHex (nums s)) :
    Calls Tryd.prog 23 #[.string s] w fun e w' => e = .returned (.tuple #[.agg (cellsOf .u8 (unhexs (nums s))), .int .i64 0]) ∧ Below w.heap.size w w' := by
  have hz := zero_dig
  obtain ⟨z, hzz⟩ : ∃ z, z = List.replicate 32 0 := ⟨_, rfl⟩
  rw [← hzz] at hz
  have hzl : z.length = 32 := by rw [hzz]; simp
  clear hzz
  obtain ⟨X, hX⟩ : ∃ X, X = unhexs (nums s) := ⟨_, rfl⟩
  have hXl : X.length = 32 := by rw [hX, unhexs, pairs_length, nums_length, h1]
  have H2 := Lib.hid h2
  have b1 : ¬ (64 : Int) < (s.size : Int) := by omega
  have b2 : ¬ (s.size : Int) < 64 := by omega
  have H1 := Lib.hid h1
  have HX := Lib.hid hX
  clear h1 h2 hX
  go_enter Tryd.func23, Tryd.ntmps23
  go_wp2_with (with_reducible refine wpList_alloc_zero rfl 25 rfl _ hz ?_)
  (with_reducible refine (unhex_any s _ (by rw [H1.out]; omega)).mono ?_)
  rintro e w1 ⟨⟨_, A, c, rfl, hown⟩ | ⟨h, _⟩, hb1⟩
  rotate_left
  · exact absurd H2.out h
  have h32 : s.size / 2 = 32 := by rw [H1.out]
  rw [h32, ← HX.out] at hown
  rw [h32]
  obtain ⟨g, cur, rfl, hg, hB, hcs, hext⟩ := hown.block (by omega)
  rw [hXl] at hcs hext
  obtain ⟨_, c', he, hc, _⟩ := own_form hown
  have h6 : c = c' := by injection he
  have hc32 : 32 ≤ c := by rw [h6, ← hXl]; exact hc
  have r1 : Blk w1 w.heap.size 25 (cellsOf .u8 z) := (Blk.new w _ _).kept hb1
  have k1 : Below w.heap.size w w1 := Below.trans ((Below.refl _ _).alloc (Nat.le_refl _) _) (hb1.mono (by simp))
  rw [World.size_alloc] at hg
  have HS := Lib.hid h32
  have HE := Lib.hid (And.intro hcs hext)
  have H0 := Lib.hid hXl
  clear hown h32 he hc h6 hcs hext hXl
  have ha := fun W => run_arrayAt (P := Tryd.prog) W 25 5 32 (some ⟨g, 0, none⟩) 32 c Tryd.underlying25 (by omega)
  go_wp2_with (first
    | (refine wpList_load_part rfl 25 (.tmp 26) rfl g 0 rfl 5 cur 32 _ hB Tryd.underlying25 rfl size_dig (by have := HE.out.1; omega) (cellsOf .u8 X) HE.out.2 ?_; refine wpList_store_blk rfl 25 (.tmp 2) (.tmp 27) rfl w.heap.size rfl (cellsOf .u8 X) rfl 25 (cellsOf .u8 z) 32 r1 size_dig (by simp [H0.out]) (by simp [hzl]) (vals_one _ _) rfl ?_; intro w2 hw2; have HW := Lib.hid hw2; clear hw2))
  exact bodyPost_ret (results_row_tmp rfl _ _ w.heap.size _ _ _ _ rfl (by rw [HW.out]; exact r1.row _) Tryd.underlying25 rfl (by rw [size_dig]; simp [H0.out]) _ rfl) rfl ⟨by rw [HX.out]; rfl, by rw [HW.out]; exact below_setRow k1 (Nat.le_refl _) _⟩
end Go.Proofs.YtcdabngkpocnbaaDoor
