/- MerkleNodes: the walk. Rows of the reference's nodes; Own. Contracts of the reference's Height, Node, Root. Contracts of the reference's Root; Root of any leaves. -/
import Derived.Test.YtbbdnlcjjcmllaaDoorVq
import Derived.Great.BuildSlice
namespace Go.Proofs.YtbbdnlcjjcmllaaDoor
open Go Go.RowKit Go.Bul Go.Thg Go.Lin
end Go.Proofs.YtbbdnlcjjcmllaaDoor
namespace Go.Proofs.YtbbdnlcjjcmllaaDoor
open Go Go.RowKit Go.Bul Go.Thg Go.Lin
section
variable {w w0 : World} {G : List Nat} {L : List Ent} {R : List Thing} {ops : Array Oper} {rest : List Oper} {o : Oper} {a : Act} {Q : Exit → Act → World → Prop} {s x x0 : Operand} {v y : Value} {xs ys : List Nd} {m : Nat} {F : Thing → List Thing}
end
end Go.Proofs.YtbbdnlcjjcmllaaDoor
namespace Go.Lin
open Go
def nodeN (leaves : List Nd) : Nat → Nat → Nd
  | 0, k => leaves.getD k nd0
  | l + 1, k => joinN ((l + 1 : Nat) : Int) (nodeN leaves l (2 * k)) (nodeN leaves l (2 * k + 1))
theorem up_get (q : Nat) : ∀ (l : List Nd) (k : Nat) (a b : Nd), l[2 * k]? = some a → l[2 * k + 1]? = some b → (up q l)[k]? = some (joinN (q : Int) a b)
  | [], k, a, b, h, _ => by simp at h
  | [_], k, a, b, _, h => by simp at h
  | x :: y :: l, 0, a, b, h1, h2 => by
    simp at h1 h2
    subst h1 h2
    rfl
  | x :: y :: l, k + 1, a, b, h1, h2 => by
    rw [show 2 * (k + 1) = 2 * k + 1 + 1 by omega] at h1
    rw [show 2 * (k + 1) + 1 = 2 * k + 1 + 1 + 1 by omega] at h2
    simp only [List.getElem?_cons_succ] at h1 h2
    simpa [up] using up_get q l k a b h1 h2
theorem lvl_get (leaves : List Nd) : ∀ lev k : Nat, (k + 1) * 2 ^ lev ≤ leaves.length → (lvl leaves lev)[k]? = some (nodeN leaves lev k)
  | 0, k, h => by
    have hk : k < leaves.length := by simp at h; omega
    simp [lvl, nodeN, List.getD_eq_getElem?_getD, hk]
  | lev + 1, k, h => by
    rw [Nat.pow_succ] at h
    have hp : 0 < 2 ^ lev := Nat.pow_pos (by decide)
    have e : (k + 1) * (2 ^ lev * 2) = (2 * k + 1 + 1) * 2 ^ lev := by
      rw [Nat.mul_comm (2 ^ lev) 2, ← Nat.mul_assoc]; congr 1; omega
    have e2 : (2 * k + 1) * 2 ^ lev ≤ (2 * k + 1 + 1) * 2 ^ lev := Nat.mul_le_mul_right _ (by omega)
    exact up_get (lev + 1) _ k _ _ (lvl_get leaves lev (2 * k) (by omega)) (lvl_get leaves lev (2 * k + 1) (by omega))
theorem rootH_node (leaves : List Nd) (h : Nat) (hn : leaves.length = 2 ^ h) : nodeN leaves h 0 = rootH leaves h := by
  have := lvl_get leaves h 0 (by omega)
  unfold rootH
  rw [List.headD_eq_head?_getD, List.head?_eq_getElem?, this]
  rfl
theorem chkE_pow {n h : Nat} (hh : h ≤ 10) (hn : n = 2 ^ h) : chkE n = 0 ∧ Nat.log2 n = h := by
  subst hn
  have h0 : 0 < 2 ^ h := Nat.pow_pos (by decide)
  have h1 : 2 ^ h ≤ 2 ^ 10 := Nat.pow_le_pow_right (by decide) hh
  have hp : pow2 (2 ^ h) = true := by
    unfold pow2
    exact List.any_eq_true.2 ⟨h, List.mem_range.2 (by omega), by simp⟩
  unfold chkE
  rw [if_neg (by omega), if_neg (by omega), if_pos hp]
  exact ⟨rfl, Nat.log2_two_pow⟩
theorem chkE_yes {n : Nat} (h : chkE n = 0) : ∃ k, k ≤ 10 ∧ n = 2 ^ k ∧ Nat.log2 n = k := by
  have hp : pow2 n = true := by
    unfold chkE at h
    split at h
    · omega
    · split at h
      · omega
      · split at h
        · assumption
        · omega
  obtain ⟨k, hk, he⟩ := pow2_height hp
  exact ⟨k, hk, he, (chkE_pow hk he).2⟩
end Go.Lin
namespace Go.Proofs.YtbbdnlcjjcmllaaDoor
open Go Go.RowKit Go.Bul Go.Thg Go.Lin
end Go.Proofs.YtbbdnlcjjcmllaaDoor
namespace Go.Proofs.YtbbdnlcjjcmllaaDoor
open Go Go.RowKit Go.Bul Go.Thg Go.Lin
theorem arr_nd : ArrTy Tryd.prog 41 := ⟨⟨_, _, 1, Tryd.underlying41, by kernel_rfl⟩⟩
set_option maxRecDepth 20000 in
set_option maxHeartbeats 4000000 in
theorem root_any (A : Option Addr) (n c : Nat) (leaves : List Nd) (w : World) (hr : NIn w A n leaves) (hn : n ≤ 2000) (hT : Tab w) :
    Calls Tryd.prog 44 #[.slice A n c] w fun e w' => e = .returned (.tuple #[.agg (ndC (rootN leaves)), .int .i64 (chkE n)]) ∧ Below w.heap.size w w' := by
  have hl := hr.len
  unfold rootN
  rw [← hl]
  by_cases hc : chkE n = 0
  · obtain ⟨h, hh, he, hlog⟩ := chkE_yes hc
    rw [if_pos hc, hlog, hc]
    exact root_yes A n c h leaves w hr (by omega) hh hT
  · rw [if_neg hc]
    have hM := Mem.start [] w
    have HC := Lib.hid (fun w => check_any A n c w (by omega))
    have q1 : (chkE n != 0) = true := by simpa using hc
    generalize chkE n = ce at q1 HC ⊢
    clear hc hr hl hT
    go_enter Tryd.func44, Tryd.ntmps44
    go_wp2_with (first | ((with_reducible refine (HC.out _).mono ?_); rintro e w1 ⟨rfl, rfl⟩) | ((with_reducible refine at_build ?_); refine wpList_build_zero rfl _ (by rfl) _ _ zero_nd arr_nd ?_) | ((first | with_reducible refine at_load ?_ | ((with_reducible refine at_load_g ?_ ?_); (· rfl))); first | refine ll hM ?_ | refine lc hM ?_ | refine lp hM ?_) | ((with_reducible refine at_store ?_); first | (refine lw hM ?_; clear hM; intro wx hM) | (refine ls hM ?_; clear hM; intro wx hM) | (refine lt hM ?_; clear hM; intro wx hM)) | ((with_reducible refine at_alloc ?_); refine lz hM ?_; clear hM; intro gx wx hM) | ((with_reducible refine at_box ?_); refine lb hM ?_; clear hM; intro gx wx hM))
    exact bodyPost_ret (results_mem_cell_tmp hM rfl (by rfl) (by repeat (first | exact List.Mem.head _ | apply List.Mem.tail)) (by first | exact row_nd | exact row_n | exact row_half | exact row_a32 | exact row_nd2 | exact row_n2 | exact row_two | exact row_claim | exact row_bld | exact row_bnds) (by rfl)) rfl ⟨rfl, hM.below⟩
end Go.Proofs.YtbbdnlcjjcmllaaDoor
