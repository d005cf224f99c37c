/- Operations as arguments. -/
import Derived.Test.YtenflgbaibjeoaaFrl
import Derived.Test.YtenflgbaibjeoaaLqj
namespace Go.Proofs.Ytenflgbaibjeoaa
open Go Go.RowKit Go.WideShapes Go.ChangeShapes Go.ChangeAt Go.Bul Go.Thg Go.Lin
set_option maxRecDepth 100000
section
variable {H : Type} {enc : TypeId × Value → H}
instance : Inhabited OpR := ⟨⟨0, 0, ⟨#[]⟩, 0⟩⟩
theorem wf_u8 {z : Int} (h : (Lit.int .u8 z).wf = true) : 0 ≤ z ∧ z < 256 := by
  have h1 := (Go.Lit.wf_int_iff .u8 z).1 h
  have e1 : IntKind.u8.min = 0 := rfl
  have e2 : IntKind.u8.max = 255 := rfl
  omega
theorem op_cells {W : World} {m : Nat} {cs : List Value} {y : DataW H × List MemPlace} (h : DataW.trod enc Try.prog W 0 (fun _ => true) true m 52 cs = some y) : ∃ o : OpR, cs = (opCs o).toList ∧ OpOk o := by
  obtain ⟨xs, n, _, _, hl, hlen, hfs⟩ := DataW.trod_struct Try.underlying52 h
  obtain ⟨y0, y1, y2, y3, rfl⟩ : ∃ y0 y1 y2 y3, xs = [y0, y1, y2, y3] := by
    match xs, hlen with
    | [y0, y1, y2, y3], _ => exact ⟨y0, y1, y2, y3, rfl⟩
  have h0 := hfs 0 _ rfl
  have h1 := hfs 1 _ rfl
  have h2 := hfs 2 _ rfl
  have h3 := hfs 3 _ rfl
  obtain ⟨k, hk, _, wk⟩ := DataW.trod_int Try.underlying5 h0
  obtain ⟨s, hs, _, ws⟩ := DataW.trod_int Try.underlying3 h1
  obtain ⟨t, ht, _, _⟩ := DataW.trod_string Try.underlying9 h2
  obtain ⟨n', hn, _, wn⟩ := DataW.trod_int Try.underlying3 h3
  have c0 : Try.prog.cellsOf 5 = 1 := by kernel_rfl
  have c1 : Try.prog.cellsOf 3 = 1 := by kernel_rfl
  have c2 : Try.prog.cellsOf 9 = 1 := by kernel_rfl
  have c4 : Try.prog.cellsOf 52 = 4 := by kernel_rfl
  clear h0 h1 h2 h3 hfs h
  have hk : (cs.drop 0).take (Try.prog.cellsOf 5) = [.int .u8 k] := hk
  have hs : (cs.drop 1).take (Try.prog.cellsOf 3) = [.int .i64 s] := hs
  have ht : (cs.drop 2).take (Try.prog.cellsOf 9) = [.string t] := ht
  have hn : (cs.drop 3).take (Try.prog.cellsOf 3) = [.int .i64 n'] := hn
  rw [c0] at hk
  rw [c1] at hs hn
  rw [c2] at ht
  rw [c4] at hl
  obtain ⟨a, b, e, f, he⟩ : ∃ a b e f, cs = [a, b, e, f] := by
    match cs, hl with
    | [a, b, e, f], _ => exact ⟨a, b, e, f, rfl⟩
  rw [he] at hk hs ht hn
  simp at hk hs ht hn
  have w0 := wf_u8 wk
  have w1 := wf_i64 ws
  have w3 := wf_i64 wn
  exact ⟨⟨k, s, t, n'⟩, by rw [he, hk, hs, ht, hn], ⟨w0.1, w0.2, w1.1, w1.2, w3.1, w3.2⟩⟩
/-- An operation that came in. -/
theorem op_arg {W : World} {base : Nat} {v : Value} {d : DataW H} {p : List MemPlace} (hok : Value.okWide Try.prog W .any base 52 v) (h : DataW.Trod enc Try.prog W 0 (fun _ => true) true 52 v d p) :
    ∃ o, v = .agg (opCs o) ∧ OpOk o := by
  obtain ⟨cs, rfl⟩ : ∃ cs : Array Value, v = .agg cs := by
    simp only [Value.okWide, Try.underlying52] at hok
    obtain ⟨cs, h1, _⟩ := hok
    exact ⟨cs, h1⟩
  obtain ⟨fuel, hf⟩ := h
  obtain ⟨o, ho, hO⟩ := op_cells hf
  have ho' : cs.toList = (opCs o).toList := ho
  exact ⟨o, by rw [Array.ext' ho'], hO⟩
/-- Operations that came in. -/
theorem ops_arg {W : World} {base : Nat} {v : Value} {d : DataW H} {p : List MemPlace} (hok : Value.okWide Try.prog W .any base 49 v) (h : DataW.Trod enc Try.prog W 0 (fun _ => true) true 49 v d p) :
    ∃ A n c os, v = .slice A n c ∧ OpsIn W A n os := by
  obtain ⟨a0, len, cap, rfl⟩ := okWide_slice Try.underlying49 hok
  obtain ⟨fuel, hf⟩ := h
  obtain ⟨A, n, c, hs, hnc, _, E, hE, hA⟩ := sl_arg Try.underlying49 (show Try.prog.cellsOf 52 = 4 by kernel_rfl) (by decide) hf
  have hs' : Value.slice a0 len cap = .slice A n c := by
    have : [Value.slice a0 len cap] = [.slice A n c] := hs
    simpa using this
  obtain ⟨F, hF⟩ := Go.Deep.choose_lt (α := OpR) (p := fun i o => E i = (opCs o).toList ∧ OpOk o) (n := n) (fun i hi => by
    obtain ⟨_, m, y, hy⟩ := hE i hi
    exact op_cells hy)
  refine ⟨A, n, c, (List.range n).map F, hs', by simp, fun o ho => ?_, fun h0 => ?_⟩
  · obtain ⟨i, hi, rfl⟩ := List.mem_map.1 ho
    exact (hF i (by simpa using hi)).2
  · obtain ⟨g, off, rfl, hg, hx⟩ := hA h0
    refine ⟨g, off, rfl, hg, fun i hi j u hu => ?_⟩
    have hi' : i < n := by simpa using hi
    have h1 := (hF i hi').1
    have h2 := hx i j u hi' (by rw [h1]; simpa using hu)
    rwa [← Nat.add_assoc] at h2
end
end Go.Proofs.Ytenflgbaibjeoaa
