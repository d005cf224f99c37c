/- Contract of onetime.Extract where both signatures of different digests lead to one public value: evidence that states a fact. -/
import Derived.Test.YtpigmibaeoceaaaDoorExk
import Derived.Test.YtpigmibaeoceaaaDoorExu
import Derived.Test.YtpigmibaeoceaaaDoorExv
import Derived.Test.YtpigmibaeoceaaaDoorExy
namespace Go.Proofs.YtpigmibaeoceaaaDoor
open Go Go.RowKit Go.Bul
theorem extract_ok (a E b F : List Nat) (leaf : Nat) (y : Int) (w : World) (ha : a.length = 16) (hab : Bytes a) (hE : E.length = 560) (hEb : Bytes E) (hb : b.length = 16) (hbb : Bytes b) (hF : F.length = 560) (hFb : Bytes F) (hT : Tab w) (hl : leaf ≤ 65535) (hy : y = (leaf : Int))
    (hne : a ≠ b) (hr : recV leaf a E = recV leaf b F) :
    Calls Tryd.prog 7 #[.int .i64 y, .agg (cellsOf .u8 a), .agg (cellsOf .u8 E), .agg (cellsOf .u8 b), .agg (cellsOf .u8 F)] w fun e w' => ∃ k c f t A B X Y, GoodEv leaf k c f t A B X Y ∧ e = .returned (.tuple #[.agg (evc k c f t A B X Y), .int .i64 0]) ∧ Below w.heap.size w w' := by
  by_cases hls : lastV leaf a E = lastV leaf b F
  · obtain ⟨c, hlow⟩ := lower_ne ha hb hbb hne
    have hc := lower_some hlow
    have h15 := split_le hab c
    have hpE := piece_length (n := 35) hE hc.1
    have hpF := piece_length (n := 35) hF hc.1
    by_cases hAB : piece E c = advV leaf c (nth (split b) c) (nth (split a) c - nth (split b) c) (piece F c)
    · refine (extract_pre a E b F leaf c y w ha hab hE hEb hb hbb hF hFb hT hl hy hne hls hlow hAB).mono fun e w' ⟨he, hw⟩ => ⟨_, _, _, _, _, _, _, _, .inl ⟨rfl, hpF, hpE, bytes_piece hFb c, rfl, rfl, c, _, _, rfl, rfl, rfl, hc.1, hc.2, h15, hAB.symm⟩, he, hw⟩
    · refine (extract_col a E b F leaf c y w ha hab hE hEb hb hbb hF hFb hT hl hy hne hls hlow hAB).mono fun e w' ⟨k, X, Y, hk, hN, hs, he, hw⟩ => ⟨_, _, _, _, _, _, _, _, .inr (.inl ⟨rfl, hN.p, hN.q, hN.pb, hN.qb, rfl, rfl, c, k, rfl, rfl, rfl, hc.1, hk, hN.ne, hs⟩), he, hw⟩
  · exact (extract_ends a E b F leaf y w ha hab hE hEb hb hbb hF hFb hT hl hy hne hr hls).mono fun e w' ⟨he, hw⟩ => ⟨_, _, _, _, _, _, _, _, .inr (.inr ⟨rfl, rfl, rfl, rfl, rfl, rfl, lastV_length' leaf a E hE, lastV_length' leaf b F hF, bytes_lastV leaf a E hEb, bytes_lastV leaf b F hFb, hls, hr⟩), he, hw⟩
end Go.Proofs.YtpigmibaeoceaaaDoor
