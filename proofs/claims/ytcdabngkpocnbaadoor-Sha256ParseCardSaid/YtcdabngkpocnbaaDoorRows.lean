/-
  NARROWER THAN 'FOR EVERY INPUT', by the rows' own cells (each row's printed sentence says how): Sha256Sum: laid · Sha256Lengths: laid · Sha256Half: laid · Sha256Write: laid · Sha256Clone: laid · Sha256Nil: laid · Sha256Text: laid · Sha256Parse: laid.
  DERIVED. THE GIVEN ROWS OF THIS SEAT. 8 by the template 'for every input the law returns true; each argument reads behind the call as it read before'; 0 by the template 'total and deterministic' (their statements: YtcdabngkpocnbaaDoorTotals.lean).
  GIVEN WITH THE SEED: the statements are not yours to turn. If you find one false, say at which input.
  Laid BY PROGRAM, IN A SANDBOX (cutbox-rows.mjs): the forced cells as the released guide's own fill.sh prints them over the translation 39ebd4bbca8d7d46… (all of the seat's roots in one cut). By AI agents, Wed Nov 11 2026. No macro, syntax, notation, axiom, sorry.
-/
import Derived.Test.YtcdabngkpocnbaaDoorChecked
import GoSem.Claim
import GoSem.ClaimJoined
import GoSem.ClaimMapViews
import Derived.JoinedTies
import Derived.KernelRfl
namespace Go.Proofs.YtcdabngkpocnbaaDoor
/- THE CELL 'sum', in the pinned program and in every row, IS THE sha256 OF THE DUMP (.gsa) THAT YtcdabngkpocnbaaDoorProg.lean LOADS. Nothing in Lean hashes anything: it is a label: what it is worth is what the hold of that sum in a sandbox is worth. -/
noncomputable def Tryd.pinned : Pinned := { name := "ytcdabngkpocnbaadoor", sum := "39ebd4bbca8d7d46a7d229926fc9be99bc74860149c4bd17baf275873077834b", checked := Tryd.checked }
namespace Rows
def none {H : Type} : Left H := { results := [], args := [] }

/- WHAT THE LISTED PACKAGE-LEVEL VARIABLES READ AS WHEN THE CALL BEGINS. Each datum BY PROGRAM (the guide's laid-datum.mjs) off the statement by which the dump's own 'gosem.cut.vars' lays the variable. In a bare row this is a premise. The card (YtcdabngkpocnbaaDoorCards.lean) ties it to the program's text. -/
def laid_bulletin_sha256_constants {H : Type} : DataW H := .agg [.lit (.int .u32 1116352408), .lit (.int .u32 1899447441), .lit (.int .u32 3049323471), .lit (.int .u32 3921009573), .lit (.int .u32 961987163), .lit (.int .u32 1508970993), .lit (.int .u32 2453635748), .lit (.int .u32 2870763221), .lit (.int .u32 3624381080), .lit (.int .u32 310598401), .lit (.int .u32 607225278), .lit (.int .u32 1426881987), .lit (.int .u32 1925078388), .lit (.int .u32 2162078206), .lit (.int .u32 2614888103), .lit (.int .u32 3248222580), .lit (.int .u32 3835390401), .lit (.int .u32 4022224774), .lit (.int .u32 264347078), .lit (.int .u32 604807628), .lit (.int .u32 770255983), .lit (.int .u32 1249150122), .lit (.int .u32 1555081692), .lit (.int .u32 1996064986), .lit (.int .u32 2554220882), .lit (.int .u32 2821834349), .lit (.int .u32 2952996808), .lit (.int .u32 3210313671), .lit (.int .u32 3336571891), .lit (.int .u32 3584528711), .lit (.int .u32 113926993), .lit (.int .u32 338241895), .lit (.int .u32 666307205), .lit (.int .u32 773529912), .lit (.int .u32 1294757372), .lit (.int .u32 1396182291), .lit (.int .u32 1695183700), .lit (.int .u32 1986661051), .lit (.int .u32 2177026350), .lit (.int .u32 2456956037), .lit (.int .u32 2730485921), .lit (.int .u32 2820302411), .lit (.int .u32 3259730800), .lit (.int .u32 3345764771), .lit (.int .u32 3516065817), .lit (.int .u32 3600352804), .lit (.int .u32 4094571909), .lit (.int .u32 275423344), .lit (.int .u32 430227734), .lit (.int .u32 506948616), .lit (.int .u32 659060556), .lit (.int .u32 883997877), .lit (.int .u32 958139571), .lit (.int .u32 1322822218), .lit (.int .u32 1537002063), .lit (.int .u32 1747873779), .lit (.int .u32 1955562222), .lit (.int .u32 2024104815), .lit (.int .u32 2227730452), .lit (.int .u32 2361852424), .lit (.int .u32 2428436474), .lit (.int .u32 2756734187), .lit (.int .u32 3204031479), .lit (.int .u32 3329325298)]

/-- 'bulletinlaw05.Sha256Sum': WHATEVER THE INPUT: true; the input reads as it did. -/
def sha256SumSpec : ChangeSpec := { name := "sha256Sum", fn := fun _ => fun
  | [d] => { results := [.lit (.bool true)], args := [d] }
  | _ => none }
def sha256SumRow : OpenClaim := { program := "ytcdabngkpocnbaadoor", sum := "39ebd4bbca8d7d46a7d229926fc9be99bc74860149c4bd17baf275873077834b", func := "bulletin/bulletinlaw05.Sha256Sum", spec := "sha256Sum", named := ["bulletin/sha256.constants"], apart := false, laid := [("bulletin/sha256.constants", laid_bulletin_sha256_constants)] }
def Sha256SumSaid : Prop := sha256SumRow.holds Tryd.pinned (OpenSpec.ofChange sha256SumSpec)

/-- ITS FALSE NEIGHBOUR: 'it returns false'. Refute it at one input. -/
def sha256SumWrong : ChangeSpec := { name := "sha256Sum", fn := fun _ => fun
  | [d] => { results := [.lit (.bool false)], args := [d] }
  | _ => none }
def Sha256SumWrongFalsely : Prop := sha256SumRow.holds Tryd.pinned (OpenSpec.ofChange sha256SumWrong)

/-- 'bulletinlaw05.Sha256Lengths': WHATEVER THE INPUT: true; the input reads as it did. -/
def sha256LengthsSpec : ChangeSpec := { name := "sha256Lengths", fn := fun _ => fun
  | [d] => { results := [.lit (.bool true)], args := [d] }
  | _ => none }
def sha256LengthsRow : OpenClaim := { program := "ytcdabngkpocnbaadoor", sum := "39ebd4bbca8d7d46a7d229926fc9be99bc74860149c4bd17baf275873077834b", func := "bulletin/bulletinlaw05.Sha256Lengths", spec := "sha256Lengths", named := ["bulletin/sha256.constants"], apart := false, laid := [("bulletin/sha256.constants", laid_bulletin_sha256_constants)] }
def Sha256LengthsSaid : Prop := sha256LengthsRow.holds Tryd.pinned (OpenSpec.ofChange sha256LengthsSpec)

/-- ITS FALSE NEIGHBOUR: 'it returns false'. Refute it at one input. -/
def sha256LengthsWrong : ChangeSpec := { name := "sha256Lengths", fn := fun _ => fun
  | [d] => { results := [.lit (.bool false)], args := [d] }
  | _ => none }
def Sha256LengthsWrongFalsely : Prop := sha256LengthsRow.holds Tryd.pinned (OpenSpec.ofChange sha256LengthsWrong)

/-- 'bulletinlaw05.Sha256Half': WHATEVER THE INPUT: true; the input reads as it did. -/
def sha256HalfSpec : ChangeSpec := { name := "sha256Half", fn := fun _ => fun
  | [d] => { results := [.lit (.bool true)], args := [d] }
  | _ => none }
def sha256HalfRow : OpenClaim := { program := "ytcdabngkpocnbaadoor", sum := "39ebd4bbca8d7d46a7d229926fc9be99bc74860149c4bd17baf275873077834b", func := "bulletin/bulletinlaw05.Sha256Half", spec := "sha256Half", named := ["bulletin/sha256.constants"], apart := false, laid := [("bulletin/sha256.constants", laid_bulletin_sha256_constants)] }
def Sha256HalfSaid : Prop := sha256HalfRow.holds Tryd.pinned (OpenSpec.ofChange sha256HalfSpec)

/-- ITS FALSE NEIGHBOUR: 'it returns false'. Refute it at one input. -/
def sha256HalfWrong : ChangeSpec := { name := "sha256Half", fn := fun _ => fun
  | [d] => { results := [.lit (.bool false)], args := [d] }
  | _ => none }
def Sha256HalfWrongFalsely : Prop := sha256HalfRow.holds Tryd.pinned (OpenSpec.ofChange sha256HalfWrong)

/-- 'bulletinlaw05.Sha256Write': WHATEVER THE INPUT: true; the input reads as it did. -/
def sha256WriteSpec : ChangeSpec := { name := "sha256Write", fn := fun _ => fun
  | [d] => { results := [.lit (.bool true)], args := [d] }
  | _ => none }
def sha256WriteRow : OpenClaim := { program := "ytcdabngkpocnbaadoor", sum := "39ebd4bbca8d7d46a7d229926fc9be99bc74860149c4bd17baf275873077834b", func := "bulletin/bulletinlaw05.Sha256Write", spec := "sha256Write", named := ["bulletin/sha256.constants"], apart := false, laid := [("bulletin/sha256.constants", laid_bulletin_sha256_constants)] }
def Sha256WriteSaid : Prop := sha256WriteRow.holds Tryd.pinned (OpenSpec.ofChange sha256WriteSpec)

/-- ITS FALSE NEIGHBOUR: 'it returns false'. Refute it at one input. -/
def sha256WriteWrong : ChangeSpec := { name := "sha256Write", fn := fun _ => fun
  | [d] => { results := [.lit (.bool false)], args := [d] }
  | _ => none }
def Sha256WriteWrongFalsely : Prop := sha256WriteRow.holds Tryd.pinned (OpenSpec.ofChange sha256WriteWrong)

/-- 'bulletinlaw05.Sha256Clone': WHATEVER THE INPUT: true; the input reads as it did. -/
def sha256CloneSpec : ChangeSpec := { name := "sha256Clone", fn := fun _ => fun
  | [d1, d2, d3] => { results := [.lit (.bool true)], args := [d1, d2, d3] }
  | _ => none }
def sha256CloneRow : OpenClaim := { program := "ytcdabngkpocnbaadoor", sum := "39ebd4bbca8d7d46a7d229926fc9be99bc74860149c4bd17baf275873077834b", func := "bulletin/bulletinlaw05.Sha256Clone", spec := "sha256Clone", named := ["bulletin/sha256.constants"], apart := false, laid := [("bulletin/sha256.constants", laid_bulletin_sha256_constants)] }
def Sha256CloneSaid : Prop := sha256CloneRow.holds Tryd.pinned (OpenSpec.ofChange sha256CloneSpec)

/-- ITS FALSE NEIGHBOUR: 'it returns false'. Refute it at one input. -/
def sha256CloneWrong : ChangeSpec := { name := "sha256Clone", fn := fun _ => fun
  | [d1, d2, d3] => { results := [.lit (.bool false)], args := [d1, d2, d3] }
  | _ => none }
def Sha256CloneWrongFalsely : Prop := sha256CloneRow.holds Tryd.pinned (OpenSpec.ofChange sha256CloneWrong)

/-- 'bulletinlaw05.Sha256Nil': WHATEVER THE INPUT: true; the input reads as it did. -/
def sha256NilSpec : ChangeSpec := { name := "sha256Nil", fn := fun _ => fun
  | [d] => { results := [.lit (.bool true)], args := [d] }
  | _ => none }
def sha256NilRow : OpenClaim := { program := "ytcdabngkpocnbaadoor", sum := "39ebd4bbca8d7d46a7d229926fc9be99bc74860149c4bd17baf275873077834b", func := "bulletin/bulletinlaw05.Sha256Nil", spec := "sha256Nil", named := ["bulletin/sha256.constants"], apart := false, laid := [("bulletin/sha256.constants", laid_bulletin_sha256_constants)] }
def Sha256NilSaid : Prop := sha256NilRow.holds Tryd.pinned (OpenSpec.ofChange sha256NilSpec)

/-- ITS FALSE NEIGHBOUR: 'it returns false'. Refute it at one input. -/
def sha256NilWrong : ChangeSpec := { name := "sha256Nil", fn := fun _ => fun
  | [d] => { results := [.lit (.bool false)], args := [d] }
  | _ => none }
def Sha256NilWrongFalsely : Prop := sha256NilRow.holds Tryd.pinned (OpenSpec.ofChange sha256NilWrong)

/-- 'bulletinlaw05.Sha256Text': WHATEVER THE INPUT: true; the input reads as it did. -/
def sha256TextSpec : ChangeSpec := { name := "sha256Text", fn := fun _ => fun
  | [d] => { results := [.lit (.bool true)], args := [d] }
  | _ => none }
def sha256TextRow : OpenClaim := { program := "ytcdabngkpocnbaadoor", sum := "39ebd4bbca8d7d46a7d229926fc9be99bc74860149c4bd17baf275873077834b", func := "bulletin/bulletinlaw05.Sha256Text", spec := "sha256Text", inPlace := ["internal/bytealg.IndexByteString"], unfollowed := true, recurses := true, named := ["bulletin/sha256.constants"], apart := false, laid := [("bulletin/sha256.constants", laid_bulletin_sha256_constants)] }
def Sha256TextSaid : Prop := sha256TextRow.holds Tryd.pinned (OpenSpec.ofChange sha256TextSpec)

/-- ITS FALSE NEIGHBOUR: 'it returns false'. Refute it at one input. -/
def sha256TextWrong : ChangeSpec := { name := "sha256Text", fn := fun _ => fun
  | [d] => { results := [.lit (.bool false)], args := [d] }
  | _ => none }
def Sha256TextWrongFalsely : Prop := sha256TextRow.holds Tryd.pinned (OpenSpec.ofChange sha256TextWrong)

/-- 'bulletinlaw05.Sha256Parse': WHATEVER THE INPUT: true; the input reads as it did. -/
def sha256ParseSpec : ChangeSpec := { name := "sha256Parse", fn := fun _ => fun
  | [d] => { results := [.lit (.bool true)], args := [d] }
  | _ => none }
def sha256ParseRow : OpenClaim := { program := "ytcdabngkpocnbaadoor", sum := "39ebd4bbca8d7d46a7d229926fc9be99bc74860149c4bd17baf275873077834b", func := "bulletin/bulletinlaw05.Sha256Parse", spec := "sha256Parse", inPlace := ["internal/bytealg.IndexByteString"], unfollowed := true, recurses := true, named := ["bulletin/sha256.constants"], apart := false, laid := [("bulletin/sha256.constants", laid_bulletin_sha256_constants)] }
def Sha256ParseSaid : Prop := sha256ParseRow.holds Tryd.pinned (OpenSpec.ofChange sha256ParseSpec)

/-- ITS FALSE NEIGHBOUR: 'it returns false'. Refute it at one input. -/
def sha256ParseWrong : ChangeSpec := { name := "sha256Parse", fn := fun _ => fun
  | [d] => { results := [.lit (.bool false)], args := [d] }
  | _ => none }
def Sha256ParseWrongFalsely : Prop := sha256ParseRow.holds Tryd.pinned (OpenSpec.ofChange sha256ParseWrong)

/- THE SECOND FORM. 'bulk': how many values and letters a reading holds, each counted each time it is reached (what is shared counts as often as it is met; a slice's spare places count too). A statement '..UptoSaid' is the law's where the arguments, and the package variables that the reading takes, are together of bulk at most 1048576: NARROWER than '..Said'. Prove '..Said' where nothing that the law and all that it calls make is longer than what came in: it says more and counts as full. Else prove '..UptoSaid'. A law counts once. -/
mutual
def uptoBulk {H : Type} : DataW H → Nat
  | .lit (.string bytes) => bytes.length + 1
  | .lit _ => 1
  | .nil => 1
  | .ptr d => uptoBulk d + 1
  | .slice elems spare => uptoBulkAll elems + uptoBulkAll spare + 1
  | .agg parts => uptoBulkAll parts + 1
  | .iface _ d => uptoBulk d + 1
  | .map entries => uptoBulkEntries entries + 1
  | .held _ => 1
def uptoBulkAll {H : Type} : List (DataW H) → Nat
  | [] => 0
  | d :: r => uptoBulk d + uptoBulkAll r
def uptoBulkEntries {H : Type} : List (Lit × DataW H) → Nat
  | [] => 0
  | x :: r => uptoBulkEntry x + uptoBulkEntries r
def uptoBulkEntry {H : Type} : Lit × DataW H → Nat
  | (.string bytes, d) => bytes.length + uptoBulk d + 1
  | (_, d) => uptoBulk d + 1
 end
def uptoSmall : (H : Type) → List (DataW H) → Bool := fun _ ds => decide (uptoBulkAll ds ≤ 1048576)
def OpenSpec.upto (s : _root_.Go.ChangeSpec) : _root_.Go.OpenSpec := { _root_.Go.OpenSpec.ofChange s with cond := some uptoSmall }

/-- 'bulletinlaw05.Sha256Sum', WHERE WHAT IT READS IS OF BULK AT MOST 1048576: true; the input reads as it did. -/
def sha256SumUptoRow : OpenClaim := { program := "ytcdabngkpocnbaadoor", sum := "39ebd4bbca8d7d46a7d229926fc9be99bc74860149c4bd17baf275873077834b", func := "bulletin/bulletinlaw05.Sha256Sum", spec := "sha256Sum", named := ["bulletin/sha256.constants"], apart := false, laid := [("bulletin/sha256.constants", laid_bulletin_sha256_constants)], narrowed := true }
def Sha256SumUptoSaid : Prop := sha256SumUptoRow.holds Tryd.pinned (OpenSpec.upto sha256SumSpec)

/-- 'bulletinlaw05.Sha256Lengths', WHERE WHAT IT READS IS OF BULK AT MOST 1048576: true; the input reads as it did. -/
def sha256LengthsUptoRow : OpenClaim := { program := "ytcdabngkpocnbaadoor", sum := "39ebd4bbca8d7d46a7d229926fc9be99bc74860149c4bd17baf275873077834b", func := "bulletin/bulletinlaw05.Sha256Lengths", spec := "sha256Lengths", named := ["bulletin/sha256.constants"], apart := false, laid := [("bulletin/sha256.constants", laid_bulletin_sha256_constants)], narrowed := true }
def Sha256LengthsUptoSaid : Prop := sha256LengthsUptoRow.holds Tryd.pinned (OpenSpec.upto sha256LengthsSpec)

/-- 'bulletinlaw05.Sha256Half', WHERE WHAT IT READS IS OF BULK AT MOST 1048576: true; the input reads as it did. -/
def sha256HalfUptoRow : OpenClaim := { program := "ytcdabngkpocnbaadoor", sum := "39ebd4bbca8d7d46a7d229926fc9be99bc74860149c4bd17baf275873077834b", func := "bulletin/bulletinlaw05.Sha256Half", spec := "sha256Half", named := ["bulletin/sha256.constants"], apart := false, laid := [("bulletin/sha256.constants", laid_bulletin_sha256_constants)], narrowed := true }
def Sha256HalfUptoSaid : Prop := sha256HalfUptoRow.holds Tryd.pinned (OpenSpec.upto sha256HalfSpec)

/-- 'bulletinlaw05.Sha256Write', WHERE WHAT IT READS IS OF BULK AT MOST 1048576: true; the input reads as it did. -/
def sha256WriteUptoRow : OpenClaim := { program := "ytcdabngkpocnbaadoor", sum := "39ebd4bbca8d7d46a7d229926fc9be99bc74860149c4bd17baf275873077834b", func := "bulletin/bulletinlaw05.Sha256Write", spec := "sha256Write", named := ["bulletin/sha256.constants"], apart := false, laid := [("bulletin/sha256.constants", laid_bulletin_sha256_constants)], narrowed := true }
def Sha256WriteUptoSaid : Prop := sha256WriteUptoRow.holds Tryd.pinned (OpenSpec.upto sha256WriteSpec)

/-- 'bulletinlaw05.Sha256Clone', WHERE WHAT IT READS IS OF BULK AT MOST 1048576: true; the input reads as it did. -/
def sha256CloneUptoRow : OpenClaim := { program := "ytcdabngkpocnbaadoor", sum := "39ebd4bbca8d7d46a7d229926fc9be99bc74860149c4bd17baf275873077834b", func := "bulletin/bulletinlaw05.Sha256Clone", spec := "sha256Clone", named := ["bulletin/sha256.constants"], apart := false, laid := [("bulletin/sha256.constants", laid_bulletin_sha256_constants)], narrowed := true }
def Sha256CloneUptoSaid : Prop := sha256CloneUptoRow.holds Tryd.pinned (OpenSpec.upto sha256CloneSpec)

/-- 'bulletinlaw05.Sha256Nil', WHERE WHAT IT READS IS OF BULK AT MOST 1048576: true; the input reads as it did. -/
def sha256NilUptoRow : OpenClaim := { program := "ytcdabngkpocnbaadoor", sum := "39ebd4bbca8d7d46a7d229926fc9be99bc74860149c4bd17baf275873077834b", func := "bulletin/bulletinlaw05.Sha256Nil", spec := "sha256Nil", named := ["bulletin/sha256.constants"], apart := false, laid := [("bulletin/sha256.constants", laid_bulletin_sha256_constants)], narrowed := true }
def Sha256NilUptoSaid : Prop := sha256NilUptoRow.holds Tryd.pinned (OpenSpec.upto sha256NilSpec)

/-- 'bulletinlaw05.Sha256Text', WHERE WHAT IT READS IS OF BULK AT MOST 1048576: true; the input reads as it did. -/
def sha256TextUptoRow : OpenClaim := { program := "ytcdabngkpocnbaadoor", sum := "39ebd4bbca8d7d46a7d229926fc9be99bc74860149c4bd17baf275873077834b", func := "bulletin/bulletinlaw05.Sha256Text", spec := "sha256Text", inPlace := ["internal/bytealg.IndexByteString"], unfollowed := true, recurses := true, named := ["bulletin/sha256.constants"], apart := false, laid := [("bulletin/sha256.constants", laid_bulletin_sha256_constants)], narrowed := true }
def Sha256TextUptoSaid : Prop := sha256TextUptoRow.holds Tryd.pinned (OpenSpec.upto sha256TextSpec)

/-- 'bulletinlaw05.Sha256Parse', WHERE WHAT IT READS IS OF BULK AT MOST 1048576: true; the input reads as it did. -/
def sha256ParseUptoRow : OpenClaim := { program := "ytcdabngkpocnbaadoor", sum := "39ebd4bbca8d7d46a7d229926fc9be99bc74860149c4bd17baf275873077834b", func := "bulletin/bulletinlaw05.Sha256Parse", spec := "sha256Parse", inPlace := ["internal/bytealg.IndexByteString"], unfollowed := true, recurses := true, named := ["bulletin/sha256.constants"], apart := false, laid := [("bulletin/sha256.constants", laid_bulletin_sha256_constants)], narrowed := true }
def Sha256ParseUptoSaid : Prop := sha256ParseUptoRow.holds Tryd.pinned (OpenSpec.upto sha256ParseSpec)

end Rows
end Go.Proofs.YtcdabngkpocnbaaDoor
