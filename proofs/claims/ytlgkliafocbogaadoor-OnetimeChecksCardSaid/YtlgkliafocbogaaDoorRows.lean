/-
  NARROWER THAN 'FOR EVERY INPUT', by the rows' own cells (each row's printed sentence says how): OnetimeDigits: laid · OnetimeOrder: laid · OnetimeSteps: laid · OnetimeParts: laid · OnetimeSecrets: laid · OnetimePublic: laid · OnetimeRecovers: laid · OnetimeChecks: laid · OnetimeSigns: laid.
  DERIVED. THE GIVEN ROWS OF THIS SEAT. 9 by the template 'for every input the law returns true; each argument reads behind the call as it read before'; 0 by the template 'total and deterministic' (their statements: YtlgkliafocbogaaDoorTotals.lean).
  GIVEN WITH THE SEED: the statements are not yours to turn. If you find one false, say at which input.
  Laid BY PROGRAM, IN A SANDBOX (cutbox-rows.mjs): the forced cells as the released guide's own fill.sh prints them over the translation df4e1d2f6ace1dfb… (all of the seat's roots in one cut). By AI agents, Wed Nov 11 2026. No macro, syntax, notation, axiom, sorry.
-/
import Derived.Test.YtlgkliafocbogaaDoorChecked
import GoSem.Claim
import GoSem.ClaimJoined
import GoSem.ClaimMapViews
import Derived.JoinedTies
import Derived.KernelRfl
namespace Go.Proofs.YtlgkliafocbogaaDoor
/- THE CELL 'sum', in the pinned program and in every row, IS THE sha256 OF THE DUMP (.gsa) THAT YtlgkliafocbogaaDoorProg.lean LOADS. Nothing in Lean hashes anything: it is a label: what it is worth is what the hold of that sum in a sandbox is worth. -/
noncomputable def Tryd.pinned : Pinned := { name := "ytlgkliafocbogaadoor", sum := "df4e1d2f6ace1dfb91a68f1bae99b746ca1b3da314f381f9f939ef6eda3fac1a", checked := Tryd.checked }
namespace Rows
def none {H : Type} : Left H := { results := [], args := [] }

/- WHAT THE LISTED PACKAGE-LEVEL VARIABLES READ AS WHEN THE CALL BEGINS. Each datum BY PROGRAM (the guide's laid-datum.mjs) off the statement by which the dump's own 'gosem.cut.vars' lays the variable. In a bare row this is a premise. The card (YtlgkliafocbogaaDoorCards.lean) ties it to the program's text. -/
def laid_bulletin_sha256_constants {H : Type} : DataW H := .agg [.lit (.int .u32 1116352408), .lit (.int .u32 1899447441), .lit (.int .u32 3049323471), .lit (.int .u32 3921009573), .lit (.int .u32 961987163), .lit (.int .u32 1508970993), .lit (.int .u32 2453635748), .lit (.int .u32 2870763221), .lit (.int .u32 3624381080), .lit (.int .u32 310598401), .lit (.int .u32 607225278), .lit (.int .u32 1426881987), .lit (.int .u32 1925078388), .lit (.int .u32 2162078206), .lit (.int .u32 2614888103), .lit (.int .u32 3248222580), .lit (.int .u32 3835390401), .lit (.int .u32 4022224774), .lit (.int .u32 264347078), .lit (.int .u32 604807628), .lit (.int .u32 770255983), .lit (.int .u32 1249150122), .lit (.int .u32 1555081692), .lit (.int .u32 1996064986), .lit (.int .u32 2554220882), .lit (.int .u32 2821834349), .lit (.int .u32 2952996808), .lit (.int .u32 3210313671), .lit (.int .u32 3336571891), .lit (.int .u32 3584528711), .lit (.int .u32 113926993), .lit (.int .u32 338241895), .lit (.int .u32 666307205), .lit (.int .u32 773529912), .lit (.int .u32 1294757372), .lit (.int .u32 1396182291), .lit (.int .u32 1695183700), .lit (.int .u32 1986661051), .lit (.int .u32 2177026350), .lit (.int .u32 2456956037), .lit (.int .u32 2730485921), .lit (.int .u32 2820302411), .lit (.int .u32 3259730800), .lit (.int .u32 3345764771), .lit (.int .u32 3516065817), .lit (.int .u32 3600352804), .lit (.int .u32 4094571909), .lit (.int .u32 275423344), .lit (.int .u32 430227734), .lit (.int .u32 506948616), .lit (.int .u32 659060556), .lit (.int .u32 883997877), .lit (.int .u32 958139571), .lit (.int .u32 1322822218), .lit (.int .u32 1537002063), .lit (.int .u32 1747873779), .lit (.int .u32 1955562222), .lit (.int .u32 2024104815), .lit (.int .u32 2227730452), .lit (.int .u32 2361852424), .lit (.int .u32 2428436474), .lit (.int .u32 2756734187), .lit (.int .u32 3204031479), .lit (.int .u32 3329325298)]

/-- 'bulletinlaw07.OnetimeDigits': WHATEVER THE INPUT: true; the input reads as it did. -/
def onetimeDigitsSpec : ChangeSpec := { name := "onetimeDigits", fn := fun _ => fun
  | [d1, d2] => { results := [.lit (.bool true)], args := [d1, d2] }
  | _ => none }
def onetimeDigitsRow : OpenClaim := { program := "ytlgkliafocbogaadoor", sum := "df4e1d2f6ace1dfb91a68f1bae99b746ca1b3da314f381f9f939ef6eda3fac1a", func := "bulletin/bulletinlaw07.OnetimeDigits", spec := "onetimeDigits", unfollowed := true, recurses := true, named := ["bulletin/sha256.constants"], apart := false, laid := [("bulletin/sha256.constants", laid_bulletin_sha256_constants)] }
def OnetimeDigitsSaid : Prop := onetimeDigitsRow.holds Tryd.pinned (OpenSpec.ofChange onetimeDigitsSpec)

/-- ITS FALSE NEIGHBOUR: 'it returns false'. Refute it at one input. -/
def onetimeDigitsWrong : ChangeSpec := { name := "onetimeDigits", fn := fun _ => fun
  | [d1, d2] => { results := [.lit (.bool false)], args := [d1, d2] }
  | _ => none }
def OnetimeDigitsWrongFalsely : Prop := onetimeDigitsRow.holds Tryd.pinned (OpenSpec.ofChange onetimeDigitsWrong)

/-- 'bulletinlaw07.OnetimeOrder': WHATEVER THE INPUT: true; the input reads as it did. -/
def onetimeOrderSpec : ChangeSpec := { name := "onetimeOrder", fn := fun _ => fun
  | [d1, d2, d3] => { results := [.lit (.bool true)], args := [d1, d2, d3] }
  | _ => none }
def onetimeOrderRow : OpenClaim := { program := "ytlgkliafocbogaadoor", sum := "df4e1d2f6ace1dfb91a68f1bae99b746ca1b3da314f381f9f939ef6eda3fac1a", func := "bulletin/bulletinlaw07.OnetimeOrder", spec := "onetimeOrder", unfollowed := true, recurses := true, named := ["bulletin/sha256.constants"], apart := false, laid := [("bulletin/sha256.constants", laid_bulletin_sha256_constants)] }
def OnetimeOrderSaid : Prop := onetimeOrderRow.holds Tryd.pinned (OpenSpec.ofChange onetimeOrderSpec)

/-- ITS FALSE NEIGHBOUR: 'it returns false'. Refute it at one input. -/
def onetimeOrderWrong : ChangeSpec := { name := "onetimeOrder", fn := fun _ => fun
  | [d1, d2, d3] => { results := [.lit (.bool false)], args := [d1, d2, d3] }
  | _ => none }
def OnetimeOrderWrongFalsely : Prop := onetimeOrderRow.holds Tryd.pinned (OpenSpec.ofChange onetimeOrderWrong)

/-- 'bulletinlaw07.OnetimeSteps': WHATEVER THE INPUT: true; the input reads as it did. -/
def onetimeStepsSpec : ChangeSpec := { name := "onetimeSteps", fn := fun _ => fun
  | [d1, d2, d3] => { results := [.lit (.bool true)], args := [d1, d2, d3] }
  | _ => none }
def onetimeStepsRow : OpenClaim := { program := "ytlgkliafocbogaadoor", sum := "df4e1d2f6ace1dfb91a68f1bae99b746ca1b3da314f381f9f939ef6eda3fac1a", func := "bulletin/bulletinlaw07.OnetimeSteps", spec := "onetimeSteps", unfollowed := true, recurses := true, named := ["bulletin/sha256.constants"], apart := false, laid := [("bulletin/sha256.constants", laid_bulletin_sha256_constants)] }
def OnetimeStepsSaid : Prop := onetimeStepsRow.holds Tryd.pinned (OpenSpec.ofChange onetimeStepsSpec)

/-- ITS FALSE NEIGHBOUR: 'it returns false'. Refute it at one input. -/
def onetimeStepsWrong : ChangeSpec := { name := "onetimeSteps", fn := fun _ => fun
  | [d1, d2, d3] => { results := [.lit (.bool false)], args := [d1, d2, d3] }
  | _ => none }
def OnetimeStepsWrongFalsely : Prop := onetimeStepsRow.holds Tryd.pinned (OpenSpec.ofChange onetimeStepsWrong)

/-- 'bulletinlaw07.OnetimeParts': WHATEVER THE INPUT: true; the input reads as it did. -/
def onetimePartsSpec : ChangeSpec := { name := "onetimeParts", fn := fun _ => fun
  | [d1, d2, d3] => { results := [.lit (.bool true)], args := [d1, d2, d3] }
  | _ => none }
def onetimePartsRow : OpenClaim := { program := "ytlgkliafocbogaadoor", sum := "df4e1d2f6ace1dfb91a68f1bae99b746ca1b3da314f381f9f939ef6eda3fac1a", func := "bulletin/bulletinlaw07.OnetimeParts", spec := "onetimeParts", unfollowed := true, recurses := true, named := ["bulletin/sha256.constants"], apart := false, laid := [("bulletin/sha256.constants", laid_bulletin_sha256_constants)] }
def OnetimePartsSaid : Prop := onetimePartsRow.holds Tryd.pinned (OpenSpec.ofChange onetimePartsSpec)

/-- ITS FALSE NEIGHBOUR: 'it returns false'. Refute it at one input. -/
def onetimePartsWrong : ChangeSpec := { name := "onetimeParts", fn := fun _ => fun
  | [d1, d2, d3] => { results := [.lit (.bool false)], args := [d1, d2, d3] }
  | _ => none }
def OnetimePartsWrongFalsely : Prop := onetimePartsRow.holds Tryd.pinned (OpenSpec.ofChange onetimePartsWrong)

/-- 'bulletinlaw07.OnetimeSecrets': WHATEVER THE INPUT: true; the input reads as it did. -/
def onetimeSecretsSpec : ChangeSpec := { name := "onetimeSecrets", fn := fun _ => fun
  | [d1, d2, d3] => { results := [.lit (.bool true)], args := [d1, d2, d3] }
  | _ => none }
def onetimeSecretsRow : OpenClaim := { program := "ytlgkliafocbogaadoor", sum := "df4e1d2f6ace1dfb91a68f1bae99b746ca1b3da314f381f9f939ef6eda3fac1a", func := "bulletin/bulletinlaw07.OnetimeSecrets", spec := "onetimeSecrets", unfollowed := true, recurses := true, named := ["bulletin/sha256.constants"], apart := false, laid := [("bulletin/sha256.constants", laid_bulletin_sha256_constants)] }
def OnetimeSecretsSaid : Prop := onetimeSecretsRow.holds Tryd.pinned (OpenSpec.ofChange onetimeSecretsSpec)

/-- ITS FALSE NEIGHBOUR: 'it returns false'. Refute it at one input. -/
def onetimeSecretsWrong : ChangeSpec := { name := "onetimeSecrets", fn := fun _ => fun
  | [d1, d2, d3] => { results := [.lit (.bool false)], args := [d1, d2, d3] }
  | _ => none }
def OnetimeSecretsWrongFalsely : Prop := onetimeSecretsRow.holds Tryd.pinned (OpenSpec.ofChange onetimeSecretsWrong)

/-- 'bulletinlaw07.OnetimePublic': WHATEVER THE INPUT: true; the input reads as it did. -/
def onetimePublicSpec : ChangeSpec := { name := "onetimePublic", fn := fun _ => fun
  | [d1, d2] => { results := [.lit (.bool true)], args := [d1, d2] }
  | _ => none }
def onetimePublicRow : OpenClaim := { program := "ytlgkliafocbogaadoor", sum := "df4e1d2f6ace1dfb91a68f1bae99b746ca1b3da314f381f9f939ef6eda3fac1a", func := "bulletin/bulletinlaw07.OnetimePublic", spec := "onetimePublic", unfollowed := true, recurses := true, named := ["bulletin/sha256.constants"], apart := false, laid := [("bulletin/sha256.constants", laid_bulletin_sha256_constants)] }
def OnetimePublicSaid : Prop := onetimePublicRow.holds Tryd.pinned (OpenSpec.ofChange onetimePublicSpec)

/-- ITS FALSE NEIGHBOUR: 'it returns false'. Refute it at one input. -/
def onetimePublicWrong : ChangeSpec := { name := "onetimePublic", fn := fun _ => fun
  | [d1, d2] => { results := [.lit (.bool false)], args := [d1, d2] }
  | _ => none }
def OnetimePublicWrongFalsely : Prop := onetimePublicRow.holds Tryd.pinned (OpenSpec.ofChange onetimePublicWrong)

/-- 'bulletinlaw07.OnetimeRecovers': WHATEVER THE INPUT: true; the input reads as it did. -/
def onetimeRecoversSpec : ChangeSpec := { name := "onetimeRecovers", fn := fun _ => fun
  | [d1, d2, d3] => { results := [.lit (.bool true)], args := [d1, d2, d3] }
  | _ => none }
def onetimeRecoversRow : OpenClaim := { program := "ytlgkliafocbogaadoor", sum := "df4e1d2f6ace1dfb91a68f1bae99b746ca1b3da314f381f9f939ef6eda3fac1a", func := "bulletin/bulletinlaw07.OnetimeRecovers", spec := "onetimeRecovers", unfollowed := true, recurses := true, named := ["bulletin/sha256.constants"], apart := false, laid := [("bulletin/sha256.constants", laid_bulletin_sha256_constants)] }
def OnetimeRecoversSaid : Prop := onetimeRecoversRow.holds Tryd.pinned (OpenSpec.ofChange onetimeRecoversSpec)

/-- ITS FALSE NEIGHBOUR: 'it returns false'. Refute it at one input. -/
def onetimeRecoversWrong : ChangeSpec := { name := "onetimeRecovers", fn := fun _ => fun
  | [d1, d2, d3] => { results := [.lit (.bool false)], args := [d1, d2, d3] }
  | _ => none }
def OnetimeRecoversWrongFalsely : Prop := onetimeRecoversRow.holds Tryd.pinned (OpenSpec.ofChange onetimeRecoversWrong)

/-- 'bulletinlaw07.OnetimeChecks': WHATEVER THE INPUT: true; the input reads as it did. -/
def onetimeChecksSpec : ChangeSpec := { name := "onetimeChecks", fn := fun _ => fun
  | [d1, d2, d3] => { results := [.lit (.bool true)], args := [d1, d2, d3] }
  | _ => none }
def onetimeChecksRow : OpenClaim := { program := "ytlgkliafocbogaadoor", sum := "df4e1d2f6ace1dfb91a68f1bae99b746ca1b3da314f381f9f939ef6eda3fac1a", func := "bulletin/bulletinlaw07.OnetimeChecks", spec := "onetimeChecks", unfollowed := true, recurses := true, named := ["bulletin/sha256.constants"], apart := false, laid := [("bulletin/sha256.constants", laid_bulletin_sha256_constants)] }
def OnetimeChecksSaid : Prop := onetimeChecksRow.holds Tryd.pinned (OpenSpec.ofChange onetimeChecksSpec)

/-- ITS FALSE NEIGHBOUR: 'it returns false'. Refute it at one input. -/
def onetimeChecksWrong : ChangeSpec := { name := "onetimeChecks", fn := fun _ => fun
  | [d1, d2, d3] => { results := [.lit (.bool false)], args := [d1, d2, d3] }
  | _ => none }
def OnetimeChecksWrongFalsely : Prop := onetimeChecksRow.holds Tryd.pinned (OpenSpec.ofChange onetimeChecksWrong)

/-- 'bulletinlaw07.OnetimeSigns': WHATEVER THE INPUT: true; the input reads as it did. -/
def onetimeSignsSpec : ChangeSpec := { name := "onetimeSigns", fn := fun _ => fun
  | [d1, d2, d3] => { results := [.lit (.bool true)], args := [d1, d2, d3] }
  | _ => none }
def onetimeSignsRow : OpenClaim := { program := "ytlgkliafocbogaadoor", sum := "df4e1d2f6ace1dfb91a68f1bae99b746ca1b3da314f381f9f939ef6eda3fac1a", func := "bulletin/bulletinlaw07.OnetimeSigns", spec := "onetimeSigns", unfollowed := true, recurses := true, named := ["bulletin/sha256.constants"], apart := false, laid := [("bulletin/sha256.constants", laid_bulletin_sha256_constants)] }
def OnetimeSignsSaid : Prop := onetimeSignsRow.holds Tryd.pinned (OpenSpec.ofChange onetimeSignsSpec)

/-- ITS FALSE NEIGHBOUR: 'it returns false'. Refute it at one input. -/
def onetimeSignsWrong : ChangeSpec := { name := "onetimeSigns", fn := fun _ => fun
  | [d1, d2, d3] => { results := [.lit (.bool false)], args := [d1, d2, d3] }
  | _ => none }
def OnetimeSignsWrongFalsely : Prop := onetimeSignsRow.holds Tryd.pinned (OpenSpec.ofChange onetimeSignsWrong)

/- THE SECOND FORM. 'bulk': how many values and letters a reading holds, each counted each time it is reached (what is shared counts as often as it is met; a slice's spare places count too). A statement '..UptoSaid' is the law's where the arguments, and the package variables that the reading takes, are together of bulk at most 1048576: NARROWER than '..Said'. Prove '..Said' where nothing that the law and all that it calls make is longer than what came in: it says more and counts as full. Else prove '..UptoSaid'. A law counts once. -/
mutual
def uptoBulk {H : Type} : DataW H → Nat
  | .lit (.string bytes) => bytes.length + 1
  | .lit _ => 1
  | .nil => 1
  | .ptr d => uptoBulk d + 1
  | .slice elems spare => uptoBulkAll elems + uptoBulkAll spare + 1
  | .agg parts => uptoBulkAll parts + 1
  | .iface _ d => uptoBulk d + 1
  | .map entries => uptoBulkEntries entries + 1
  | .held _ => 1
def uptoBulkAll {H : Type} : List (DataW H) → Nat
  | [] => 0
  | d :: r => uptoBulk d + uptoBulkAll r
def uptoBulkEntries {H : Type} : List (Lit × DataW H) → Nat
  | [] => 0
  | x :: r => uptoBulkEntry x + uptoBulkEntries r
def uptoBulkEntry {H : Type} : Lit × DataW H → Nat
  | (.string bytes, d) => bytes.length + uptoBulk d + 1
  | (_, d) => uptoBulk d + 1
 end
def uptoSmall : (H : Type) → List (DataW H) → Bool := fun _ ds => decide (uptoBulkAll ds ≤ 1048576)
def OpenSpec.upto (s : _root_.Go.ChangeSpec) : _root_.Go.OpenSpec := { _root_.Go.OpenSpec.ofChange s with cond := some uptoSmall }

/-- 'bulletinlaw07.OnetimeDigits', WHERE WHAT IT READS IS OF BULK AT MOST 1048576: true; the input reads as it did. -/
def onetimeDigitsUptoRow : OpenClaim := { program := "ytlgkliafocbogaadoor", sum := "df4e1d2f6ace1dfb91a68f1bae99b746ca1b3da314f381f9f939ef6eda3fac1a", func := "bulletin/bulletinlaw07.OnetimeDigits", spec := "onetimeDigits", unfollowed := true, recurses := true, named := ["bulletin/sha256.constants"], apart := false, laid := [("bulletin/sha256.constants", laid_bulletin_sha256_constants)], narrowed := true }
def OnetimeDigitsUptoSaid : Prop := onetimeDigitsUptoRow.holds Tryd.pinned (OpenSpec.upto onetimeDigitsSpec)

/-- 'bulletinlaw07.OnetimeOrder', WHERE WHAT IT READS IS OF BULK AT MOST 1048576: true; the input reads as it did. -/
def onetimeOrderUptoRow : OpenClaim := { program := "ytlgkliafocbogaadoor", sum := "df4e1d2f6ace1dfb91a68f1bae99b746ca1b3da314f381f9f939ef6eda3fac1a", func := "bulletin/bulletinlaw07.OnetimeOrder", spec := "onetimeOrder", unfollowed := true, recurses := true, named := ["bulletin/sha256.constants"], apart := false, laid := [("bulletin/sha256.constants", laid_bulletin_sha256_constants)], narrowed := true }
def OnetimeOrderUptoSaid : Prop := onetimeOrderUptoRow.holds Tryd.pinned (OpenSpec.upto onetimeOrderSpec)

/-- 'bulletinlaw07.OnetimeSteps', WHERE WHAT IT READS IS OF BULK AT MOST 1048576: true; the input reads as it did. -/
def onetimeStepsUptoRow : OpenClaim := { program := "ytlgkliafocbogaadoor", sum := "df4e1d2f6ace1dfb91a68f1bae99b746ca1b3da314f381f9f939ef6eda3fac1a", func := "bulletin/bulletinlaw07.OnetimeSteps", spec := "onetimeSteps", unfollowed := true, recurses := true, named := ["bulletin/sha256.constants"], apart := false, laid := [("bulletin/sha256.constants", laid_bulletin_sha256_constants)], narrowed := true }
def OnetimeStepsUptoSaid : Prop := onetimeStepsUptoRow.holds Tryd.pinned (OpenSpec.upto onetimeStepsSpec)

/-- 'bulletinlaw07.OnetimeParts', WHERE WHAT IT READS IS OF BULK AT MOST 1048576: true; the input reads as it did. -/
def onetimePartsUptoRow : OpenClaim := { program := "ytlgkliafocbogaadoor", sum := "df4e1d2f6ace1dfb91a68f1bae99b746ca1b3da314f381f9f939ef6eda3fac1a", func := "bulletin/bulletinlaw07.OnetimeParts", spec := "onetimeParts", unfollowed := true, recurses := true, named := ["bulletin/sha256.constants"], apart := false, laid := [("bulletin/sha256.constants", laid_bulletin_sha256_constants)], narrowed := true }
def OnetimePartsUptoSaid : Prop := onetimePartsUptoRow.holds Tryd.pinned (OpenSpec.upto onetimePartsSpec)

/-- 'bulletinlaw07.OnetimeSecrets', WHERE WHAT IT READS IS OF BULK AT MOST 1048576: true; the input reads as it did. -/
def onetimeSecretsUptoRow : OpenClaim := { program := "ytlgkliafocbogaadoor", sum := "df4e1d2f6ace1dfb91a68f1bae99b746ca1b3da314f381f9f939ef6eda3fac1a", func := "bulletin/bulletinlaw07.OnetimeSecrets", spec := "onetimeSecrets", unfollowed := true, recurses := true, named := ["bulletin/sha256.constants"], apart := false, laid := [("bulletin/sha256.constants", laid_bulletin_sha256_constants)], narrowed := true }
def OnetimeSecretsUptoSaid : Prop := onetimeSecretsUptoRow.holds Tryd.pinned (OpenSpec.upto onetimeSecretsSpec)

/-- 'bulletinlaw07.OnetimePublic', WHERE WHAT IT READS IS OF BULK AT MOST 1048576: true; the input reads as it did. -/
def onetimePublicUptoRow : OpenClaim := { program := "ytlgkliafocbogaadoor", sum := "df4e1d2f6ace1dfb91a68f1bae99b746ca1b3da314f381f9f939ef6eda3fac1a", func := "bulletin/bulletinlaw07.OnetimePublic", spec := "onetimePublic", unfollowed := true, recurses := true, named := ["bulletin/sha256.constants"], apart := false, laid := [("bulletin/sha256.constants", laid_bulletin_sha256_constants)], narrowed := true }
def OnetimePublicUptoSaid : Prop := onetimePublicUptoRow.holds Tryd.pinned (OpenSpec.upto onetimePublicSpec)

/-- 'bulletinlaw07.OnetimeRecovers', WHERE WHAT IT READS IS OF BULK AT MOST 1048576: true; the input reads as it did. -/
def onetimeRecoversUptoRow : OpenClaim := { program := "ytlgkliafocbogaadoor", sum := "df4e1d2f6ace1dfb91a68f1bae99b746ca1b3da314f381f9f939ef6eda3fac1a", func := "bulletin/bulletinlaw07.OnetimeRecovers", spec := "onetimeRecovers", unfollowed := true, recurses := true, named := ["bulletin/sha256.constants"], apart := false, laid := [("bulletin/sha256.constants", laid_bulletin_sha256_constants)], narrowed := true }
def OnetimeRecoversUptoSaid : Prop := onetimeRecoversUptoRow.holds Tryd.pinned (OpenSpec.upto onetimeRecoversSpec)

/-- 'bulletinlaw07.OnetimeChecks', WHERE WHAT IT READS IS OF BULK AT MOST 1048576: true; the input reads as it did. -/
def onetimeChecksUptoRow : OpenClaim := { program := "ytlgkliafocbogaadoor", sum := "df4e1d2f6ace1dfb91a68f1bae99b746ca1b3da314f381f9f939ef6eda3fac1a", func := "bulletin/bulletinlaw07.OnetimeChecks", spec := "onetimeChecks", unfollowed := true, recurses := true, named := ["bulletin/sha256.constants"], apart := false, laid := [("bulletin/sha256.constants", laid_bulletin_sha256_constants)], narrowed := true }
def OnetimeChecksUptoSaid : Prop := onetimeChecksUptoRow.holds Tryd.pinned (OpenSpec.upto onetimeChecksSpec)

/-- 'bulletinlaw07.OnetimeSigns', WHERE WHAT IT READS IS OF BULK AT MOST 1048576: true; the input reads as it did. -/
def onetimeSignsUptoRow : OpenClaim := { program := "ytlgkliafocbogaadoor", sum := "df4e1d2f6ace1dfb91a68f1bae99b746ca1b3da314f381f9f939ef6eda3fac1a", func := "bulletin/bulletinlaw07.OnetimeSigns", spec := "onetimeSigns", unfollowed := true, recurses := true, named := ["bulletin/sha256.constants"], apart := false, laid := [("bulletin/sha256.constants", laid_bulletin_sha256_constants)], narrowed := true }
def OnetimeSignsUptoSaid : Prop := onetimeSignsUptoRow.holds Tryd.pinned (OpenSpec.upto onetimeSignsSpec)

end Rows
end Go.Proofs.YtlgkliafocbogaaDoor
