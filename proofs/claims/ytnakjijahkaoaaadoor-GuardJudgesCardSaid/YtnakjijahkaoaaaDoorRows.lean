/-
  NARROWER THAN 'FOR EVERY INPUT', by the rows' own cells (each row's printed sentence says how): ProofMakes: laid · ProofRows: laid · ProofKeys: laid · ProofSets: laid · GuardEchoes: laid · GuardLinks: laid · GuardJudges: laid · GuardSecrets: laid.
  DERIVED. THE GIVEN ROWS OF THIS SEAT. 8 by the template 'for every input the law returns true; each argument reads behind the call as it read before'; 0 by the template 'total and deterministic' (their statements: YtnakjijahkaoaaaDoorTotals.lean).
  GIVEN WITH THE SEED: the statements are not yours to turn. If you find one false, say at which input.
  Laid BY PROGRAM, IN A SANDBOX (cutbox-rows.mjs): the forced cells as the released guide's own fill.sh prints them over the translation 6e81bdb06b413972… (all of the seat's roots in one cut). By AI agents, Wed Nov 11 2026. No macro, syntax, notation, axiom, sorry.
-/
import Derived.Test.YtnakjijahkaoaaaDoorChecked
import GoSem.Claim
import GoSem.ClaimJoined
import GoSem.ClaimMapViews
import Derived.JoinedTies
import Derived.KernelRfl
namespace Go.Proofs.YtnakjijahkaoaaaDoor
/- THE CELL 'sum', in the pinned program and in every row, IS THE sha256 OF THE DUMP (.gsa) THAT YtnakjijahkaoaaaDoorProg.lean LOADS. Nothing in Lean hashes anything: it is a label: what it is worth is what the hold of that sum in a sandbox is worth. -/
noncomputable def Tryd.pinned : Pinned := { name := "ytnakjijahkaoaaadoor", sum := "6e81bdb06b4139728dcb52cf86a59c298c1ba07ca22484ea97995e021df48972", checked := Tryd.checked }
namespace Rows
def none {H : Type} : Left H := { results := [], args := [] }

/- WHAT THE LISTED PACKAGE-LEVEL VARIABLES READ AS WHEN THE CALL BEGINS. Each datum BY PROGRAM (the guide's laid-datum.mjs) off the statement by which the dump's own 'gosem.cut.vars' lays the variable. In a bare row this is a premise. The card (YtnakjijahkaoaaaDoorCards.lean) ties it to the program's text. -/
def laid_posthouse_digest_keys {H : Type} : DataW H := .agg [.lit (.int .u32 1116352408), .lit (.int .u32 1899447441), .lit (.int .u32 3049323471), .lit (.int .u32 3921009573), .lit (.int .u32 961987163), .lit (.int .u32 1508970993), .lit (.int .u32 2453635748), .lit (.int .u32 2870763221), .lit (.int .u32 3624381080), .lit (.int .u32 310598401), .lit (.int .u32 607225278), .lit (.int .u32 1426881987), .lit (.int .u32 1925078388), .lit (.int .u32 2162078206), .lit (.int .u32 2614888103), .lit (.int .u32 3248222580), .lit (.int .u32 3835390401), .lit (.int .u32 4022224774), .lit (.int .u32 264347078), .lit (.int .u32 604807628), .lit (.int .u32 770255983), .lit (.int .u32 1249150122), .lit (.int .u32 1555081692), .lit (.int .u32 1996064986), .lit (.int .u32 2554220882), .lit (.int .u32 2821834349), .lit (.int .u32 2952996808), .lit (.int .u32 3210313671), .lit (.int .u32 3336571891), .lit (.int .u32 3584528711), .lit (.int .u32 113926993), .lit (.int .u32 338241895), .lit (.int .u32 666307205), .lit (.int .u32 773529912), .lit (.int .u32 1294757372), .lit (.int .u32 1396182291), .lit (.int .u32 1695183700), .lit (.int .u32 1986661051), .lit (.int .u32 2177026350), .lit (.int .u32 2456956037), .lit (.int .u32 2730485921), .lit (.int .u32 2820302411), .lit (.int .u32 3259730800), .lit (.int .u32 3345764771), .lit (.int .u32 3516065817), .lit (.int .u32 3600352804), .lit (.int .u32 4094571909), .lit (.int .u32 275423344), .lit (.int .u32 430227734), .lit (.int .u32 506948616), .lit (.int .u32 659060556), .lit (.int .u32 883997877), .lit (.int .u32 958139571), .lit (.int .u32 1322822218), .lit (.int .u32 1537002063), .lit (.int .u32 1747873779), .lit (.int .u32 1955562222), .lit (.int .u32 2024104815), .lit (.int .u32 2227730452), .lit (.int .u32 2361852424), .lit (.int .u32 2428436474), .lit (.int .u32 2756734187), .lit (.int .u32 3204031479), .lit (.int .u32 3329325298)]

/-- 'posthouselaw03.ProofMakes': WHATEVER THE INPUT: true; the input reads as it did. -/
def proofMakesSpec : ChangeSpec := { name := "proofMakes", fn := fun _ => fun
  | [d1, d2, d3, d4] => { results := [.lit (.bool true)], args := [d1, d2, d3, d4] }
  | _ => none }
def proofMakesRow : OpenClaim := { program := "ytnakjijahkaoaaadoor", sum := "6e81bdb06b4139728dcb52cf86a59c298c1ba07ca22484ea97995e021df48972", func := "posthouse/posthouselaw03.ProofMakes", spec := "proofMakes", inPlace := ["internal/abi.NoEscape", "internal/bytealg.MakeNoZero"], unfollowed := true, recurses := true, named := ["posthouse/digest.keys"], plainKeys := false, apart := false, laid := [("posthouse/digest.keys", laid_posthouse_digest_keys)] }
def ProofMakesSaid : Prop := proofMakesRow.holds Tryd.pinned (OpenSpec.ofChange proofMakesSpec)

/-- ITS FALSE NEIGHBOUR: 'it returns false'. Refute it at one input. -/
def proofMakesWrong : ChangeSpec := { name := "proofMakes", fn := fun _ => fun
  | [d1, d2, d3, d4] => { results := [.lit (.bool false)], args := [d1, d2, d3, d4] }
  | _ => none }
def ProofMakesWrongFalsely : Prop := proofMakesRow.holds Tryd.pinned (OpenSpec.ofChange proofMakesWrong)

/-- 'posthouselaw03.ProofRows': WHATEVER THE INPUT: true; the input reads as it did. -/
def proofRowsSpec : ChangeSpec := { name := "proofRows", fn := fun _ => fun
  | [d] => { results := [.lit (.bool true)], args := [d] }
  | _ => none }
def proofRowsRow : OpenClaim := { program := "ytnakjijahkaoaaadoor", sum := "6e81bdb06b4139728dcb52cf86a59c298c1ba07ca22484ea97995e021df48972", func := "posthouse/posthouselaw03.ProofRows", spec := "proofRows", inPlace := ["internal/abi.NoEscape", "internal/bytealg.MakeNoZero"], unfollowed := true, recurses := true, named := ["posthouse/digest.keys"], plainKeys := false, apart := false, laid := [("posthouse/digest.keys", laid_posthouse_digest_keys)] }
def ProofRowsSaid : Prop := proofRowsRow.holds Tryd.pinned (OpenSpec.ofChange proofRowsSpec)

/-- ITS FALSE NEIGHBOUR: 'it returns false'. Refute it at one input. -/
def proofRowsWrong : ChangeSpec := { name := "proofRows", fn := fun _ => fun
  | [d] => { results := [.lit (.bool false)], args := [d] }
  | _ => none }
def ProofRowsWrongFalsely : Prop := proofRowsRow.holds Tryd.pinned (OpenSpec.ofChange proofRowsWrong)

/-- 'posthouselaw03.ProofKeys': WHATEVER THE INPUT: true; the input reads as it did. -/
def proofKeysSpec : ChangeSpec := { name := "proofKeys", fn := fun _ => fun
  | [d1, d2, d3, d4] => { results := [.lit (.bool true)], args := [d1, d2, d3, d4] }
  | _ => none }
def proofKeysRow : OpenClaim := { program := "ytnakjijahkaoaaadoor", sum := "6e81bdb06b4139728dcb52cf86a59c298c1ba07ca22484ea97995e021df48972", func := "posthouse/posthouselaw03.ProofKeys", spec := "proofKeys", inPlace := ["internal/abi.NoEscape", "internal/bytealg.MakeNoZero"], unfollowed := true, recurses := true, named := ["posthouse/digest.keys"], plainKeys := false, apart := false, laid := [("posthouse/digest.keys", laid_posthouse_digest_keys)] }
def ProofKeysSaid : Prop := proofKeysRow.holds Tryd.pinned (OpenSpec.ofChange proofKeysSpec)

/-- ITS FALSE NEIGHBOUR: 'it returns false'. Refute it at one input. -/
def proofKeysWrong : ChangeSpec := { name := "proofKeys", fn := fun _ => fun
  | [d1, d2, d3, d4] => { results := [.lit (.bool false)], args := [d1, d2, d3, d4] }
  | _ => none }
def ProofKeysWrongFalsely : Prop := proofKeysRow.holds Tryd.pinned (OpenSpec.ofChange proofKeysWrong)

/-- 'posthouselaw03.ProofSets': WHATEVER THE INPUT: true; the input reads as it did. -/
def proofSetsSpec : ChangeSpec := { name := "proofSets", fn := fun _ => fun
  | [d1, d2] => { results := [.lit (.bool true)], args := [d1, d2] }
  | _ => none }
def proofSetsRow : OpenClaim := { program := "ytnakjijahkaoaaadoor", sum := "6e81bdb06b4139728dcb52cf86a59c298c1ba07ca22484ea97995e021df48972", func := "posthouse/posthouselaw03.ProofSets", spec := "proofSets", inPlace := ["internal/abi.NoEscape", "internal/bytealg.MakeNoZero"], unfollowed := true, recurses := true, named := ["posthouse/digest.keys"], plainKeys := false, apart := false, laid := [("posthouse/digest.keys", laid_posthouse_digest_keys)] }
def ProofSetsSaid : Prop := proofSetsRow.holds Tryd.pinned (OpenSpec.ofChange proofSetsSpec)

/-- ITS FALSE NEIGHBOUR: 'it returns false'. Refute it at one input. -/
def proofSetsWrong : ChangeSpec := { name := "proofSets", fn := fun _ => fun
  | [d1, d2] => { results := [.lit (.bool false)], args := [d1, d2] }
  | _ => none }
def ProofSetsWrongFalsely : Prop := proofSetsRow.holds Tryd.pinned (OpenSpec.ofChange proofSetsWrong)

/-- 'posthouselaw15.GuardEchoes': WHATEVER THE INPUT: true; the input reads as it did. -/
def guardEchoesSpec : ChangeSpec := { name := "guardEchoes", fn := fun _ => fun
  | [d1, d2, d3] => { results := [.lit (.bool true)], args := [d1, d2, d3] }
  | _ => none }
def guardEchoesRow : OpenClaim := { program := "ytnakjijahkaoaaadoor", sum := "6e81bdb06b4139728dcb52cf86a59c298c1ba07ca22484ea97995e021df48972", func := "posthouse/posthouselaw15.GuardEchoes", spec := "guardEchoes", inPlace := ["internal/abi.NoEscape", "internal/bytealg.MakeNoZero"], unfollowed := true, recurses := true, named := ["posthouse/digest.keys"], plainKeys := false, apart := false, laid := [("posthouse/digest.keys", laid_posthouse_digest_keys)] }
def GuardEchoesSaid : Prop := guardEchoesRow.holds Tryd.pinned (OpenSpec.ofChange guardEchoesSpec)

/-- ITS FALSE NEIGHBOUR: 'it returns false'. Refute it at one input. -/
def guardEchoesWrong : ChangeSpec := { name := "guardEchoes", fn := fun _ => fun
  | [d1, d2, d3] => { results := [.lit (.bool false)], args := [d1, d2, d3] }
  | _ => none }
def GuardEchoesWrongFalsely : Prop := guardEchoesRow.holds Tryd.pinned (OpenSpec.ofChange guardEchoesWrong)

/-- 'posthouselaw15.GuardLinks': WHATEVER THE INPUT: true; the input reads as it did. -/
def guardLinksSpec : ChangeSpec := { name := "guardLinks", fn := fun _ => fun
  | [d1, d2, d3, d4, d5] => { results := [.lit (.bool true)], args := [d1, d2, d3, d4, d5] }
  | _ => none }
def guardLinksRow : OpenClaim := { program := "ytnakjijahkaoaaadoor", sum := "6e81bdb06b4139728dcb52cf86a59c298c1ba07ca22484ea97995e021df48972", func := "posthouse/posthouselaw15.GuardLinks", spec := "guardLinks", inPlace := ["internal/abi.NoEscape", "internal/bytealg.MakeNoZero"], unfollowed := true, recurses := true, named := ["posthouse/digest.keys"], plainKeys := false, apart := false, laid := [("posthouse/digest.keys", laid_posthouse_digest_keys)] }
def GuardLinksSaid : Prop := guardLinksRow.holds Tryd.pinned (OpenSpec.ofChange guardLinksSpec)

/-- ITS FALSE NEIGHBOUR: 'it returns false'. Refute it at one input. -/
def guardLinksWrong : ChangeSpec := { name := "guardLinks", fn := fun _ => fun
  | [d1, d2, d3, d4, d5] => { results := [.lit (.bool false)], args := [d1, d2, d3, d4, d5] }
  | _ => none }
def GuardLinksWrongFalsely : Prop := guardLinksRow.holds Tryd.pinned (OpenSpec.ofChange guardLinksWrong)

/-- 'posthouselaw15.GuardJudges': WHATEVER THE INPUT: true; the input reads as it did. -/
def guardJudgesSpec : ChangeSpec := { name := "guardJudges", fn := fun _ => fun
  | [d1, d2, d3] => { results := [.lit (.bool true)], args := [d1, d2, d3] }
  | _ => none }
def guardJudgesRow : OpenClaim := { program := "ytnakjijahkaoaaadoor", sum := "6e81bdb06b4139728dcb52cf86a59c298c1ba07ca22484ea97995e021df48972", func := "posthouse/posthouselaw15.GuardJudges", spec := "guardJudges", inPlace := ["internal/abi.NoEscape", "internal/bytealg.MakeNoZero"], unfollowed := true, recurses := true, named := ["posthouse/digest.keys"], plainKeys := false, apart := false, laid := [("posthouse/digest.keys", laid_posthouse_digest_keys)] }
def GuardJudgesSaid : Prop := guardJudgesRow.holds Tryd.pinned (OpenSpec.ofChange guardJudgesSpec)

/-- ITS FALSE NEIGHBOUR: 'it returns false'. Refute it at one input. -/
def guardJudgesWrong : ChangeSpec := { name := "guardJudges", fn := fun _ => fun
  | [d1, d2, d3] => { results := [.lit (.bool false)], args := [d1, d2, d3] }
  | _ => none }
def GuardJudgesWrongFalsely : Prop := guardJudgesRow.holds Tryd.pinned (OpenSpec.ofChange guardJudgesWrong)

/-- 'posthouselaw15.GuardSecrets': WHATEVER THE INPUT: true; the input reads as it did. -/
def guardSecretsSpec : ChangeSpec := { name := "guardSecrets", fn := fun _ => fun
  | [d1, d2, d3, d4, d5, d6] => { results := [.lit (.bool true)], args := [d1, d2, d3, d4, d5, d6] }
  | _ => none }
def guardSecretsRow : OpenClaim := { program := "ytnakjijahkaoaaadoor", sum := "6e81bdb06b4139728dcb52cf86a59c298c1ba07ca22484ea97995e021df48972", func := "posthouse/posthouselaw15.GuardSecrets", spec := "guardSecrets", inPlace := ["internal/abi.NoEscape", "internal/bytealg.MakeNoZero"], unfollowed := true, recurses := true, named := ["posthouse/digest.keys"], plainKeys := false, apart := false, laid := [("posthouse/digest.keys", laid_posthouse_digest_keys)] }
def GuardSecretsSaid : Prop := guardSecretsRow.holds Tryd.pinned (OpenSpec.ofChange guardSecretsSpec)

/-- ITS FALSE NEIGHBOUR: 'it returns false'. Refute it at one input. -/
def guardSecretsWrong : ChangeSpec := { name := "guardSecrets", fn := fun _ => fun
  | [d1, d2, d3, d4, d5, d6] => { results := [.lit (.bool false)], args := [d1, d2, d3, d4, d5, d6] }
  | _ => none }
def GuardSecretsWrongFalsely : Prop := guardSecretsRow.holds Tryd.pinned (OpenSpec.ofChange guardSecretsWrong)

/- THE SECOND FORM. 'bulk': how many values and letters a reading holds, each counted each time it is reached (what is shared counts as often as it is met; a slice's spare places count too). A statement '..UptoSaid' is the law's where the arguments, and the package variables that the reading takes, are together of bulk at most 1048576: NARROWER than '..Said'. Prove '..Said' where nothing that the law and all that it calls make is longer than what came in: it says more and counts as full. Else prove '..UptoSaid'. A law counts once. -/
mutual
def uptoBulk {H : Type} : DataW H → Nat
  | .lit (.string bytes) => bytes.length + 1
  | .lit _ => 1
  | .nil => 1
  | .ptr d => uptoBulk d + 1
  | .slice elems spare => uptoBulkAll elems + uptoBulkAll spare + 1
  | .agg parts => uptoBulkAll parts + 1
  | .iface _ d => uptoBulk d + 1
  | .map entries => uptoBulkEntries entries + 1
  | .held _ => 1
def uptoBulkAll {H : Type} : List (DataW H) → Nat
  | [] => 0
  | d :: r => uptoBulk d + uptoBulkAll r
def uptoBulkEntries {H : Type} : List (Lit × DataW H) → Nat
  | [] => 0
  | x :: r => uptoBulkEntry x + uptoBulkEntries r
def uptoBulkEntry {H : Type} : Lit × DataW H → Nat
  | (.string bytes, d) => bytes.length + uptoBulk d + 1
  | (_, d) => uptoBulk d + 1
 end
def uptoSmall : (H : Type) → List (DataW H) → Bool := fun _ ds => decide (uptoBulkAll ds ≤ 1048576)
def OpenSpec.upto (s : _root_.Go.ChangeSpec) : _root_.Go.OpenSpec := { _root_.Go.OpenSpec.ofChange s with cond := some uptoSmall }

/-- 'posthouselaw03.ProofMakes', WHERE WHAT IT READS IS OF BULK AT MOST 1048576: true; the input reads as it did. -/
def proofMakesUptoRow : OpenClaim := { program := "ytnakjijahkaoaaadoor", sum := "6e81bdb06b4139728dcb52cf86a59c298c1ba07ca22484ea97995e021df48972", func := "posthouse/posthouselaw03.ProofMakes", spec := "proofMakes", inPlace := ["internal/abi.NoEscape", "internal/bytealg.MakeNoZero"], unfollowed := true, recurses := true, named := ["posthouse/digest.keys"], plainKeys := false, apart := false, laid := [("posthouse/digest.keys", laid_posthouse_digest_keys)], narrowed := true }
def ProofMakesUptoSaid : Prop := proofMakesUptoRow.holds Tryd.pinned (OpenSpec.upto proofMakesSpec)

/-- 'posthouselaw03.ProofRows', WHERE WHAT IT READS IS OF BULK AT MOST 1048576: true; the input reads as it did. -/
def proofRowsUptoRow : OpenClaim := { program := "ytnakjijahkaoaaadoor", sum := "6e81bdb06b4139728dcb52cf86a59c298c1ba07ca22484ea97995e021df48972", func := "posthouse/posthouselaw03.ProofRows", spec := "proofRows", inPlace := ["internal/abi.NoEscape", "internal/bytealg.MakeNoZero"], unfollowed := true, recurses := true, named := ["posthouse/digest.keys"], plainKeys := false, apart := false, laid := [("posthouse/digest.keys", laid_posthouse_digest_keys)], narrowed := true }
def ProofRowsUptoSaid : Prop := proofRowsUptoRow.holds Tryd.pinned (OpenSpec.upto proofRowsSpec)

/-- 'posthouselaw03.ProofKeys', WHERE WHAT IT READS IS OF BULK AT MOST 1048576: true; the input reads as it did. -/
def proofKeysUptoRow : OpenClaim := { program := "ytnakjijahkaoaaadoor", sum := "6e81bdb06b4139728dcb52cf86a59c298c1ba07ca22484ea97995e021df48972", func := "posthouse/posthouselaw03.ProofKeys", spec := "proofKeys", inPlace := ["internal/abi.NoEscape", "internal/bytealg.MakeNoZero"], unfollowed := true, recurses := true, named := ["posthouse/digest.keys"], plainKeys := false, apart := false, laid := [("posthouse/digest.keys", laid_posthouse_digest_keys)], narrowed := true }
def ProofKeysUptoSaid : Prop := proofKeysUptoRow.holds Tryd.pinned (OpenSpec.upto proofKeysSpec)

/-- 'posthouselaw03.ProofSets', WHERE WHAT IT READS IS OF BULK AT MOST 1048576: true; the input reads as it did. -/
def proofSetsUptoRow : OpenClaim := { program := "ytnakjijahkaoaaadoor", sum := "6e81bdb06b4139728dcb52cf86a59c298c1ba07ca22484ea97995e021df48972", func := "posthouse/posthouselaw03.ProofSets", spec := "proofSets", inPlace := ["internal/abi.NoEscape", "internal/bytealg.MakeNoZero"], unfollowed := true, recurses := true, named := ["posthouse/digest.keys"], plainKeys := false, apart := false, laid := [("posthouse/digest.keys", laid_posthouse_digest_keys)], narrowed := true }
def ProofSetsUptoSaid : Prop := proofSetsUptoRow.holds Tryd.pinned (OpenSpec.upto proofSetsSpec)

/-- 'posthouselaw15.GuardEchoes', WHERE WHAT IT READS IS OF BULK AT MOST 1048576: true; the input reads as it did. -/
def guardEchoesUptoRow : OpenClaim := { program := "ytnakjijahkaoaaadoor", sum := "6e81bdb06b4139728dcb52cf86a59c298c1ba07ca22484ea97995e021df48972", func := "posthouse/posthouselaw15.GuardEchoes", spec := "guardEchoes", inPlace := ["internal/abi.NoEscape", "internal/bytealg.MakeNoZero"], unfollowed := true, recurses := true, named := ["posthouse/digest.keys"], plainKeys := false, apart := false, laid := [("posthouse/digest.keys", laid_posthouse_digest_keys)], narrowed := true }
def GuardEchoesUptoSaid : Prop := guardEchoesUptoRow.holds Tryd.pinned (OpenSpec.upto guardEchoesSpec)

/-- 'posthouselaw15.GuardLinks', WHERE WHAT IT READS IS OF BULK AT MOST 1048576: true; the input reads as it did. -/
def guardLinksUptoRow : OpenClaim := { program := "ytnakjijahkaoaaadoor", sum := "6e81bdb06b4139728dcb52cf86a59c298c1ba07ca22484ea97995e021df48972", func := "posthouse/posthouselaw15.GuardLinks", spec := "guardLinks", inPlace := ["internal/abi.NoEscape", "internal/bytealg.MakeNoZero"], unfollowed := true, recurses := true, named := ["posthouse/digest.keys"], plainKeys := false, apart := false, laid := [("posthouse/digest.keys", laid_posthouse_digest_keys)], narrowed := true }
def GuardLinksUptoSaid : Prop := guardLinksUptoRow.holds Tryd.pinned (OpenSpec.upto guardLinksSpec)

/-- 'posthouselaw15.GuardJudges', WHERE WHAT IT READS IS OF BULK AT MOST 1048576: true; the input reads as it did. -/
def guardJudgesUptoRow : OpenClaim := { program := "ytnakjijahkaoaaadoor", sum := "6e81bdb06b4139728dcb52cf86a59c298c1ba07ca22484ea97995e021df48972", func := "posthouse/posthouselaw15.GuardJudges", spec := "guardJudges", inPlace := ["internal/abi.NoEscape", "internal/bytealg.MakeNoZero"], unfollowed := true, recurses := true, named := ["posthouse/digest.keys"], plainKeys := false, apart := false, laid := [("posthouse/digest.keys", laid_posthouse_digest_keys)], narrowed := true }
def GuardJudgesUptoSaid : Prop := guardJudgesUptoRow.holds Tryd.pinned (OpenSpec.upto guardJudgesSpec)

/-- 'posthouselaw15.GuardSecrets', WHERE WHAT IT READS IS OF BULK AT MOST 1048576: true; the input reads as it did. -/
def guardSecretsUptoRow : OpenClaim := { program := "ytnakjijahkaoaaadoor", sum := "6e81bdb06b4139728dcb52cf86a59c298c1ba07ca22484ea97995e021df48972", func := "posthouse/posthouselaw15.GuardSecrets", spec := "guardSecrets", inPlace := ["internal/abi.NoEscape", "internal/bytealg.MakeNoZero"], unfollowed := true, recurses := true, named := ["posthouse/digest.keys"], plainKeys := false, apart := false, laid := [("posthouse/digest.keys", laid_posthouse_digest_keys)], narrowed := true }
def GuardSecretsUptoSaid : Prop := guardSecretsUptoRow.holds Tryd.pinned (OpenSpec.upto guardSecretsSpec)

end Rows
end Go.Proofs.YtnakjijahkaoaaaDoor
