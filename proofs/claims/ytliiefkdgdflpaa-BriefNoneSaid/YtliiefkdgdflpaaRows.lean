/-
  No cell of these rows narrows 'for every input' (looked for: loops, veiled, ifaces, maps, wideKeys, modest, calm, conditions, laid).
  DERIVED. THE GIVEN ROWS OF THIS SEAT. 13 by the template 'for every input the law returns true; each argument reads behind the call as it read before'; 0 by the template 'total and deterministic' (their statements: YtliiefkdgdflpaaTotals.lean).
  GIVEN WITH THE SEED: the statements are not yours to turn. If you find one false, say at which input.
  Laid BY PROGRAM, IN A SANDBOX (cutbox-rows.mjs): the forced cells as the released guide's own fill.sh prints them over the translation be041a7328cfb168… (all of the seat's roots in one cut). By AI agents, Wed Nov 11 2026. No macro, syntax, notation, axiom, sorry.
-/
import Derived.Test.YtliiefkdgdflpaaChecked
import GoSem.Claim
import GoSem.ClaimJoined
import GoSem.ClaimMapViews
import Derived.JoinedTies
import Derived.KernelRfl
namespace Go.Proofs.Ytliiefkdgdflpaa
/- THE CELL 'sum', in the pinned program and in every row, IS THE sha256 OF THE DUMP (.gsa) THAT YtliiefkdgdflpaaProg.lean LOADS. Nothing in Lean hashes anything: it is a label: what it is worth is what the hold of that sum in a sandbox is worth. -/
noncomputable def Try.pinned : Pinned := { name := "ytliiefkdgdflpaa", sum := "be041a7328cfb168f527b5e02e26e9bf1b8ecf639e76c0755fc9890b68b92d59", checked := Try.checked }
namespace Rows
def none {H : Type} : Left H := { results := [], args := [] }

/-- 'tabularylaw07.LampBits': WHATEVER THE INPUT: true; the input reads as it did. -/
def lampBitsSpec : ChangeSpec := { name := "lampBits", fn := fun _ => fun
  | [d1, d2, d3] => { results := [.lit (.bool true)], args := [d1, d2, d3] }
  | _ => none }
def lampBitsRow : OpenClaim := { program := "ytliiefkdgdflpaa", sum := "be041a7328cfb168f527b5e02e26e9bf1b8ecf639e76c0755fc9890b68b92d59", func := "tabulary/tabularylaw07.LampBits", spec := "lampBits", apart := false }
def LampBitsSaid : Prop := lampBitsRow.holds Try.pinned (OpenSpec.ofChange lampBitsSpec)

/-- ITS FALSE NEIGHBOUR: 'it returns false'. Refute it at one input. -/
def lampBitsWrong : ChangeSpec := { name := "lampBits", fn := fun _ => fun
  | [d1, d2, d3] => { results := [.lit (.bool false)], args := [d1, d2, d3] }
  | _ => none }
def LampBitsWrongFalsely : Prop := lampBitsRow.holds Try.pinned (OpenSpec.ofChange lampBitsWrong)

/-- 'tabularylaw06.BriefAsks': WHATEVER THE INPUT: true; the input reads as it did. -/
def briefAsksSpec : ChangeSpec := { name := "briefAsks", fn := fun _ => fun
  | [d1, d2, d3] => { results := [.lit (.bool true)], args := [d1, d2, d3] }
  | _ => none }
def briefAsksRow : OpenClaim := { program := "ytliiefkdgdflpaa", sum := "be041a7328cfb168f527b5e02e26e9bf1b8ecf639e76c0755fc9890b68b92d59", func := "tabulary/tabularylaw06.BriefAsks", spec := "briefAsks", apart := false }
def BriefAsksSaid : Prop := briefAsksRow.holds Try.pinned (OpenSpec.ofChange briefAsksSpec)

/-- ITS FALSE NEIGHBOUR: 'it returns false'. Refute it at one input. -/
def briefAsksWrong : ChangeSpec := { name := "briefAsks", fn := fun _ => fun
  | [d1, d2, d3] => { results := [.lit (.bool false)], args := [d1, d2, d3] }
  | _ => none }
def BriefAsksWrongFalsely : Prop := briefAsksRow.holds Try.pinned (OpenSpec.ofChange briefAsksWrong)

/-- 'tabularylaw06.BriefWide': WHATEVER THE INPUT: true; the input reads as it did. -/
def briefWideSpec : ChangeSpec := { name := "briefWide", fn := fun _ => fun
  | [d] => { results := [.lit (.bool true)], args := [d] }
  | _ => none }
def briefWideRow : OpenClaim := { program := "ytliiefkdgdflpaa", sum := "be041a7328cfb168f527b5e02e26e9bf1b8ecf639e76c0755fc9890b68b92d59", func := "tabulary/tabularylaw06.BriefWide", spec := "briefWide", apart := false }
def BriefWideSaid : Prop := briefWideRow.holds Try.pinned (OpenSpec.ofChange briefWideSpec)

/-- ITS FALSE NEIGHBOUR: 'it returns false'. Refute it at one input. -/
def briefWideWrong : ChangeSpec := { name := "briefWide", fn := fun _ => fun
  | [d] => { results := [.lit (.bool false)], args := [d] }
  | _ => none }
def BriefWideWrongFalsely : Prop := briefWideRow.holds Try.pinned (OpenSpec.ofChange briefWideWrong)

/-- 'tabularylaw01.WordTurns': WHATEVER THE INPUT: true; the input reads as it did. -/
def wordTurnsSpec : ChangeSpec := { name := "wordTurns", fn := fun _ => fun
  | [d1, d2, d3] => { results := [.lit (.bool true)], args := [d1, d2, d3] }
  | _ => none }
def wordTurnsRow : OpenClaim := { program := "ytliiefkdgdflpaa", sum := "be041a7328cfb168f527b5e02e26e9bf1b8ecf639e76c0755fc9890b68b92d59", func := "tabulary/tabularylaw01.WordTurns", spec := "wordTurns", apart := false }
def WordTurnsSaid : Prop := wordTurnsRow.holds Try.pinned (OpenSpec.ofChange wordTurnsSpec)

/-- ITS FALSE NEIGHBOUR: 'it returns false'. Refute it at one input. -/
def wordTurnsWrong : ChangeSpec := { name := "wordTurns", fn := fun _ => fun
  | [d1, d2, d3] => { results := [.lit (.bool false)], args := [d1, d2, d3] }
  | _ => none }
def WordTurnsWrongFalsely : Prop := wordTurnsRow.holds Try.pinned (OpenSpec.ofChange wordTurnsWrong)

/-- 'tabularylaw01.WordWords': WHATEVER THE INPUT: true; the input reads as it did. -/
def wordWordsSpec : ChangeSpec := { name := "wordWords", fn := fun _ => fun
  | [d1, d2] => { results := [.lit (.bool true)], args := [d1, d2] }
  | _ => none }
def wordWordsRow : OpenClaim := { program := "ytliiefkdgdflpaa", sum := "be041a7328cfb168f527b5e02e26e9bf1b8ecf639e76c0755fc9890b68b92d59", func := "tabulary/tabularylaw01.WordWords", spec := "wordWords", apart := false }
def WordWordsSaid : Prop := wordWordsRow.holds Try.pinned (OpenSpec.ofChange wordWordsSpec)

/-- ITS FALSE NEIGHBOUR: 'it returns false'. Refute it at one input. -/
def wordWordsWrong : ChangeSpec := { name := "wordWords", fn := fun _ => fun
  | [d1, d2] => { results := [.lit (.bool false)], args := [d1, d2] }
  | _ => none }
def WordWordsWrongFalsely : Prop := wordWordsRow.holds Try.pinned (OpenSpec.ofChange wordWordsWrong)

/-- 'tabularylaw06.BriefOrder': WHATEVER THE INPUT: true; the input reads as it did. -/
def briefOrderSpec : ChangeSpec := { name := "briefOrder", fn := fun _ => fun
  | [d1, d2, d3] => { results := [.lit (.bool true)], args := [d1, d2, d3] }
  | _ => none }
def briefOrderRow : OpenClaim := { program := "ytliiefkdgdflpaa", sum := "be041a7328cfb168f527b5e02e26e9bf1b8ecf639e76c0755fc9890b68b92d59", func := "tabulary/tabularylaw06.BriefOrder", spec := "briefOrder", apart := false }
def BriefOrderSaid : Prop := briefOrderRow.holds Try.pinned (OpenSpec.ofChange briefOrderSpec)

/-- ITS FALSE NEIGHBOUR: 'it returns false'. Refute it at one input. -/
def briefOrderWrong : ChangeSpec := { name := "briefOrder", fn := fun _ => fun
  | [d1, d2, d3] => { results := [.lit (.bool false)], args := [d1, d2, d3] }
  | _ => none }
def BriefOrderWrongFalsely : Prop := briefOrderRow.holds Try.pinned (OpenSpec.ofChange briefOrderWrong)

/-- 'tabularylaw01.WordApart': WHATEVER THE INPUT: true; the input reads as it did. -/
def wordApartSpec : ChangeSpec := { name := "wordApart", fn := fun _ => fun
  | [d] => { results := [.lit (.bool true)], args := [d] }
  | _ => none }
def wordApartRow : OpenClaim := { program := "ytliiefkdgdflpaa", sum := "be041a7328cfb168f527b5e02e26e9bf1b8ecf639e76c0755fc9890b68b92d59", func := "tabulary/tabularylaw01.WordApart", spec := "wordApart", apart := false }
def WordApartSaid : Prop := wordApartRow.holds Try.pinned (OpenSpec.ofChange wordApartSpec)

/-- ITS FALSE NEIGHBOUR: 'it returns false'. Refute it at one input. -/
def wordApartWrong : ChangeSpec := { name := "wordApart", fn := fun _ => fun
  | [d] => { results := [.lit (.bool false)], args := [d] }
  | _ => none }
def WordApartWrongFalsely : Prop := wordApartRow.holds Try.pinned (OpenSpec.ofChange wordApartWrong)

/-- 'tabularylaw06.BriefParts': WHATEVER THE INPUT: true; the input reads as it did. -/
def briefPartsSpec : ChangeSpec := { name := "briefParts", fn := fun _ => fun
  | [d1, d2] => { results := [.lit (.bool true)], args := [d1, d2] }
  | _ => none }
def briefPartsRow : OpenClaim := { program := "ytliiefkdgdflpaa", sum := "be041a7328cfb168f527b5e02e26e9bf1b8ecf639e76c0755fc9890b68b92d59", func := "tabulary/tabularylaw06.BriefParts", spec := "briefParts", unfollowed := true, recurses := true, apart := false }
def BriefPartsSaid : Prop := briefPartsRow.holds Try.pinned (OpenSpec.ofChange briefPartsSpec)

/-- ITS FALSE NEIGHBOUR: 'it returns false'. Refute it at one input. -/
def briefPartsWrong : ChangeSpec := { name := "briefParts", fn := fun _ => fun
  | [d1, d2] => { results := [.lit (.bool false)], args := [d1, d2] }
  | _ => none }
def BriefPartsWrongFalsely : Prop := briefPartsRow.holds Try.pinned (OpenSpec.ofChange briefPartsWrong)

/-- 'tabularylaw03.TagLong': WHATEVER THE INPUT: true; the input reads as it did. -/
def tagLongSpec : ChangeSpec := { name := "tagLong", fn := fun _ => fun
  | [d1, d2] => { results := [.lit (.bool true)], args := [d1, d2] }
  | _ => none }
def tagLongRow : OpenClaim := { program := "ytliiefkdgdflpaa", sum := "be041a7328cfb168f527b5e02e26e9bf1b8ecf639e76c0755fc9890b68b92d59", func := "tabulary/tabularylaw03.TagLong", spec := "tagLong", inPlace := ["internal/abi.NoEscape"], unfollowed := true, recurses := true, apart := false }
def TagLongSaid : Prop := tagLongRow.holds Try.pinned (OpenSpec.ofChange tagLongSpec)

/-- ITS FALSE NEIGHBOUR: 'it returns false'. Refute it at one input. -/
def tagLongWrong : ChangeSpec := { name := "tagLong", fn := fun _ => fun
  | [d1, d2] => { results := [.lit (.bool false)], args := [d1, d2] }
  | _ => none }
def TagLongWrongFalsely : Prop := tagLongRow.holds Try.pinned (OpenSpec.ofChange tagLongWrong)

/-- 'tabularylaw06.BriefBack': WHATEVER THE INPUT: true; the input reads as it did. -/
def briefBackSpec : ChangeSpec := { name := "briefBack", fn := fun _ => fun
  | [d1, d2, d3] => { results := [.lit (.bool true)], args := [d1, d2, d3] }
  | _ => none }
def briefBackRow : OpenClaim := { program := "ytliiefkdgdflpaa", sum := "be041a7328cfb168f527b5e02e26e9bf1b8ecf639e76c0755fc9890b68b92d59", func := "tabulary/tabularylaw06.BriefBack", spec := "briefBack", unfollowed := true, recurses := true, apart := false }
def BriefBackSaid : Prop := briefBackRow.holds Try.pinned (OpenSpec.ofChange briefBackSpec)

/-- ITS FALSE NEIGHBOUR: 'it returns false'. Refute it at one input. -/
def briefBackWrong : ChangeSpec := { name := "briefBack", fn := fun _ => fun
  | [d1, d2, d3] => { results := [.lit (.bool false)], args := [d1, d2, d3] }
  | _ => none }
def BriefBackWrongFalsely : Prop := briefBackRow.holds Try.pinned (OpenSpec.ofChange briefBackWrong)

/-- 'tabularylaw06.BriefNone': WHATEVER THE INPUT: true; the input reads as it did. -/
def briefNoneSpec : ChangeSpec := { name := "briefNone", fn := fun _ => fun
  | [d1, d2] => { results := [.lit (.bool true)], args := [d1, d2] }
  | _ => none }
def briefNoneRow : OpenClaim := { program := "ytliiefkdgdflpaa", sum := "be041a7328cfb168f527b5e02e26e9bf1b8ecf639e76c0755fc9890b68b92d59", func := "tabulary/tabularylaw06.BriefNone", spec := "briefNone", unfollowed := true, recurses := true, apart := false }
def BriefNoneSaid : Prop := briefNoneRow.holds Try.pinned (OpenSpec.ofChange briefNoneSpec)

/-- ITS FALSE NEIGHBOUR: 'it returns false'. Refute it at one input. -/
def briefNoneWrong : ChangeSpec := { name := "briefNone", fn := fun _ => fun
  | [d1, d2] => { results := [.lit (.bool false)], args := [d1, d2] }
  | _ => none }
def BriefNoneWrongFalsely : Prop := briefNoneRow.holds Try.pinned (OpenSpec.ofChange briefNoneWrong)

/-- 'tabularylaw03.TagBack': WHATEVER THE INPUT: true; the input reads as it did. -/
def tagBackSpec : ChangeSpec := { name := "tagBack", fn := fun _ => fun
  | [d] => { results := [.lit (.bool true)], args := [d] }
  | _ => none }
def tagBackRow : OpenClaim := { program := "ytliiefkdgdflpaa", sum := "be041a7328cfb168f527b5e02e26e9bf1b8ecf639e76c0755fc9890b68b92d59", func := "tabulary/tabularylaw03.TagBack", spec := "tagBack", inPlace := ["internal/abi.NoEscape"], unfollowed := true, recurses := true, apart := false }
def TagBackSaid : Prop := tagBackRow.holds Try.pinned (OpenSpec.ofChange tagBackSpec)

/-- ITS FALSE NEIGHBOUR: 'it returns false'. Refute it at one input. -/
def tagBackWrong : ChangeSpec := { name := "tagBack", fn := fun _ => fun
  | [d] => { results := [.lit (.bool false)], args := [d] }
  | _ => none }
def TagBackWrongFalsely : Prop := tagBackRow.holds Try.pinned (OpenSpec.ofChange tagBackWrong)

/-- 'tabularylaw03.TagApart': WHATEVER THE INPUT: true; the input reads as it did. -/
def tagApartSpec : ChangeSpec := { name := "tagApart", fn := fun _ => fun
  | [d] => { results := [.lit (.bool true)], args := [d] }
  | _ => none }
def tagApartRow : OpenClaim := { program := "ytliiefkdgdflpaa", sum := "be041a7328cfb168f527b5e02e26e9bf1b8ecf639e76c0755fc9890b68b92d59", func := "tabulary/tabularylaw03.TagApart", spec := "tagApart", inPlace := ["internal/abi.NoEscape"], unfollowed := true, recurses := true, apart := false }
def TagApartSaid : Prop := tagApartRow.holds Try.pinned (OpenSpec.ofChange tagApartSpec)

/-- ITS FALSE NEIGHBOUR: 'it returns false'. Refute it at one input. -/
def tagApartWrong : ChangeSpec := { name := "tagApart", fn := fun _ => fun
  | [d] => { results := [.lit (.bool false)], args := [d] }
  | _ => none }
def TagApartWrongFalsely : Prop := tagApartRow.holds Try.pinned (OpenSpec.ofChange tagApartWrong)

/- THE SECOND FORM. 'bulk': how many values and letters a reading holds, each counted each time it is reached (what is shared counts as often as it is met; a slice's spare places count too). A statement '..UptoSaid' is the law's where the arguments, and the package variables that the reading takes, are together of bulk at most 1048576: NARROWER than '..Said'. Prove '..Said' where nothing that the law and all that it calls make is longer than what came in: it says more and counts as full. Else prove '..UptoSaid'. A law counts once. -/
mutual
def uptoBulk {H : Type} : DataW H → Nat
  | .lit (.string bytes) => bytes.length + 1
  | .lit _ => 1
  | .nil => 1
  | .ptr d => uptoBulk d + 1
  | .slice elems spare => uptoBulkAll elems + uptoBulkAll spare + 1
  | .agg parts => uptoBulkAll parts + 1
  | .iface _ d => uptoBulk d + 1
  | .map entries => uptoBulkEntries entries + 1
  | .held _ => 1
def uptoBulkAll {H : Type} : List (DataW H) → Nat
  | [] => 0
  | d :: r => uptoBulk d + uptoBulkAll r
def uptoBulkEntries {H : Type} : List (Lit × DataW H) → Nat
  | [] => 0
  | x :: r => uptoBulkEntry x + uptoBulkEntries r
def uptoBulkEntry {H : Type} : Lit × DataW H → Nat
  | (.string bytes, d) => bytes.length + uptoBulk d + 1
  | (_, d) => uptoBulk d + 1
 end
def uptoSmall : (H : Type) → List (DataW H) → Bool := fun _ ds => decide (uptoBulkAll ds ≤ 1048576)
def OpenSpec.upto (s : _root_.Go.ChangeSpec) : _root_.Go.OpenSpec := { _root_.Go.OpenSpec.ofChange s with cond := some uptoSmall }

/-- 'tabularylaw07.LampBits', WHERE WHAT IT READS IS OF BULK AT MOST 1048576: true; the input reads as it did. -/
def lampBitsUptoRow : OpenClaim := { program := "ytliiefkdgdflpaa", sum := "be041a7328cfb168f527b5e02e26e9bf1b8ecf639e76c0755fc9890b68b92d59", func := "tabulary/tabularylaw07.LampBits", spec := "lampBits", apart := false, narrowed := true }
def LampBitsUptoSaid : Prop := lampBitsUptoRow.holds Try.pinned (OpenSpec.upto lampBitsSpec)

/-- 'tabularylaw06.BriefAsks', WHERE WHAT IT READS IS OF BULK AT MOST 1048576: true; the input reads as it did. -/
def briefAsksUptoRow : OpenClaim := { program := "ytliiefkdgdflpaa", sum := "be041a7328cfb168f527b5e02e26e9bf1b8ecf639e76c0755fc9890b68b92d59", func := "tabulary/tabularylaw06.BriefAsks", spec := "briefAsks", apart := false, narrowed := true }
def BriefAsksUptoSaid : Prop := briefAsksUptoRow.holds Try.pinned (OpenSpec.upto briefAsksSpec)

/-- 'tabularylaw06.BriefWide', WHERE WHAT IT READS IS OF BULK AT MOST 1048576: true; the input reads as it did. -/
def briefWideUptoRow : OpenClaim := { program := "ytliiefkdgdflpaa", sum := "be041a7328cfb168f527b5e02e26e9bf1b8ecf639e76c0755fc9890b68b92d59", func := "tabulary/tabularylaw06.BriefWide", spec := "briefWide", apart := false, narrowed := true }
def BriefWideUptoSaid : Prop := briefWideUptoRow.holds Try.pinned (OpenSpec.upto briefWideSpec)

/-- 'tabularylaw01.WordTurns', WHERE WHAT IT READS IS OF BULK AT MOST 1048576: true; the input reads as it did. -/
def wordTurnsUptoRow : OpenClaim := { program := "ytliiefkdgdflpaa", sum := "be041a7328cfb168f527b5e02e26e9bf1b8ecf639e76c0755fc9890b68b92d59", func := "tabulary/tabularylaw01.WordTurns", spec := "wordTurns", apart := false, narrowed := true }
def WordTurnsUptoSaid : Prop := wordTurnsUptoRow.holds Try.pinned (OpenSpec.upto wordTurnsSpec)

/-- 'tabularylaw01.WordWords', WHERE WHAT IT READS IS OF BULK AT MOST 1048576: true; the input reads as it did. -/
def wordWordsUptoRow : OpenClaim := { program := "ytliiefkdgdflpaa", sum := "be041a7328cfb168f527b5e02e26e9bf1b8ecf639e76c0755fc9890b68b92d59", func := "tabulary/tabularylaw01.WordWords", spec := "wordWords", apart := false, narrowed := true }
def WordWordsUptoSaid : Prop := wordWordsUptoRow.holds Try.pinned (OpenSpec.upto wordWordsSpec)

/-- 'tabularylaw06.BriefOrder', WHERE WHAT IT READS IS OF BULK AT MOST 1048576: true; the input reads as it did. -/
def briefOrderUptoRow : OpenClaim := { program := "ytliiefkdgdflpaa", sum := "be041a7328cfb168f527b5e02e26e9bf1b8ecf639e76c0755fc9890b68b92d59", func := "tabulary/tabularylaw06.BriefOrder", spec := "briefOrder", apart := false, narrowed := true }
def BriefOrderUptoSaid : Prop := briefOrderUptoRow.holds Try.pinned (OpenSpec.upto briefOrderSpec)

/-- 'tabularylaw01.WordApart', WHERE WHAT IT READS IS OF BULK AT MOST 1048576: true; the input reads as it did. -/
def wordApartUptoRow : OpenClaim := { program := "ytliiefkdgdflpaa", sum := "be041a7328cfb168f527b5e02e26e9bf1b8ecf639e76c0755fc9890b68b92d59", func := "tabulary/tabularylaw01.WordApart", spec := "wordApart", apart := false, narrowed := true }
def WordApartUptoSaid : Prop := wordApartUptoRow.holds Try.pinned (OpenSpec.upto wordApartSpec)

/-- 'tabularylaw06.BriefParts', WHERE WHAT IT READS IS OF BULK AT MOST 1048576: true; the input reads as it did. -/
def briefPartsUptoRow : OpenClaim := { program := "ytliiefkdgdflpaa", sum := "be041a7328cfb168f527b5e02e26e9bf1b8ecf639e76c0755fc9890b68b92d59", func := "tabulary/tabularylaw06.BriefParts", spec := "briefParts", unfollowed := true, recurses := true, apart := false, narrowed := true }
def BriefPartsUptoSaid : Prop := briefPartsUptoRow.holds Try.pinned (OpenSpec.upto briefPartsSpec)

/-- 'tabularylaw03.TagLong', WHERE WHAT IT READS IS OF BULK AT MOST 1048576: true; the input reads as it did. -/
def tagLongUptoRow : OpenClaim := { program := "ytliiefkdgdflpaa", sum := "be041a7328cfb168f527b5e02e26e9bf1b8ecf639e76c0755fc9890b68b92d59", func := "tabulary/tabularylaw03.TagLong", spec := "tagLong", inPlace := ["internal/abi.NoEscape"], unfollowed := true, recurses := true, apart := false, narrowed := true }
def TagLongUptoSaid : Prop := tagLongUptoRow.holds Try.pinned (OpenSpec.upto tagLongSpec)

/-- 'tabularylaw06.BriefBack', WHERE WHAT IT READS IS OF BULK AT MOST 1048576: true; the input reads as it did. -/
def briefBackUptoRow : OpenClaim := { program := "ytliiefkdgdflpaa", sum := "be041a7328cfb168f527b5e02e26e9bf1b8ecf639e76c0755fc9890b68b92d59", func := "tabulary/tabularylaw06.BriefBack", spec := "briefBack", unfollowed := true, recurses := true, apart := false, narrowed := true }
def BriefBackUptoSaid : Prop := briefBackUptoRow.holds Try.pinned (OpenSpec.upto briefBackSpec)

/-- 'tabularylaw06.BriefNone', WHERE WHAT IT READS IS OF BULK AT MOST 1048576: true; the input reads as it did. -/
def briefNoneUptoRow : OpenClaim := { program := "ytliiefkdgdflpaa", sum := "be041a7328cfb168f527b5e02e26e9bf1b8ecf639e76c0755fc9890b68b92d59", func := "tabulary/tabularylaw06.BriefNone", spec := "briefNone", unfollowed := true, recurses := true, apart := false, narrowed := true }
def BriefNoneUptoSaid : Prop := briefNoneUptoRow.holds Try.pinned (OpenSpec.upto briefNoneSpec)

/-- 'tabularylaw03.TagBack', WHERE WHAT IT READS IS OF BULK AT MOST 1048576: true; the input reads as it did. -/
def tagBackUptoRow : OpenClaim := { program := "ytliiefkdgdflpaa", sum := "be041a7328cfb168f527b5e02e26e9bf1b8ecf639e76c0755fc9890b68b92d59", func := "tabulary/tabularylaw03.TagBack", spec := "tagBack", inPlace := ["internal/abi.NoEscape"], unfollowed := true, recurses := true, apart := false, narrowed := true }
def TagBackUptoSaid : Prop := tagBackUptoRow.holds Try.pinned (OpenSpec.upto tagBackSpec)

/-- 'tabularylaw03.TagApart', WHERE WHAT IT READS IS OF BULK AT MOST 1048576: true; the input reads as it did. -/
def tagApartUptoRow : OpenClaim := { program := "ytliiefkdgdflpaa", sum := "be041a7328cfb168f527b5e02e26e9bf1b8ecf639e76c0755fc9890b68b92d59", func := "tabulary/tabularylaw03.TagApart", spec := "tagApart", inPlace := ["internal/abi.NoEscape"], unfollowed := true, recurses := true, apart := false, narrowed := true }
def TagApartUptoSaid : Prop := tagApartUptoRow.holds Try.pinned (OpenSpec.upto tagApartSpec)

end Rows
end Go.Proofs.Ytliiefkdgdflpaa
