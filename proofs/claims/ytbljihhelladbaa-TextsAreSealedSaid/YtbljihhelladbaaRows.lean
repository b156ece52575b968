/-
  No cell of these rows narrows 'for every input' (looked for: loops, veiled, ifaces, maps, wideKeys, modest, calm, conditions, laid).
  DERIVED. THE GIVEN ROWS OF THIS SEAT. 12 by the template 'for every input the law returns true; each argument reads behind the call as it read before'; 0 by the template 'total and deterministic' (their statements: YtbljihhelladbaaTotals.lean).
  GIVEN WITH THE SEED: the statements are not yours to turn. If you find one false, say at which input.
  Laid BY PROGRAM, IN A SANDBOX (cutbox-rows.mjs): the forced cells as the released guide's own fill.sh prints them over the translation 461c62da61574806… (all of the seat's roots in one cut). By AI agents, Wed Nov 11 2026. No macro, syntax, notation, axiom, sorry.
-/
import Derived.Test.YtbljihhelladbaaChecked
import GoSem.Claim
import GoSem.ClaimJoined
import GoSem.ClaimMapViews
import Derived.JoinedTies
import Derived.KernelRfl
namespace Go.Proofs.Ytbljihhelladbaa
/- THE CELL 'sum', in the pinned program and in every row, IS THE sha256 OF THE DUMP (.gsa) THAT YtbljihhelladbaaProg.lean LOADS. Nothing in Lean hashes anything: it is a label: what it is worth is what the hold of that sum in a sandbox is worth. -/
noncomputable def Try.pinned : Pinned := { name := "ytbljihhelladbaa", sum := "461c62da61574806e2cefe1e52a4206e185f0e581b349654a27730e7a4ef513a", checked := Try.checked }
namespace Rows
def none {H : Type} : Left H := { results := [], args := [] }

/-- 'keylaw2.ChancesMatch': WHATEVER THE INPUT: true; the input reads as it did. -/
def chancesMatchSpec : ChangeSpec := { name := "chancesMatch", fn := fun _ => fun
  | [d1, d2, d3] => { results := [.lit (.bool true)], args := [d1, d2, d3] }
  | _ => none }
def chancesMatchRow : OpenClaim := { program := "ytbljihhelladbaa", sum := "461c62da61574806e2cefe1e52a4206e185f0e581b349654a27730e7a4ef513a", func := "keywarden/keylaw2.ChancesMatch", spec := "chancesMatch", unfollowed := true, recurses := true, plainKeys := false, apart := false }
def ChancesMatchSaid : Prop := chancesMatchRow.holds Try.pinned (OpenSpec.ofChange chancesMatchSpec)

/-- ITS FALSE NEIGHBOUR: 'it returns false'. Refute it at one input. -/
def chancesMatchWrong : ChangeSpec := { name := "chancesMatch", fn := fun _ => fun
  | [d1, d2, d3] => { results := [.lit (.bool false)], args := [d1, d2, d3] }
  | _ => none }
def ChancesMatchWrongFalsely : Prop := chancesMatchRow.holds Try.pinned (OpenSpec.ofChange chancesMatchWrong)

/-- 'keylaw2.PolynomialsMatch': WHATEVER THE INPUT: true; the input reads as it did. -/
def polynomialsMatchSpec : ChangeSpec := { name := "polynomialsMatch", fn := fun _ => fun
  | [d1, d2, d3, d4] => { results := [.lit (.bool true)], args := [d1, d2, d3, d4] }
  | _ => none }
def polynomialsMatchRow : OpenClaim := { program := "ytbljihhelladbaa", sum := "461c62da61574806e2cefe1e52a4206e185f0e581b349654a27730e7a4ef513a", func := "keywarden/keylaw2.PolynomialsMatch", spec := "polynomialsMatch", unfollowed := true, recurses := true, plainKeys := false, apart := false }
def PolynomialsMatchSaid : Prop := polynomialsMatchRow.holds Try.pinned (OpenSpec.ofChange polynomialsMatchSpec)

/-- ITS FALSE NEIGHBOUR: 'it returns false'. Refute it at one input. -/
def polynomialsMatchWrong : ChangeSpec := { name := "polynomialsMatch", fn := fun _ => fun
  | [d1, d2, d3, d4] => { results := [.lit (.bool false)], args := [d1, d2, d3, d4] }
  | _ => none }
def PolynomialsMatchWrongFalsely : Prop := polynomialsMatchRow.holds Try.pinned (OpenSpec.ofChange polynomialsMatchWrong)

/-- 'keylaw2.SharesMatch': WHATEVER THE INPUT: true; the input reads as it did. -/
def sharesMatchSpec : ChangeSpec := { name := "sharesMatch", fn := fun _ => fun
  | [d1, d2, d3] => { results := [.lit (.bool true)], args := [d1, d2, d3] }
  | _ => none }
def sharesMatchRow : OpenClaim := { program := "ytbljihhelladbaa", sum := "461c62da61574806e2cefe1e52a4206e185f0e581b349654a27730e7a4ef513a", func := "keywarden/keylaw2.SharesMatch", spec := "sharesMatch", unfollowed := true, recurses := true, plainKeys := false, apart := false }
def SharesMatchSaid : Prop := sharesMatchRow.holds Try.pinned (OpenSpec.ofChange sharesMatchSpec)

/-- ITS FALSE NEIGHBOUR: 'it returns false'. Refute it at one input. -/
def sharesMatchWrong : ChangeSpec := { name := "sharesMatch", fn := fun _ => fun
  | [d1, d2, d3] => { results := [.lit (.bool false)], args := [d1, d2, d3] }
  | _ => none }
def SharesMatchWrongFalsely : Prop := sharesMatchRow.holds Try.pinned (OpenSpec.ofChange sharesMatchWrong)

/-- 'keylaw2.FaultsAreFound': WHATEVER THE INPUT: true; the input reads as it did. -/
def faultsAreFoundSpec : ChangeSpec := { name := "faultsAreFound", fn := fun _ => fun
  | [d1, d2] => { results := [.lit (.bool true)], args := [d1, d2] }
  | _ => none }
def faultsAreFoundRow : OpenClaim := { program := "ytbljihhelladbaa", sum := "461c62da61574806e2cefe1e52a4206e185f0e581b349654a27730e7a4ef513a", func := "keywarden/keylaw2.FaultsAreFound", spec := "faultsAreFound", unfollowed := true, recurses := true, plainKeys := false, apart := false }
def FaultsAreFoundSaid : Prop := faultsAreFoundRow.holds Try.pinned (OpenSpec.ofChange faultsAreFoundSpec)

/-- ITS FALSE NEIGHBOUR: 'it returns false'. Refute it at one input. -/
def faultsAreFoundWrong : ChangeSpec := { name := "faultsAreFound", fn := fun _ => fun
  | [d1, d2] => { results := [.lit (.bool false)], args := [d1, d2] }
  | _ => none }
def FaultsAreFoundWrongFalsely : Prop := faultsAreFoundRow.holds Try.pinned (OpenSpec.ofChange faultsAreFoundWrong)

/-- 'keylaw2.MarksMatch': WHATEVER THE INPUT: true; the input reads as it did. -/
def marksMatchSpec : ChangeSpec := { name := "marksMatch", fn := fun _ => fun
  | [d1, d2, d3, d4] => { results := [.lit (.bool true)], args := [d1, d2, d3, d4] }
  | _ => none }
def marksMatchRow : OpenClaim := { program := "ytbljihhelladbaa", sum := "461c62da61574806e2cefe1e52a4206e185f0e581b349654a27730e7a4ef513a", func := "keywarden/keylaw2.MarksMatch", spec := "marksMatch", unfollowed := true, recurses := true, plainKeys := false, apart := false }
def MarksMatchSaid : Prop := marksMatchRow.holds Try.pinned (OpenSpec.ofChange marksMatchSpec)

/-- ITS FALSE NEIGHBOUR: 'it returns false'. Refute it at one input. -/
def marksMatchWrong : ChangeSpec := { name := "marksMatch", fn := fun _ => fun
  | [d1, d2, d3, d4] => { results := [.lit (.bool false)], args := [d1, d2, d3, d4] }
  | _ => none }
def MarksMatchWrongFalsely : Prop := marksMatchRow.holds Try.pinned (OpenSpec.ofChange marksMatchWrong)

/-- 'keylaw2.SharesAreMade': WHATEVER THE INPUT: true; the input reads as it did. -/
def sharesAreMadeSpec : ChangeSpec := { name := "sharesAreMade", fn := fun _ => fun
  | [d1, d2, d3, d4, d5] => { results := [.lit (.bool true)], args := [d1, d2, d3, d4, d5] }
  | _ => none }
def sharesAreMadeRow : OpenClaim := { program := "ytbljihhelladbaa", sum := "461c62da61574806e2cefe1e52a4206e185f0e581b349654a27730e7a4ef513a", func := "keywarden/keylaw2.SharesAreMade", spec := "sharesAreMade", unfollowed := true, recurses := true, plainKeys := false, apart := false }
def SharesAreMadeSaid : Prop := sharesAreMadeRow.holds Try.pinned (OpenSpec.ofChange sharesAreMadeSpec)

/-- ITS FALSE NEIGHBOUR: 'it returns false'. Refute it at one input. -/
def sharesAreMadeWrong : ChangeSpec := { name := "sharesAreMade", fn := fun _ => fun
  | [d1, d2, d3, d4, d5] => { results := [.lit (.bool false)], args := [d1, d2, d3, d4, d5] }
  | _ => none }
def SharesAreMadeWrongFalsely : Prop := sharesAreMadeRow.holds Try.pinned (OpenSpec.ofChange sharesAreMadeWrong)

/-- 'keylaw2.SplitsMatch': WHATEVER THE INPUT: true; the input reads as it did. -/
def splitsMatchSpec : ChangeSpec := { name := "splitsMatch", fn := fun _ => fun
  | [d1, d2, d3, d4, d5] => { results := [.lit (.bool true)], args := [d1, d2, d3, d4, d5] }
  | _ => none }
def splitsMatchRow : OpenClaim := { program := "ytbljihhelladbaa", sum := "461c62da61574806e2cefe1e52a4206e185f0e581b349654a27730e7a4ef513a", func := "keywarden/keylaw2.SplitsMatch", spec := "splitsMatch", inPlace := ["internal/bytealg.Compare"], unfollowed := true, recurses := true, plainKeys := false, apart := false }
def SplitsMatchSaid : Prop := splitsMatchRow.holds Try.pinned (OpenSpec.ofChange splitsMatchSpec)

/-- ITS FALSE NEIGHBOUR: 'it returns false'. Refute it at one input. -/
def splitsMatchWrong : ChangeSpec := { name := "splitsMatch", fn := fun _ => fun
  | [d1, d2, d3, d4, d5] => { results := [.lit (.bool false)], args := [d1, d2, d3, d4, d5] }
  | _ => none }
def SplitsMatchWrongFalsely : Prop := splitsMatchRow.holds Try.pinned (OpenSpec.ofChange splitsMatchWrong)

/-- 'keylaw2.ChunksAreChecked': WHATEVER THE INPUT: true; the input reads as it did. -/
def chunksAreCheckedSpec : ChangeSpec := { name := "chunksAreChecked", fn := fun _ => fun
  | [d1, d2, d3] => { results := [.lit (.bool true)], args := [d1, d2, d3] }
  | _ => none }
def chunksAreCheckedRow : OpenClaim := { program := "ytbljihhelladbaa", sum := "461c62da61574806e2cefe1e52a4206e185f0e581b349654a27730e7a4ef513a", func := "keywarden/keylaw2.ChunksAreChecked", spec := "chunksAreChecked", unfollowed := true, recurses := true, plainKeys := false, apart := false }
def ChunksAreCheckedSaid : Prop := chunksAreCheckedRow.holds Try.pinned (OpenSpec.ofChange chunksAreCheckedSpec)

/-- ITS FALSE NEIGHBOUR: 'it returns false'. Refute it at one input. -/
def chunksAreCheckedWrong : ChangeSpec := { name := "chunksAreChecked", fn := fun _ => fun
  | [d1, d2, d3] => { results := [.lit (.bool false)], args := [d1, d2, d3] }
  | _ => none }
def ChunksAreCheckedWrongFalsely : Prop := chunksAreCheckedRow.holds Try.pinned (OpenSpec.ofChange chunksAreCheckedWrong)

/-- 'keylaw2.EnvelopesMatch': WHATEVER THE INPUT: true; the input reads as it did. -/
def envelopesMatchSpec : ChangeSpec := { name := "envelopesMatch", fn := fun _ => fun
  | [d1, d2] => { results := [.lit (.bool true)], args := [d1, d2] }
  | _ => none }
def envelopesMatchRow : OpenClaim := { program := "ytbljihhelladbaa", sum := "461c62da61574806e2cefe1e52a4206e185f0e581b349654a27730e7a4ef513a", func := "keywarden/keylaw2.EnvelopesMatch", spec := "envelopesMatch", unfollowed := true, recurses := true, plainKeys := false, apart := false }
def EnvelopesMatchSaid : Prop := envelopesMatchRow.holds Try.pinned (OpenSpec.ofChange envelopesMatchSpec)

/-- ITS FALSE NEIGHBOUR: 'it returns false'. Refute it at one input. -/
def envelopesMatchWrong : ChangeSpec := { name := "envelopesMatch", fn := fun _ => fun
  | [d1, d2] => { results := [.lit (.bool false)], args := [d1, d2] }
  | _ => none }
def EnvelopesMatchWrongFalsely : Prop := envelopesMatchRow.holds Try.pinned (OpenSpec.ofChange envelopesMatchWrong)

/-- 'keylaw2.CommitsMatch': WHATEVER THE INPUT: true; the input reads as it did. -/
def commitsMatchSpec : ChangeSpec := { name := "commitsMatch", fn := fun _ => fun
  | [d1, d2, d3] => { results := [.lit (.bool true)], args := [d1, d2, d3] }
  | _ => none }
def commitsMatchRow : OpenClaim := { program := "ytbljihhelladbaa", sum := "461c62da61574806e2cefe1e52a4206e185f0e581b349654a27730e7a4ef513a", func := "keywarden/keylaw2.CommitsMatch", spec := "commitsMatch", inPlace := ["internal/bytealg.IndexByteString", "internal/bytealg.IndexString"], unfollowed := true, recurses := true, named := ["internal/bytealg.MaxLen"], plainKeys := false, apart := false }
def CommitsMatchSaid : Prop := commitsMatchRow.holds Try.pinned (OpenSpec.ofChange commitsMatchSpec)

/-- ITS FALSE NEIGHBOUR: 'it returns false'. Refute it at one input. -/
def commitsMatchWrong : ChangeSpec := { name := "commitsMatch", fn := fun _ => fun
  | [d1, d2, d3] => { results := [.lit (.bool false)], args := [d1, d2, d3] }
  | _ => none }
def CommitsMatchWrongFalsely : Prop := commitsMatchRow.holds Try.pinned (OpenSpec.ofChange commitsMatchWrong)

/-- 'keylaw2.TextsAreSealed': WHATEVER THE INPUT: true; the input reads as it did. -/
def textsAreSealedSpec : ChangeSpec := { name := "textsAreSealed", fn := fun _ => fun
  | [d1, d2, d3, d4, d5, d6, d7, d8, d9, d10] => { results := [.lit (.bool true)], args := [d1, d2, d3, d4, d5, d6, d7, d8, d9, d10] }
  | _ => none }
def textsAreSealedRow : OpenClaim := { program := "ytbljihhelladbaa", sum := "461c62da61574806e2cefe1e52a4206e185f0e581b349654a27730e7a4ef513a", func := "keywarden/keylaw2.TextsAreSealed", spec := "textsAreSealed", plainKeys := false, apart := false }
def TextsAreSealedSaid : Prop := textsAreSealedRow.holds Try.pinned (OpenSpec.ofChange textsAreSealedSpec)

/-- ITS FALSE NEIGHBOUR: 'it returns false'. Refute it at one input. -/
def textsAreSealedWrong : ChangeSpec := { name := "textsAreSealed", fn := fun _ => fun
  | [d1, d2, d3, d4, d5, d6, d7, d8, d9, d10] => { results := [.lit (.bool false)], args := [d1, d2, d3, d4, d5, d6, d7, d8, d9, d10] }
  | _ => none }
def TextsAreSealedWrongFalsely : Prop := textsAreSealedRow.holds Try.pinned (OpenSpec.ofChange textsAreSealedWrong)

/-- 'keylaw2.PacksMatch': WHATEVER THE INPUT: true; the input reads as it did. -/
def packsMatchSpec : ChangeSpec := { name := "packsMatch", fn := fun _ => fun
  | [d1, d2, d3, d4] => { results := [.lit (.bool true)], args := [d1, d2, d3, d4] }
  | _ => none }
def packsMatchRow : OpenClaim := { program := "ytbljihhelladbaa", sum := "461c62da61574806e2cefe1e52a4206e185f0e581b349654a27730e7a4ef513a", func := "keywarden/keylaw2.PacksMatch", spec := "packsMatch", inPlace := ["internal/bytealg.IndexByteString", "internal/bytealg.IndexString"], unfollowed := true, recurses := true, named := ["internal/bytealg.MaxLen"], plainKeys := false, apart := false }
def PacksMatchSaid : Prop := packsMatchRow.holds Try.pinned (OpenSpec.ofChange packsMatchSpec)

/-- ITS FALSE NEIGHBOUR: 'it returns false'. Refute it at one input. -/
def packsMatchWrong : ChangeSpec := { name := "packsMatch", fn := fun _ => fun
  | [d1, d2, d3, d4] => { results := [.lit (.bool false)], args := [d1, d2, d3, d4] }
  | _ => none }
def PacksMatchWrongFalsely : Prop := packsMatchRow.holds Try.pinned (OpenSpec.ofChange packsMatchWrong)

/- THE SECOND FORM. 'bulk': how many values and letters a reading holds, each counted each time it is reached (what is shared counts as often as it is met; a slice's spare places count too). A statement '..UptoSaid' is the law's where the arguments, and the package variables that the reading takes, are together of bulk at most 1048576: NARROWER than '..Said'. Prove '..Said' where nothing that the law and all that it calls make is longer than what came in: it says more and counts as full. Else prove '..UptoSaid'. A law counts once. -/
mutual
def uptoBulk {H : Type} : DataW H → Nat
  | .lit (.string bytes) => bytes.length + 1
  | .lit _ => 1
  | .nil => 1
  | .ptr d => uptoBulk d + 1
  | .slice elems spare => uptoBulkAll elems + uptoBulkAll spare + 1
  | .agg parts => uptoBulkAll parts + 1
  | .iface _ d => uptoBulk d + 1
  | .map entries => uptoBulkEntries entries + 1
  | .held _ => 1
def uptoBulkAll {H : Type} : List (DataW H) → Nat
  | [] => 0
  | d :: r => uptoBulk d + uptoBulkAll r
def uptoBulkEntries {H : Type} : List (Lit × DataW H) → Nat
  | [] => 0
  | x :: r => uptoBulkEntry x + uptoBulkEntries r
def uptoBulkEntry {H : Type} : Lit × DataW H → Nat
  | (.string bytes, d) => bytes.length + uptoBulk d + 1
  | (_, d) => uptoBulk d + 1
 end
def uptoSmall : (H : Type) → List (DataW H) → Bool := fun _ ds => decide (uptoBulkAll ds ≤ 1048576)
def OpenSpec.upto (s : _root_.Go.ChangeSpec) : _root_.Go.OpenSpec := { _root_.Go.OpenSpec.ofChange s with cond := some uptoSmall }

/-- 'keylaw2.ChancesMatch', WHERE WHAT IT READS IS OF BULK AT MOST 1048576: true; the input reads as it did. -/
def chancesMatchUptoRow : OpenClaim := { program := "ytbljihhelladbaa", sum := "461c62da61574806e2cefe1e52a4206e185f0e581b349654a27730e7a4ef513a", func := "keywarden/keylaw2.ChancesMatch", spec := "chancesMatch", unfollowed := true, recurses := true, plainKeys := false, apart := false, narrowed := true }
def ChancesMatchUptoSaid : Prop := chancesMatchUptoRow.holds Try.pinned (OpenSpec.upto chancesMatchSpec)

/-- 'keylaw2.PolynomialsMatch', WHERE WHAT IT READS IS OF BULK AT MOST 1048576: true; the input reads as it did. -/
def polynomialsMatchUptoRow : OpenClaim := { program := "ytbljihhelladbaa", sum := "461c62da61574806e2cefe1e52a4206e185f0e581b349654a27730e7a4ef513a", func := "keywarden/keylaw2.PolynomialsMatch", spec := "polynomialsMatch", unfollowed := true, recurses := true, plainKeys := false, apart := false, narrowed := true }
def PolynomialsMatchUptoSaid : Prop := polynomialsMatchUptoRow.holds Try.pinned (OpenSpec.upto polynomialsMatchSpec)

/-- 'keylaw2.SharesMatch', WHERE WHAT IT READS IS OF BULK AT MOST 1048576: true; the input reads as it did. -/
def sharesMatchUptoRow : OpenClaim := { program := "ytbljihhelladbaa", sum := "461c62da61574806e2cefe1e52a4206e185f0e581b349654a27730e7a4ef513a", func := "keywarden/keylaw2.SharesMatch", spec := "sharesMatch", unfollowed := true, recurses := true, plainKeys := false, apart := false, narrowed := true }
def SharesMatchUptoSaid : Prop := sharesMatchUptoRow.holds Try.pinned (OpenSpec.upto sharesMatchSpec)

/-- 'keylaw2.FaultsAreFound', WHERE WHAT IT READS IS OF BULK AT MOST 1048576: true; the input reads as it did. -/
def faultsAreFoundUptoRow : OpenClaim := { program := "ytbljihhelladbaa", sum := "461c62da61574806e2cefe1e52a4206e185f0e581b349654a27730e7a4ef513a", func := "keywarden/keylaw2.FaultsAreFound", spec := "faultsAreFound", unfollowed := true, recurses := true, plainKeys := false, apart := false, narrowed := true }
def FaultsAreFoundUptoSaid : Prop := faultsAreFoundUptoRow.holds Try.pinned (OpenSpec.upto faultsAreFoundSpec)

/-- 'keylaw2.MarksMatch', WHERE WHAT IT READS IS OF BULK AT MOST 1048576: true; the input reads as it did. -/
def marksMatchUptoRow : OpenClaim := { program := "ytbljihhelladbaa", sum := "461c62da61574806e2cefe1e52a4206e185f0e581b349654a27730e7a4ef513a", func := "keywarden/keylaw2.MarksMatch", spec := "marksMatch", unfollowed := true, recurses := true, plainKeys := false, apart := false, narrowed := true }
def MarksMatchUptoSaid : Prop := marksMatchUptoRow.holds Try.pinned (OpenSpec.upto marksMatchSpec)

/-- 'keylaw2.SharesAreMade', WHERE WHAT IT READS IS OF BULK AT MOST 1048576: true; the input reads as it did. -/
def sharesAreMadeUptoRow : OpenClaim := { program := "ytbljihhelladbaa", sum := "461c62da61574806e2cefe1e52a4206e185f0e581b349654a27730e7a4ef513a", func := "keywarden/keylaw2.SharesAreMade", spec := "sharesAreMade", unfollowed := true, recurses := true, plainKeys := false, apart := false, narrowed := true }
def SharesAreMadeUptoSaid : Prop := sharesAreMadeUptoRow.holds Try.pinned (OpenSpec.upto sharesAreMadeSpec)

/-- 'keylaw2.SplitsMatch', WHERE WHAT IT READS IS OF BULK AT MOST 1048576: true; the input reads as it did. -/
def splitsMatchUptoRow : OpenClaim := { program := "ytbljihhelladbaa", sum := "461c62da61574806e2cefe1e52a4206e185f0e581b349654a27730e7a4ef513a", func := "keywarden/keylaw2.SplitsMatch", spec := "splitsMatch", inPlace := ["internal/bytealg.Compare"], unfollowed := true, recurses := true, plainKeys := false, apart := false, narrowed := true }
def SplitsMatchUptoSaid : Prop := splitsMatchUptoRow.holds Try.pinned (OpenSpec.upto splitsMatchSpec)

/-- 'keylaw2.ChunksAreChecked', WHERE WHAT IT READS IS OF BULK AT MOST 1048576: true; the input reads as it did. -/
def chunksAreCheckedUptoRow : OpenClaim := { program := "ytbljihhelladbaa", sum := "461c62da61574806e2cefe1e52a4206e185f0e581b349654a27730e7a4ef513a", func := "keywarden/keylaw2.ChunksAreChecked", spec := "chunksAreChecked", unfollowed := true, recurses := true, plainKeys := false, apart := false, narrowed := true }
def ChunksAreCheckedUptoSaid : Prop := chunksAreCheckedUptoRow.holds Try.pinned (OpenSpec.upto chunksAreCheckedSpec)

/-- 'keylaw2.EnvelopesMatch', WHERE WHAT IT READS IS OF BULK AT MOST 1048576: true; the input reads as it did. -/
def envelopesMatchUptoRow : OpenClaim := { program := "ytbljihhelladbaa", sum := "461c62da61574806e2cefe1e52a4206e185f0e581b349654a27730e7a4ef513a", func := "keywarden/keylaw2.EnvelopesMatch", spec := "envelopesMatch", unfollowed := true, recurses := true, plainKeys := false, apart := false, narrowed := true }
def EnvelopesMatchUptoSaid : Prop := envelopesMatchUptoRow.holds Try.pinned (OpenSpec.upto envelopesMatchSpec)

/-- 'keylaw2.CommitsMatch', WHERE WHAT IT READS IS OF BULK AT MOST 1048576: true; the input reads as it did. -/
def commitsMatchUptoRow : OpenClaim := { program := "ytbljihhelladbaa", sum := "461c62da61574806e2cefe1e52a4206e185f0e581b349654a27730e7a4ef513a", func := "keywarden/keylaw2.CommitsMatch", spec := "commitsMatch", inPlace := ["internal/bytealg.IndexByteString", "internal/bytealg.IndexString"], unfollowed := true, recurses := true, named := ["internal/bytealg.MaxLen"], plainKeys := false, apart := false, narrowed := true }
def CommitsMatchUptoSaid : Prop := commitsMatchUptoRow.holds Try.pinned (OpenSpec.upto commitsMatchSpec)

/-- 'keylaw2.TextsAreSealed', WHERE WHAT IT READS IS OF BULK AT MOST 1048576: true; the input reads as it did. -/
def textsAreSealedUptoRow : OpenClaim := { program := "ytbljihhelladbaa", sum := "461c62da61574806e2cefe1e52a4206e185f0e581b349654a27730e7a4ef513a", func := "keywarden/keylaw2.TextsAreSealed", spec := "textsAreSealed", plainKeys := false, apart := false, narrowed := true }
def TextsAreSealedUptoSaid : Prop := textsAreSealedUptoRow.holds Try.pinned (OpenSpec.upto textsAreSealedSpec)

/-- 'keylaw2.PacksMatch', WHERE WHAT IT READS IS OF BULK AT MOST 1048576: true; the input reads as it did. -/
def packsMatchUptoRow : OpenClaim := { program := "ytbljihhelladbaa", sum := "461c62da61574806e2cefe1e52a4206e185f0e581b349654a27730e7a4ef513a", func := "keywarden/keylaw2.PacksMatch", spec := "packsMatch", inPlace := ["internal/bytealg.IndexByteString", "internal/bytealg.IndexString"], unfollowed := true, recurses := true, named := ["internal/bytealg.MaxLen"], plainKeys := false, apart := false, narrowed := true }
def PacksMatchUptoSaid : Prop := packsMatchUptoRow.holds Try.pinned (OpenSpec.upto packsMatchSpec)

end Rows
end Go.Proofs.Ytbljihhelladbaa
