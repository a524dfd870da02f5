/-
  No cell of these rows narrows 'for every input' (looked for: loops, veiled, ifaces, maps, wideKeys, modest, calm, conditions, laid).
  DERIVED. THE GIVEN ROWS OF THIS SEAT. 9 by the template 'for every input the law returns true; each argument reads behind the call as it read before'; 0 by the template 'total and deterministic' (their statements: YtmojlfgfaabegaaTotals.lean).
  GIVEN WITH THE SEED: the statements are not yours to turn. If you find one false, say at which input.
  Laid BY PROGRAM, IN A SANDBOX (cutbox-rows.mjs): the forced cells as the released guide's own fill.sh prints them over the translation 217aa249bd5cc54e… (all of the seat's roots in one cut). By AI agents, Wed Nov 11 2026. No macro, syntax, notation, axiom, sorry.
-/
import Derived.Test.YtmojlfgfaabegaaChecked
import GoSem.Claim
import GoSem.ClaimJoined
import GoSem.ClaimMapViews
import Derived.JoinedTies
import Derived.KernelRfl
namespace Go.Proofs.Ytmojlfgfaabegaa
/- THE CELL 'sum', in the pinned program and in every row, IS THE sha256 OF THE DUMP (.gsa) THAT YtmojlfgfaabegaaProg.lean LOADS. Nothing in Lean hashes anything: it is a label: what it is worth is what the hold of that sum in a sandbox is worth. -/
noncomputable def Try.pinned : Pinned := { name := "ytmojlfgfaabegaa", sum := "217aa249bd5cc54ebe808c4806dd23d21ec7106d08f5ecbc35fe7a832406bd26", checked := Try.checked }
namespace Rows
def none {H : Type} : Left H := { results := [], args := [] }

/-- 'cutroomlaw15.AudioSums': WHATEVER THE INPUT: true; the input reads as it did. -/
def audioSumsSpec : ChangeSpec := { name := "audioSums", fn := fun _ => fun
  | [d1, d2] => { results := [.lit (.bool true)], args := [d1, d2] }
  | _ => none }
def audioSumsRow : OpenClaim := { program := "ytmojlfgfaabegaa", sum := "217aa249bd5cc54ebe808c4806dd23d21ec7106d08f5ecbc35fe7a832406bd26", func := "cutroom/cutroomlaw15.AudioSums", spec := "audioSums", unfollowed := true, recurses := true, apart := false }
def AudioSumsSaid : Prop := audioSumsRow.holds Try.pinned (OpenSpec.ofChange audioSumsSpec)

/-- ITS FALSE NEIGHBOUR: 'it returns false'. Refute it at one input. -/
def audioSumsWrong : ChangeSpec := { name := "audioSums", fn := fun _ => fun
  | [d1, d2] => { results := [.lit (.bool false)], args := [d1, d2] }
  | _ => none }
def AudioSumsWrongFalsely : Prop := audioSumsRow.holds Try.pinned (OpenSpec.ofChange audioSumsWrong)

/-- 'cutroomlaw15.AudioTakes': WHATEVER THE INPUT: true; the input reads as it did. -/
def audioTakesSpec : ChangeSpec := { name := "audioTakes", fn := fun _ => fun
  | [d] => { results := [.lit (.bool true)], args := [d] }
  | _ => none }
def audioTakesRow : OpenClaim := { program := "ytmojlfgfaabegaa", sum := "217aa249bd5cc54ebe808c4806dd23d21ec7106d08f5ecbc35fe7a832406bd26", func := "cutroom/cutroomlaw15.AudioTakes", spec := "audioTakes", unfollowed := true, recurses := true, apart := false }
def AudioTakesSaid : Prop := audioTakesRow.holds Try.pinned (OpenSpec.ofChange audioTakesSpec)

/-- ITS FALSE NEIGHBOUR: 'it returns false'. Refute it at one input. -/
def audioTakesWrong : ChangeSpec := { name := "audioTakes", fn := fun _ => fun
  | [d] => { results := [.lit (.bool false)], args := [d] }
  | _ => none }
def AudioTakesWrongFalsely : Prop := audioTakesRow.holds Try.pinned (OpenSpec.ofChange audioTakesWrong)

/-- 'cutroomlaw15.AudioPuts': WHATEVER THE INPUT: true; the input reads as it did. -/
def audioPutsSpec : ChangeSpec := { name := "audioPuts", fn := fun _ => fun
  | [d] => { results := [.lit (.bool true)], args := [d] }
  | _ => none }
def audioPutsRow : OpenClaim := { program := "ytmojlfgfaabegaa", sum := "217aa249bd5cc54ebe808c4806dd23d21ec7106d08f5ecbc35fe7a832406bd26", func := "cutroom/cutroomlaw15.AudioPuts", spec := "audioPuts", unfollowed := true, recurses := true, apart := false }
def AudioPutsSaid : Prop := audioPutsRow.holds Try.pinned (OpenSpec.ofChange audioPutsSpec)

/-- ITS FALSE NEIGHBOUR: 'it returns false'. Refute it at one input. -/
def audioPutsWrong : ChangeSpec := { name := "audioPuts", fn := fun _ => fun
  | [d] => { results := [.lit (.bool false)], args := [d] }
  | _ => none }
def AudioPutsWrongFalsely : Prop := audioPutsRow.holds Try.pinned (OpenSpec.ofChange audioPutsWrong)

/-- 'cutroomlaw15.AudioEncodes': WHATEVER THE INPUT: true; the input reads as it did. -/
def audioEncodesSpec : ChangeSpec := { name := "audioEncodes", fn := fun _ => fun
  | [d] => { results := [.lit (.bool true)], args := [d] }
  | _ => none }
def audioEncodesRow : OpenClaim := { program := "ytmojlfgfaabegaa", sum := "217aa249bd5cc54ebe808c4806dd23d21ec7106d08f5ecbc35fe7a832406bd26", func := "cutroom/cutroomlaw15.AudioEncodes", spec := "audioEncodes", unfollowed := true, recurses := true, apart := false }
def AudioEncodesSaid : Prop := audioEncodesRow.holds Try.pinned (OpenSpec.ofChange audioEncodesSpec)

/-- ITS FALSE NEIGHBOUR: 'it returns false'. Refute it at one input. -/
def audioEncodesWrong : ChangeSpec := { name := "audioEncodes", fn := fun _ => fun
  | [d] => { results := [.lit (.bool false)], args := [d] }
  | _ => none }
def AudioEncodesWrongFalsely : Prop := audioEncodesRow.holds Try.pinned (OpenSpec.ofChange audioEncodesWrong)

/-- 'cutroomlaw15.AudioDecodes': WHATEVER THE INPUT: true; the input reads as it did. -/
def audioDecodesSpec : ChangeSpec := { name := "audioDecodes", fn := fun _ => fun
  | [d] => { results := [.lit (.bool true)], args := [d] }
  | _ => none }
def audioDecodesRow : OpenClaim := { program := "ytmojlfgfaabegaa", sum := "217aa249bd5cc54ebe808c4806dd23d21ec7106d08f5ecbc35fe7a832406bd26", func := "cutroom/cutroomlaw15.AudioDecodes", spec := "audioDecodes", unfollowed := true, recurses := true, apart := false }
def AudioDecodesSaid : Prop := audioDecodesRow.holds Try.pinned (OpenSpec.ofChange audioDecodesSpec)

/-- ITS FALSE NEIGHBOUR: 'it returns false'. Refute it at one input. -/
def audioDecodesWrong : ChangeSpec := { name := "audioDecodes", fn := fun _ => fun
  | [d] => { results := [.lit (.bool false)], args := [d] }
  | _ => none }
def AudioDecodesWrongFalsely : Prop := audioDecodesRow.holds Try.pinned (OpenSpec.ofChange audioDecodesWrong)

/-- 'cutroomlaw15.AudioGenerations': WHATEVER THE INPUT: true; the input reads as it did. -/
def audioGenerationsSpec : ChangeSpec := { name := "audioGenerations", fn := fun _ => fun
  | [d] => { results := [.lit (.bool true)], args := [d] }
  | _ => none }
def audioGenerationsRow : OpenClaim := { program := "ytmojlfgfaabegaa", sum := "217aa249bd5cc54ebe808c4806dd23d21ec7106d08f5ecbc35fe7a832406bd26", func := "cutroom/cutroomlaw15.AudioGenerations", spec := "audioGenerations", unfollowed := true, recurses := true, apart := false }
def AudioGenerationsSaid : Prop := audioGenerationsRow.holds Try.pinned (OpenSpec.ofChange audioGenerationsSpec)

/-- ITS FALSE NEIGHBOUR: 'it returns false'. Refute it at one input. -/
def audioGenerationsWrong : ChangeSpec := { name := "audioGenerations", fn := fun _ => fun
  | [d] => { results := [.lit (.bool false)], args := [d] }
  | _ => none }
def AudioGenerationsWrongFalsely : Prop := audioGenerationsRow.holds Try.pinned (OpenSpec.ofChange audioGenerationsWrong)

/-- 'cutroomlaw15.AudioDamage': WHATEVER THE INPUT: true; the input reads as it did. -/
def audioDamageSpec : ChangeSpec := { name := "audioDamage", fn := fun _ => fun
  | [d1, d2, d3] => { results := [.lit (.bool true)], args := [d1, d2, d3] }
  | _ => none }
def audioDamageRow : OpenClaim := { program := "ytmojlfgfaabegaa", sum := "217aa249bd5cc54ebe808c4806dd23d21ec7106d08f5ecbc35fe7a832406bd26", func := "cutroom/cutroomlaw15.AudioDamage", spec := "audioDamage", unfollowed := true, recurses := true, apart := false }
def AudioDamageSaid : Prop := audioDamageRow.holds Try.pinned (OpenSpec.ofChange audioDamageSpec)

/-- ITS FALSE NEIGHBOUR: 'it returns false'. Refute it at one input. -/
def audioDamageWrong : ChangeSpec := { name := "audioDamage", fn := fun _ => fun
  | [d1, d2, d3] => { results := [.lit (.bool false)], args := [d1, d2, d3] }
  | _ => none }
def AudioDamageWrongFalsely : Prop := audioDamageRow.holds Try.pinned (OpenSpec.ofChange audioDamageWrong)

/-- 'cutroomlaw15.AudioShort': WHATEVER THE INPUT: true; the input reads as it did. -/
def audioShortSpec : ChangeSpec := { name := "audioShort", fn := fun _ => fun
  | [d1, d2] => { results := [.lit (.bool true)], args := [d1, d2] }
  | _ => none }
def audioShortRow : OpenClaim := { program := "ytmojlfgfaabegaa", sum := "217aa249bd5cc54ebe808c4806dd23d21ec7106d08f5ecbc35fe7a832406bd26", func := "cutroom/cutroomlaw15.AudioShort", spec := "audioShort", unfollowed := true, recurses := true, apart := false }
def AudioShortSaid : Prop := audioShortRow.holds Try.pinned (OpenSpec.ofChange audioShortSpec)

/-- ITS FALSE NEIGHBOUR: 'it returns false'. Refute it at one input. -/
def audioShortWrong : ChangeSpec := { name := "audioShort", fn := fun _ => fun
  | [d1, d2] => { results := [.lit (.bool false)], args := [d1, d2] }
  | _ => none }
def AudioShortWrongFalsely : Prop := audioShortRow.holds Try.pinned (OpenSpec.ofChange audioShortWrong)

/-- 'cutroomlaw15.AudioBack': WHATEVER THE INPUT: true; the input reads as it did. -/
def audioBackSpec : ChangeSpec := { name := "audioBack", fn := fun _ => fun
  | [d] => { results := [.lit (.bool true)], args := [d] }
  | _ => none }
def audioBackRow : OpenClaim := { program := "ytmojlfgfaabegaa", sum := "217aa249bd5cc54ebe808c4806dd23d21ec7106d08f5ecbc35fe7a832406bd26", func := "cutroom/cutroomlaw15.AudioBack", spec := "audioBack", unfollowed := true, recurses := true, apart := false }
def AudioBackSaid : Prop := audioBackRow.holds Try.pinned (OpenSpec.ofChange audioBackSpec)

/-- ITS FALSE NEIGHBOUR: 'it returns false'. Refute it at one input. -/
def audioBackWrong : ChangeSpec := { name := "audioBack", fn := fun _ => fun
  | [d] => { results := [.lit (.bool false)], args := [d] }
  | _ => none }
def AudioBackWrongFalsely : Prop := audioBackRow.holds Try.pinned (OpenSpec.ofChange audioBackWrong)

/- THE SECOND FORM. 'bulk': how many values and letters a reading holds, each counted each time it is reached (what is shared counts as often as it is met; a slice's spare places count too). A statement '..UptoSaid' is the law's where the arguments, and the package variables that the reading takes, are together of bulk at most 1048576: NARROWER than '..Said'. Prove '..Said' where nothing that the law and all that it calls make is longer than what came in: it says more and counts as full. Else prove '..UptoSaid'. A law counts once. -/
mutual
def uptoBulk {H : Type} : DataW H → Nat
  | .lit (.string bytes) => bytes.length + 1
  | .lit _ => 1
  | .nil => 1
  | .ptr d => uptoBulk d + 1
  | .slice elems spare => uptoBulkAll elems + uptoBulkAll spare + 1
  | .agg parts => uptoBulkAll parts + 1
  | .iface _ d => uptoBulk d + 1
  | .map entries => uptoBulkEntries entries + 1
  | .held _ => 1
def uptoBulkAll {H : Type} : List (DataW H) → Nat
  | [] => 0
  | d :: r => uptoBulk d + uptoBulkAll r
def uptoBulkEntries {H : Type} : List (Lit × DataW H) → Nat
  | [] => 0
  | x :: r => uptoBulkEntry x + uptoBulkEntries r
def uptoBulkEntry {H : Type} : Lit × DataW H → Nat
  | (.string bytes, d) => bytes.length + uptoBulk d + 1
  | (_, d) => uptoBulk d + 1
 end
def uptoSmall : (H : Type) → List (DataW H) → Bool := fun _ ds => decide (uptoBulkAll ds ≤ 1048576)
def OpenSpec.upto (s : _root_.Go.ChangeSpec) : _root_.Go.OpenSpec := { _root_.Go.OpenSpec.ofChange s with cond := some uptoSmall }

/-- 'cutroomlaw15.AudioSums', WHERE WHAT IT READS IS OF BULK AT MOST 1048576: true; the input reads as it did. -/
def audioSumsUptoRow : OpenClaim := { program := "ytmojlfgfaabegaa", sum := "217aa249bd5cc54ebe808c4806dd23d21ec7106d08f5ecbc35fe7a832406bd26", func := "cutroom/cutroomlaw15.AudioSums", spec := "audioSums", unfollowed := true, recurses := true, apart := false, narrowed := true }
def AudioSumsUptoSaid : Prop := audioSumsUptoRow.holds Try.pinned (OpenSpec.upto audioSumsSpec)

/-- 'cutroomlaw15.AudioTakes', WHERE WHAT IT READS IS OF BULK AT MOST 1048576: true; the input reads as it did. -/
def audioTakesUptoRow : OpenClaim := { program := "ytmojlfgfaabegaa", sum := "217aa249bd5cc54ebe808c4806dd23d21ec7106d08f5ecbc35fe7a832406bd26", func := "cutroom/cutroomlaw15.AudioTakes", spec := "audioTakes", unfollowed := true, recurses := true, apart := false, narrowed := true }
def AudioTakesUptoSaid : Prop := audioTakesUptoRow.holds Try.pinned (OpenSpec.upto audioTakesSpec)

/-- 'cutroomlaw15.AudioPuts', WHERE WHAT IT READS IS OF BULK AT MOST 1048576: true; the input reads as it did. -/
def audioPutsUptoRow : OpenClaim := { program := "ytmojlfgfaabegaa", sum := "217aa249bd5cc54ebe808c4806dd23d21ec7106d08f5ecbc35fe7a832406bd26", func := "cutroom/cutroomlaw15.AudioPuts", spec := "audioPuts", unfollowed := true, recurses := true, apart := false, narrowed := true }
def AudioPutsUptoSaid : Prop := audioPutsUptoRow.holds Try.pinned (OpenSpec.upto audioPutsSpec)

/-- 'cutroomlaw15.AudioEncodes', WHERE WHAT IT READS IS OF BULK AT MOST 1048576: true; the input reads as it did. -/
def audioEncodesUptoRow : OpenClaim := { program := "ytmojlfgfaabegaa", sum := "217aa249bd5cc54ebe808c4806dd23d21ec7106d08f5ecbc35fe7a832406bd26", func := "cutroom/cutroomlaw15.AudioEncodes", spec := "audioEncodes", unfollowed := true, recurses := true, apart := false, narrowed := true }
def AudioEncodesUptoSaid : Prop := audioEncodesUptoRow.holds Try.pinned (OpenSpec.upto audioEncodesSpec)

/-- 'cutroomlaw15.AudioDecodes', WHERE WHAT IT READS IS OF BULK AT MOST 1048576: true; the input reads as it did. -/
def audioDecodesUptoRow : OpenClaim := { program := "ytmojlfgfaabegaa", sum := "217aa249bd5cc54ebe808c4806dd23d21ec7106d08f5ecbc35fe7a832406bd26", func := "cutroom/cutroomlaw15.AudioDecodes", spec := "audioDecodes", unfollowed := true, recurses := true, apart := false, narrowed := true }
def AudioDecodesUptoSaid : Prop := audioDecodesUptoRow.holds Try.pinned (OpenSpec.upto audioDecodesSpec)

/-- 'cutroomlaw15.AudioGenerations', WHERE WHAT IT READS IS OF BULK AT MOST 1048576: true; the input reads as it did. -/
def audioGenerationsUptoRow : OpenClaim := { program := "ytmojlfgfaabegaa", sum := "217aa249bd5cc54ebe808c4806dd23d21ec7106d08f5ecbc35fe7a832406bd26", func := "cutroom/cutroomlaw15.AudioGenerations", spec := "audioGenerations", unfollowed := true, recurses := true, apart := false, narrowed := true }
def AudioGenerationsUptoSaid : Prop := audioGenerationsUptoRow.holds Try.pinned (OpenSpec.upto audioGenerationsSpec)

/-- 'cutroomlaw15.AudioDamage', WHERE WHAT IT READS IS OF BULK AT MOST 1048576: true; the input reads as it did. -/
def audioDamageUptoRow : OpenClaim := { program := "ytmojlfgfaabegaa", sum := "217aa249bd5cc54ebe808c4806dd23d21ec7106d08f5ecbc35fe7a832406bd26", func := "cutroom/cutroomlaw15.AudioDamage", spec := "audioDamage", unfollowed := true, recurses := true, apart := false, narrowed := true }
def AudioDamageUptoSaid : Prop := audioDamageUptoRow.holds Try.pinned (OpenSpec.upto audioDamageSpec)

/-- 'cutroomlaw15.AudioShort', WHERE WHAT IT READS IS OF BULK AT MOST 1048576: true; the input reads as it did. -/
def audioShortUptoRow : OpenClaim := { program := "ytmojlfgfaabegaa", sum := "217aa249bd5cc54ebe808c4806dd23d21ec7106d08f5ecbc35fe7a832406bd26", func := "cutroom/cutroomlaw15.AudioShort", spec := "audioShort", unfollowed := true, recurses := true, apart := false, narrowed := true }
def AudioShortUptoSaid : Prop := audioShortUptoRow.holds Try.pinned (OpenSpec.upto audioShortSpec)

/-- 'cutroomlaw15.AudioBack', WHERE WHAT IT READS IS OF BULK AT MOST 1048576: true; the input reads as it did. -/
def audioBackUptoRow : OpenClaim := { program := "ytmojlfgfaabegaa", sum := "217aa249bd5cc54ebe808c4806dd23d21ec7106d08f5ecbc35fe7a832406bd26", func := "cutroom/cutroomlaw15.AudioBack", spec := "audioBack", unfollowed := true, recurses := true, apart := false, narrowed := true }
def AudioBackUptoSaid : Prop := audioBackUptoRow.holds Try.pinned (OpenSpec.upto audioBackSpec)

end Rows
end Go.Proofs.Ytmojlfgfaabegaa
