/- Layer 9 in plain terms: reading. -/
import Derived.Test.YtpdckdfnpehliaaGreatGramSpec
import Derived.Test.YtpdckdfnpehliaaGreatRdSpec
set_option linter.unusedVariables false
set_option linter.unusedSimpArgs false

namespace Go.Proofs.YtpdckdfnpehliaaGreat

def rdMust (c : Int) (s : RdS) : RdS := if (rdByte s).1 ≠ c then (rdByte s).2.fail 7 else (rdByte s).2
def rdSigns (s : RdS) : RdS := rdMust 1 (rdMust 71 s)
def rdWhen (g : Gram) (s : RdS) : Gram × RdS :=
  ({ g with tick := (rdUint 4294967295 s).1, time := (rdInt (rdUint 4294967295 s).2).1 },
    if timely (rdInt (rdUint 4294967295 s).2).1 = true then (rdInt (rdUint 4294967295 s).2).2 else (rdInt (rdUint 4294967295 s).2).2.fail 3)
def rdBase (g : Gram) (s : RdS) : Gram × RdS :=
  ({ g with base := if (rdUint g.tick s).1 > 0 then g.tick - (rdUint g.tick s).1 else -1 }, (rdUint g.tick s).2)
def rdLoop : Nat → Int → Gram → RdS → Gram × RdS
  | 0, _, g, s => (g, s)
  | n + 1, last, g, s =>
    if (recRead last s).1.2 ≠ 0 then (g, (recRead last s).2)
    else rdLoop n (recRead last s).1.1.id { g with recs := g.recs ++ [(recRead last s).1.1] } (recRead last s).2
def rdRecords (g : Gram) (s : RdS) : Gram × RdS := rdLoop (rdUint 128 s).1.toNat (-1) g (rdUint 128 s).2
def rdGram (s : RdS) : Gram × RdS :=
  let a := rdWhen ⟨0, 0, 0, []⟩ (rdSigns s)
  let b := rdBase a.1 a.2
  rdRecords b.1 b.2
/-- A datagram's bytes read: the datagram, the error. -/
def gramRead (bs : List Int) : Gram × Int :=
  if bs.length > 4096 then (⟨0, 0, 0, []⟩, 8)
  else match open_ bs with
    | none => (⟨0, 0, 0, []⟩, 9)
    | some x =>
      let q := rdGram ⟨x, 0⟩
      if q.2.done ≠ 0 then (⟨0, 0, 0, []⟩, q.2.done) else (q.1, 0)

end Go.Proofs.YtpdckdfnpehliaaGreat
