/- Layer 10 in plain terms: snapshots. -/
import Derived.Test.YtpdckdfnpehliaaGreatGramSpec
set_option linter.unusedVariables false
set_option linter.unusedSimpArgs false

namespace Go.Proofs.YtpdckdfnpehliaaGreat

structure Snap where
  tick : Int
  time : Int
  ents : List Ent
  deriving DecidableEq
structure Snap.wf (s : Snap) : Prop where
  tick : i64 s.tick
  time : i64 s.time
  ents : ∀ x ∈ s.ents, x.wf
def entsCheck : Int → List Ent → Int
  | _, [] => 0
  | last, x :: l => if x.id < 0 ∨ x.id > 65535 then 3 else if x.id ≤ last then 10 else entsCheck x.id l
def snapCheck (s : Snap) : Int :=
  if s.tick < 0 ∨ s.tick > 4294967295 ∨ s.time < -2305843009213693952 ∨ s.time > 2305843009213693952 then 3
  else if s.ents.length > 64 then 4
  else entsCheck (-1) s.ents

end Go.Proofs.YtpdckdfnpehliaaGreat
