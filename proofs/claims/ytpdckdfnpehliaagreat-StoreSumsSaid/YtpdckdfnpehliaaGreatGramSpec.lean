/- Layer 9 in plain terms: a datagram's bytes. -/
import Derived.Test.YtpdckdfnpehliaaGreatRecSpec
import Derived.Test.YtpdckdfnpehliaaGreatCrcSpec
set_option linter.unusedVariables false
set_option linter.unusedSimpArgs false

namespace Go.Proofs.YtpdckdfnpehliaaGreat

structure Gram where
  tick : Int
  time : Int
  base : Int
  recs : List Rec
  deriving DecidableEq

def timely (t : Int) : Bool := decide (-2305843009213693952 ≤ t) && decide (t ≤ 2305843009213693952)
structure Gram.wf (g : Gram) : Prop where
  tick : i64 g.tick
  time : i64 g.time
  base : i64 g.base
  recs : ∀ r ∈ g.recs, r.wf

/-- How far back the base lies, or 0. -/
def Gram.ago (g : Gram) : Int := if g.base ≥ 0 then g.tick - g.base else 0
def gramHead (g : Gram) : Except Int (List Int) :=
  if g.tick < 0 ∨ g.tick > 4294967295 ∨ timely g.time = false ∨ g.base < -1 then .error 3
  else if g.base ≥ g.tick then .error 10
  else if g.recs.length > 128 then .error 8
  else .ok ([71, 1] ++ put g.tick ++ put (zig g.time) ++ put g.ago ++ put g.recs.length)
/-- Records, each behind the one ahead. -/
def recsWrite : Int → List Rec → Except Int (List Int)
  | _, [] => .ok []
  | last, r :: l => match recWrite r last with
    | .error e => .error e
    | .ok b => match recsWrite r.id l with
      | .error e => .error e
      | .ok c => .ok (b ++ c)
def gramBody (g : Gram) : Except Int (List Int) :=
  match gramHead g with
  | .error e => .error e
  | .ok h => match recsWrite (-1) g.recs with
    | .error e => .error e
    | .ok b => .ok (h ++ b)
def gramCheck (g : Gram) : Int := match gramBody g with | .error e => e | .ok _ => 0
def gramWrite (g : Gram) : Except Int (List Int) :=
  match gramBody g with
  | .error e => .error e
  | .ok b => if b.length > 4092 then .error 8 else .ok (seal_ b)

theorem recWrite_len {r : Rec} {last : Int} {b : List Int} (h : recWrite r last = .ok b) : b.length ≤ 82 := by
  unfold recWrite at h
  split at h
  · cases h
  · split at h
    · cases h
    · split at h
      · cases h
      · injection h with h
        subst h
        have := put_len (r.id - last - 1)
        have := recBody_len r
        simp; omega
theorem recsWrite_len {l : List Rec} : ∀ {last : Int} {b : List Int}, recsWrite last l = .ok b → b.length ≤ 82 * l.length := by
  induction l with
  | nil => intro last b h; injection h with h; subst h; simp
  | cons r l ih =>
    intro last b h
    unfold recsWrite at h
    cases h1 : recWrite r last with
    | error e => rw [h1] at h; cases h
    | ok b1 =>
      rw [h1] at h
      simp only at h
      cases h2 : recsWrite r.id l with
      | error e => rw [h2] at h; cases h
      | ok c =>
        rw [h2] at h
        injection h with h
        subst h
        have := recWrite_len h1
        have := ih h2
        simp; omega
theorem gramHead_ok {g : Gram} {h : List Int} (hh : gramHead g = .ok h) :
    (0 ≤ g.tick ∧ g.tick ≤ 4294967295 ∧ timely g.time = true ∧ -1 ≤ g.base ∧ g.base < g.tick ∧ g.recs.length ≤ 128) ∧ h = [71, 1] ++ put g.tick ++ put (zig g.time) ++ put g.ago ++ put g.recs.length := by
  unfold gramHead at hh
  split at hh
  · cases hh
  · next h1 =>
    split at hh
    · cases hh
    · split at hh
      · cases hh
      · injection hh with hh
        refine ⟨⟨?_, ?_, ?_, ?_, ?_, ?_⟩, hh.symm⟩
        · omega
        · omega
        · cases ht : timely g.time
          · exact absurd (Or.inr (Or.inr (Or.inl ht))) h1
          · rfl
        · omega
        · omega
        · omega
theorem gramHead_len {g : Gram} {h : List Int} (hh : gramHead g = .ok h) : h.length ≤ 42 := by
  have := (gramHead_ok hh).2
  subst this
  have h1 := put_len g.tick
  have h2 := put_len (zig g.time)
  have h3 := put_len g.ago
  have h4 := put_len g.recs.length
  simp; omega
theorem gramBody_len {g : Gram} {b : List Int} (h : gramBody g = .ok b) : b.length ≤ 11000 := by
  unfold gramBody at h
  cases h0 : gramHead g with
  | error e => rw [h0] at h; cases h
  | ok hd =>
    rw [h0] at h
    simp only at h
    cases h1 : recsWrite (-1) g.recs with
    | error e => rw [h1] at h; cases h
    | ok b1 =>
      rw [h1] at h
      injection h with h
      subst h
      have := gramHead_len h0
      have := recsWrite_len h1
      have := (gramHead_ok h0).1
      simp; omega
theorem timely_range {t : Int} (h : timely t = true) : -2305843009213693952 ≤ t ∧ t ≤ 2305843009213693952 := by
  simpa [timely] using h

end Go.Proofs.YtpdckdfnpehliaaGreat
