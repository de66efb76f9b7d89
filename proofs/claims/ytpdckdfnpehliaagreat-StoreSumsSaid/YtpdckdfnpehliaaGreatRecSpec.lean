/- What is others with an entity: the plain law. -/
import Derived.Test.YtpdckdfnpehliaaGreatRdSpec
set_option linter.unusedVariables false
set_option linter.unusedSimpArgs false
namespace Go.Proofs.YtpdckdfnpehliaaGreat

structure Ent where
  id : Int
  p0 : Int
  p1 : Int
  p2 : Int
  v0 : Int
  v1 : Int
  v2 : Int
  angle : Int
  gen : Int
deriving DecidableEq
structure Rec where
  kind : Int
  id : Int
  p0 : Int
  p1 : Int
  p2 : Int
  v0 : Int
  v1 : Int
  v2 : Int
  angle : Int
deriving DecidableEq

def i64 (x : Int) : Prop := -9223372036854775808 ≤ x ∧ x ≤ 9223372036854775807
structure Ent.wf (x : Ent) : Prop where
  id : i64 x.id
  p0 : i64 x.p0
  p1 : i64 x.p1
  p2 : i64 x.p2
  v0 : i64 x.v0
  v1 : i64 x.v1
  v2 : i64 x.v2
  angle : 0 ≤ x.angle ∧ x.angle ≤ 65535
  gen : 0 ≤ x.gen ∧ x.gen ≤ 255
structure Rec.wf (x : Rec) : Prop where
  kind : i64 x.kind
  id : i64 x.id
  p0 : i64 x.p0
  p1 : i64 x.p1
  p2 : i64 x.p2
  v0 : i64 x.v0
  v1 : i64 x.v1
  v2 : i64 x.v2
  angle : 0 ≤ x.angle ∧ x.angle ≤ 65535

def Rec.ns (r : Rec) : List Int := [r.p0, r.p1, r.p2, r.v0, r.v1, r.v2]
def Rec.bare (r : Rec) : Bool := r == ⟨r.kind, r.id, 0, 0, 0, 0, 0, 0, 0⟩
def Rec.zero : Rec := ⟨0, 0, 0, 0, 0, 0, 0, 0, 0⟩
def Ent.zero : Ent := ⟨0, 0, 0, 0, 0, 0, 0, 0, 0⟩

def recCheck (r : Rec) : Int :=
  if r.kind < 0 ∨ r.kind > 3 then 11 else if r.id < 0 ∨ r.id > 65535 then 3
  else if (r.kind = 1 ∧ r.bare = true) ∨ (r.kind = 2 ∧ r.bare = false) then 2 else 0

/-- The bytes of numbers. -/
def nsBytes (l : List Int) : List Int := l.flatMap fun n => put (zig n)
def recAll (r : Rec) : List Int := nsBytes r.ns ++ put r.angle
/-- Which are not 0, and their bytes. -/
def maskOf : Nat → List Int → Int
  | _, [] => 0
  | k, n :: l => (if n ≠ 0 then (2 : Int) ^ k else 0) + maskOf (k + 1) l
def someBytes (l : List Int) : List Int := l.flatMap fun n => if n ≠ 0 then put (zig n) else []
def recSome (r : Rec) : List Int :=
  (maskOf 0 r.ns + (if r.angle ≠ 0 then 64 else 0)) :: (someBytes r.ns ++ if r.angle ≠ 0 then put r.angle else [])
def recBody (r : Rec) : List Int := if r.kind = 1 then recSome r else if r.kind = 2 then [] else recAll r
/-- A record's bytes, behind one of the entity last; or the error. -/
def recWrite (r : Rec) (last : Int) : Except Int (List Int) :=
  if recCheck r ≠ 0 then .error (recCheck r) else if last < -1 ∨ last > 65535 then .error 3 else if r.id ≤ last then .error 10
  else .ok (put (r.id - last - 1) ++ [r.kind] ++ recBody r)

def rdVec (s : RdS) : (Int × Int × Int) × RdS :=
  let a := rdInt s
  let b := rdInt a.2
  let c := rdInt b.2
  ((a.1, b.1, c.1), c.2)
def rdAll (r : Rec) (s : RdS) : Rec × RdS :=
  let a := rdVec s
  let b := rdVec a.2
  let c := rdUint 65535 b.2
  ({ r with p0 := a.1.1, p1 := a.1.2.1, p2 := a.1.2.2, v0 := b.1.1, v1 := b.1.2.1, v2 := b.1.2.2, angle := c.1 }, c.2)
/-- One number of those that are told. -/
def rdOne (told : Bool) (old : Int) (s : RdS) : Int × RdS :=
  if told then ((rdInt s).1, if (rdInt s).1 = 0 then (rdInt s).2.fail 7 else (rdInt s).2) else (old, s)
def rdSome (r : Rec) (s : RdS) : Rec × RdS :=
  let m := rdByte s
  if m.1 = 0 ∨ m.1 > 127 then (r, m.2.fail 7)
  else
    let a := rdOne (m.1 / 1 % 2 == 1) r.p0 m.2
    let b := rdOne (m.1 / 2 % 2 == 1) r.p1 a.2
    let c := rdOne (m.1 / 4 % 2 == 1) r.p2 b.2
    let d := rdOne (m.1 / 8 % 2 == 1) r.v0 c.2
    let e := rdOne (m.1 / 16 % 2 == 1) r.v1 d.2
    let f := rdOne (m.1 / 32 % 2 == 1) r.v2 e.2
    let r1 : Rec := { r with p0 := a.1, p1 := b.1, p2 := c.1, v0 := d.1, v1 := e.1, v2 := f.1 }
    if m.1 / 64 % 2 = 1 then
      let g := rdUint 65535 f.2
      ({ r1 with angle := g.1 }, if g.1 = 0 then g.2.fail 7 else g.2)
    else (r1, f.2)
/-- A record off a reader: the record, the error. -/
def recRead (last : Int) (s : RdS) : (Rec × Int) × RdS :=
  if last < -1 ∨ last > 65535 then ((Rec.zero, 3), s)
  else if last = 65535 then ((Rec.zero, (s.fail 10).err), s.fail 10)
  else
    let a := rdUint (65534 - last) s
    let b := rdByte a.2
    let r : Rec := ⟨b.1, last + 1 + a.1, 0, 0, 0, 0, 0, 0, 0⟩
    let q := if b.1 = 0 ∨ b.1 = 3 then rdAll r b.2 else if b.1 = 1 then rdSome r b.2 else if b.1 = 2 then (r, b.2) else (r, b.2.fail 11)
    if q.2.err ≠ 0 then ((Rec.zero, q.2.err), q.2) else ((q.1, 0), q.2)

def w64 (x : Int) : Int := (x + 9223372036854775808) % 18446744073709551616 - 9223372036854775808
def recDiff (a b : Ent) : Rec × Bool :=
  if a = b then (Rec.zero, false)
  else if a.gen = b.gen then
    (⟨1, b.id, w64 (b.p0 - a.p0), w64 (b.p1 - a.p1), w64 (b.p2 - a.p2), w64 (b.v0 - a.v0), w64 (b.v1 - a.v1), w64 (b.v2 - a.v2), (b.angle - a.angle) % 65536⟩, true)
  else (⟨3, b.id, b.p0, b.p1, b.p2, b.v0, b.v1, b.v2, b.angle⟩, true)
def recApply (a : Ent) (r : Rec) : Ent × Int :=
  if recCheck r ≠ 0 then (Ent.zero, recCheck r)
  else if r.id ≠ a.id ∨ r.kind = 0 ∨ r.kind = 2 then (Ent.zero, 15)
  else if r.kind = 3 then (⟨a.id, r.p0, r.p1, r.p2, r.v0, r.v1, r.v2, r.angle, (a.gen + 1) % 256⟩, 0)
  else (⟨a.id, w64 (a.p0 + r.p0), w64 (a.p1 + r.p1), w64 (a.p2 + r.p2), w64 (a.v0 + r.v0), w64 (a.v1 + r.v1), w64 (a.v2 + r.v2), (a.angle + r.angle) % 65536, a.gen⟩, 0)

theorem w64_range (x : Int) : i64 (w64 x) := by unfold i64 w64; omega
theorem nsBytes_isB (l : List Int) (h : ∀ n ∈ l, i64 n) : isB (nsBytes l) := by
  intro c hc
  obtain ⟨n, hn, hc⟩ := List.mem_flatMap.1 hc
  exact put_isB _ (zig_range n (h n hn).1 (h n hn).2).1 c hc
theorem Rec.ns_wf {r : Rec} (h : r.wf) : ∀ n ∈ r.ns, i64 n := by
  intro n hn
  simp [Rec.ns] at hn
  rcases hn with rfl | rfl | rfl | rfl | rfl | rfl
  · exact h.p0
  · exact h.p1
  · exact h.p2
  · exact h.v0
  · exact h.v1
  · exact h.v2
theorem nsBytes_len (l : List Int) : (nsBytes l).length ≤ 10 * l.length := by
  induction l with
  | nil => simp [nsBytes]
  | cons n l ih =>
    have := put_len (zig n)
    simp only [nsBytes, List.flatMap_cons, List.length_append, List.length_cons] at *
    omega
theorem someBytes_len (l : List Int) : (someBytes l).length ≤ 10 * l.length := by
  induction l with
  | nil => simp [someBytes]
  | cons n l ih =>
    have := put_len (zig n)
    have h : ((if n ≠ 0 then put (zig n) else []) : List Int).length ≤ 10 := by split <;> simp [this]
    simp only [someBytes, List.flatMap_cons, List.length_append, List.length_cons] at *
    omega
theorem recBody_len (r : Rec) : (recBody r).length ≤ 71 := by
  unfold recBody
  split
  · unfold recSome
    have := someBytes_len r.ns
    have h2 := put_len r.angle
    have h : ((if r.angle ≠ 0 then put r.angle else []) : List Int).length ≤ 10 := by split <;> simp [h2]
    simp only [List.length_cons, List.length_append]
    have h3 : r.ns.length = 6 := rfl
    omega
  · split
    · simp
    · unfold recAll
      have := nsBytes_len r.ns
      have h2 := put_len r.angle
      have h3 : r.ns.length = 6 := rfl
      simp only [List.length_append]
      omega
end Go.Proofs.YtpdckdfnpehliaaGreat
