/- Plain words for all walks of this seat: what of memory may have turned (Fr), a slice that reads as a list (Sl). -/
import Derived.WalkKit
import Derived.OwnWalk
import Derived.LoopTactic
import Derived.Outline
import Derived.WalkLawsBesides
import Derived.WalkSpells
import Derived.KernelRfl
import Derived.Deep.QuietTactic
import Derived.BigQuiet
import Derived.Deep.LoopGhost
import Derived.RegionTactic
import Derived.Lib.Hide
import Derived.IntWalk
import Derived.Laws.OwnMore
import Derived.Laws.MakeOwn
import Derived.Laws.BitsAllLaws
import Derived.OneCell
import Derived.Deep.OwnRows
set_option linter.unusedVariables false
set_option linter.unusedSimpArgs false

namespace Go.Proofs.YtpdckdfnpehliaaGreat
open Go Go.RowKit Go.Deep

/-- Of the blocks of w none but those of S have turned; the streams are as they were. -/
structure Fr (S : Nat → Prop) (w w' : World) : Prop where
  os : w'.os = w.os
  tape : w'.tape = w.tape
  output : w'.output = w.output
  size : w.heap.size ≤ w'.heap.size
  block : ∀ k, k < w.heap.size → ¬ S k → w'.heap[k]? = w.heap[k]?

theorem Fr.refl (S : Nat → Prop) (w : World) : Fr S w w := ⟨rfl, rfl, rfl, Nat.le_refl _, fun _ _ _ => rfl⟩
theorem Fr.trans {S : Nat → Prop} {a b c : World} (h : Fr S a b) (k : Fr S b c) : Fr S a c :=
  ⟨k.os.trans h.os, k.tape.trans h.tape, k.output.trans h.output, Nat.le_trans h.size k.size,
    fun i hi hs => (k.block i (Nat.lt_of_lt_of_le hi h.size) hs).trans (h.block i hi hs)⟩
/-- The second step may turn more, if that is new. -/
theorem Fr.trans' {S T : Nat → Prop} {a b c : World} (h : Fr S a b) (k : Fr T b c) (hT : ∀ i, i < a.heap.size → T i → S i) : Fr S a c :=
  ⟨k.os.trans h.os, k.tape.trans h.tape, k.output.trans h.output, Nat.le_trans h.size k.size,
    fun i hi hs => (k.block i (Nat.lt_of_lt_of_le hi h.size) (fun ht => hs (hT i hi ht))).trans (h.block i hi hs)⟩
theorem Fr.mono {S T : Nat → Prop} {a b : World} (h : Fr S a b) (hT : ∀ i, i < a.heap.size → S i → T i) : Fr T a b :=
  ⟨h.os, h.tape, h.output, h.size, fun i hi hs => h.block i hi (fun ht => hs (hT i hi ht))⟩
theorem Fr.alloc {S : Nat → Prop} {a w : World} (h : Fr S a w) (o : Obj) : Fr S a (w.alloc o) :=
  h.trans ⟨rfl, rfl, rfl, by simp, fun k hk _ => Below.heap_alloc _ _ _ hk⟩
theorem Fr.drew {S : Nat → Prop} {a w : World} (h : Fr S a w) : Fr S a w.drew := ⟨h.os, h.tape, h.output, h.size, h.block⟩
theorem Fr.drewN {S : Nat → Prop} {a w : World} (h : Fr S a w) (n : Nat) : Fr S a (w.drewN n) := ⟨h.os, h.tape, h.output, h.size, h.block⟩
theorem Fr.setCell {S : Nat → Prop} {a w : World} (h : Fr S a w) {p : Addr} (hp : p.block < a.heap.size → S p.block) (u : Value) : Fr S a (w.setCell p u) :=
  ⟨h.os, h.tape, h.output, by simpa [World.setCell] using h.size, fun k hk hs => by
    rw [Below.heap_setCell _ _ _ _ (fun e => hs (by subst e; exact hp hk))]; exact h.block k hk hs⟩
theorem Fr.below {S : Nat → Prop} {a b c : World} (h : Fr S a b) (k : Below b.heap.size b c) : Fr S a c :=
  h.trans ⟨k.os, k.tape, k.output, k.size, fun i hi _ => k.block i hi⟩
theorem Fr.of_below {a b : World} (k : Below a.heap.size a b) (S : Nat → Prop) : Fr S a b := ⟨k.os, k.tape, k.output, k.size, fun i hi _ => k.block i hi⟩
theorem Fr.to_below {S : Nat → Prop} {a b : World} (h : Fr S a b) {B : Nat} (hB : B ≤ a.heap.size) (hS : ∀ i, i < B → ¬ S i) : Below B a b :=
  ⟨h.os, h.tape, h.output, h.size, fun i hi => h.block i (Nat.lt_of_lt_of_le hi hB) (hS i hi)⟩
theorem Fr.grown {S : Nat → Prop} {a b c : World} {row : Option Nat} (h : Fr S a b) (k : b.grownBy c row) (hr : ∀ i, row = some i → i < a.heap.size → S i) : Fr S a c :=
  h.trans' (T := fun i => row = some i) ⟨k.os, k.tape, k.output, k.size, fun i hi hs => k.block i hi (fun e => hs e.symm)⟩ (fun i hi e => hr i e hi)
theorem Fr.at {S : Nat → Prop} {a b : World} (h : Fr S a b) {k : Nat} {o : Obj} (hk : a.heap[k]? = some o) (hs : ¬ S k) : b.heap[k]? = some o :=
  (h.block k (Array.getElem?_eq_some_iff.1 hk).1 hs).trans hk

theorem below_alloc {B : Nat} {w W : World} (h : Below B w W) (hB : B ≤ w.heap.size) (o : Obj) : Below B w (W.alloc o) := h.alloc (Nat.le_trans hB h.size) o
theorem below_then {B : Nat} {w w1 w2 : World} (h : Below B w w1) (hB : B ≤ w1.heap.size) (k : Below w1.heap.size w1 w2) : Below B w w2 := h.trans (k.mono hB)
theorem heap_lt {w : World} {k : Nat} {o : Obj} (h : w.heap[k]? = some o) : k < w.heap.size := (Array.getElem?_eq_some_iff.1 h).1
theorem below_at {B : Nat} {a b : World} (h : Below B a b) {k : Nat} {o : Obj} (hk : a.heap[k]? = some o) (hB : k < B) : b.heap[k]? = some o := (h.block k hB).trans hk

/-- A block's cell. -/
theorem blk {w : World} {b : Nat} {cs : Array Value} {t : TypeId} (h : w.heap[b]? = some (.cells cs t (0, 0))) (i : Nat) : w.cell? ⟨b, i, none⟩ = cs[i]? := cell_of_row w b i cs t (0, 0) h
theorem blkF {w : World} {b : Nat} {cs : Array Value} {t : TypeId} (h : w.heap[b]? = some (.cells cs t (0, 0))) (i : Nat) : w.frozen? ⟨b, i, none⟩ = false := frozen_of_row w b i cs t h
theorem blk_set {w : World} {b : Nat} {cs : Array Value} {t : TypeId} (h : w.heap[b]? = some (.cells cs t (0, 0))) (i : Nat) (v : Value) :
    (w.setCell ⟨b, i, none⟩ v).heap[b]? = some (.cells (cs.setIfInBounds i v) t (0, 0)) := heap_setCell_same w b i cs t v h

/-- A kind of thing in memory: how many cells it has, and when cells are it (in a world; what it leads to lies in F). -/
structure Ty (α : Type) where
  k : Nat
  R : World → (Nat → Prop) → α → List Value → Prop
  len : ∀ {w F x cs}, R w F x cs → cs.length = k
  keep : ∀ {w w' F F' x cs}, R w F x cs → (∀ b, F b → b < w.heap.size → w'.heap[b]? = w.heap[b]?) → (∀ b, F b → b < w.heap.size → F' b) → R w' F' x cs

/-- Kinds that lead nowhere. -/
def Ty.flat {α : Type} (k : Nat) (enc : α → List Value) (h : ∀ x, (enc x).length = k) : Ty α where
  k := k
  R := fun _ _ x cs => cs = enc x
  len := fun {_ _ x _} e => by rw [e]; exact h x
  keep := fun e _ _ => e

def Ty.int (q : IntKind) : Ty Int := Ty.flat 1 (fun x => [.int q x]) (fun _ => rfl)
abbrev Ty.byte : Ty Int := Ty.int .u8

/-- A slice that reads as a list. -/
def Sl {α : Type} (T : Ty α) (w : World) (F : Nat → Prop) (v : Value) (xs : List α) : Prop :=
  ∃ A c, v = .slice A xs.length c ∧ xs.length ≤ c ∧ c ≤ 9223372036854775807 ∧ xs.length ≤ 140737488355328 ∧
    (0 < xs.length → ∃ b off, A = some ⟨b, off, none⟩ ∧ F b ∧ b < w.heap.size ∧
      ∀ j (h : j < xs.length), ∃ cs, T.R w F xs[j] cs ∧ ∀ i (hi : i < cs.length), w.cell? ⟨b, off + j * T.k + i, none⟩ = some cs[i])

theorem Sl.keep {α : Type} {T : Ty α} {w w' : World} {F F' : Nat → Prop} {v : Value} {xs : List α} (h : Sl T w F v xs)
    (hw : ∀ b, F b → b < w.heap.size → w'.heap[b]? = w.heap[b]?) (hF : ∀ b, F b → b < w.heap.size → F' b) : Sl T w' F' v xs := by
  obtain ⟨A, c, e, h1, h2, h3, h4⟩ := h
  refine ⟨A, c, e, h1, h2, h3, fun h0 => ?_⟩
  obtain ⟨b, off, ea, hb, hl, hc⟩ := h4 h0
  refine ⟨b, off, ea, hF b hb hl, ?_, fun j hj => ?_⟩
  · have := hw b hb hl
    have h5 : w.heap[b]? ≠ none := by simp; omega
    rw [← this] at h5
    simpa [Array.getElem?_eq_none_iff] using h5
  · obtain ⟨cs, hR, hcs⟩ := hc j hj
    exact ⟨cs, T.keep hR hw hF, fun i hi => by rw [World.cell?_of_block (w := w) (hw b hb hl)]; exact hcs i hi⟩

/-- A slice as a kind of thing. -/
def Ty.slice {α : Type} (T : Ty α) : Ty (List α) where
  k := 1
  R := fun w F x cs => ∃ v, cs = [v] ∧ Sl T w F v x
  len := fun ⟨_, e, _⟩ => by rw [e]; rfl
  keep := fun ⟨v, e, h⟩ hw hF => ⟨v, e, h.keep hw hF⟩

theorem Sl.fr {α : Type} {T : Ty α} {w w' : World} {F S : Nat → Prop} {v : Value} {xs : List α} (h : Sl T w F v xs) (hf : Fr S w w') (hd : ∀ b, F b → ¬ S b) : Sl T w' F v xs :=
  h.keep (fun b hb hl => hf.block b hl (hd b hb)) (fun _ hb _ => hb)
theorem Sl.below {α : Type} {T : Ty α} {w w' : World} {F : Nat → Prop} {v : Value} {xs : List α} (h : Sl T w F v xs) (hf : Below w.heap.size w w') : Sl T w' F v xs :=
  h.keep (fun b _ hl => hf.block b hl) (fun _ hb _ => hb)
theorem Sl.mono {α : Type} {T : Ty α} {w : World} {F F' : Nat → Prop} {v : Value} {xs : List α} (h : Sl T w F v xs) (hF : ∀ b, F b → b < w.heap.size → F' b) : Sl T w F' v xs :=
  h.keep (fun _ _ _ => rfl) hF

theorem Sl.nil {α : Type} (T : Ty α) (w : World) (F : Nat → Prop) : Sl T w F (.slice none 0 0) [] := ⟨none, 0, rfl, by simp, by simp, by simp, by simp⟩

/-- One-cell whole numbers. -/
theorem Sl.int {q : IntKind} {w : World} {F : Nat → Prop} {v : Value} {xs : List Int} (h : Sl (Ty.int q) w F v xs) :
    ∃ A c, v = .slice A xs.length c ∧ xs.length ≤ c ∧ c ≤ 9223372036854775807 ∧ xs.length ≤ 140737488355328 ∧
      (0 < xs.length → ∃ b off, A = some ⟨b, off, none⟩ ∧ F b ∧ b < w.heap.size ∧ ∀ j (h : j < xs.length), w.cell? ⟨b, off + j, none⟩ = some (.int q xs[j])) := by
  obtain ⟨A, c, e, h1, h2, h3, h4⟩ := h
  refine ⟨A, c, e, h1, h2, h3, fun h0 => ?_⟩
  obtain ⟨b, off, ea, hb, hl, hc⟩ := h4 h0
  refine ⟨b, off, ea, hb, hl, fun j hj => ?_⟩
  obtain ⟨cs, hR, hcs⟩ := hc j hj
  obtain rfl : cs = [.int q xs[j]] := hR
  have := hcs 0 (by simp)
  simpa [Ty.int, Ty.flat] using this
theorem Sl.of_int {q : IntKind} {w : World} {F : Nat → Prop} {A : Option Addr} {c : Nat} {xs : List Int} (h1 : xs.length ≤ c) (h2 : c ≤ 9223372036854775807) (h3 : xs.length ≤ 140737488355328)
    (h4 : 0 < xs.length → ∃ b off, A = some ⟨b, off, none⟩ ∧ F b ∧ b < w.heap.size ∧ ∀ j (h : j < xs.length), w.cell? ⟨b, off + j, none⟩ = some (.int q xs[j])) :
    Sl (Ty.int q) w F (.slice A xs.length c) xs := by
  refine ⟨A, c, rfl, h1, h2, h3, fun h0 => ?_⟩
  obtain ⟨b, off, ea, hb, hl, hc⟩ := h4 h0
  refine ⟨b, off, ea, hb, hl, fun j hj => ⟨_, rfl, fun i hi => ?_⟩⟩
  have hi0 : i = 0 := by simpa using hi
  subst hi0
  simpa [Ty.int, Ty.flat] using hc j hj

/-- What is owned as a row reads as a list of flat things. -/
theorem Sl.of_own {α : Type} {w : World} {base e k : Nat} {enc : α → List Value} {hk : ∀ x, (enc x).length = k} {v : Value} {xs : List α} {F : Nat → Prop}
    (h : w.ownsRow base e k v xs.length (xs.flatMap enc)) (hl : xs.length ≤ 140737488355328) (hF : ∀ b, v.ownBlock = some b → F b) : Sl (Ty.flat k enc hk) w F v xs := by
  rcases h.2 with ⟨rfl, h0⟩ | ⟨g, cap, cur, rfl, hb, hg, hnc, hcm, hcs, htake⟩
  · obtain rfl : xs = [] := List.eq_nil_of_length_eq_zero h0
    exact Sl.nil _ _ _
  · refine ⟨_, _, rfl, hnc, by simpa [maxLen] using hcm, hl, fun _ => ⟨g, 0, rfl, hF g rfl, heap_lt hg, fun j hj => ⟨_, rfl, fun i hi => ?_⟩⟩⟩
    have hi' : i < k := by rw [hk] at hi; exact hi
    rw [blk hg]
    have hidx : ∀ (ys : List α) (j : Nat) (hj : j < ys.length), (ys.flatMap enc)[j * k + i]? = (enc ys[j])[i]? := by
      intro ys
      induction ys with
      | nil => intro j hj; simp at hj
      | cons y ys ih =>
        intro j hj
        rw [List.flatMap_cons]
        cases j with
        | zero => simp [List.getElem?_append, hk, hi']
        | succ j =>
          rw [List.getElem?_append_right (by rw [hk, Nat.succ_mul]; omega)]
          have := ih j (by simpa using hj)
          rw [hk]
          have e2 : (j + 1) * k + i - k = j * k + i := by rw [Nat.succ_mul]; omega
          rw [e2]
          simpa using this
    have h1 := hidx xs j hj
    rw [← htake, List.getElem?_take, List.getElem?_eq_getElem hi] at h1
    split at h1
    · simp only [Ty.flat, Nat.zero_add]
      simpa using h1
    · cases h1

theorem ret_int {k : IntKind} {a b : Int} (h : a = b) : Ending.returned (.int k a) = .returned (.int k b) := by rw [h]
theorem wrap64_id {n : Int} (h1 : -9223372036854775808 ≤ n) (h2 : n ≤ 9223372036854775807) : wrap64 n = n := by unfold wrap64; omega
/-- Values of whole numbers. -/
def nums (k : IntKind) (xs : List Int) : List Value := xs.map fun x => .int k x
theorem nums_length (k : IntKind) (xs : List Int) : (nums k xs).length = xs.length := by simp [nums]
theorem nums_flat (k : IntKind) (xs : List Int) : xs.flatMap (fun x => [Value.int k x]) = nums k xs := by
  induction xs with
  | nil => rfl
  | cons x xs ih => rw [List.flatMap_cons, ih]; rfl
/-- A block that holds whole numbers reads as a slice. -/
theorem Sl.of_block {q : IntKind} {w : World} {F : Nat → Prop} {g : Nat} {xs : List Int} {t : TypeId} {cap : Nat} {cur : Array Value} (h : w.heap[g]? = some (.cells cur t (0, 0)))
    (hc : ∀ j (hj : j < xs.length), cur[j]? = some (.int q xs[j])) (hcap : xs.length ≤ cap) (hcap2 : cap ≤ 9223372036854775807) (hl : xs.length ≤ 140737488355328) (hF : F g) :
    Sl (Ty.int q) w F (.slice (some ⟨g, 0, none⟩) xs.length cap) xs :=
  Sl.of_int hcap hcap2 hl (fun _ => ⟨g, 0, rfl, hF, heap_lt h, fun j hj => by rw [blk h, Nat.zero_add]; exact hc j hj⟩)

theorem calls_same {P : Program} {f : FuncId} {args : Array Value} {w : World} {v : Value} (h : Calls P f args w fun e w' => e = .returned v ∧ w = w') :
    Calls P f args w fun e w' => e = .returned v ∧ w' = w := h.mono fun _ _ ⟨a, b⟩ => ⟨a, b.symm⟩

/-- What stands behind a place of a slice. -/
theorem Sl.drop {q : IntKind} {w : World} {F : Nat → Prop} {A : Option Addr} {n c : Nat} {xs : List Int} (h : Sl (Ty.int q) w F (.slice A n c) xs) (a : Nat) (ha : a < n) :
    xs.length = n ∧ n ≤ c ∧ c ≤ 9223372036854775807 ∧ ∃ b off, A = some ⟨b, off, none⟩ ∧ Sl (Ty.int q) w F (.slice (some ⟨b, off + a, none⟩) (n - a) (c - a)) (xs.drop a) := by
  obtain ⟨A', c', e, h1, h2, h3, h4⟩ := h.int
  injection e with ea en ec
  subst ea en ec
  obtain ⟨b, off, ea, hb, hl, hc⟩ := h4 (by omega)
  refine ⟨rfl, h1, h2, b, off, ea, ?_⟩
  have hlen : xs.length - a = (xs.drop a).length := by simp
  rw [hlen]
  refine Sl.of_int (by simp; omega) (by omega) (by simp; omega) (fun _ => ⟨b, off + a, rfl, hb, hl, fun j hj => ?_⟩)
  rw [List.getElem_drop, Nat.add_assoc]
  exact hc (a + j) (by simp at hj; omega)
theorem Sl.first {q : IntKind} {w : World} {F : Nat → Prop} {b off n c : Nat} {xs : List Int} (h : Sl (Ty.int q) w F (.slice (some ⟨b, off, none⟩) n c) xs) :
    n = xs.length ∧ n ≤ c ∧ c ≤ 9223372036854775807 ∧ n ≤ 140737488355328 ∧ ∀ j (hj : j < xs.length), w.cell? ⟨b, off + j, none⟩ = some (.int q xs[j]) := by
  obtain ⟨A', c', e, h1, h2, h3, h4⟩ := h.int
  injection e with ea en ec
  subst en ec
  refine ⟨rfl, h1, h2, h3, fun j hj => ?_⟩
  obtain ⟨b', off', ea', hb, hl, hc⟩ := h4 (by omega)
  rw [← ea] at ea'
  injection ea' with ea'
  injection ea' with e1 e2
  subst e1 e2
  exact hc j hj
theorem fr_set {w : World} {r i : Nat} (v : Value) : Fr (fun k => k = r) w (w.setCell ⟨r, i, none⟩ v) := (Fr.refl (fun k => k = r) w).setCell (p := ⟨r, i, none⟩) (fun _ => rfl) v

theorem calls_quiet2 {P : Program} {f : FuncId} {args : Array Value} {w : World} {q a : Nat} {v : Value} (h : Calls P f args (w.drewN (q + a)) fun e w' => e = .returned v ∧ w.drewN (q + a) = w') :
    Calls P f args (w.drewN (q + a)) fun e w'' => e = .returned v ∧ ∃ n, w'' = w.drewN (q + n) := h.mono fun _ _ ⟨x, y⟩ => ⟨x, a, y.symm⟩
theorem calls_quiet1 {P : Program} {f : FuncId} {args : Array Value} {w : World} {a : Nat} {v : Value} (h : Calls P f args (w.drewN a) fun e w' => e = .returned v ∧ w.drewN a = w') :
    Calls P f args (w.drewN a) fun e w'' => e = .returned v ∧ ∃ n, w'' = w.drewN n := h.mono fun _ _ ⟨x, y⟩ => ⟨x, a, y.symm⟩

end Go.Proofs.YtpdckdfnpehliaaGreat
