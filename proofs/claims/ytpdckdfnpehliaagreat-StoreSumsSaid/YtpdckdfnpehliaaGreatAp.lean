/- Walks of layer 10: delta.Apply. -/
import Derived.Test.YtpdckdfnpehliaaGreatApSpec
import Derived.Test.YtpdckdfnpehliaaGreatSs
import Derived.Test.YtpdckdfnpehliaaGreatRg3
import Derived.Maps.OwnSet
set_option linter.unusedVariables false
set_option linter.unusedSimpArgs false

namespace Go.Proofs.YtpdckdfnpehliaaGreat
open Go Go.RowKit Go.Deep Go.Shelf
set_option maxHeartbeats 400000

/-- Where the walk of delta.Apply stands. -/
structure AqSt (w : World) (a : Snap) (g : Gram) (v gv : Value) (W : World) : Prop where
  bl : Below w.heap.size w W
  k1 : W.heap[w.heap.size]? = some (.cells (a.cells v) 35 (0, 0))
  k2 : W.heap[w.heap.size + 1]? = some (.cells (g.cells gv) 45 (0, 0))
  k3 : W.heap[w.heap.size + 1 + 1]? = some (.cells snap0Cells 35 (0, 0))
theorem AqSt.below {w W W' : World} {a : Snap} {g : Gram} {v gv : Value} (h : AqSt w a g v gv W) (hb : Below W.heap.size W W') : AqSt w a g v gv W' :=
  ⟨below_then h.bl h.bl.size hb, below_at hb h.k1 (heap_lt h.k1), below_at hb h.k2 (heap_lt h.k2), below_at hb h.k3 (heap_lt h.k3)⟩
theorem AqSt.fr {w W W' : World} {a : Snap} {g : Gram} {v gv : Value} {b : Nat} (h : AqSt w a g v gv W) (hf : Fr (fun i => i = b) W W') (hb : w.heap.size + 1 + 1 < b) : AqSt w a g v gv W' :=
  ⟨h.bl.trans (hf.to_below h.bl.size (fun i hi e => by omega)), hf.at h.k1 (by omega), hf.at h.k2 (by omega), hf.at h.k3 (by omega)⟩
theorem AqSt.start (w : World) (a : Snap) (g : Gram) (v gv : Value) : AqSt w a g v gv (((w.alloc (.cells (a.cells v) 35)).alloc (.cells (g.cells gv) 45)).alloc (.cells snap0Cells 35)) := by
  refine ⟨?_, ?_, ?_, ?_⟩
  · repeat (first | exact Below.refl _ _ | refine below_alloc ?_ (Nat.le_refl _) _)
  · repeat (first | exact heap_new (by simp) | refine heap_old ?_)
  · repeat (first | exact heap_new (by simp) | refine heap_old ?_)
  · repeat (first | exact heap_new (by simp) | refine heap_old ?_)
theorem cells3 {W : World} {b : Nat} {x y z : Value} {t : TypeId} (h : W.heap[b]? = some (.cells #[x, y, z] t (0, 0))) :
    W.cell? ⟨b, 0, none⟩ = some x ∧ W.cell? ⟨b, 1, none⟩ = some y ∧ W.cell? ⟨b, 2, none⟩ = some z ∧ ∀ i, W.frozen? ⟨b, i, none⟩ = false := ⟨blk h 0, blk h 1, blk h 2, blkF h⟩
theorem cells4 {W : World} {b : Nat} {x y z u : Value} {t : TypeId} (h : W.heap[b]? = some (.cells #[x, y, z, u] t (0, 0))) :
    W.cell? ⟨b, 0, none⟩ = some x ∧ W.cell? ⟨b, 1, none⟩ = some y ∧ W.cell? ⟨b, 2, none⟩ = some z ∧ W.cell? ⟨b, 3, none⟩ = some u ∧ ∀ i, W.frozen? ⟨b, i, none⟩ = false := ⟨blk h 0, blk h 1, blk h 2, blk h 3, blkF h⟩
/-- What is stored into the result's cells. -/
theorem res3 {W : World} {b : Nat} {x y z : Value} {t : TypeId} (h : W.heap[b]? = some (.cells #[x, y, z] t (0, 0))) (x' y' z' : Value) {B : Nat} {w : World} (hB : Below B w W) (hb : B ≤ b) :
    Below B w (((W.setCell ⟨b, 0, none⟩ x').setCell ⟨b, 1, none⟩ y').setCell ⟨b, 2, none⟩ z') :=
  hB.trans ((((fr_set x').trans (fr_set y')).trans (fr_set z')).to_below (by have := heap_lt h; omega) (fun i hi e => by omega))

def aqOut (a : Snap) (g : Gram) (B : Nat) (w : World) (e : Ending) (w' : World) : Prop :=
  ∃ v1, e = .returned (.tuple #[(snapApply a g).1.val v1, .int .i64 (snapApply a g).2]) ∧ OwnE w' B v1 (snapApply a g).1.ents ∧ Below B w w'

set_option maxRecDepth 100000 in
theorem apply_gram (a : Snap) (g : Gram) (v gv : Value) (F : Nat → Prop) (w : World) (hg : g.wf) (hv : Sl Ty.ent w F v a.ents) (hgv : Sl Ty.recd w F gv g.recs) (hc : gramCheck g ≠ 0) :
    Calls Tryz.prog 51 #[a.val v, g.val gv] w (aqOut a g w.heap.size w) := by
  have A0 := AqSt.start w a g v gv
  have hck := gramCheck_any g gv F _ hg (hgv.below A0.bl)
  have HE : Hid (snapApply a g = (⟨0, 0, []⟩, gramCheck g)) := by show _ = _; unfold snapApply; rw [if_pos hc]
  have hne : (gramCheck g != 0) = true := by simpa using hc
  obtain ⟨A, n, c, rfl⟩ : ∃ A n c, v = .slice A n c := by obtain ⟨A, c, e, _⟩ := hv; exact ⟨A, _, c, e⟩
  obtain ⟨A2, n2, c2, rfl⟩ : ∃ A n c, gv = .slice A n c := by obtain ⟨A, c, e, _⟩ := hgv; exact ⟨A, _, c, e⟩
  generalize gramCheck g = q at *
  clear hc hv hgv
  go_enter Tryz.func51, Tryz.ntmps51
  go_wp2_with (go_at_call 75; refine hck.mono ?_; rintro e w1 ⟨rfl, hb1⟩; have A1 := A0.below hb1; obtain ⟨z0, z1, z2, zf⟩ := cells3 A1.k3)
  refine bodyPost_ret (v := .tuple #[snap0, .int .i64 q]) (by simp [results, Tryz.results51, go_sem, z0, z1, z2]) rfl ?_
  unfold aqOut
  rw [HE.out]
  exact ⟨_, rfl, World.ownsRow_nil _ _ _ _, res3 A1.k3 _ _ _ A1.bl (by omega)⟩

end Go.Proofs.YtpdckdfnpehliaaGreat
