/- Walks of layer 8: record.Diff. -/
import Derived.Test.YtpdckdfnpehliaaGreatRec6
set_option linter.unusedVariables false
set_option linter.unusedSimpArgs false

namespace Go.Proofs.YtpdckdfnpehliaaGreat
open Go Go.RowKit Go.Deep Go.Shelf
set_option maxHeartbeats 400000

theorem heap_dN {W : World} {q n : Nat} {o : Obj} (h : W.heap[n]? = some o) : (W.drewN q).heap[n]? = some o := h

def Rec.getN (x : Rec) : Nat → Int
  | 0 => x.p0
  | 1 => x.p1
  | 2 => x.p2
  | 3 => x.v0
  | 4 => x.v1
  | _ => x.v2
theorem Rec.cellN (x : Rec) (i : Nat) (hi : i < 6) : x.cells[2 + i]? = some (.int .i64 (x.getN i)) := by
  obtain rfl | rfl | rfl | rfl | rfl | rfl : i = 0 ∨ i = 1 ∨ i = 2 ∨ i = 3 ∨ i = 4 ∨ i = 5 := by omega
  all_goals rfl
abbrev Ent.asRec (a : Ent) : Rec := ⟨0, 0, a.p0, a.p1, a.p2, a.v0, a.v1, a.v2, 0⟩
/-- The first numbers are told by their difference. -/
def subN (a : Ent) : Nat → Rec → Rec
  | 0, x => x
  | i + 1, x => (subN a i x).setN i (w64 ((subN a i x).getN i - a.asRec.getN i))

theorem ptrs_get (b i : Nat) (hi : i < 6) : (ptrs b)[i]? = some (.pointer (some ⟨b, 2 + i, none⟩)) := by
  obtain rfl | rfl | rfl | rfl | rfl | rfl : i = 0 ∨ i = 1 ∨ i = 2 ∨ i = 3 ∨ i = 4 ∨ i = 5 := by omega
  all_goals rfl
theorem i64_w64 (x : Int) : IntKind.i64.wrap x = w64 x := by rw [IntKind.wrap_i64]; unfold w64; omega
/-- Where the walk of record.Diff stands in its loop. -/
structure DSt (w : World) (a : Ent) (y : Rec) (W : World) : Prop where
  bl : Below w.heap.size w W
  k2 : W.heap[w.heap.size]? = some (.cells a.cells 69 (0, 0))
  k4 : W.heap[w.heap.size + 1 + 1]? = some (.cells zeroCells 115 (0, 0))
  k6 : W.heap[w.heap.size + 1 + 1 + 1]? = some (.cells y.cells 115 (0, 0))
  k7 : W.heap[w.heap.size + 1 + 1 + 1 + 1]? = some (.cells a.asRec.cells 115 (0, 0))
  k8 : W.heap[w.heap.size + 1 + 1 + 1 + 1 + 1 + 1]? = some (.cells (ptrs (w.heap.size + 1 + 1 + 1 + 1)) 181 (0, 0))
theorem DSt.set {w W : World} {a : Ent} {y y2 : Rec} (h : DSt w a y W) (i : Nat) (v : Value) (he : y.cells.setIfInBounds i v = y2.cells) : DSt w a y2 (W.setCell ⟨w.heap.size + 1 + 1 + 1, i, none⟩ v) := by
  have hf : Fr (fun k => k = w.heap.size + 1 + 1 + 1) W (W.setCell ⟨w.heap.size + 1 + 1 + 1, i, none⟩ v) := fr_set v
  have hl := heap_lt h.k6
  exact ⟨h.bl.trans (hf.to_below (by omega) (fun i hi e => by omega)), hf.at h.k2 (by omega), hf.at h.k4 (by omega), by rw [← he]; exact blk_set h.k6 i v, hf.at h.k7 (by omega), hf.at h.k8 (by omega)⟩
theorem DSt.drewN {w W : World} {a : Ent} {y : Rec} (h : DSt w a y W) (n : Nat) : DSt w a y (W.drewN n) :=
  ⟨below_drewN h.bl n, h.k2, h.k4, h.k6, h.k7, h.k8⟩
theorem DSt.drew {w W : World} {a : Ent} {y : Rec} (h : DSt w a y W) : DSt w a y W.drew :=
  ⟨h.bl.drew, h.k2, h.k4, h.k6, h.k7, h.k8⟩
theorem DSt.num {w W : World} {a : Ent} {y : Rec} (h : DSt w a y W) (i : Nat) (hi : i < 6) (v : Int) : DSt w a (y.setN i v) (W.setCell ⟨w.heap.size + 1 + 1 + 1, 2 + i, none⟩ (.int .i64 v)) := by
  obtain rfl | rfl | rfl | rfl | rfl | rfl : i = 0 ∨ i = 1 ∨ i = 2 ∨ i = 3 ∨ i = 4 ∨ i = 5 := by omega
  all_goals exact h.set _ _ rfl

set_option maxRecDepth 100000 in
theorem recDiff_any (a b : Ent) (w : World) :
    Calls Tryz.prog 69 #[a.val, b.val] w fun e w' => e = .returned (.tuple #[(recDiff a b).1.val, .bool (recDiff a b).2]) ∧ Below w.heap.size w w' := by
  have heq := eql_ent a.id a.p0 a.p1 a.p2 a.v0 a.v1 a.v2 a.angle a.gen b.id b.p0 b.p1 b.p2 b.v0 b.v1 b.v2 b.angle b.gen
  have hbare : decide ((⟨a.id, a.p0, a.p1, a.p2, a.v0, a.v1, a.v2, a.angle, a.gen⟩ : Ent) = ⟨b.id, b.p0, b.p1, b.p2, b.v0, b.v1, b.v2, b.angle, b.gen⟩) = decide (a = b) := rfl
  rw [hbare] at heq
  clear hbare
  by_cases hab : a = b
  · have HD : Hid (recDiff a b = (Rec.zero, false)) := if_pos hab
    rw [HD.out]
    have e1 : decide (a = b) = true := by simpa using hab
    rw [e1] at heq
    clear hab e1
    go_enter Tryz.func69, Tryz.ntmps69
    go_wp2
    refine bodyPost_ret (v := .tuple #[Rec.zero.val, .bool false]) (by simp [results, Tryz.results69, go_sem, Rec.zero]) rfl ⟨rfl, ?_⟩
    exact (((Below.refl _ _).alloc (Nat.le_refl _) _).alloc (by simp) _).alloc (by simp; omega) _
  · have e1 : decide (a = b) = false := by simpa using hab
    rw [e1] at heq
    have HD : Hid (recDiff a b = if a.gen = b.gen then (⟨1, b.id, w64 (b.p0 - a.p0), w64 (b.p1 - a.p1), w64 (b.p2 - a.p2), w64 (b.v0 - a.v0), w64 (b.v1 - a.v1), w64 (b.v2 - a.v2), (b.angle - a.angle) % 65536⟩, true) else (⟨3, b.id, b.p0, b.p1, b.p2, b.v0, b.v1, b.v2, b.angle⟩, true)) := if_neg hab
    clear hab e1
    by_cases hg : a.gen = b.gen
    · have e2 : (a.gen == b.gen) = true := by simp [hg]
      have HD2 := HD.out
      rw [if_pos hg] at HD2
      have HD3 := Lib.hid HD2
      clear HD HD2 hg
      go_enter Tryz.func69, Tryz.ntmps69
      have hpl : ∀ b, (ptrs b).toList = [.pointer (some ⟨b, 2, none⟩), .pointer (some ⟨b, 3, none⟩), .pointer (some ⟨b, 4, none⟩), .pointer (some ⟨b, 5, none⟩), .pointer (some ⟨b, 6, none⟩), .pointer (some ⟨b, 7, none⟩)] := fun _ => rfl
      go_wp2_with (go_at_call 105; refine (numbers_any _ _).mono ?_; rintro e w1 ⟨rfl, q, rfl⟩)
      go_loopw [37] (fun t wr => ∃ i : Nat, i ≤ 6 ∧ t = .int .i64 i ∧ DSt w a (subN a i ⟨1, b.id, b.p0, b.p1, b.p2, b.v0, b.v1, b.v2, b.angle⟩) wr) (fun t _ => 6 - (intOf t).toNat)
      case atStart =>
        refine ⟨0, by omega, rfl, ?_, ?_, ?_, ?_, ?_, ?_⟩
        · repeat (first | exact Below.refl _ _ | refine below_drewN ?_ _ | refine below_alloc ?_ (Nat.le_refl _) _)
        · repeat (first | exact heap_new (by simp) | refine heap_old ?_)
        · repeat (first | exact heap_new (by simp) | refine heap_old ?_)
        · repeat (first | exact heap_new (by simp) | refine heap_old ?_)
        · repeat (first | exact heap_new (by simp) | refine heap_old ?_)
        · repeat (first | exact heap_new (by simp) | refine heap_old ?_)
      case round =>
        obtain ⟨i, hi, rfl, D⟩ := hrel
        by_cases h6 : i < 6
        · have hix := idx6 (w.heap.size + 1 + 1 + 1) i h6
          have hz1 := (blk D.k6 (2 + i)).trans (Rec.cellN _ i h6)
          have hz2 := blkF D.k6 (2 + i)
          have hz4 := (blk D.k7 (2 + i)).trans (Rec.cellN _ i h6)
          have hz3 := (blk D.k8 i).trans (ptrs_get (w.heap.size + 1 + 1 + 1 + 1) i h6)
          have HS : Hid (subN a (i + 1) ⟨1, b.id, b.p0, b.p1, b.p2, b.v0, b.v1, b.v2, b.angle⟩ = (subN a i ⟨1, b.id, b.p0, b.p1, b.p2, b.v0, b.v1, b.v2, b.angle⟩).setN i (w64 ((subN a i ⟨1, b.id, b.p0, b.p1, b.p2, b.v0, b.v1, b.v2, b.angle⟩).getN i - a.asRec.getN i))) := rfl
          have hw := i64_w64 ((subN a i ⟨1, b.id, b.p0, b.p1, b.p2, b.v0, b.v1, b.v2, b.angle⟩).getN i - a.asRec.getN i)
          generalize subN a i ⟨1, b.id, b.p0, b.p1, b.p2, b.v0, b.v1, b.v2, b.angle⟩ = y at *
          go_wp2_with (fail)
          go_still_tail 10, (by kernel_rfl)
          change wpList _ _ _ _ _ (World.drew _)
          go_wp2
          refine ⟨⟨i + 1, by omega, by go_num, ?_⟩, by simp [intOf]; omega⟩
          rw [HS.out]
          exact (D.num i h6 _).drew
        · have h6 : i = 6 := by omega
          subst h6
          have HS : Hid (subN a 6 ⟨1, b.id, b.p0, b.p1, b.p2, b.v0, b.v1, b.v2, b.angle⟩ = ⟨1, b.id, w64 (b.p0 - a.p0), w64 (b.p1 - a.p1), w64 (b.p2 - a.p2), w64 (b.v0 - a.v0), w64 (b.v1 - a.v1), w64 (b.v2 - a.v2), b.angle⟩) := rfl
          rw [HS.out] at D
          obtain ⟨hx0, hx1, hx2, hx3, hx4, hx5, hx6, hx7, hx8, hxf⟩ := cells9 D.k6
          have hy := blk D.k2 7
          simp only [List.getElem?_toArray, List.getElem?_cons_zero, List.getElem?_cons_succ] at hy
          obtain ⟨hz0, hz1, hz2, hz3, hz4, hz5, hz6, hz7, hz8, hzf⟩ := cells9 (x := Rec.zero) D.k4
          simp only [Rec.zero] at hz0 hz1 hz2 hz3 hz4 hz5 hz6 hz7 hz8
          have hu : IntKind.u16.wrap (b.angle - a.angle) = (b.angle - a.angle) % 65536 := by simp [IntKind.wrap, IntKind.bits, IntKind.signed]
          have D2 := D.set 8 (.int .u16 ((b.angle - a.angle) % 65536)) (y2 := ⟨1, b.id, w64 (b.p0 - a.p0), w64 (b.p1 - a.p1), w64 (b.p2 - a.p2), w64 (b.v0 - a.v0), w64 (b.v1 - a.v1), w64 (b.v2 - a.v2), (b.angle - a.angle) % 65536⟩) rfl
          have hS := setList_fr (w.heap.size + 1 + 1) (⟨1, b.id, w64 (b.p0 - a.p0), w64 (b.p1 - a.p1), w64 (b.p2 - a.p2), w64 (b.v0 - a.v0), w64 (b.v1 - a.v1), w64 (b.v2 - a.v2), (b.angle - a.angle) % 65536⟩ : Rec).enc (wr.setCell ⟨w.heap.size + 1 + 1 + 1, 8, none⟩ (.int .u16 ((b.angle - a.angle) % 65536))) 0
          simp only [setList, Rec.enc, Nat.reduceAdd] at hS
          have hB := D2.bl.trans (hS.to_below (D2.bl.size) (fun i hi e => by omega))
          go_wp2
          refine bodyPost_ret (v := .tuple #[(⟨1, b.id, w64 (b.p0 - a.p0), w64 (b.p1 - a.p1), w64 (b.p2 - a.p2), w64 (b.v0 - a.v0), w64 (b.v1 - a.v1), w64 (b.v2 - a.v2), (b.angle - a.angle) % 65536⟩ : Rec).val, .bool true]) (by simp [results, Tryz.results69, go_sem, hz0, hz1, hz2, hz3, hz4, hz5, hz6, hz7, hz8]) rfl ?_
          rw [HD3.out]
          exact ⟨rfl, hB⟩
    · have e2 : (a.gen == b.gen) = false := by simp [hg]
      have HD2 := HD.out
      rw [if_neg hg] at HD2
      have HD3 := Lib.hid HD2
      clear HD HD2 hg
      go_enter Tryz.func69, Tryz.ntmps69
      go_wp2
      refine bodyPost_ret (v := .tuple #[(⟨3, b.id, b.p0, b.p1, b.p2, b.v0, b.v1, b.v2, b.angle⟩ : Rec).val, .bool true]) (by simp [results, Tryz.results69, go_sem]) rfl ?_
      rw [HD3.out]
      exact ⟨rfl, ((((Below.refl _ _).alloc (Nat.le_refl _) _).alloc (by simp) _).alloc (by simp; omega) _).alloc (by simp; omega) _⟩

end Go.Proofs.YtpdckdfnpehliaaGreat
