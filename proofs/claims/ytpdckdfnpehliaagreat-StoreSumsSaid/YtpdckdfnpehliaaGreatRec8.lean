/- Walks of layer 8: record.Apply. -/
import Derived.Test.YtpdckdfnpehliaaGreatRec7
set_option linter.unusedVariables false
set_option linter.unusedSimpArgs false

namespace Go.Proofs.YtpdckdfnpehliaaGreat
open Go Go.RowKit Go.Deep Go.Shelf
set_option maxHeartbeats 400000

abbrev ent0Cells : Array Value := #[.int .i64 0, .int .i64 0, .int .i64 0, .int .i64 0, .int .i64 0, .int .i64 0, .int .i64 0, .int .u16 0, .int .u8 0]

def Ent.getP (x : Ent) : Nat → Int | 0 => x.p0 | 1 => x.p1 | _ => x.p2
def Ent.getV (x : Ent) : Nat → Int | 0 => x.v0 | 1 => x.v1 | _ => x.v2
def Rec.getP (x : Rec) : Nat → Int | 0 => x.p0 | 1 => x.p1 | _ => x.p2
def Rec.getV (x : Rec) : Nat → Int | 0 => x.v0 | 1 => x.v1 | _ => x.v2
def Ent.setP (x : Ent) (i : Nat) (v : Int) : Ent :=
  match i with
  | 0 => ⟨x.id, v, x.p1, x.p2, x.v0, x.v1, x.v2, x.angle, x.gen⟩
  | 1 => ⟨x.id, x.p0, v, x.p2, x.v0, x.v1, x.v2, x.angle, x.gen⟩
  | _ => ⟨x.id, x.p0, x.p1, v, x.v0, x.v1, x.v2, x.angle, x.gen⟩
def Ent.setV (x : Ent) (i : Nat) (v : Int) : Ent :=
  match i with
  | 0 => ⟨x.id, x.p0, x.p1, x.p2, v, x.v1, x.v2, x.angle, x.gen⟩
  | 1 => ⟨x.id, x.p0, x.p1, x.p2, x.v0, v, x.v2, x.angle, x.gen⟩
  | _ => ⟨x.id, x.p0, x.p1, x.p2, x.v0, x.v1, v, x.angle, x.gen⟩
/-- The first numbers have the record's added. -/
def addN (r : Rec) : Nat → Ent → Ent
  | 0, x => x
  | i + 1, x => ((addN r i x).setP i (w64 ((addN r i x).getP i + r.getP i))).setV i (w64 ((addN r i x).getV i + r.getV i))

/-- Where the walk of record.Apply stands. -/
structure ASt (w : World) (r : Rec) (y : Ent) (W : World) : Prop where
  bl : Below w.heap.size w W
  k2 : W.heap[w.heap.size]? = some (.cells y.cells 69 (0, 0))
  k3 : W.heap[w.heap.size + 1]? = some (.cells r.cells 115 (0, 0))
  k4 : W.heap[w.heap.size + 1 + 1]? = some (.cells ent0Cells 69 (0, 0))
theorem ASt.below {w W W' : World} {r : Rec} {y : Ent} (h : ASt w r y W) (hb : Below W.heap.size W W') : ASt w r y W' :=
  ⟨below_then h.bl h.bl.size hb, below_at hb h.k2 (heap_lt h.k2), below_at hb h.k3 (heap_lt h.k3), below_at hb h.k4 (heap_lt h.k4)⟩
theorem ASt.set {w W : World} {r : Rec} {y y2 : Ent} (h : ASt w r y W) (i : Nat) (v : Value) (he : y.cells.setIfInBounds i v = y2.cells) : ASt w r y2 (W.setCell ⟨w.heap.size, i, none⟩ v) := by
  have hf : Fr (fun k => k = w.heap.size) W (W.setCell ⟨w.heap.size, i, none⟩ v) := fr_set v
  have hl := heap_lt h.k2
  exact ⟨h.bl.trans (hf.to_below (by omega) (fun i hi e => by omega)), by rw [← he]; exact blk_set h.k2 i v, hf.at h.k3 (by omega), hf.at h.k4 (by omega)⟩
theorem ASt.drew {w W : World} {r : Rec} {y : Ent} (h : ASt w r y W) : ASt w r y W.drew := ⟨h.bl.drew, h.k2, h.k3, h.k4⟩
theorem ASt.setP {w W : World} {r : Rec} {y : Ent} (h : ASt w r y W) (i : Nat) (hi : i < 3) (v : Int) : ASt w r (y.setP i v) (W.setCell ⟨w.heap.size, 1 + i, none⟩ (.int .i64 v)) := by
  obtain rfl | rfl | rfl : i = 0 ∨ i = 1 ∨ i = 2 := by omega
  all_goals exact h.set _ _ rfl
theorem ASt.setV {w W : World} {r : Rec} {y : Ent} (h : ASt w r y W) (i : Nat) (hi : i < 3) (v : Int) : ASt w r (y.setV i v) (W.setCell ⟨w.heap.size, 4 + i, none⟩ (.int .i64 v)) := by
  obtain rfl | rfl | rfl : i = 0 ∨ i = 1 ∨ i = 2 := by omega
  all_goals exact h.set _ _ rfl
theorem ASt.num {w W : World} {r : Rec} {y : Ent} (h : ASt w r y W) (i : Nat) (hi : i < 3) :
    W.cell? ⟨w.heap.size, 1 + i, none⟩ = some (.int .i64 (y.getP i)) ∧ W.cell? ⟨w.heap.size, 4 + i, none⟩ = some (.int .i64 (y.getV i)) ∧ W.cell? ⟨w.heap.size + 1, 2 + i, none⟩ = some (.int .i64 (r.getP i)) ∧ W.cell? ⟨w.heap.size + 1, 5 + i, none⟩ = some (.int .i64 (r.getV i)) ∧ ∀ k, W.frozen? ⟨w.heap.size, k, none⟩ = false := by
  obtain rfl | rfl | rfl : i = 0 ∨ i = 1 ∨ i = 2 := by omega
  all_goals exact ⟨blk h.k2 _, blk h.k2 _, blk h.k3 _, blk h.k3 _, blkF h.k2⟩
theorem cellsE {W : World} {b : Nat} {x : Ent} {t : TypeId} (h : W.heap[b]? = some (.cells x.cells t (0, 0))) :
    W.cell? ⟨b, 0, none⟩ = some (.int .i64 x.id) ∧ W.cell? ⟨b, 1, none⟩ = some (.int .i64 x.p0) ∧ W.cell? ⟨b, 2, none⟩ = some (.int .i64 x.p1) ∧ W.cell? ⟨b, 3, none⟩ = some (.int .i64 x.p2) ∧
      W.cell? ⟨b, 4, none⟩ = some (.int .i64 x.v0) ∧ W.cell? ⟨b, 5, none⟩ = some (.int .i64 x.v1) ∧ W.cell? ⟨b, 6, none⟩ = some (.int .i64 x.v2) ∧ W.cell? ⟨b, 7, none⟩ = some (.int .u16 x.angle) ∧ W.cell? ⟨b, 8, none⟩ = some (.int .u8 x.gen) ∧ ∀ i, W.frozen? ⟨b, i, none⟩ = false :=
  ⟨blk h 0, blk h 1, blk h 2, blk h 3, blk h 4, blk h 5, blk h 6, blk h 7, blk h 8, blkF h⟩

set_option maxRecDepth 100000 in
theorem recApply_any (a : Ent) (r : Rec) (w : World) :
    Calls Tryz.prog 76 #[a.val, r.val] w fun e w' => e = .returned (.tuple #[(recApply a r).1.val, .int .i64 (recApply a r).2]) ∧ Below w.heap.size w w' := by
  have hck := recCheck_any r (((w.alloc (.cells a.cells 69)).alloc (.cells r.cells 115)).alloc (.cells ent0Cells 69))
  have A0 : ASt w r a (((w.alloc (.cells a.cells 69)).alloc (.cells r.cells 115)).alloc (.cells ent0Cells 69)) := by
    refine ⟨?_, ?_, ?_, ?_⟩
    · repeat (first | exact Below.refl _ _ | refine below_alloc ?_ (Nat.le_refl _) _)
    · repeat (first | exact heap_new (by simp) | refine heap_old ?_)
    · repeat (first | exact heap_new (by simp) | refine heap_old ?_)
    · repeat (first | exact heap_new (by simp) | refine heap_old ?_)
  by_cases hc : recCheck r = 0
  · rw [hc] at hck
    have HD : Hid (recApply a r = if r.id ≠ a.id ∨ r.kind = 0 ∨ r.kind = 2 then (Ent.zero, 15)
      else if r.kind = 3 then (⟨a.id, r.p0, r.p1, r.p2, r.v0, r.v1, r.v2, r.angle, (a.gen + 1) % 256⟩, 0)
      else (⟨a.id, w64 (a.p0 + r.p0), w64 (a.p1 + r.p1), w64 (a.p2 + r.p2), w64 (a.v0 + r.v0), w64 (a.v1 + r.v1), w64 (a.v2 + r.v2), (a.angle + r.angle) % 65536, a.gen⟩, 0)) := by
      show _ = _; unfold recApply; rw [if_neg (by simpa using hc)]
    clear hc
    by_cases h1 : r.id ≠ a.id ∨ r.kind = 0 ∨ r.kind = 2
    · have HD2 := HD.out
      rw [if_pos h1] at HD2
      have HD3 := Lib.hid HD2
      clear HD HD2
      rcases (by omega : r.id ≠ a.id ∨ (r.id = a.id ∧ r.kind = 0) ∨ (r.id = a.id ∧ r.kind ≠ 0 ∧ r.kind = 2)) with h1 | ⟨h1, h2⟩ | ⟨h1, h2, h3⟩
      · have e1 : (r.id != a.id) = true := by simpa using h1
        clear h1
        go_enter Tryz.func76, Tryz.ntmps76
        go_wp2_with (go_at_call 86; refine hck.mono ?_; rintro e w1 ⟨rfl, hb1⟩; have A1 := A0.below hb1; obtain ⟨hz0, hz1, hz2, hz3, hz4, hz5, hz6, hz7, hz8, hzf⟩ := cellsE (x := Ent.zero) A1.k4; obtain ⟨hx0, hx1, hx2, hx3, hx4, hx5, hx6, hx7, hx8, hxf⟩ := cells9 A1.k3; obtain ⟨hy0, hy1, hy2, hy3, hy4, hy5, hy6, hy7, hy8, hyf⟩ := cellsE A1.k2; simp only [Ent.zero] at hz0 hz1 hz2 hz3 hz4 hz5 hz6 hz7 hz8)
        have hS := setList_fr (w.heap.size + 1 + 1) (Ent.zero : Ent).enc w1 0
        simp only [setList, Ent.enc, Ent.zero, Nat.reduceAdd] at hS
        refine bodyPost_ret (v := .tuple #[(Ent.zero : Ent).val, .int .i64 15]) (by simp [results, Tryz.results76, go_sem, hz0, hz1, hz2, hz3, hz4, hz5, hz6, hz7, hz8, Ent.zero]) rfl ?_
        rw [HD3.out]
        exact ⟨rfl, A1.bl.trans (hS.to_below A1.bl.size (fun i hi e => by omega))⟩
      · have e1 : (r.id != a.id) = false := by simpa using h1
        have e2 : (r.kind == 0) = true := by simpa using h2
        clear h1 h2
        go_enter Tryz.func76, Tryz.ntmps76
        go_wp2_with (go_at_call 86; refine hck.mono ?_; rintro e w1 ⟨rfl, hb1⟩; have A1 := A0.below hb1; obtain ⟨hz0, hz1, hz2, hz3, hz4, hz5, hz6, hz7, hz8, hzf⟩ := cellsE (x := Ent.zero) A1.k4; obtain ⟨hx0, hx1, hx2, hx3, hx4, hx5, hx6, hx7, hx8, hxf⟩ := cells9 A1.k3; obtain ⟨hy0, hy1, hy2, hy3, hy4, hy5, hy6, hy7, hy8, hyf⟩ := cellsE A1.k2; simp only [Ent.zero] at hz0 hz1 hz2 hz3 hz4 hz5 hz6 hz7 hz8)
        have hS := setList_fr (w.heap.size + 1 + 1) (Ent.zero : Ent).enc w1 0
        simp only [setList, Ent.enc, Ent.zero, Nat.reduceAdd] at hS
        refine bodyPost_ret (v := .tuple #[(Ent.zero : Ent).val, .int .i64 15]) (by simp [results, Tryz.results76, go_sem, hz0, hz1, hz2, hz3, hz4, hz5, hz6, hz7, hz8, Ent.zero]) rfl ?_
        rw [HD3.out]
        exact ⟨rfl, A1.bl.trans (hS.to_below A1.bl.size (fun i hi e => by omega))⟩
      · have e1 : (r.id != a.id) = false := by simpa using h1
        have e2 : (r.kind == 0) = false := by simpa using h2
        have e3 : (r.kind == 2) = true := by simpa using h3
        clear h1 h2 h3
        go_enter Tryz.func76, Tryz.ntmps76
        go_wp2_with (go_at_call 86; refine hck.mono ?_; rintro e w1 ⟨rfl, hb1⟩; have A1 := A0.below hb1; obtain ⟨hz0, hz1, hz2, hz3, hz4, hz5, hz6, hz7, hz8, hzf⟩ := cellsE (x := Ent.zero) A1.k4; obtain ⟨hx0, hx1, hx2, hx3, hx4, hx5, hx6, hx7, hx8, hxf⟩ := cells9 A1.k3; obtain ⟨hy0, hy1, hy2, hy3, hy4, hy5, hy6, hy7, hy8, hyf⟩ := cellsE A1.k2; simp only [Ent.zero] at hz0 hz1 hz2 hz3 hz4 hz5 hz6 hz7 hz8)
        have hS := setList_fr (w.heap.size + 1 + 1) (Ent.zero : Ent).enc w1 0
        simp only [setList, Ent.enc, Ent.zero, Nat.reduceAdd] at hS
        refine bodyPost_ret (v := .tuple #[(Ent.zero : Ent).val, .int .i64 15]) (by simp [results, Tryz.results76, go_sem, hz0, hz1, hz2, hz3, hz4, hz5, hz6, hz7, hz8, Ent.zero]) rfl ?_
        rw [HD3.out]
        exact ⟨rfl, A1.bl.trans (hS.to_below A1.bl.size (fun i hi e => by omega))⟩
    · have HD2 := HD.out
      rw [if_neg h1] at HD2
      have e1 : (r.id != a.id) = false := by simp; omega
      have e2 : (r.kind == 0) = false := by simp; omega
      have e3 : (r.kind == 2) = false := by simp; omega
      clear HD
      by_cases h3 : r.kind = 3
      · rw [if_pos h3] at HD2
        have HD3 := Lib.hid HD2
        have e4 : (r.kind == 3) = true := by simpa using h3
        have hu : IntKind.u8.wrap (a.gen + 1) = (a.gen + 1) % 256 := by rw [IntKind.wrap_u8]
        clear HD2 h1 h3
        go_enter Tryz.func76, Tryz.ntmps76
        go_wp2_with (go_at_call 86; refine hck.mono ?_; rintro e w1 ⟨rfl, hb1⟩; have A1 := A0.below hb1; obtain ⟨hz0, hz1, hz2, hz3, hz4, hz5, hz6, hz7, hz8, hzf⟩ := cellsE (x := Ent.zero) A1.k4; obtain ⟨hx0, hx1, hx2, hx3, hx4, hx5, hx6, hx7, hx8, hxf⟩ := cells9 A1.k3; obtain ⟨hy0, hy1, hy2, hy3, hy4, hy5, hy6, hy7, hy8, hyf⟩ := cellsE A1.k2; simp only [Ent.zero] at hz0 hz1 hz2 hz3 hz4 hz5 hz6 hz7 hz8)
        have hS := setList_fr (w.heap.size + 1 + 1) (⟨a.id, r.p0, r.p1, r.p2, r.v0, r.v1, r.v2, r.angle, (a.gen + 1) % 256⟩ : Ent).enc w1 0
        simp only [setList, Ent.enc, Nat.reduceAdd] at hS
        refine bodyPost_ret (v := .tuple #[(⟨a.id, r.p0, r.p1, r.p2, r.v0, r.v1, r.v2, r.angle, (a.gen + 1) % 256⟩ : Ent).val, .int .i64 0]) (by simp [results, Tryz.results76, go_sem, hz0, hz1, hz2, hz3, hz4, hz5, hz6, hz7, hz8]) rfl ?_
        rw [HD3.out]
        exact ⟨rfl, A1.bl.trans (hS.to_below A1.bl.size (fun i hi e => by omega))⟩
      · rw [if_neg h3] at HD2
        have HD3 := Lib.hid HD2
        have e4 : (r.kind == 3) = false := by simpa using h3
        clear HD2 h1 h3
        go_enter Tryz.func76, Tryz.ntmps76
        go_wp2_with (go_at_call 86; refine hck.mono ?_; rintro e w1 ⟨rfl, hb1⟩; have A1 := A0.below hb1; obtain ⟨hz0, hz1, hz2, hz3, hz4, hz5, hz6, hz7, hz8, hzf⟩ := cellsE (x := Ent.zero) A1.k4; obtain ⟨hx0, hx1, hx2, hx3, hx4, hx5, hx6, hx7, hx8, hxf⟩ := cells9 A1.k3; obtain ⟨hy0, hy1, hy2, hy3, hy4, hy5, hy6, hy7, hy8, hyf⟩ := cellsE A1.k2; simp only [Ent.zero] at hz0 hz1 hz2 hz3 hz4 hz5 hz6 hz7 hz8)
        go_loopw [47] (fun t wr => ∃ i : Nat, i ≤ 3 ∧ t = .int .i64 i ∧ ASt w r (addN r i a) wr) (fun t _ => 3 - (intOf t).toNat)
        case atStart => exact ⟨0, by omega, rfl, A1⟩
        case round =>
          obtain ⟨i, hi, rfl, D⟩ := hrel
          by_cases h6 : i < 3
          · have hi0 : (0 : Int) ≤ (i : Int) := by omega
            have hi3 : (i : Int) < 3 := by omega
            have HS : Hid (addN r (i + 1) a = ((addN r i a).setP i (w64 ((addN r i a).getP i + r.getP i))).setV i (w64 ((addN r i a).getV i + r.getV i))) := rfl
            generalize addN r i a = y at *
            obtain ⟨hc1, hc2, hc3, hc4, hcf⟩ := D.num i h6
            have hw1 := i64_w64 (y.getP i + r.getP i)
            have hw2 := i64_w64 (y.getV i + r.getV i)
            have hv : (y.setP i (w64 (y.getP i + r.getP i))).getV i = y.getV i := by
              obtain rfl | rfl | rfl : i = 0 ∨ i = 1 ∨ i = 2 := by omega
              all_goals rfl
            have D2 := (D.setP i h6 (w64 (y.getP i + r.getP i))).drew
            go_wp2_with (fail)
            go_still_tail 11, (by kernel_rfl)
            change wpList _ _ _ _ _ (World.drew _)
            go_wp2_with (fail)
            generalize World.drew (wr.setCell ⟨w.heap.size, 1 + i, none⟩ (.int .i64 (w64 (y.getP i + r.getP i)))) = W2 at D2 ⊢
            clear hc1 hc2 hc3 hc4 hcf
            obtain ⟨hd1, hd2, hd3, hd4, hdf⟩ := D2.num i h6
            clear hd1 hd3
            rw [hv] at hd2
            clear hv
            go_still_tail 11, (by kernel_rfl)
            change wpList _ _ _ _ _ (World.drew _)
            go_wp2
            refine ⟨⟨i + 1, by omega, by go_num, ?_⟩, by simp [intOf]; omega⟩
            rw [HS.out]
            exact (D2.setV i h6 _).drew
          · have h6 : i = 3 := by omega
            subst h6
            have HS : Hid (addN r 3 a = ⟨a.id, w64 (a.p0 + r.p0), w64 (a.p1 + r.p1), w64 (a.p2 + r.p2), w64 (a.v0 + r.v0), w64 (a.v1 + r.v1), w64 (a.v2 + r.v2), a.angle, a.gen⟩) := rfl
            rw [HS.out] at D
            clear hx0 hx1 hx2 hx3 hx4 hx5 hx6 hx7 hx8 hxf hy0 hy1 hy2 hy3 hy4 hy5 hy6 hy7 hy8 hyf hz0 hz1 hz2 hz3 hz4 hz5 hz6 hz7 hz8 hzf
            obtain ⟨hz0, hz1, hz2, hz3, hz4, hz5, hz6, hz7, hz8, hzf⟩ := cellsE (x := Ent.zero) D.k4
            obtain ⟨_, _, _, _, _, _, _, _, hx8, hxf⟩ := cells9 D.k3
            obtain ⟨hy0, hy1, hy2, hy3, hy4, hy5, hy6, hy7, hy8, hyf⟩ := cellsE D.k2
            simp only [Ent.zero] at hz0 hz1 hz2 hz3 hz4 hz5 hz6 hz7 hz8
            have hu : IntKind.u16.wrap (a.angle + r.angle) = (a.angle + r.angle) % 65536 := by simp [IntKind.wrap, IntKind.bits, IntKind.signed]
            have D2 := D.set 7 (.int .u16 ((a.angle + r.angle) % 65536)) (y2 := ⟨a.id, w64 (a.p0 + r.p0), w64 (a.p1 + r.p1), w64 (a.p2 + r.p2), w64 (a.v0 + r.v0), w64 (a.v1 + r.v1), w64 (a.v2 + r.v2), (a.angle + r.angle) % 65536, a.gen⟩) rfl
            have hS := setList_fr (w.heap.size + 1 + 1) (⟨a.id, w64 (a.p0 + r.p0), w64 (a.p1 + r.p1), w64 (a.p2 + r.p2), w64 (a.v0 + r.v0), w64 (a.v1 + r.v1), w64 (a.v2 + r.v2), (a.angle + r.angle) % 65536, a.gen⟩ : Ent).enc (wr.setCell ⟨w.heap.size, 7, none⟩ (.int .u16 ((a.angle + r.angle) % 65536))) 0
            simp only [setList, Ent.enc, Nat.reduceAdd] at hS
            have hB := D2.bl.trans (hS.to_below D2.bl.size (fun i hi e => by omega))
            go_wp2
            refine bodyPost_ret (v := .tuple #[(⟨a.id, w64 (a.p0 + r.p0), w64 (a.p1 + r.p1), w64 (a.p2 + r.p2), w64 (a.v0 + r.v0), w64 (a.v1 + r.v1), w64 (a.v2 + r.v2), (a.angle + r.angle) % 65536, a.gen⟩ : Ent).val, .int .i64 0]) (by simp [results, Tryz.results76, go_sem, hz0, hz1, hz2, hz3, hz4, hz5, hz6, hz7, hz8]) rfl ?_
            rw [HD3.out]
            exact ⟨rfl, hB⟩
  · have HD : Hid (recApply a r = (Ent.zero, recCheck r)) := by show _ = _; unfold recApply; rw [if_pos hc]
    have e1 : (recCheck r != 0) = true := by simpa using hc
    clear hc
    go_enter Tryz.func76, Tryz.ntmps76
    go_wp2_with (go_at_call 86; refine hck.mono ?_; rintro e w1 ⟨rfl, hb1⟩; have A1 := A0.below hb1; obtain ⟨hz0, hz1, hz2, hz3, hz4, hz5, hz6, hz7, hz8, hzf⟩ := cellsE (x := Ent.zero) A1.k4; simp only [Ent.zero] at hz0 hz1 hz2 hz3 hz4 hz5 hz6 hz7 hz8)
    have hS := setList_fr (w.heap.size + 1 + 1) Ent.zero.enc w1 0
    simp only [setList, Ent.enc, Ent.zero, Nat.reduceAdd] at hS
    refine bodyPost_ret (v := .tuple #[Ent.zero.val, .int .i64 (recCheck r)]) (by simp [results, Tryz.results76, go_sem, hz0, hz1, hz2, hz3, hz4, hz5, hz6, hz7, hz8, Ent.zero]) rfl ?_
    rw [HD.out]
    exact ⟨rfl, A1.bl.trans (hS.to_below A1.bl.size (fun i hi e => by omega))⟩

end Go.Proofs.YtpdckdfnpehliaaGreat
