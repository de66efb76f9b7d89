/- Walks of layer 8: record.Read. -/
import Derived.Test.YtpdckdfnpehliaaGreatRec5
import Derived.Deep.RegionLaw
import Derived.Deep.DeepCutAuto
import Derived.Deep.CutBlock
set_option linter.unusedVariables false
set_option linter.unusedSimpArgs false

namespace Go.Proofs.YtpdckdfnpehliaaGreat
open Go Go.RowKit Go.Deep Go.Shelf
set_option maxHeartbeats 400000

theorem Rd.errRange {w : World} {F : Nat → Prop} {r : Nat} {s : RdS} (h : Rd w F r s) : 0 ≤ s.err ∧ s.err ≤ 17 := by
  obtain ⟨v, bs, a, hb, hs, h1, h2, h3, _, h4⟩ := h
  exact h4
theorem rdErr_any (r : Nat) (s : RdS) (w : World) (F : Nat → Prop) (h : Rd w F r s) :
    Calls Tryz.prog 67 #[.pointer (some ⟨r, 0, none⟩)] w fun e w' => e = .returned (.int .i64 s.err) ∧ w = w' := by
  obtain ⟨v, bs, a, hblk, _⟩ := h
  exact err_any r v a s.err w hblk

/-- Zero's cells. -/
abbrev zeroCells : Array Value := #[.int .i64 0, .int .i64 0, .int .i64 0, .int .i64 0, .int .i64 0, .int .i64 0, .int .i64 0, .int .i64 0, .int .u16 0]

/-- Cells are laid into a block. -/
def setList (W : World) (b : Nat) : Nat → List Value → World
  | _, [] => W
  | i, v :: l => setList (W.setCell ⟨b, i, none⟩ v) b (i + 1) l
theorem setList_fr (b : Nat) (l : List Value) : ∀ (W : World) (i : Nat), Fr (fun k => k = b) W (setList W b i l) := by
  induction l with
  | nil => intro W i; exact Fr.refl _ _
  | cons v l ih => intro W i; exact (fr_set v).trans (ih _ _)
theorem setList_blk (b : Nat) (t : TypeId) (l : List Value) : ∀ (W : World) (pre post : List Value), post.length = l.length → W.heap[b]? = some (.cells (pre ++ post).toArray t (0, 0)) →
    (setList W b pre.length l).heap[b]? = some (.cells (pre ++ l).toArray t (0, 0)) := by
  induction l with
  | nil => intro W pre post hp h; have : post = [] := List.eq_nil_of_length_eq_zero hp; subst this; exact h
  | cons v l ih =>
    intro W pre post hp h
    cases post with
    | nil => cases hp
    | cons u post =>
      have h1 := blk_set h pre.length v
      have h2 : ((pre ++ u :: post).toArray.setIfInBounds pre.length v) = ((pre ++ [v]) ++ post).toArray := by simp
      rw [h2] at h1
      have := ih (W.setCell ⟨b, pre.length, none⟩ v) (pre ++ [v]) post (by simpa using hp) h1
      simp only [List.length_append, List.length_cons, List.length_nil, Nat.zero_add, List.append_assoc, List.singleton_append] at this
      exact this
theorem cells9 {W : World} {b : Nat} {x : Rec} {t : TypeId} (h : W.heap[b]? = some (.cells x.cells t (0, 0))) :
    W.cell? ⟨b, 0, none⟩ = some (.int .i64 x.kind) ∧ W.cell? ⟨b, 1, none⟩ = some (.int .i64 x.id) ∧ W.cell? ⟨b, 2, none⟩ = some (.int .i64 x.p0) ∧ W.cell? ⟨b, 3, none⟩ = some (.int .i64 x.p1) ∧ W.cell? ⟨b, 4, none⟩ = some (.int .i64 x.p2) ∧
      W.cell? ⟨b, 5, none⟩ = some (.int .i64 x.v0) ∧ W.cell? ⟨b, 6, none⟩ = some (.int .i64 x.v1) ∧ W.cell? ⟨b, 7, none⟩ = some (.int .i64 x.v2) ∧ W.cell? ⟨b, 8, none⟩ = some (.int .u16 x.angle) ∧ ∀ i, W.frozen? ⟨b, i, none⟩ = false :=
  ⟨blk h 0, blk h 1, blk h 2, blk h 3, blk h 4, blk h 5, blk h 6, blk h 7, blk h 8, blkF h⟩

set_option maxRecDepth 100000 in
theorem recRead_early (r : Nat) (s : RdS) (last : Int) (w : World) (F : Nat → Prop) (h : Rd w F r s) (hl : last < -1 ∨ 65534 < last) :
    Calls Tryz.prog 66 #[.pointer (some ⟨r, 0, none⟩), .int .i64 last] w fun e w' => e = .returned (.tuple #[(recRead last s).1.1.val, .int .i64 (recRead last s).1.2]) ∧ Rd w' F r (recRead last s).2 ∧ Fr (fun k => k = r) w w' := by
  have hlt := h.lt
  have hbl : Below w.heap.size w (w.alloc (.cells zeroCells 115)) := (Below.refl _ _).alloc (Nat.le_refl _) _
  have hnF := h.nF
  have h1 : Rd (w.alloc (.cells zeroCells 115)) (fun b => F b ∧ b < w.heap.size) r s := h.low.below hbl
  have hk0 : (w.alloc (.cells zeroCells 115)).heap[w.heap.size]? = some (.cells zeroCells 115 (0, 0)) := heap_alloc_new _ _
  by_cases h65 : last = 65535
  · subst h65
    have HE : Hid (recRead 65535 s = ((Rec.zero, (s.fail 10).err), s.fail 10)) := by show _ = _; unfold recRead; rw [if_neg (by omega), if_pos rfl]
    rw [HE.out]
    clear hl
    go_enter Tryz.func66, Tryz.ntmps66
    go_wp2_with (first
      | (go_at_call 65; refine (rdFail_any r _ 10 _ _ h1 (by omega) (by omega)).mono ?_; rintro e w1 ⟨rfl, hR1, hF1⟩; have hk1 := hF1.at hk0 (by omega); obtain ⟨hy0, hy1, hy2, hy3, hy4, hy5, hy6, hy7, hy8, hyf⟩ := cells9 (x := Rec.zero) hk1; simp only [Rec.zero] at hy0 hy1 hy2 hy3 hy4 hy5 hy6 hy7 hy8)
      | (go_at_call 67; refine (rdErr_any r _ _ _ hR1).mono ?_; rintro e w2 ⟨rfl, rfl⟩))
    have hS := setList_fr w.heap.size Rec.zero.enc w1 0
    simp only [setList, Rec.enc, Rec.zero, Nat.reduceAdd] at hS
    refine bodyPost_ret (v := .tuple #[Rec.zero.val, .int .i64 (s.fail 10).err]) (by simp [results, Tryz.results66, go_sem, hy0, hy1, hy2, hy3, hy4, hy5, hy6, hy7, hy8, Rec.zero]) rfl ⟨rfl, (hR1.fr hS ?_).mono (fun _ hb _ => hb.1) hnF, (((Fr.refl _ w).alloc _).trans hF1).trans' hS ?_⟩
    · rintro b (hb | hb) <;> omega
    · intro i hi e; omega
  · have HE : Hid (recRead last s = ((Rec.zero, 3), s)) := by show _ = _; unfold recRead; rw [if_pos (by omega)]
    rw [HE.out]
    have hl : last < -1 ∨ 65535 < last := by omega
    clear h65
    rcases hl with hl | hl
    · go_enter Tryz.func66, Tryz.ntmps66
      go_wp2
      refine bodyPost_ret (v := .tuple #[Rec.zero.val, .int .i64 3]) (by simp [results, Tryz.results66, go_sem, Rec.zero]) rfl ⟨rfl, h1.mono (fun _ hb _ => hb.1) hnF, (Fr.refl _ w).alloc _⟩
    · have hl2 : ¬ last < -1 := by omega
      go_enter Tryz.func66, Tryz.ntmps66
      go_wp2
      refine bodyPost_ret (v := .tuple #[Rec.zero.val, .int .i64 3]) (by simp [results, Tryz.results66, go_sem, Rec.zero]) rfl ⟨rfl, h1.mono (fun _ hb _ => hb.1) hnF, (Fr.refl _ w).alloc _⟩

/-- What a record's kind reads. -/
def recKind (x : Rec) (s : RdS) : Rec × RdS :=
  if x.kind = 0 ∨ x.kind = 3 then rdAll x s else if x.kind = 1 then rdSome x s else if x.kind = 2 then (x, s) else (x, s.fail 11)
def recOut (q : Rec × RdS) : (Rec × Int) × RdS := if q.2.err ≠ 0 then ((Rec.zero, q.2.err), q.2) else ((q.1, 0), q.2)
theorem recRead_eq (last : Int) (s : RdS) (h0 : -1 ≤ last) (h1 : last ≤ 65534) : recRead last s =
    recOut (recKind ⟨(rdByte (rdUint (65534 - last) s).2).1, last + 1 + (rdUint (65534 - last) s).1, 0, 0, 0, 0, 0, 0, 0⟩ (rdByte (rdUint (65534 - last) s).2).2) := by
  unfold recRead
  rw [if_neg (by omega), if_neg (by omega)]
  rfl

set_option maxRecDepth 100000 in
theorem recRead_main (r : Nat) (s : RdS) (last : Int) (w : World) (F : Nat → Prop) (h : Rd w F r s) (hl0 : -1 ≤ last) (hl1 : last ≤ 65534) :
    Calls Tryz.prog 66 #[.pointer (some ⟨r, 0, none⟩), .int .i64 last] w fun e w' => e = .returned (.tuple #[(recRead last s).1.1.val, .int .i64 (recRead last s).1.2]) ∧ Rd w' F r (recRead last s).2 ∧ Fr (fun k => k = r) w w' := by
  have hlt := h.lt
  have hnF := h.nF
  have S0 : RecSt ((w.alloc (.cells zeroCells 115)).alloc (.cells (⟨0, last + 1, 0, 0, 0, 0, 0, 0, 0⟩ : Rec).cells 115)) (fun b => F b ∧ b < w.heap.size) r (w.heap.size + 1) s ⟨0, last + 1, 0, 0, 0, 0, 0, 0, 0⟩ ((w.alloc (.cells zeroCells 115)).alloc (.cells (⟨0, last + 1, 0, 0, 0, 0, 0, 0, 0⟩ : Rec).cells 115)) :=
    ⟨h.low.below (((Below.refl _ _).alloc (Nat.le_refl _) _).alloc (by simp) _), Fr.refl _ _, by omega, by omega, heap_new (by simp)⟩
  have hF0 : Fr (fun k => k = r) w ((w.alloc (.cells zeroCells 115)).alloc (.cells (⟨0, last + 1, 0, 0, 0, 0, 0, 0, 0⟩ : Rec).cells 115)) := ((Fr.refl _ w).alloc _).alloc _
  have hk0 : ((w.alloc (.cells zeroCells 115)).alloc (.cells (⟨0, last + 1, 0, 0, 0, 0, 0, 0, 0⟩ : Rec).cells 115)).heap[w.heap.size]? = some (.cells zeroCells 115 (0, 0)) := heap_old (heap_new rfl)
  have hb1 := (blk S0.k 1)
  have hb1f := (blkF S0.k 1)
  have hrg := rdUint_range (65534 - last) s h.isB (by omega)
  have a1 : ¬ last < -1 := by omega
  have a2 : ¬ 65535 < last := by omega
  have a3 : (last == 65535) = false := by simp; omega
  have w1 : IntKind.i64.wrap (last + 1) = last + 1 := by rw [IntKind.wrap_i64]; omega
  have w2 : IntKind.i64.wrap (65535 - (last + 1)) = 65534 - last := by rw [IntKind.wrap_i64]; omega
  have w3 : IntKind.u64.wrap (65534 - last) = 65534 - last := by rw [IntKind.wrap_u64]; omega
  have HE := recRead_eq last s hl0 hl1
  generalize hv1 : rdUint (65534 - last) s = q1 at *
  have w4 : IntKind.i64.wrap q1.1 = q1.1 := by rw [IntKind.wrap_i64]; omega
  have w5 : IntKind.i64.wrap (last + 1 + q1.1) = last + 1 + q1.1 := by rw [IntKind.wrap_i64]; omega
  have HV1 := Lib.hid hv1
  clear hv1
  have hbr : isB q1.2.rest → 0 ≤ (rdByte q1.2).1 ∧ (rdByte q1.2).1 < 256 := rdByte_range q1.2
  generalize hv2 : rdByte q1.2 = q2 at *
  have HV2 := Lib.hid hv2
  clear hv2
  generalize hv3 : recKind ⟨q2.1, last + 1 + q1.1, 0, 0, 0, 0, 0, 0, 0⟩ q2.2 = q3 at *
  rw [HE]
  clear HE
  have HV3 := Lib.hid hv3
  clear hv3
  go_enter Tryz.func66, Tryz.ntmps66
  go_wp2_with (fail)
  go_cut [6] (fun a wx => a = .pointer (some ⟨w.heap.size + 1, 0, none⟩) ∧ RecSt ((w.alloc (.cells zeroCells 115)).alloc (.cells (⟨0, last + 1, 0, 0, 0, 0, 0, 0, 0⟩ : Rec).cells 115)) (fun b => F b ∧ b < w.heap.size) r (w.heap.size + 1) q1.2 ⟨0, last + 1 + q1.1, 0, 0, 0, 0, 0, 0, 0⟩ wx)
  case first =>
    go_region_law (first | (go_simp; go_at_call 62; refine (uint_any r _ _ (World.drew _) _ (S0.rd.below (Below.refl _ _).drew)).mono ?_; rintro e w4 ⟨he, hR1, hF1d⟩; have hF1 := fr_undrew hF1d; rw [HV1.out] at he hR1; subst he; have S1 := S0.step hR1 hF1; have hz1 := blk S1.k 1; have hzf := blkF S1.k 1; simp only [List.getElem?_toArray, List.getElem?_cons_zero, List.getElem?_cons_succ] at hz1))
    all_goals
      go_wp2_with (fail)
      go_meet
      exact ⟨rfl, S1.set 1 _ rfl⟩
  case rest =>
    obtain ⟨rfl, S2⟩ := hcut
    have hbr2 := hbr S2.rd.isB
    clear S0 hbr hb1 hb1f
    obtain ⟨k2, s2⟩ := q2
    simp only at hbr2 HV3
    have w6 : IntKind.i64.wrap k2 = k2 := by rw [IntKind.wrap_i64]; omega
    have hkl : kindFns.toList = [fn 116, fn 117, fn 118, fn 119, fn 114, fn 115, fn 116, fn 117] := rfl
    go_upto_if 50 with (first
      | (go_at_call 100; refine (byte_any r _ _ _ S2.rd).mono ?_; rintro e w5 ⟨he, hR2, hF2⟩; rw [HV2.out] at he hR2; subst he; have S3 := S2.step hR2 hF2; obtain ⟨hz0, _, _, _, _, _, _, _, _, hzf⟩ := cells9 S3.k; have S4 := S3.set 0 (.int .i64 k2) (y := ⟨k2, last + 1 + q1.1, 0, 0, 0, 0, 0, 0, 0⟩) rfl)
      | (go_at_call 87; refine (kinds_any _).mono ?_; rintro e w7 ⟨rfl, hb7⟩; have S5 := S4.step (S4.rd.below hb7) (Fr.of_below hb7 _); have hs7 := heap_lt S5.k; obtain ⟨hk5, _, _, _, _, _, _, _, _, _⟩ := cells9 S5.k))
    go_cut [6] (fun a wx => a = .pointer (some ⟨w.heap.size + 1, 0, none⟩) ∧ RecSt ((w.alloc (.cells zeroCells 115)).alloc (.cells (⟨0, last + 1, 0, 0, 0, 0, 0, 0, 0⟩ : Rec).cells 115)) (fun b => F b ∧ b < w.heap.size) r (w.heap.size + 1) q3.2 q3.1 wx)
    case first =>
      have S6 : RecSt _ (fun b => F b ∧ b < w.heap.size) r (w.heap.size + 1) s2 ⟨k2, last + 1 + q1.1, 0, 0, 0, 0, 0, 0, 0⟩ (w7.alloc (.cells #[fn 116, fn 117, fn 118, fn 119, fn 114, fn 115, fn 116, fn 117] 160)) := ⟨S5.rd.below ((Below.refl _ _).alloc (Nat.le_refl _) _), S5.fr.alloc _, S5.ne, S5.nF, heap_old S5.k⟩
      clear S2 S3 S4 S5
      rcases (by omega : k2 = 0 ∨ k2 = 1 ∨ k2 = 2 ∨ k2 = 3 ∨ 3 < k2) with rfl | rfl | rfl | rfl | hk2
      · have HR := HV3.out
        rw [show recKind ⟨0, last + 1 + q1.1, 0, 0, 0, 0, 0, 0, 0⟩ s2 = rdAll ⟨0, last + 1 + q1.1, 0, 0, 0, 0, 0, 0, 0⟩ s2 from rfl] at HR
        have HRR := Lib.hid HR
        clear HR HV3
        go_wp2_with (go_at_call 117; refine (readAll_any r (w.heap.size + 1) s2 _ _ _ S6.rd S6.ne S6.nF S6.k).mono ?_; rintro e w8 ⟨rfl, S7⟩; rw [HRR.out] at S7)
        go_meet
        exact ⟨rfl, ⟨S7.rd, S6.fr.trans S7.fr, S6.ne, S6.nF, S7.k⟩⟩
      · have HR := HV3.out
        rw [show recKind ⟨1, last + 1 + q1.1, 0, 0, 0, 0, 0, 0, 0⟩ s2 = rdSome ⟨1, last + 1 + q1.1, 0, 0, 0, 0, 0, 0, 0⟩ s2 from rfl] at HR
        have HRR := Lib.hid HR
        clear HR HV3
        go_wp2_with (go_at_call 119; refine (readSome_any r (w.heap.size + 1) s2 _ _ _ S6.rd S6.ne S6.nF S6.k).mono ?_; rintro e w8 ⟨rfl, S7⟩; rw [HRR.out] at S7)
        go_meet
        exact ⟨rfl, ⟨S7.rd, S6.fr.trans S7.fr, S6.ne, S6.nF, S7.k⟩⟩
      · have HR := HV3.out
        rw [show recKind ⟨2, last + 1 + q1.1, 0, 0, 0, 0, 0, 0, 0⟩ s2 = (⟨2, last + 1 + q1.1, 0, 0, 0, 0, 0, 0, 0⟩, s2) from rfl] at HR
        have HRR := Lib.hid HR
        clear HR HV3
        go_wp2_with (go_at_call 115; refine (kinds2_any r (w.heap.size + 1) _).mono ?_; rintro e w8 ⟨rfl, rfl⟩)
        go_meet
        exact ⟨rfl, by rw [← HRR.out]; exact S6⟩
      · have HR := HV3.out
        rw [show recKind ⟨3, last + 1 + q1.1, 0, 0, 0, 0, 0, 0, 0⟩ s2 = rdAll ⟨3, last + 1 + q1.1, 0, 0, 0, 0, 0, 0, 0⟩ s2 from rfl] at HR
        have HRR := Lib.hid HR
        clear HR HV3
        go_wp2_with (go_at_call 117; refine (readAll_any r (w.heap.size + 1) s2 _ _ _ S6.rd S6.ne S6.nF S6.k).mono ?_; rintro e w8 ⟨rfl, S7⟩; rw [HRR.out] at S7)
        go_meet
        exact ⟨rfl, ⟨S7.rd, S6.fr.trans S7.fr, S6.ne, S6.nF, S7.k⟩⟩
      · have HR := HV3.out
        rw [show recKind ⟨k2, last + 1 + q1.1, 0, 0, 0, 0, 0, 0, 0⟩ s2 = (⟨k2, last + 1 + q1.1, 0, 0, 0, 0, 0, 0, 0⟩, s2.fail 11) from by unfold recKind; simp only; rw [if_neg (by omega), if_neg (by omega), if_neg (by omega)]] at HR
        have HRR := Lib.hid HR
        have hk4 : ¬ k2 < 4 := by omega
        clear HR HV3
        go_wp2_with (go_at_call 65; refine (rdFail_any r s2 11 _ _ S6.rd (by omega) (by omega)).mono ?_; rintro e w8 ⟨rfl, hR7, hF7⟩; have S7 := S6.step hR7 hF7)
        go_meet
        exact ⟨rfl, by rw [← HRR.out]; exact S7⟩
    case rest =>
      obtain ⟨rfl, S7⟩ := hcut
      have hy := S7.fr.at hk0 (by omega)
      obtain ⟨hy0, hy1, hy2, hy3, hy4, hy5, hy6, hy7, hy8, hyf⟩ := cells9 (x := Rec.zero) hy
      simp only [Rec.zero] at hy0 hy1 hy2 hy3 hy4 hy5 hy6 hy7 hy8
      obtain ⟨hx0, hx1, hx2, hx3, hx4, hx5, hx6, hx7, hx8, hxf⟩ := cells9 S7.k
      have hFw : Fr (fun k => k = r) w wc := hF0.trans' S7.fr (fun i hi e => by omega)
      clear S2 HV1 HV2 HV3
      by_cases he : q3.2.err = 0
      · have e1 : (q3.2.err != 0) = false := by simp [he]
        have HO : Hid (recOut q3 = ((q3.1, 0), q3.2)) := by show _ = _; unfold recOut; rw [if_neg (by simpa using he)]
        clear he
        have hS := setList_fr w.heap.size q3.1.enc wc 0
        simp only [setList, Rec.enc, Nat.reduceAdd] at hS
        go_wp2_with (go_at_call 67; refine (rdErr_any r _ _ _ S7.rd).mono ?_; rintro e w9 ⟨rfl, rfl⟩)
        refine bodyPost_ret (v := .tuple #[q3.1.val, .int .i64 0]) (by simp [results, Tryz.results66, go_sem, hy0, hy1, hy2, hy3, hy4, hy5, hy6, hy7, hy8]) rfl ?_
        rw [HO.out]
        refine ⟨rfl, (S7.rd.fr hS ?_).mono (fun _ hb _ => hb.1) hnF, hFw.trans' hS ?_⟩
        · rintro b (hb | hb) <;> omega
        · intro i hi e; omega
      · have e1 : (q3.2.err != 0) = true := by simp [he]
        have HO : Hid (recOut q3 = ((Rec.zero, q3.2.err), q3.2)) := by show _ = _; unfold recOut; rw [if_pos (by simpa using he)]
        clear he
        have hS := setList_fr w.heap.size Rec.zero.enc wc 0
        simp only [setList, Rec.enc, Rec.zero, Nat.reduceAdd] at hS
        go_wp2_with (go_at_call 67; refine (rdErr_any r _ _ _ S7.rd).mono ?_; rintro e w9 ⟨rfl, rfl⟩)
        refine bodyPost_ret (v := .tuple #[Rec.zero.val, .int .i64 q3.2.err]) (by simp [results, Tryz.results66, go_sem, hy0, hy1, hy2, hy3, hy4, hy5, hy6, hy7, hy8, Rec.zero]) rfl ?_
        rw [HO.out]
        refine ⟨rfl, (S7.rd.fr hS ?_).mono (fun _ hb _ => hb.1) hnF, hFw.trans' hS ?_⟩
        · rintro b (hb | hb) <;> omega
        · intro i hi e; omega

theorem recRead_any (r : Nat) (s : RdS) (last : Int) (w : World) (F : Nat → Prop) (h : Rd w F r s) :
    Calls Tryz.prog 66 #[.pointer (some ⟨r, 0, none⟩), .int .i64 last] w fun e w' => e = .returned (.tuple #[(recRead last s).1.1.val, .int .i64 (recRead last s).1.2]) ∧ Rd w' F r (recRead last s).2 ∧ Fr (fun k => k = r) w w' := by
  by_cases h1 : -1 ≤ last
  · by_cases h2 : last ≤ 65534
    · exact recRead_main r s last w F h h1 h2
    · exact recRead_early r s last w F h (by omega)
  · exact recRead_early r s last w F h (by omega)

end Go.Proofs.YtpdckdfnpehliaaGreat
