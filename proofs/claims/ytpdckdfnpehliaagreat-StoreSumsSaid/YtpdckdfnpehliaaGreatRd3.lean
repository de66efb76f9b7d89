/- Walks of layer 7: reader, three numbers. -/
import Derived.Test.YtpdckdfnpehliaaGreatRd2
import Derived.Test.YtpdckdfnpehliaaGreatRecSpec
import Derived.Test.YtpdckdfnpehliaaGreatOwn
import Derived.StillTailTactics
set_option linter.unusedVariables false
set_option linter.unusedSimpArgs false

namespace Go.Proofs.YtpdckdfnpehliaaGreat
open Go Go.RowKit Go.Deep Go.Shelf
set_option maxHeartbeats 400000

theorem Rd.mono {w : World} {F F' : Nat → Prop} {r : Nat} {s : RdS} (h : Rd w F r s) (hF : ∀ b, F b → b < w.heap.size → F' b) (hn : ¬ F' r) : Rd w F' r s := by
  obtain ⟨v, bs, a, hb, hs, h1, h2, h3, _, h4⟩ := h
  exact ⟨v, bs, a, hb, hs.mono hF, h1, h2, h3, hn, h4⟩
theorem Rd.nF {w : World} {F : Nat → Prop} {r : Nat} {s : RdS} (h : Rd w F r s) : ¬ F r := by
  obtain ⟨v, bs, a, hb, hs, h1, h2, h3, hn, h4⟩ := h
  exact hn
theorem Rd.low {w : World} {F : Nat → Prop} {r : Nat} {s : RdS} (h : Rd w F r s) : Rd w (fun b => F b ∧ b < w.heap.size) r s :=
  h.mono (fun _ h1 h2 => ⟨h1, h2⟩) (fun h1 => h.nF h1.1)

/-- Three whole numbers in a block. -/
abbrev vecCells (a b c : Int) : Array Value := #[.int .i64 a, .int .i64 b, .int .i64 c]

/-- Where the walk of Vec stands. -/
structure VecSt (w : World) (F : Nat → Prop) (r : Nat) (s1 : RdS) (a b c : Int) (W : World) : Prop where
  rd : Rd W (fun b => F b ∧ b < w.heap.size) r s1
  fr : Fr (fun k => k = r) w W
  lt : r < w.heap.size
  k0 : W.heap[w.heap.size]? = some (.cells (vecCells 0 0 0) 67 (0, 0))
  k1 : W.heap[w.heap.size + 1]? = some (.cells (vecCells a b c) 67 (0, 0))
theorem VecSt.int {w W W' : World} {F : Nat → Prop} {r : Nat} {s1 s2 : RdS} {a b c : Int} (h : VecSt w F r s1 a b c W) (hR : Rd W' (fun b => F b ∧ b < w.heap.size) r s2) (hF : Fr (fun k => k = r) W W') : VecSt w F r s2 a b c W' :=
  ⟨hR, h.fr.trans hF, h.lt, hF.at h.k0 (by have := h.lt; omega), hF.at h.k1 (by have := h.lt; omega)⟩
theorem VecSt.set {w W : World} {F : Nat → Prop} {r : Nat} {s1 : RdS} {a b c : Int} (h : VecSt w F r s1 a b c W) (i : Nat) (x : Int) {a2 b2 c2 : Int} (he : (vecCells a b c).setIfInBounds i (.int .i64 x) = vecCells a2 b2 c2) :
    VecSt w F r s1 a2 b2 c2 (W.setCell ⟨w.heap.size + 1, i, none⟩ (.int .i64 x)) := by
  have hlt := h.lt
  refine ⟨h.rd.fr (fr_set _) ?_, h.fr.setCell (p := ⟨w.heap.size + 1, i, none⟩) (fun h => by simp at h; omega) _, h.lt, (fr_set _).at h.k0 (by omega), ?_⟩
  · rintro b (hb | hb) <;> omega
  · rw [← he]; exact blk_set h.k1 i _

set_option maxRecDepth 100000 in
theorem vec_any (r : Nat) (s : RdS) (w : World) (F : Nat → Prop) (h : Rd w F r s) :
    Calls Tryz.prog 144 #[.pointer (some ⟨r, 0, none⟩)] w fun e w' => e = .returned (.agg (vecCells (rdVec s).1.1 (rdVec s).1.2.1 (rdVec s).1.2.2)) ∧ Rd w' F r (rdVec s).2 ∧ Fr (fun k => k = r) w w' := by
  have hlt := h.lt
  have hnF := h.nF
  have HV : Hid (rdVec s = (((rdInt s).1, (rdInt (rdInt s).2).1, (rdInt (rdInt (rdInt s).2).2).1), (rdInt (rdInt (rdInt s).2).2).2)) := rfl
  rw [HV.out]
  have S0 : VecSt w F r s 0 0 0 ((w.alloc (.cells (vecCells 0 0 0) 67)).alloc (.cells (vecCells 0 0 0) 67)) :=
    ⟨h.low.below (((Below.refl _ _).alloc (Nat.le_refl _) _).alloc (by simp) _), ((Fr.refl _ _).alloc _).alloc _, hlt, heap_old (heap_new rfl), heap_new (by simp)⟩
  generalize hv1 : rdInt s = q1 at *
  generalize hv2 : rdInt q1.2 = q2 at *
  generalize hv3 : rdInt q2.2 = q3 at *
  have HV1 := Lib.hid hv1
  have HV2 := Lib.hid hv2
  have HV3 := Lib.hid hv3
  clear hv1 hv2 hv3 HV h
  go_enter Tryz.func144, Tryz.ntmps144
  go_wp2_with (fail)
  refine wp_loop_rounds 4 ?_
  rw [rounds_succ]
  go_wp2_with (go_at_call 63; refine (int_any r _ _ _ S0.rd).mono ?_; rintro e w1 ⟨he, hR1, hF1⟩; rw [HV1.out] at he hR1; subst he; have S1 := S0.int hR1 hF1; have hz1 := blk S1.k1 0; have hz2 := blkF S1.k1 0; simp only [List.getElem?_toArray, List.getElem?_cons_zero] at hz1)
  have S2 := S1.set 0 q1.1 rfl
  clear hz1 hz2 hR1 hF1
  rw [rounds_succ]
  go_wp2_with (go_at_call 63; refine (int_any r _ _ _ S2.rd).mono ?_; rintro e w2 ⟨he, hR2, hF2⟩; rw [HV2.out] at he hR2; subst he; have S3 := S2.int hR2 hF2; have hz1 := blk S3.k1 1; have hz2 := blkF S3.k1 1; simp only [List.getElem?_toArray, List.getElem?_cons_zero, List.getElem?_cons_succ] at hz1)
  have S4 := S3.set 1 q2.1 rfl
  clear hz1 hz2 hR2 hF2
  rw [rounds_succ]
  go_wp2_with (go_at_call 63; refine (int_any r _ _ _ S4.rd).mono ?_; rintro e w3 ⟨he, hR3, hF3⟩; rw [HV3.out] at he hR3; subst he; have S5 := S4.int hR3 hF3; have hz1 := blk S5.k1 2; have hz2 := blkF S5.k1 2; simp only [List.getElem?_toArray, List.getElem?_cons_zero, List.getElem?_cons_succ] at hz1)
  have S6 := S5.set 2 q3.1 rfl
  clear hz1 hz2 hR3 hF3
  have hy0 := blk S6.k1 0
  have hy1 := blk S6.k1 1
  have hy2 := blk S6.k1 2
  have hx0 := blk S6.k0 0
  have hx1 := blk S6.k0 1
  have hx2 := blk S6.k0 2
  have hf0 := blkF S6.k0
  simp only [List.getElem?_toArray, List.getElem?_cons_zero, List.getElem?_cons_succ] at hy0 hy1 hy2 hx0 hx1 hx2
  rw [rounds_succ]
  go_wp2
  have hfin := blk_set (blk_set (blk_set S6.k0 0 (.int .i64 q1.1)) 1 (.int .i64 q2.1)) 2 (.int .i64 q3.1)
  have hFr : Fr (fun k => k = w.heap.size) _ _ := ((fr_set (w := w3.setCell ⟨w.heap.size + 1, 2, none⟩ (.int .i64 q3.1)) (r := w.heap.size) (i := 0) (.int .i64 q1.1)).trans (fr_set (i := 1) (.int .i64 q2.1))).trans (fr_set (i := 2) (.int .i64 q3.1))
  have hRd := S6.rd.fr hFr (by rintro b (hb | hb) <;> omega)
  have hFf : Fr (fun k => k = r) w _ := S6.fr.trans' hFr (fun i hi e => by omega)
  clear S0 S1 S2 S3 S4 S5 S6 hfin hy0 hy1 hy2 hf0
  refine bodyPost_ret (v := .agg (vecCells q1.1 q2.1 q3.1)) (by simp [results, Tryz.results144, go_sem, hx0, hx1, hx2]) rfl ⟨rfl, hRd.mono (fun b hb _ => hb.1) hnF, hFf⟩

end Go.Proofs.YtpdckdfnpehliaaGreat
