/- Layer 12: store.snap.
   Layer 12: store.snap, bytes that tell a datagram. -/
import Derived.Test.YtpdckdfnpehliaaGreatSn2
import Derived.Test.YtpdckdfnpehliaaGreatGramR2
import Derived.Deep.DeepCutAuto
import Derived.Deep.CutBlock
set_option linter.unusedVariables false
set_option linter.unusedSimpArgs false

namespace Go.Proofs.YtpdckdfnpehliaaGreat
open Go Go.RowKit Go.Deep Go.Shelf
set_option maxHeartbeats 400000

def snOut (r : Rng) (bs : List Int) (w : World) (e : Ending) (w' : World) : Prop :=
  ∃ v1, e = .returned (.tuple #[(snapL r bs).1.val v1, .int .i64 (snapL r bs).2]) ∧ OwnE w' w.heap.size v1 (snapL r bs).1.ents ∧ Below w.heap.size w w'

set_option maxRecDepth 100000 in
theorem snap_bad {base sb rb : Nat} {lv : Value} {r : Rng} {cn : List Int} (bv : Value) (bs : List Int) (F : Nat → Prop) (w : World) (h : StSt w base sb rb lv r cn) (hbs : Sl Ty.byte w F bv bs) (hB : isB bs) (he : (gramRead bs).2 ≠ 0) :
    Calls Tryz.prog 34 #[.pointer (some ⟨sb, 0, none⟩), bv] w (snOut r bs w) := by
  have HE : Hid (snapL r bs = (⟨0, 0, []⟩, (gramRead bs).2)) := by show _ = _; unfold snapL; rw [if_pos he]
  have hb0 : Below w.heap.size w ((w.alloc (.cells snap0Cells 35)).alloc (.cells #[.int .i64 0] 24)) := below_alloc (below_alloc (Below.refl _ _) (Nat.le_refl _) _) (Nat.le_refl _) _
  have hrd := gramRead_any bv bs _ F (hbs.below hb0) hB
  have k0 : ((w.alloc (.cells snap0Cells 35)).alloc (.cells #[.int .i64 0] 24)).heap[w.heap.size]? = some (.cells snap0Cells 35 (0, 0)) := heap_old (heap_new rfl)
  have k1 : ((w.alloc (.cells snap0Cells 35)).alloc (.cells #[.int .i64 0] 24)).heap[w.heap.size + 1]? = some (.cells #[.int .i64 0] 24 (0, 0)) := heap_new (by simp)
  obtain ⟨g, hg⟩ : ∃ g, g = (gramRead bs).1 := ⟨_, rfl⟩
  obtain ⟨e1, he1⟩ : ∃ e1, e1 = (gramRead bs).2 := ⟨_, rfl⟩
  rw [← hg, ← he1] at hrd
  rw [← he1] at he HE
  have hne : (e1 != 0) = true := by simpa using he
  obtain ⟨A, c, rfl, _⟩ := id hbs
  have HL : g.recs.length ≤ 128 := by rw [hg]; exact gramRead_len hB
  clear he he1 hg hbs hB h
  go_enter Tryz.func34, Tryz.ntmps34
  go_wp2_with (go_at_call 26; refine hrd.mono ?_; clear hrd; rintro e w1 ⟨gv, rfl, hor, hb1⟩; obtain ⟨Ag, cg, rfl, _, _⟩ := own_form hor; have j0 := heap_old (o' := .cells (g.cells (.slice Ag g.recs.length cg)) 45) (below_at hb1 k0 (heap_lt k0)); have j1 := heap_old (o' := .cells (g.cells (.slice Ag g.recs.length cg)) 45) (below_at hb1 k1 (heap_lt k1)); obtain ⟨x0, x1, x2, xf⟩ := cells3 j0; have y0 := Proofs.YtpdckdfnpehliaaGreat.blk j1 0; have yf := blkF j1 0; have hb2 := hb0.trans ((below_alloc hb1 (Nat.le_refl _) (.cells (g.cells (.slice Ag g.recs.length cg)) 45)).mono hb0.size); simp only [Gram.cells] at j0 j1 x0 x1 x2 xf y0 yf hb2; simp only [List.getElem?_toArray, List.getElem?_cons_zero] at y0)
  have S0 : SnW w w1.heap.size g (.slice Ag g.recs.length cg) ⟨0, 0, []⟩ (.slice none 0 0) e1 ((w1.alloc (.cells (g.cells (.slice Ag g.recs.length cg)) 45)).setCell ⟨w.heap.size + 1, 0, none⟩ (.int .i64 e1)) := by
    have hsz := hb1.size
    simp only [World.size_alloc] at hsz
    refine SnW.refuse (e := 0) ⟨hb2, j0, j1, heap_new rfl, by omega, World.ownsRow_nil _ _ _ _, ?_, HL⟩ (by rw [blk_set j1]; simp) (fr_set _)
    simp only [World.size_alloc] at hor
    exact own_below hor ((Below.refl _ _).alloc (Nat.le_refl _) _)
  generalize (w1.alloc (.cells (g.cells (.slice Ag g.recs.length cg)) 45)).setCell ⟨w.heap.size + 1, 0, none⟩ (.int .i64 e1) = W at *
  obtain ⟨z0, z1, z2, zf⟩ := cells3 S0.kx
  obtain ⟨_, ez, ezf, _⟩ := S0.cells
  have hbl := S0.bl
  clear S0 x0 x1 x2 xf yf y0 j0 j1 hb2 hb1 hor k0 k1 hb0
  go_region
  all_goals
    go_wp2_with (fail)
    refine bodyPost_ret (v := .tuple #[snap0, .int .i64 e1]) (by simp [results, Tryz.results34, go_sem, z0, z1, z2, ez]) rfl ?_
    unfold snOut
    rw [HE.out]
    refine ⟨_, rfl, World.ownsRow_nil _ _ _ _, ?_⟩
    repeat (first | exact hbl | refine Below.drew ?_ | refine Below.setCell ?_ (by simp) _)
end Go.Proofs.YtpdckdfnpehliaaGreat

namespace Go.Proofs.YtpdckdfnpehliaaGreat
open Go Go.RowKit Go.Deep Go.Shelf
set_option maxHeartbeats 400000

theorem SnW.getA {w : World} {gb : Nat} {g : Gram} {gv : Value} {x : Snap} {xv : Value} {e : Int} {W w2 : World} (h : SnW w gb g gv x xv e W) (hb : Below W.heap.size W w2) {o : Obj} : SnW w gb g gv x xv e (w2.alloc o) := h.below (hb.alloc hb.size _)
theorem SnW.getS {w : World} {gb : Nat} {g : Gram} {gv : Value} {x : Snap} {xv : Value} {e : Int} {W w2 : World} (h : SnW w gb g gv x xv e W) (hb : Below W.heap.size W w2) {a b c : Value} : SnW w gb g gv x xv e (((w2.setCell ⟨W.heap.size, 0, none⟩ a).setCell ⟨W.heap.size, 1, none⟩ b).setCell ⟨W.heap.size, 2, none⟩ c) :=
  h.below (((hb.setCell (p := ⟨W.heap.size, 0, none⟩) (Nat.le_refl _) _).setCell (p := ⟨W.heap.size, 1, none⟩) (Nat.le_refl _) _).setCell (p := ⟨W.heap.size, 2, none⟩) (Nat.le_refl _) _)
theorem SnW.lt {w : World} {gb : Nat} {g : Gram} {gv : Value} {x : Snap} {xv : Value} {e : Int} {W w2 : World} (h : SnW w gb g gv x xv e W) (hb : Below W.heap.size W w2) : w.heap.size + 1 < w2.heap.size := by
  have h1 := hb.size; have h2 := heap_lt h.kg; have h3 := h.gn; omega
theorem SnW.put {w : World} {gb : Nat} {g : Gram} {gv : Value} {x : Snap} {xv : Value} {e : Int} {W : World} (h : SnW w gb g gv x xv e W) {y : Snap} {yv : Value} (ho : OwnE W (w.heap.size + 2) yv y.ents) (e' : Int) :
    SnW w gb g gv y yv e' ((((W.setCell ⟨w.heap.size, 0, none⟩ (.int .i64 y.tick)).setCell ⟨w.heap.size, 1, none⟩ (.int .i64 y.time)).setCell ⟨w.heap.size, 2, none⟩ yv).setCell ⟨w.heap.size + 1, 0, none⟩ (.int .i64 e')) := by
  have gn := h.gn
  have k := blk_set (blk_set (blk_set h.kx 0 (.int .i64 y.tick)) 1 (.int .i64 y.time)) 2 yv
  have hf : Fr (fun k => k = w.heap.size) W (((W.setCell ⟨w.heap.size, 0, none⟩ (.int .i64 y.tick)).setCell ⟨w.heap.size, 1, none⟩ (.int .i64 y.time)).setCell ⟨w.heap.size, 2, none⟩ yv) :=
    ((fr_set (.int .i64 y.tick)).setCell (p := ⟨w.heap.size, 1, none⟩) (fun _ => rfl) _).setCell (p := ⟨w.heap.size, 2, none⟩) (fun _ => rfl) _
  have h1 : SnW w gb g gv y yv e (((W.setCell ⟨w.heap.size, 0, none⟩ (.int .i64 y.tick)).setCell ⟨w.heap.size, 1, none⟩ (.int .i64 y.time)).setCell ⟨w.heap.size, 2, none⟩ yv) :=
    ⟨h.bl.trans (hf.to_below h.bl.size (fun i hi e => by omega)), by simpa using k, hf.at h.ke (by omega), hf.at h.kg (by omega), h.gn, own_fr ho hf (fun k e1 e2 => by have := own_lt ho k e1; omega), own_fr h.og hf (fun k e1 e2 => by have := own_lt h.og k e1; omega), h.gl⟩
  exact h1.refuse (by rw [blk_set h1.ke]; simp) (fr_set _)
theorem getS_blk {w2 : World} {b : Nat} (j8 : w2.heap[b]? = some (.cells snap0Cells 35 (0, 0))) (s : Snap) (v : Value) :
    (((w2.setCell ⟨b, 0, none⟩ (.int .i64 s.tick)).setCell ⟨b, 1, none⟩ (.int .i64 s.time)).setCell ⟨b, 2, none⟩ v).heap[b]? = some (.cells (s.cells v) 35 (0, 0)) := by
  have := blk_set (blk_set (blk_set j8 0 (.int .i64 s.tick)) 1 (.int .i64 s.time)) 2 v
  simpa using this
theorem getS_form {base rb : Nat} {lv : Value} {r : Rng} {w : World} (h : RgSt w base rb lv r) (k : Int) : ∃ s A n c b, getS r k = (s, .slice A n c, b) := by
  obtain ⟨A, c, e, _⟩ := getS_sl h k
  exact ⟨(getS r k).1, A, _, c, (getS r k).2.2, by rw [← e]⟩

set_option maxRecDepth 100000 in
set_option maxHeartbeats 8000000 in
theorem snap_ok {base sb rb : Nat} {lv : Value} {r : Rng} {cn : List Int} (bv : Value) (bs : List Int) (F : Nat → Prop) (w : World) (h : StSt w base sb rb lv r cn) (hbs : Sl Ty.byte w F bv bs) (hB : isB bs) (he : (gramRead bs).2 = 0) :
    Calls Tryz.prog 34 #[.pointer (some ⟨sb, 0, none⟩), bv] w (snOut r bs w) := by
  obtain ⟨g, hg⟩ : ∃ g, g = (gramRead bs).1 := ⟨_, rfl⟩
  have hgw : g.wf := by rw [hg]; exact (gramRead_wf hB).1
  obtain ⟨e1, he1⟩ : ∃ e, e = orErr 0 (getS r g.tick).2.2 12 := ⟨_, rfl⟩
  obtain ⟨e2, he2⟩ : ∃ e, e = orErr e1 (staleB r g.tick) 13 := ⟨_, rfl⟩
  obtain ⟨e3, he3⟩ : ∃ e, e = orErr e2 (!(getS r g.base).2.2 && decide (0 ≤ g.base)) 14 := ⟨_, rfl⟩
  obtain ⟨q, hq⟩ : ∃ q, q = if e3 = 0 then snapApply (getS r g.base).1 g else (⟨0, 0, []⟩, e3) := ⟨_, rfl⟩
  have HE : Hid (snapL r bs = (q.1, orErr q.2 (!timelyB r q.1) 16)) := by
    show _ = _; unfold snapL; rw [if_neg (by simp [he])]; simp only; rw [← hg, ← he1, ← he2, ← he3, ← hq]
  have hb0 : Below w.heap.size w ((w.alloc (.cells snap0Cells 35)).alloc (.cells #[.int .i64 0] 24)) := below_alloc (below_alloc (Below.refl _ _) (Nat.le_refl _) _) (Nat.le_refl _) _
  have hrd := gramRead_any bv bs _ F (hbs.below hb0) hB
  have k0 : ((w.alloc (.cells snap0Cells 35)).alloc (.cells #[.int .i64 0] 24)).heap[w.heap.size]? = some (.cells snap0Cells 35 (0, 0)) := heap_old (heap_new rfl)
  have k1 : ((w.alloc (.cells snap0Cells 35)).alloc (.cells #[.int .i64 0] 24)).heap[w.heap.size + 1]? = some (.cells #[.int .i64 0] 24 (0, 0)) := heap_new (by simp)
  rw [← hg, he] at hrd
  obtain ⟨A, c, rfl, _⟩ := id hbs
  have HL : g.recs.length ≤ 128 := by rw [hg]; exact gramRead_len hB
  have hgk := fun (W : World) (hb : Below w.heap.size w W) => rget_any base rb lv r g.tick W (h.below hb).rg
  have hgb := fun (W : World) (hb : Below w.heap.size w W) => rget_any base rb lv r g.base W (h.below hb).rg
  have hsl := getS_sl h.rg g.base
  obtain ⟨s1, A1, n1, c1, b1, hs1⟩ := getS_form h.rg g.tick
  obtain ⟨s2, A2, n2, c2, b2, hs2⟩ := getS_form h.rg g.base
  rw [hs2] at hsl
  rw [hs1] at he1
  rw [hs2] at he3 hq
  simp only [hs1] at hgk
  simp only [hs2] at hgb
  clear hs1 hs2
  have hstl := fun (W : World) (hb : Below w.heap.size w W) => stale_any g.tick W (h.below hb)
  have HG := Lib.hid he1
  have HG2 := Lib.hid he2
  have HG3 := Lib.hid he3
  have HQ := Lib.hid hq
  clear he hg hbs hB he1 he2 he3 hq
  go_enter Tryz.func34, Tryz.ntmps34
  go_wp2_with (go_at_call 26; refine hrd.mono ?_; clear hrd; rintro e w1 ⟨gv, rfl, hor, hb1⟩; obtain ⟨Ag, cg, rfl, _, _⟩ := own_form hor; have j0 := heap_old (o' := .cells (g.cells (.slice Ag g.recs.length cg)) 45) (below_at hb1 k0 (heap_lt k0)); have j1 := heap_old (o' := .cells (g.cells (.slice Ag g.recs.length cg)) 45) (below_at hb1 k1 (heap_lt k1)); have y0 := Proofs.YtpdckdfnpehliaaGreat.blk j1 0; have yf := blkF j1 0; have hb2 := hb0.trans ((below_alloc hb1 (Nat.le_refl _) (.cells (g.cells (.slice Ag g.recs.length cg)) 45)).mono hb0.size); simp only [Gram.cells] at j0 j1 y0 yf hb2; simp only [List.getElem?_toArray, List.getElem?_cons_zero] at y0)
  have S0 : SnW w w1.heap.size g (.slice Ag g.recs.length cg) ⟨0, 0, []⟩ (.slice none 0 0) 0 ((w1.alloc (.cells (g.cells (.slice Ag g.recs.length cg)) 45)).setCell ⟨w.heap.size + 1, 0, none⟩ (.int .i64 0)) := by
    have hsz := hb1.size
    simp only [World.size_alloc] at hsz
    refine SnW.refuse (e := 0) ⟨hb2, j0, j1, heap_new rfl, by omega, World.ownsRow_nil _ _ _ _, ?_, HL⟩ (by rw [blk_set j1]; simp) (fr_set _)
    simp only [World.size_alloc] at hor
    exact own_below hor ((Below.refl _ _).alloc (Nat.le_refl _) _)
  generalize (w1.alloc (.cells (g.cells (.slice Ag g.recs.length cg)) 45)).setCell ⟨w.heap.size + 1, 0, none⟩ (.int .i64 0) = W at *
  generalize w1.heap.size = gb at *
  obtain ⟨gc0, ez, ezf, _⟩ := S0.cells
  obtain ⟨sc, _, scf⟩ := (h.below S0.bl).cells
  clear yf y0 j0 j1 hb2 hb1 hor k0 k1 hb0
  go_cut [8, 9] (fun a d wx => d = .bool b1 ∧ SnW w gb g (.slice Ag g.recs.length cg) ⟨0, 0, []⟩ (.slice none 0 0) 0 wx)
  case first =>
    have T0 := S0.below ((Below.refl _ _).alloc (Nat.le_refl _) (.cells snap0Cells 35))
    obtain ⟨tc0, _, _, _⟩ := T0.cells
    obtain ⟨tsc, _, tscf⟩ := (h.below T0.bl).cells
    have k8 : (W.alloc (.cells snap0Cells 35)).heap[W.heap.size]? = some (.cells snap0Cells 35 (0, 0)) := heap_new rfl
    go_region_law (first | (go_simp; go_at_call 40; refine (hgk _ ?_).mono ?_; (first | exact S0.bl | exact T0.bl | exact S0.bl.drew | exact T0.bl.drew); rintro e w2 ⟨rfl, hb2⟩; try (have j8 := below_at hb2 k8 (heap_lt k8); obtain ⟨x80, x81, x82, x8f⟩ := cells3 j8)))
    all_goals
      have hbW : Below W.heap.size W w2 := by
        first
        | exact hb2
        | exact (Below.refl W.heap.size W).drew.trans hb2
        | exact (below_alloc (Below.refl W.heap.size W) (Nat.le_refl _) _).trans (hb2.mono (by simp))
        | exact (below_alloc (Below.refl W.heap.size W).drew (Nat.le_refl _) _).trans (hb2.mono (by simp))
        | exact (below_alloc (Below.refl W.heap.size W) (Nat.le_refl _) _).drew.trans (hb2.mono (by simp))
      go_wp2_with (fail)
      go_meet
      refine ⟨rfl, ?_⟩
      with_reducible first
      | refine S0.getA hbW
      | refine S0.getS hbW
  case rest =>
    obtain ⟨rfl, S1⟩ := hcut
    clear S0 gc0 ez ezf sc scf
    have htok : True := trivial
    obtain ⟨sc, _, scf⟩ := (h.below S1.bl).cells
    generalize staleB r g.tick = stb at *
    go_wp2_with (first
      | (go_at_call 50; refine (hstl _ S2.bl).mono ?_; clear hstl; rintro e w5 ⟨rfl, hb5⟩; have S3 := S2.below hb5; clear S2)
      | (go_at_call 49; have _t := htok; clear htok _t; refine (refuse_any (w.heap.size + 1) _ _ _ _ S1.ke).mono ?_; rintro e w4 ⟨rfl, hk4, hf4⟩; rw [← HG.out] at hk4; have S2 := S1.refuse hk4 hf4; clear S1 hk4 hf4; obtain ⟨gc2, _, _, _⟩ := S2.cells)
      | (go_at_call 49; refine (refuse_any (w.heap.size + 1) _ _ _ _ S3.ke).mono ?_; rintro e w6 ⟨rfl, hk6, hf6⟩; rw [← HG2.out] at hk6; have S0 := S3.refuse hk6 hf6; clear S3 hk6 hf6 gc2))
    generalize w6 = W at *
    obtain ⟨gc0, _, _, _⟩ := S0.cells
    clear sc scf
    obtain ⟨sc, _, scf⟩ := (h.below S0.bl).cells
    go_cut [10, 11] (fun a d wx => d = .bool b2 ∧ ∃ b, a = .pointer (some ⟨b, 0, none⟩) ∧ wx.heap[b]? = some (.cells (s2.cells (.slice A2 n2 c2)) 35 (0, 0)) ∧ w.heap.size + 1 < b ∧ SnW w gb g (.slice Ag g.recs.length cg) ⟨0, 0, []⟩ (.slice none 0 0) e2 wx)
    case first =>
      have T0 := S0.below ((Below.refl _ _).alloc (Nat.le_refl _) (.cells snap0Cells 35))
      obtain ⟨tc0, _, _, _⟩ := T0.cells
      obtain ⟨tsc, _, tscf⟩ := (h.below T0.bl).cells
      have k8 : (W.alloc (.cells snap0Cells 35)).heap[W.heap.size]? = some (.cells snap0Cells 35 (0, 0)) := heap_new rfl
      go_region_law (first | (go_simp; go_at_call 40; refine (hgb _ ?_).mono ?_; (first | exact S0.bl | exact T0.bl | exact S0.bl.drew | exact T0.bl.drew); rintro e w2 ⟨rfl, hb2⟩; try (have j8 := below_at hb2 k8 (heap_lt k8); obtain ⟨x80, x81, x82, x8f⟩ := cells3 j8)))
      all_goals
        have hbW : Below W.heap.size W w2 := by
          first
          | exact hb2
          | exact (Below.refl W.heap.size W).drew.trans hb2
          | exact (below_alloc (Below.refl W.heap.size W) (Nat.le_refl _) _).trans (hb2.mono (by simp))
          | exact (below_alloc (Below.refl W.heap.size W).drew (Nat.le_refl _) _).trans (hb2.mono (by simp))
          | exact (below_alloc (Below.refl W.heap.size W) (Nat.le_refl _) _).drew.trans (hb2.mono (by simp))
        go_wp2_with (fail)
        go_meet
        refine ⟨rfl, ?_⟩
        with_reducible first
        | exact ⟨_, rfl, heap_new rfl, S0.lt hbW, S0.getA hbW⟩
        | exact ⟨_, rfl, getS_blk j8 _ _, S0.lt (Below.refl _ _), S0.getS hbW⟩
    case rest =>
      obtain ⟨rfl, pb, rfl, kb, hpb, S1⟩ := hcut
      clear S0 gc0 sc scf
      go_upto_region 9 with (fail)
      go_cut [58] (fun a wx => wx.heap[pb]? = some (.cells (s2.cells (.slice A2 n2 c2)) 35 (0, 0)) ∧ SnW w gb g (.slice Ag g.recs.length cg) ⟨0, 0, []⟩ (.slice none 0 0) e3 wx)
      case first =>
        obtain ⟨⟨_, gc2⟩, _, _, gcf⟩ := S1.cells
        cases b2
        all_goals
          go_wp2_with (go_at_call 49; refine (refuse_any (w.heap.size + 1) _ _ _ _ S1.ke).mono ?_; rintro e w6 ⟨rfl, hk6, hf6⟩)
          go_meet
          have S4 := S1.refuse (e' := e3) (by rw [HG3.out]; exact hk6) hf6
          exact ⟨hf6.at kb (by omega), S4⟩
      case rest =>
        obtain ⟨kb2, S5⟩ := hcut
        clear S1 kb HG3 HG2 HG
        obtain ⟨_, ez, ezf, _⟩ := S5.cells
        obtain ⟨b0, b1', b2', bf⟩ := cells3 kb2
        obtain ⟨g0, g1, g2, g3, gf⟩ := cells4 S5.kg
        go_upto_if 61 with (fail)
        go_cut [10] (fun a wx => ∃ Ax nx cx, SnW w gb g (.slice Ag g.recs.length cg) q.1 (.slice Ax nx cx) q.2 wx)
        case first =>
          by_cases he3 : e3 = 0
          · have hq' : q = snapApply s2 g := by rw [HQ.out, if_pos he3]
            subst he3
            have hap := apply_any s2 g _ _ (fun _ => True) wc hgw ((hsl.below S5.bl).keep (fun _ _ _ => rfl) (fun _ _ _ => trivial)) S5.sl
            unfold aqOut at hap
            rw [← hq'] at hap
            clear HQ hq'
            go_wp2_with (go_at_call 51; refine hap.mono ?_; clear hap; rintro e w7 ⟨v1, rfl, ho, hb7⟩; obtain ⟨Ax, cx, rfl, _, _⟩ := own_form ho; have S6 := S5.below hb7; obtain ⟨x0, x1, x2, xf⟩ := cells3 S6.kx; obtain ⟨_, ey, eyf, _⟩ := S6.cells)
            go_meet
            refine ⟨_, _, _, S6.put (y := q.1) ?_ q.2⟩
            exact own_base ho (S5.lt (Below.refl _ _))
          · have hq' : q = (⟨0, 0, []⟩, e3) := by rw [HQ.out, if_neg he3]
            have hd : (e3 == 0) = false := by simpa using he3
            clear HQ
            go_wp2_with (fail)
            go_meet
            exact ⟨none, 0, 0, by rw [hq']; exact S5⟩
        case rest =>
          obtain ⟨Ax, nx, cx, S7⟩ := hcut
          clear S5 ez ezf b0 b1' b2' bf g0 g1 g2 g3 gf kb2 HQ
          have htm := fun (W : World) (hb : Below w.heap.size w W) => timely2_any q.1 Ax nx cx W (h.below hb)
          obtain ⟨x0, x1, x2, xf⟩ := cells3 S7.kx
          generalize timelyB r q.1 = tb at *
          obtain ⟨_, ez, ezf, _⟩ := S7.cells
          go_wp2_with (first
            | (go_at_call 52; refine (htm _ S7.bl).mono ?_; clear htm; rintro e w8 ⟨rfl, hb8⟩; have S8 := S7.below hb8)
            | (go_at_call 49; refine (refuse_any (w.heap.size + 1) _ _ _ _ S8.ke).mono ?_; rintro e w9 ⟨rfl, hk9, hf9⟩; have S9 := S8.refuse hk9 hf9; clear S7 S8 hk9 hf9 x0 x1 x2 xf ez ezf))
          generalize orErr q.2 (!tb) 16 = ee at *
          generalize w9 = W at *
          obtain ⟨z0, z1, z2, zf⟩ := cells3 S9.kx
          obtain ⟨_, ez, ezf, _⟩ := S9.cells
          have hbl := S9.bl
          have hox := S9.ox
          clear S9
          go_region
          all_goals
            go_wp2_with (fail)
            refine bodyPost_ret (v := .tuple #[q.1.val (.slice Ax nx cx), .int .i64 ee]) (by simp [results, Tryz.results34, go_sem, z0, z1, z2, ez]) rfl ?_
            unfold snOut
            rw [HE.out]
            refine ⟨_, rfl, own_base (own_fr hox (S := fun k => k = w.heap.size ∨ k = w.heap.size + 1) ?_ (fun k e1 e2 => by have := own_lt hox k e1; omega)) (Nat.le_add_right _ 2), ?_⟩
            · repeat (first | with_reducible exact Fr.refl _ _ | with_reducible refine Fr.drew ?_ | with_reducible refine Fr.setCell ?_ (by simp) _)
            · repeat (first | with_reducible exact hbl | with_reducible refine Below.drew ?_ | with_reducible refine Below.setCell ?_ (by simp) _)
theorem snap_any {base sb rb : Nat} {lv : Value} {r : Rng} {cn : List Int} (bv : Value) (bs : List Int) (F : Nat → Prop) (w : World) (h : StSt w base sb rb lv r cn) (hbs : Sl Ty.byte w F bv bs) (hB : isB bs) :
    Calls Tryz.prog 34 #[.pointer (some ⟨sb, 0, none⟩), bv] w (snOut r bs w) := by
  by_cases he : (gramRead bs).2 = 0
  · exact snap_ok bv bs F w h hbs hB he
  · exact snap_bad bv bs F w h hbs hB he

end Go.Proofs.YtpdckdfnpehliaaGreat
