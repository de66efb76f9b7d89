/- slices.AppendSeq, slices.Collect over maps.Values at entities. -/
import Derived.Test.YtpdckdfnpehliaaGreatIt
set_option linter.unusedVariables false
set_option linter.unusedSimpArgs false

namespace Go.Proofs.YtpdckdfnpehliaaGreat
open Go Go.RowKit Go.Deep Go.Shelf
attribute [local go_sem] Oper.semAt_some
set_option maxHeartbeats 400000

abbrev OwnE (w : World) (base : Nat) (v : Value) (xs : List Ent) : Prop := w.ownsRow base 69 9 v xs.length (xs.flatMap Ent.enc)
theorem infoEnt : (Tryz.prog.info? 69).map (fun i => (i.zero, i.size, i.bytes)) = some (some (Ent.val Ent.zero), 9, 64) := by kernel_rfl
theorem walks_of_others {W W' : World} (h : KeepsOthers W W') : KeepsWalks W W' := ⟨h.size, fun k o hk ho => h.same k o hk (Obj.not_cells_of_walk ho)⟩
theorem ent_one (x : Ent) : ∀ u ∈ x.enc, u.oneCell' = true := by
  intro u hu
  simp [Ent.enc] at hu
  rcases hu with rfl | rfl | rfl | rfl | rfl | rfl | rfl | rfl | rfl <;> rfl
/-- One entity in a new block. -/
theorem Src.ent (W : World) (x : Ent) : Src (W.alloc (.cells x.cells 69)) (.slice (some ⟨W.heap.size, 0, none⟩) 1 1) 1 9 x.enc :=
  Src.of_block (cs := x.cells) (heap_new rfl) rfl (ent_one x)
theorem OwnE.snoc {w : World} {base : Nat} {v : Value} {xs : List Ent} {x : Ent} (h : w.ownsRow base 69 9 v (xs.length + 1) (xs.flatMap Ent.enc ++ x.enc)) : OwnE w base v (xs ++ [x]) := by
  unfold OwnE
  rw [List.length_append, List.flatMap_append]
  simpa using h

set_option maxRecDepth 100000 in
set_option maxHeartbeats 2000000 in
theorem appendSeq_in (F : Fence) (n : Nat) (h140 : F.fn 140) (h111 : F.fn 111) (hro : F.round = none) (hn : 3 ≤ n) (Bm b : Nat) (L : List (Int × Ent)) (hL : L.length ≤ 1000000) (w : World) (hBm : Bm < w.heap.size)
    (hm : w.cell? ⟨Bm, 0, none⟩ = some (.map (some b))) (hM : MapE w b L) :
    CallsIn F n Tryz.prog 140 #[.slice none 0 0, .func (.func 111) #[] #[.pointer (some ⟨Bm, 0, none⟩)]] w fun e W' =>
      ∃ (ps : List (Int × Ent)) (v : Value), ps.Perm L ∧ e = .returned v ∧ OwnE W' w.heap.size v (ps.map (·.2)) ∧ Below w.heap.size w W' := by
  have h1 : 1 ≤ n := by omega
  have hb := hM.lt
  refine callsIn_of_wp_marks Tryz.func140 rfl h140 ?_ hro
  simp only [Tryz.ntmps140, List.size_toArray, List.length_cons, List.length_nil, Nat.reduceAdd, Nat.reduceSub, Array.replicate_succ, Array.replicate_zero, List.push_toArray, List.append_toArray, List.nil_append, List.cons_append]
  gi_wp2
  have bS := Boxed.new w 33 (.slice none 0 0)
  have hB0 : Below w.heap.size w (w.alloc (.cells #[.slice none 0 0] 33)) := (Below.refl _ w).alloc (Nat.le_refl _) _
  have hM0 : MapE (w.alloc (.cells #[.slice none 0 0] 33)) b L := hM.fr (Fr.of_below hB0 fun _ => False) (fun h => h)
  have hm0 := (hB0.cell (p := ⟨Bm, 0, none⟩) hBm).trans hm
  have hsz : (w.alloc (.cells #[.slice none 0 0] 33)).heap.size = w.heap.size + 1 := by simp
  obtain ⟨W0, hW0⟩ : ∃ W0, w.alloc (.cells #[.slice none 0 0] 33) = W0 := ⟨_, rfl⟩
  rw [hW0] at bS hB0 hM0 hm0 hsz ⊢
  clear hW0
  refine wpIn_rangeFunc_ownH hro h1 (gf := 111) (lb := #[.pointer (some ⟨Bm, 0, none⟩)]) rfl h111 (enters_of Tryz.func111 (by kernel_rfl) rfl)
    (values_stops F (n - 1) h111 hro (by omega) Bm b L W0 (by omega) hm0 hM0) walksK_t walksK_b (Below.refl _ _) (fun _ => rfl)
    (fun pre W => (∃ v, Boxed W w.heap.size 33 v ∧ W.ownsRow w.heap.size 69 9 v pre.length (pre.flatMap Ent.enc) ∧ True) ∧ Below w.heap.size w W)
    (fun _ _ _ => False)
    (OwnFrom.and (Own.from (holdsRow_own w.heap.size w.heap.size 33 69 9 (fun pre : List Ent => pre.length) (fun pre => pre.flatMap Ent.enc) (fun _ _ => True)) _) (ownFrom_below (Nat.le_refl _) (by omega)))
    (fun _ _ _ _ _ hs _ _ => hs)
    ⟨⟨_, bS, World.ownsRow_nil _ _ _ _, trivial⟩, hB0⟩
    (fun x a' W => ∃ Bx, w.heap.size < Bx ∧ W.heap[Bx]? = some (.cells (Ent.cells x) 69 (0, 0)) ∧ a' = { tmps := #[.slice none 0 0, .func (.func 111) #[] #[.pointer (some ⟨Bm, 0, none⟩)], .pointer (some ⟨w.heap.size, 0, none⟩), undef, .slice none 0 0, .pointer (some ⟨Bx, 0, none⟩), .func (.func 111) #[] #[.pointer (some ⟨Bm, 0, none⟩)], Ent.val x, undef, undef, undef, undef, undef], defers := [] })
    (fun x a' _ X Y row hs hg hr => by obtain ⟨Bx, h1, h2, h3⟩ := hs; exact ⟨Bx, h1, (hg.block Bx (heap_lt h2) (fun e => by obtain ⟨_, o, ho, hc⟩ := hr Bx e.symm; rw [h2] at ho; cases ho; cases hc)).trans h2, h3⟩)
    ?assign ?body ?done ?stop
  case assign =>
    rintro l pre x W K ⟨⟨v, bS1, hr1, _⟩, hB1⟩ hK
    gi_wp2
    exact hK _ _ ((KeepsOthers.alloc _ _).from _) (KeepsWalks.alloc _ _) ⟨⟨v, bS1.alloc _, hr1.alloc _, trivial⟩, hB1.alloc hB1.size _⟩ ⟨W.heap.size, bS1.lt, heap_new rfl, rfl⟩
  case body =>
    rintro l pre x a' W hl ⟨r, hr⟩ ⟨⟨v, bS1, hr1, _⟩, hB1⟩ ⟨Bx, hBx, bX, rfl⟩ hlt
    have cS := bS1.cell
    obtain ⟨A, c, rfl, _, _⟩ := own_form hr1
    obtain ⟨hx0, hx1, hx2, hx3, hx4, hx5, hx6, hx7, hx8, hxf⟩ := cellsE bX
    clear hxf
    have hsW := hB1.size
    gi_wp2_with (gi_at_builtin; refine appIn_row w.heap.size rfl (.tmp 8) (.tmp 10) 33 69 _ 9 64 rfl Tryz.underlying33 infoEnt rfl (by decide) (by decide) _ _ pre.length 1 _ x.enc rfl rfl (hr1.alloc _) (Src.ent W x) (by simp; omega) (by omega) ?_; intro v1 w1 hown hgr hat; obtain ⟨g', cap', rfl⟩ := ownsRow_succ hown; obtain ⟨hv1, hv2, hr2, hk2, hb2⟩ := bS1.appended (by decide) hr1 hB1.size (Nat.le_refl _) hown hgr; have hc1 := hv1.cell; have hf1 := hv1.frozen)
    exact ⟨hk2.from _, walks_of_others hk2, ⟨_, hv2, OwnE.snoc hr2, trivial⟩, hB1.trans hb2⟩
  case done =>
    rintro D xs W hD ⟨ps, hp, rfl⟩ ⟨⟨v, bS1, hr1, _⟩, hB1⟩ hK
    have cS := bS1.cell
    rw [List.length_map] at hr1
    obtain ⟨A, c, rfl, _, _⟩ := own_form hr1
    gi_wp2
    refine ⟨by simp, .inl ⟨_, _, rfl, run_takeDeferred hK, ?_⟩⟩
    exact ⟨_, results_tmp rfl _ _ _, ps, _, hp, rfl, (by unfold OwnE; rw [List.length_map]; exact ownsRow_putObj hr1 _ hK rfl), hB1.trans (belowK_b (w := w) (Nat.le_refl _) W D _ _ (by omega) hK rfl rfl)⟩
  case stop =>
    rintro D c pre W _ _ h _
    exact h.elim

theorem collect_any (Bm b : Nat) (L : List (Int × Ent)) (hL : L.length ≤ 1000000) (w : World) (hBm : Bm < w.heap.size) (hm : w.cell? ⟨Bm, 0, none⟩ = some (.map (some b))) (hM : MapE w b L) :
    Calls Tryz.prog 109 #[.func (.func 111) #[] #[.pointer (some ⟨Bm, 0, none⟩)]] w fun e W' =>
      ∃ (ps : List (Int × Ent)) (v : Value), ps.Perm L ∧ e = .returned v ∧ OwnE W' w.heap.size v (ps.map (·.2)) ∧ Below w.heap.size w W' := by
  have hc := callsIn_wide.1 (appendSeq_in Fence.wide 3 trivial trivial rfl (Nat.le_refl _) Bm b L hL w hBm hm hM)
  clear hm hM
  go_enter Tryz.func109, Tryz.ntmps109
  go_wp2_with (go_at_call 140; refine hc.mono ?_; rintro e w1 ⟨ps, v, hp, rfl, ho, hb1⟩; unfold OwnE at ho; rw [List.length_map] at ho; obtain ⟨A, c, rfl, _, _⟩ := own_form ho)
  go_ret
  exact ⟨ps, _, hp, rfl, (by unfold OwnE; rw [List.length_map]; exact ho), hb1⟩

end Go.Proofs.YtpdckdfnpehliaaGreat
