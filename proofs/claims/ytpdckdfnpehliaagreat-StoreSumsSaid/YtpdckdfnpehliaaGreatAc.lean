/- Layer 12 in plain terms: what is accepted is laid.
   Layer 12: Accept. -/
import Derived.Test.YtpdckdfnpehliaaGreatSn4
set_option linter.unusedVariables false
set_option linter.unusedSimpArgs false

namespace Go.Proofs.YtpdckdfnpehliaaGreat
open Go Go.RowKit Go.Deep Go.Shelf

theorem orErr_zero {e why : Int} {is : Bool} (h : orErr e is why = 0) (hw : why ≠ 0) : e = 0 ∧ is = false := by
  unfold orErr at h
  split at h
  · exact absurd h hw
  · next h2 => subst h; cases is <;> simp_all
theorem orErr_rng {e why : Int} {is : Bool} (h : 0 ≤ e ∧ e ≤ 17) (hw : 0 ≤ why ∧ why ≤ 17) : 0 ≤ orErr e is why ∧ orErr e is why ≤ 17 := by
  unfold orErr; split
  · exact hw
  · exact h
theorem snapL_rng (r : Rng) {bs : List Int} (hB : isB bs) : 0 ≤ (snapL r bs).2 ∧ (snapL r bs).2 ≤ 17 := by
  have h1 := (gramRead_wf hB).2
  unfold snapL
  split
  · exact h1
  · refine orErr_rng ?_ (by omega)
    split
    · exact snapApply_rng _ _
    · exact orErr_rng (orErr_rng (orErr_rng (by omega) (by omega)) (by omega)) (by omega)
theorem snapApply_zero {a : Snap} {g : Gram} (h : (snapApply a g).2 = 0) : gramCheck g = 0 ∧ (snapApply a g).1.tick = g.tick ∧ (snapApply a g).1.time = g.time ∧ (snapApply a g).1.ents.length ≤ 64 := by
  unfold snapApply at h ⊢
  split
  · next h1 => rw [if_pos h1] at h; exact absurd h h1
  · next h1 =>
    rw [if_neg h1] at h
    split
    · next h2 => rw [if_pos h2] at h; exact absurd h h2.2
    · next h2 =>
      rw [if_neg h2] at h
      split
      · next h3 => rw [if_pos h3] at h; simp at h
      · next h3 =>
        rw [if_neg h3] at h
        cases h4 : applyRecs (if g.base ≥ 0 then byIdL a.ents else []) g.recs with
        | none => rw [h4] at h; simp at h
        | some m =>
          rw [h4] at h
          simp only at h ⊢
          split
          · next h5 => rw [if_pos h5] at h; simp at h
          · next h5 => exact ⟨by simpa using h1, rfl, rfl, by simp only [sortE]; rw [List.length_mergeSort]; simp; omega⟩
structure SnapOk (r : Rng) (bs : List Int) : Prop where
  read : (gramRead bs).2 = 0
  new : (getS r (gramRead bs).1.tick).2.2 = false
  fresh : staleB r (gramRead bs).1.tick = false
  based : (getS r (gramRead bs).1.base).2.2 = true ∨ (gramRead bs).1.base < 0
  is : snapL r bs = snapApply (getS r (gramRead bs).1.base).1 (gramRead bs).1
  ok : (snapApply (getS r (gramRead bs).1.base).1 (gramRead bs).1).2 = 0
  time : timelyB r (snapL r bs).1 = true
  tick : (snapL r bs).1.tick = (gramRead bs).1.tick
  len : (snapL r bs).1.ents.length ≤ 64
theorem snapL_zero {r : Rng} {bs : List Int} (h : (snapL r bs).2 = 0) : SnapOk r bs := by
  by_cases h1 : (gramRead bs).2 = 0
  · have e : snapL r bs = (let g := (gramRead bs).1
      let e1 := orErr 0 (getS r g.tick).2.2 12
      let e2 := orErr e1 (staleB r g.tick) 13
      let e3 := orErr e2 (!(getS r g.base).2.2 && decide (0 ≤ g.base)) 14
      let q := if e3 = 0 then snapApply (getS r g.base).1 g else (⟨0, 0, []⟩, e3)
      (q.1, orErr q.2 (!timelyB r q.1) 16)) := by unfold snapL; rw [if_neg (by simp [h1])]
    simp only at e
    obtain ⟨g, hg⟩ : ∃ g, g = (gramRead bs).1 := ⟨_, rfl⟩
    rw [← hg] at e
    obtain ⟨e3, he3⟩ : ∃ e3, e3 = orErr (orErr (orErr 0 (getS r g.tick).2.2 12) (staleB r g.tick) 13) (!(getS r g.base).2.2 && decide (0 ≤ g.base)) 14 := ⟨_, rfl⟩
    rw [← he3] at e
    rw [e] at h
    simp only at h
    obtain ⟨h2, h3⟩ := orErr_zero h (by omega)
    have h4 : e3 = 0 := by
      by_cases h5 : e3 = 0
      · exact h5
      · rw [if_neg h5] at h2; exact h2
    rw [if_pos h4] at e h2 h3
    rw [h4] at he3
    obtain ⟨h5, h6⟩ := orErr_zero he3.symm (by omega)
    obtain ⟨h7, h8⟩ := orErr_zero h5 (by omega)
    obtain ⟨_, h9⟩ := orErr_zero h7 (by omega)
    obtain ⟨a1, a2, a3, a4⟩ := snapApply_zero h2
    have e5 : snapL r bs = snapApply (getS r g.base).1 g := by
      rw [e, orErr_no (.inr h3)]
    rw [hg] at h9 h8 e5 h2 h3 a2 a4 h6
    refine ⟨h1, h9, h8, ?_, e5, h2, by rw [e5]; simpa using h3, by rw [e5]; exact a2, by rw [e5]; exact a4⟩
    rw [← hg] at h6 ⊢
    cases h10 : (getS r g.base).2.2
    · right; simp [h10] at h6; exact h6
    · exact .inl rfl
  · unfold snapL at h
    rw [if_pos h1] at h
    exact absurd h h1
theorem getS_there {r : Rng} (hs : (keys r.xs).Pairwise (· < ·)) {k : Int} (h : (getS r k).2.2 = false) : thereL k (keys r.xs) = false := by
  cases ht : thereL k (keys r.xs) with
  | false => rfl
  | true =>
    obtain ⟨_, h4, _⟩ := getL_some hs ht
    unfold getS at h
    rw [h4] at h
    cases h
theorem lay_ok {r : Rng} {y : One} {bs : List Int} (hs : (keys r.xs).Pairwise (· < ·)) (h : (snapL r bs).2 = 0) (hk : y.key = (snapL r bs).1.tick) : (r.lay y).1.2.2 = 0 := by
  have o := snapL_zero h
  have ht := getS_there hs o.new
  have hf := o.fresh
  rw [o.tick] at hk
  rw [← hk] at ht hf
  unfold staleB untilL at hf
  rw [ht] at hf
  unfold Rng.lay
  rw [if_neg (by simp [ht]), if_neg]
  · simp only
    split <;> rfl
  · simp only [Bool.or_eq_false_iff, Bool.and_eq_false_iff, decide_eq_false_iff_not] at hf
    simp only [Bool.or_eq_true, Bool.and_eq_true, decide_eq_true_eq]
    rintro (⟨a, b⟩ | ⟨a, b⟩)
    · rcases hf.1 with c | c
      · rw [a] at c; cases c
      · exact c b
    · rcases hf.2 with c | c
      · exact c b
      · apply c; simp [a]
theorem lay_mem {r : Rng} {y x : One} (h : x ∈ (r.lay y).2.xs) : x ∈ r.xs ∨ x = y := by
  have hi : ∀ i, x ∈ insL r.xs i y → x ∈ r.xs ∨ x = y := by
    intro i hx
    unfold insL at hx
    simp only [List.mem_append, List.mem_singleton] at hx
    rcases hx with (hx | hx) | hx
    · exact .inl (List.mem_of_mem_take hx)
    · exact .inr hx
    · exact .inl (List.mem_of_mem_drop hx)
  unfold Rng.lay at h
  split at h
  · exact .inl h
  · split at h
    · exact .inl h
    · simp only at h
      split at h
      · exact hi _ h
      · exact hi _ (List.mem_of_mem_drop h)
theorem lay_most (r : Rng) (y : One) : (r.lay y).2.most = r.most := by
  unfold Rng.lay
  split
  · rfl
  · split
    · rfl
    · simp only
      split <;> rfl
theorem lay_len {r : Rng} (y : One) (h : (r.xs.length : Int) ≤ r.most) : ((r.lay y).2.xs.length : Int) ≤ r.most := by
  unfold Rng.lay
  split
  · exact h
  · split
    · exact h
    · simp only
      have h1 := insL_length r.xs (posL y.key (keys r.xs)) y (by have := posL_le y.key (keys r.xs); simpa [keys] using this)
      split
      · next h2 => exact h2
      · simp only [List.length_drop, h1]; omega

end Go.Proofs.YtpdckdfnpehliaaGreat

namespace Go.Proofs.YtpdckdfnpehliaaGreat
open Go Go.RowKit Go.Deep Go.Shelf
set_option maxHeartbeats 400000

theorem Sl.both {w : World} {F1 F2 : Nat → Prop} {v : Value} {xs : List Ent} (a : Sl Ty.ent w F1 v xs) (b : Sl Ty.ent w F2 v xs) : Sl Ty.ent w (fun k => F1 k ∧ F2 k) v xs := by
  obtain ⟨A, c, rfl, h1, h2, h3, h4⟩ := a
  obtain ⟨A', c', e, _, _, _, h4'⟩ := b
  injection e with e1 e2 e3
  subst e1
  refine ⟨A, c, rfl, h1, h2, h3, fun hp => ?_⟩
  obtain ⟨b, off, rfl, hF, hlt, hc⟩ := h4 hp
  obtain ⟨b', off', e', hF', _, _⟩ := h4' hp
  injection e' with e'
  injection e' with e' _
  subst e'
  exact ⟨b, off, rfl, ⟨hF, hF'⟩, hlt, fun j hj => hc j hj⟩

theorem StSt.bump {w : World} {base sb rb : Nat} {lv : Value} {r : Rng} {cn : List Int} (h : StSt w base sb rb lv r cn) (k : Nat) (v : Int) :
    StSt (w.setCell ⟨sb, 2 + k, none⟩ (.int .i64 v)) base sb rb lv r (cn.set k v) := by
  have hf : Fr (fun k => k = sb) w (w.setCell ⟨sb, 2 + k, none⟩ (.int .i64 v)) := fr_set _
  refine ⟨?_, ⟨hf.at h.rg.blk (fun e => h.ne e.symm), own_fr h.rg.own hf (fun k e1 e2 => by subst e2; exact h.nl e1), h.rg.ne, fun x hx => ?_, h.rg.srt, h.rg.len, h.rg.most0⟩, h.ne, h.nl, fun x hx => ?_, h.le, by simpa using h.cl, h.tick, by simpa using h.bs⟩
  · rw [blk_set h.blk, List.setIfInBounds_toArray, Nat.add_comm 2 k]
    simp [nums, List.map_set]
  · exact (Sl.both (h.rg.ents x hx) (h.ents x hx)).keep (fun b hb hl => hf.block b hl hb.2) (fun b hb _ => hb.1)
  · exact (h.ents x hx).keep (fun b hb hl => hf.block b hl hb) (fun b hb _ => hb)

theorem StSt.laid {w w' : World} {base sb rb : Nat} {lv lv' : Value} {r : Rng} {cn : List Int} (h : StSt w base sb rb lv r cn) (y : One) (hk : y.key = y.s.tick) (hy : Sl Ty.ent w (fun k => k ≠ rb ∧ lv.ownBlock ≠ some k ∧ k ≠ sb) y.v y.s.ents)
    (hr : RgSt w' base rb lv' (r.lay y).2) (hf : Fr (fun k => k = rb ∨ lv.ownBlock = some k) w w') (hg : Grow w lv lv') : StSt w' base sb rb lv' (r.lay y).2 cn := by
  have hsb := heap_lt h.blk
  refine ⟨?_, hr, h.ne, ?_, fun x hx => ?_, ?_, h.cl, fun x hx => ?_, Nat.le_trans h.bs hf.size⟩
  · rw [lay_most]
    exact hf.at h.blk (fun e => e.elim h.ne h.nl)
  · rcases hg with e | ⟨g, e, hge⟩
    · rw [e]; exact h.nl
    · rw [e]; intro e2; injection e2 with e2; omega
  · rcases lay_mem hx with hx | rfl
    · exact (Sl.both (h.rg.ents x hx) (h.ents x hx)).keep (fun b hb hl => hf.block b hl (fun e => e.elim hb.1.1 hb.1.2)) (fun b hb _ => hb.2)
    · exact hy.keep (fun b hb hl => hf.block b hl (fun e => e.elim hb.1 hb.2.1)) (fun b hb _ => hb.2.2)
  · rw [lay_most]; exact lay_len y h.le
  · rcases lay_mem hx with hx | rfl
    · exact h.tick x hx
    · exact hk

set_option maxRecDepth 100000 in
theorem accept_bad {base sb rb : Nat} {lv : Value} {r : Rng} {cn : List Int} (bv : Value) (bs : List Int) (F : Nat → Prop) (w : World) (h : StSt w base sb rb lv r cn) (hbs : Sl Ty.byte w F bv bs) (hB : isB bs) (hc : ∀ c ∈ cn, 0 ≤ c ∧ c ≤ 1000000) (k : Nat) (hk0 : k ≠ 0) (hk : (snapL r bs).2 = k) :
    Calls Tryz.prog 16 #[.pointer (some ⟨sb, 0, none⟩), bv] w fun e w' => e = .returned (.tuple #[.int .i64 0, .int .i64 k]) ∧ StSt w' base sb rb lv r (cn.set k (cn.getD k 0 + 1)) ∧ Fr (fun k => k = sb) w w' := by
  have hs := snap_any bv bs F w h hbs hB
  unfold snOut at hs
  have hrg := snapL_rng r hB
  rw [hk] at hs hrg
  have hk18 : k < 18 := by omega
  generalize (snapL r bs).1 = x at *
  have hne : ((k : Int) == 0) = false := by simp; omega
  have hne2 : ((k : Int) != 0) = true := by simp; omega
  have hk1 : (0 : Int) ≤ k := by omega
  have hk2 : (k : Int) < 18 := by omega
  obtain ⟨A, c, rfl, _⟩ := id hbs
  have hcl := h.cl
  have hcr := hc (cn.getD k 0) (by simp only [List.getD, List.getElem?_eq_getElem (show k < cn.length by omega), Option.getD_some]; exact List.getElem_mem _)
  have hw : IntKind.i64.wrap (cn.getD k 0 + 1) = cn.getD k 0 + 1 := by rw [IntKind.wrap_i64]; omega
  clear hk hrg hbs hc hB
  go_enter Tryz.func16, Tryz.ntmps16
  go_wp2_with (go_at_call 34; refine hs.mono ?_; clear hs; rintro e w1 ⟨v1, rfl, ho, hb1⟩; obtain ⟨A1, c1, rfl, _, _⟩ := own_form ho; have h2 := h.below (below_alloc hb1 (Nat.le_refl _) (.cells (x.cells (.slice A1 x.ents.length c1)) 35)); have hb2 := below_alloc hb1 (Nat.le_refl _) (.cells (x.cells (.slice A1 x.ents.length c1)) 35); simp only [Snap.cells] at h2 hb2; obtain ⟨s0, s1, sf⟩ := h2.cells; have sk := h2.count k hk18)
  have hbs2 := h.bs
  generalize w1.alloc (.cells #[.int .i64 x.tick, .int .i64 x.time, .slice A1 x.ents.length c1] 35) = W at *
  obtain ⟨q, hq⟩ : ∃ q, q = cn.getD k 0 := ⟨_, rfl⟩
  rw [← hq] at sk hw hcr
  have HQ := Lib.hid hq.symm
  clear hq
  go_region
  all_goals
    go_wp2
    go_ret2
    refine ⟨rfl, ?_, ?_⟩
    · have h9 := (h2.bump k (q + 1)).below (Below.refl _ _).drew
      rw [HQ.out]
      exact h9
    · exact ((Fr.of_below hb2 (fun k => k = sb)).setCell (p := ⟨sb, 2 + k, none⟩) (fun _ => rfl) _).drew

set_option maxRecDepth 100000 in
set_option maxHeartbeats 4000000 in
theorem accept_ok {base sb rb : Nat} {lv : Value} {r : Rng} {cn : List Int} (bv : Value) (bs : List Int) (F : Nat → Prop) (w : World) (h : StSt w base sb rb lv r cn) (hbs : Sl Ty.byte w F bv bs) (hB : isB bs) (hc : ∀ c ∈ cn, 0 ≤ c ∧ c ≤ 1000000) (hk : (snapL r bs).2 = 0) :
    Calls Tryz.prog 16 #[.pointer (some ⟨sb, 0, none⟩), bv] w fun e w' => e = .returned (.tuple #[.int .i64 (snapL r bs).1.tick, .int .i64 0]) ∧
      ∃ (y : One) (lv' : Value), y.key = (snapL r bs).1.tick ∧ y.s = (snapL r bs).1 ∧ StSt w' base sb rb lv' (r.lay y).2 (cn.set 0 (cn.getD 0 0 + 1)) ∧ Fr (fun k => k = sb ∨ k = rb ∨ lv.ownBlock = some k) w w' ∧ Grow w lv lv' := by
  have hs := snap_any bv bs F w h hbs hB
  unfold snOut at hs
  have ho := snapL_zero hk
  have hln := ho.len
  have hlay := fun (y : One) (e : y.key = (snapL r bs).1.tick) => lay_ok h.rg.srt hk e
  rw [hk] at hs
  generalize (snapL r bs).1 = x at *
  obtain ⟨A, c, rfl, _⟩ := id hbs
  have hcl := h.cl
  have hcr := hc (cn.getD 0 0) (by simp only [List.getD, List.getElem?_eq_getElem (show 0 < cn.length by omega), Option.getD_some]; exact List.getElem_mem _)
  have hw : IntKind.i64.wrap (cn.getD 0 0 + 1) = cn.getD 0 0 + 1 := by rw [IntKind.wrap_i64]; omega
  have hbs2 := h.bs
  have hle := h.le
  clear hk hbs hc hB ho
  go_enter Tryz.func16, Tryz.ntmps16
  go_wp2_with (go_at_call 34; refine hs.mono ?_; clear hs; rintro e w1 ⟨v1, rfl, ho, hb1⟩; obtain ⟨A1, c1, rfl, _, _⟩ := own_form ho; have h2 := h.below (below_alloc hb1 (Nat.le_refl _) (.cells (x.cells (.slice A1 x.ents.length c1)) 35)); have hb2 := below_alloc hb1 (Nat.le_refl _) (.cells (x.cells (.slice A1 x.ents.length c1)) 35); have k2 := heap_new (w := w1) (o := .cells (x.cells (.slice A1 x.ents.length c1)) 35) rfl; have ho2 := own_below ho ((Below.refl _ _).alloc (Nat.le_refl _) (.cells (x.cells (.slice A1 x.ents.length c1)) 35)))
  have hx := Sl.of_own (xs := x.ents) (enc := Ent.enc) (hk := fun _ => rfl) (F := fun _ => True) ho2 (by omega) (fun _ _ => trivial)
  simp only [Snap.cells] at h2 hb2 k2 ho2 hx
  generalize w1.alloc (.cells #[.int .i64 x.tick, .int .i64 x.time, .slice A1 x.ents.length c1] 35) = W at *
  have hxb : w.heap.size ≤ w1.heap.size := hb1.size
  generalize w1.heap.size = xb at *
  have l1 := h.rg.lt
  have l2 := heap_lt h.blk
  have l3 := h2.rg.lt
  have l4 := heap_lt h2.blk
  have l5 := fun k e => own_lt h2.rg.own k e
  have l6 := fun k e => own_lt h.rg.own k e
  obtain ⟨s0, s1, sf⟩ := h2.cells
  obtain ⟨x0, x1, x2, xf⟩ := cells3 k2
  have hown := fun (W' : World) (hb : Below W.heap.size W W') => own_any x (.slice A1 x.ents.length c1) (fun _ => True) W' (hx.below hb) (by omega)
  clear hx ho ho2
  go_cut [7] (fun e7 wx => e7 = .int .i64 0 ∧ ∃ (y : One) (lv' : Value), y.key = x.tick ∧ y.s = x ∧ StSt wx base sb rb lv' (r.lay y).2 cn ∧ Fr (fun k => k = sb ∨ k = rb ∨ lv.ownBlock = some k) w wx ∧ Grow w lv lv' ∧ wx.heap[xb]? = some (.cells #[.int .i64 x.tick, .int .i64 x.time, .slice A1 x.ents.length c1] 35 (0, 0)))
  case first =>
    go_region_law (first
      | (go_simp; go_at_call 33; refine (hown _ ?_).mono ?_; (first | exact Below.refl _ _ | exact (Below.refl _ _).drew); rintro e w3 ⟨v3, rfl, ho3, hb3⟩; have hbW : Below W.heap.size W w3 := (by first | exact hb3 | exact ((Below.refl W.heap.size W).drew).trans hb3); obtain ⟨A3, c3, rfl, _, _⟩ := own_form ho3; have h3 := h2.below hbW; obtain ⟨t0, t1, tf⟩ := h3.cells; have k3 := below_at hbW k2 (heap_lt k2); obtain ⟨y0, y1, y2, yf⟩ := cells3 k3)
      | (go_simp; go_at_call 35; refine (lay_any base rb lv r ⟨x.tick, x, A3, x.ents.length, c3⟩ w3 h3.rg h3.bs ?_ hle).mono ?_; exact Sl.of_own (xs := x.ents) (enc := Ent.enc) (hk := fun _ => rfl) ho3 (by omega) (fun b hb => by have l7 := own_lt ho3 b hb; simp only [World.size_drew] at l7; exact ⟨by omega, fun e => by have := l5 b e; omega⟩); rw [hlay ⟨x.tick, x, A3, x.ents.length, c3⟩ rfl]; rintro e w4 ⟨lv', rfl, hr4, hf4, hg4⟩))
    all_goals
      go_wp2_with (fail)
      go_meet
      refine ⟨rfl, ⟨x.tick, x, A3, x.ents.length, c3⟩, lv', rfl, rfl, h3.laid _ rfl ?_ hr4 hf4 hg4, ?_, hg4.mono (hb2.trans (hbW.mono hb2.size)).size, hf4.at k3 ?_⟩
      · exact Sl.of_own (xs := x.ents) (enc := Ent.enc) (hk := fun _ => rfl) ho3 (by omega) (fun b hb => by have l7 := own_lt ho3 b hb; simp only [World.size_drew] at l7; exact ⟨by omega, fun e => by have := l5 b e; omega, by omega⟩)
      · exact (Fr.of_below (hb2.trans (hbW.mono hb2.size)) _).trans (hf4.mono (fun k _ e => .inr e))
      · intro e
        rcases e with e | e
        · omega
        · have := l6 xb e; omega
  case rest =>
    obtain ⟨rfl, y, lv', hy1, hy2, hst, hbl, hgr, kx⟩ := hcut
    clear hlay hown s0 s1 sf x0 x1 x2 xf h2 k2 hb2
    obtain ⟨s0, s1, sf⟩ := hst.cells
    have sk := hst.count 0 (by omega)
    simp only [Nat.add_zero] at sk
    have hB0 := hst.bump 0 (cn.getD 0 0 + 1)
    obtain ⟨q, hq⟩ : ∃ q, q = cn.getD 0 0 := ⟨_, rfl⟩
    rw [← hq] at sk hw hcr
    have HQ := Lib.hid hq.symm
    clear hq hB0
    have kz : ((wc.setCell ⟨sb, 2, none⟩ (.int .i64 (q + 1))).drew).heap[xb]? = some (.cells #[.int .i64 x.tick, .int .i64 x.time, .slice A1 x.ents.length c1] 35 (0, 0)) := (fr_set (w := wc) (r := sb) (i := 2) (.int .i64 (q + 1))).drew.at kx (by omega)
    obtain ⟨z0, z1, z2, zf⟩ := cells3 kz
    go_wp2_with (fail)
    go_region
    all_goals
      go_wp2
      go_ret2
      refine ⟨rfl, y, lv', hy1, hy2, ?_, ((hbl.setCell (p := ⟨sb, 2, none⟩) (fun _ => .inl rfl) _)).drew, hgr⟩
      have h9 := (hst.bump 0 (q + 1)).below (Below.refl _ _).drew
      rw [HQ.out]
      exact h9
/-- What comes of bytes: the answer, the ring behind. -/
def accOut (r : Rng) (bs : List Int) : Int × Int := (if (snapL r bs).2 = 0 then (snapL r bs).1.tick else 0, (snapL r bs).2)
structure AccR (r : Rng) (bs : List Int) (r' : Rng) : Prop where
  ok : (snapL r bs).2 = 0 → ∃ y : One, y.key = (snapL r bs).1.tick ∧ y.s = (snapL r bs).1 ∧ r' = (r.lay y).2
  no : (snapL r bs).2 ≠ 0 → r' = r
def bump (cn : List Int) (k : Nat) : List Int := cn.set k (cn.getD k 0 + 1)
theorem accept_any {base sb rb : Nat} {lv : Value} {r : Rng} {cn : List Int} (bv : Value) (bs : List Int) (F : Nat → Prop) (w : World) (h : StSt w base sb rb lv r cn) (hbs : Sl Ty.byte w F bv bs) (hB : isB bs) (hc : ∀ c ∈ cn, 0 ≤ c ∧ c ≤ 1000000) :
    Calls Tryz.prog 16 #[.pointer (some ⟨sb, 0, none⟩), bv] w fun e w' => e = .returned (.tuple #[.int .i64 (accOut r bs).1, .int .i64 (accOut r bs).2]) ∧
      ∃ (r' : Rng) (lv' : Value), AccR r bs r' ∧ StSt w' base sb rb lv' r' (bump cn (snapL r bs).2.toNat) ∧ Fr (fun k => k = sb ∨ k = rb ∨ lv.ownBlock = some k) w w' ∧ Grow w lv lv' := by
  have hr := snapL_rng r hB
  unfold accOut
  by_cases h0 : (snapL r bs).2 = 0
  · rw [if_pos h0]
    refine (accept_ok bv bs F w h hbs hB hc h0).mono ?_
    rintro e w' ⟨rfl, y, lv', h1, h2, h3, h4, h5⟩
    exact ⟨by rw [h0], _, lv', ⟨fun _ => ⟨y, h1, h2, rfl⟩, fun e => absurd h0 e⟩, by rw [h0]; exact h3, h4, h5⟩
  · rw [if_neg h0]
    refine (accept_bad bv bs F w h hbs hB hc (snapL r bs).2.toNat (by omega) (by omega)).mono ?_
    rintro e w' ⟨rfl, h3, h4⟩
    exact ⟨by rw [show (((snapL r bs).2.toNat : Nat) : Int) = (snapL r bs).2 by omega], r, lv, ⟨fun e => absurd e h0, fun _ => rfl⟩, h3, h4.mono (fun k _ e => .inl e), Grow.refl _ _⟩

end Go.Proofs.YtpdckdfnpehliaaGreat
