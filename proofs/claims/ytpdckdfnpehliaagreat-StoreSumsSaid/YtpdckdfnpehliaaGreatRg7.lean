/- Layer 11 at snapshots: Lay.
   Layer 11 at snapshots: Lay where one goes. -/
import Derived.Test.YtpdckdfnpehliaaGreatRg5
set_option linter.unusedVariables false
set_option linter.unusedSimpArgs false

namespace Go.Proofs.YtpdckdfnpehliaaGreat
open Go Go.RowKit Go.Deep Go.Shelf
set_option maxHeartbeats 400000

theorem RgSt.turn {w w' : World} {base rb : Nat} {lv lv' : Value} {r : Rng} (h : RgSt w base rb lv r) (hf : Fr (fun k => k = rb ∨ lv.ownBlock = some k) w w') (hg : Grow w lv lv') {xs : List One} {floor : Int} {gone : Bool}
    (hb : w'.heap[rb]? = some (.cells #[lv', .int .i64 r.most, .int .i64 floor, .bool gone] 103 (0, 0))) (ho : OwnO w' base lv' xs)
    (he : ∀ x ∈ xs, Sl Ty.ent w (fun k => k ≠ rb ∧ lv.ownBlock ≠ some k) x.v x.s.ents) (hs : (keys xs).Pairwise (· < ·)) (hl : xs.length ≤ 100) : RgSt w' base rb lv' ⟨xs, r.most, floor, gone⟩ := by
  have hlt := h.lt
  have hnew : ∀ k, k < w.heap.size → lv.ownBlock ≠ some k → lv'.ownBlock ≠ some k := fun k hk h1 => by
    rcases hg with e | ⟨g, e, hg⟩
    · rw [e]; exact h1
    · rw [e]; intro e2; injection e2 with e2; omega
  exact ⟨hb, ho, hnew rb hlt h.ne, fun x hx => (he x hx).keep (fun b hb hl => hf.block b hl (fun e => e.elim hb.1 hb.2)) (fun b hb hl => ⟨hb.1, hnew b hl hb.2⟩), hs, hl, h.most0⟩

/-- A thing is laid at its number. -/
def Rng.lay (r : Rng) (y : One) : (Int × Bool × Int) × Rng :=
  if thereL y.key (keys r.xs) then ((0, false, 12), r)
  else if (r.gone && decide (y.key ≤ r.floor)) || (decide (posL y.key (keys r.xs) = 0) && decide ((r.xs.length : Int) = r.most)) then ((0, false, 13), r)
  else
    let l := insL r.xs (posL y.key (keys r.xs)) y
    if (l.length : Int) ≤ r.most then ((0, false, 0), ⟨l, r.most, r.floor, r.gone⟩)
    else (((l.headD y).key, true, 0), ⟨l.drop 1, r.most, (l.headD y).key, true⟩)

set_option maxRecDepth 100000 in
theorem lay_dup (base rb : Nat) (lv : Value) (r : Rng) (y : One) (w : World) (h : RgSt w base rb lv r) (ht : thereL y.key (keys r.xs) = true) :
    Calls Tryz.prog 35 #[.pointer (some ⟨rb, 0, none⟩), .int .i64 y.key, .agg #[.int .i64 y.s.tick, .int .i64 y.s.time, .slice y.A y.n y.c]] w fun e w' =>
      e = .returned (.tuple #[.int .i64 0, .bool false, .int .i64 12]) ∧ Below w.heap.size w w' := by
  have hp := place_any base rb lv r y.key _ (h.alloc (.cells #[.int .i64 y.s.tick, .int .i64 y.s.time, .slice y.A y.n y.c] 35))
  rw [ht] at hp
  generalize posL y.key (keys r.xs) = i at hp
  clear ht h
  go_enter Tryz.func35, Tryz.ntmps35
  go_wp2_with (go_at_call 53; refine hp.mono ?_; rintro e w1 ⟨rfl, hb1⟩)
  go_ret3
  exact ⟨rfl, (below_alloc (Below.refl _ _) (Nat.le_refl _) _).trans (hb1.mono (by simp))⟩

set_option maxRecDepth 100000 in
theorem lay_old (base rb : Nat) (lv : Value) (r : Rng) (y : One) (w : World) (h : RgSt w base rb lv r) (ht : thereL y.key (keys r.xs) = false) (hg : r.gone = true) (hf : y.key ≤ r.floor) :
    Calls Tryz.prog 35 #[.pointer (some ⟨rb, 0, none⟩), .int .i64 y.key, .agg #[.int .i64 y.s.tick, .int .i64 y.s.time, .slice y.A y.n y.c]] w fun e w' =>
      e = .returned (.tuple #[.int .i64 0, .bool false, .int .i64 13]) ∧ Below w.heap.size w w' := by
  have h2 := h.alloc (.cells #[.int .i64 y.s.tick, .int .i64 y.s.time, .slice y.A y.n y.c] 35)
  have hp := place_any base rb lv r y.key _ h2
  rw [ht] at hp
  generalize posL y.key (keys r.xs) = i at hp
  clear ht h
  go_enter Tryz.func35, Tryz.ntmps35
  go_wp2_with (go_at_call 53; refine hp.mono ?_; rintro e w1 ⟨rfl, hb1⟩; obtain ⟨hc0, hc1, hc2, hc3, hcf⟩ := (h2.below hb1).cells; rw [hg] at hc3)
  go_ret3
  exact ⟨rfl, (below_alloc (Below.refl _ _) (Nat.le_refl _) _).trans (hb1.mono (by simp))⟩

set_option maxRecDepth 100000 in
theorem lay_full (base rb : Nat) (lv : Value) (r : Rng) (y : One) (w : World) (h : RgSt w base rb lv r) (ht : thereL y.key (keys r.xs) = false) (hg : (r.gone && decide (y.key ≤ r.floor)) = false) (hi : posL y.key (keys r.xs) = 0) (hf : (r.xs.length : Int) = r.most) :
    Calls Tryz.prog 35 #[.pointer (some ⟨rb, 0, none⟩), .int .i64 y.key, .agg #[.int .i64 y.s.tick, .int .i64 y.s.time, .slice y.A y.n y.c]] w fun e w' =>
      e = .returned (.tuple #[.int .i64 0, .bool false, .int .i64 13]) ∧ Below w.heap.size w w' := by
  have h2 := h.alloc (.cells #[.int .i64 y.s.tick, .int .i64 y.s.time, .slice y.A y.n y.c] 35)
  have hp := place_any base rb lv r y.key _ h2
  rw [ht, hi] at hp
  have hb : (((r.xs.length : Nat) : Int) == r.most) = true := by simpa using hf
  obtain ⟨A, c, rfl, _, _⟩ := own_form h.own
  have HG := Lib.hid hg
  clear ht h hi hf hg
  cases hgone : r.gone with
  | false =>
    go_enter Tryz.func35, Tryz.ntmps35
    go_wp2_with (go_at_call 53; refine hp.mono ?_; rintro e w1 ⟨rfl, hb1⟩; obtain ⟨hc0, hc1, hc2, hc3, hcf⟩ := (h2.below hb1).cells; rw [hgone] at hc3; clear hgone)
    go_quiet (fail)
    go_wp2
    go_ret3
    exact ⟨rfl, below_drewN ((below_alloc (Below.refl _ _) (Nat.le_refl _) _).trans (hb1.mono (by simp))) _⟩
  | true =>
    have hkf : decide (y.key ≤ r.floor) = false := by have := HG.out; rw [hgone] at this; simpa using this
    go_enter Tryz.func35, Tryz.ntmps35
    go_wp2_with (go_at_call 53; refine hp.mono ?_; rintro e w1 ⟨rfl, hb1⟩; obtain ⟨hc0, hc1, hc2, hc3, hcf⟩ := (h2.below hb1).cells; rw [hgone] at hc3; clear hgone)
    go_quiet (fail)
    go_wp2
    go_ret3
    exact ⟨rfl, below_drewN ((below_alloc (Below.refl _ _) (Nat.le_refl _) _).trans (hb1.mono (by simp))) _⟩

theorem mem_insL {xs : List One} {i : Nat} {y x : One} (h : x ∈ insL xs i y) : x ∈ xs ∨ x = y := by
  unfold insL at h
  simp only [List.mem_append, List.mem_singleton] at h
  rcases h with (h | h) | h
  · exact .inl (List.mem_of_mem_take h)
  · exact .inr h
  · exact .inl (List.mem_of_mem_drop h)
theorem keys_insL {xs : List One} {y : One} (hs : (keys xs).Pairwise (· < ·)) (ht : thereL y.key (keys xs) = false) : (keys (insL xs (posL y.key (keys xs)) y)).Pairwise (· < ·) := by
  have hp := posL_spec y.key (keys xs)
  have hle := posL_le y.key (keys xs)
  have hne : ∀ z ∈ keys xs, z ≠ y.key := fun z hz e => by
    unfold thereL at ht
    rw [List.any_eq_false] at ht
    exact ht z hz (by simp [e])
  have e1 : keys (insL xs (posL y.key (keys xs)) y) = (keys xs).take (posL y.key (keys xs)) ++ [y.key] ++ (keys xs).drop (posL y.key (keys xs)) := by
    unfold insL keys; simp [List.map_take, List.map_drop]
  rw [e1]
  generalize keys xs = l at *
  generalize posL y.key l = i at *
  rw [List.append_assoc, List.pairwise_append]
  refine ⟨hs.sublist (List.take_sublist _ _), ?_, ?_⟩
  · rw [List.singleton_append, List.pairwise_cons]
    refine ⟨fun z hz => ?_, hs.sublist (List.drop_sublist _ _)⟩
    obtain ⟨j, hj, rfl⟩ := List.mem_iff_getElem.1 hz
    rw [List.length_drop] at hj
    rw [List.getElem_drop]
    have hi : i < l.length := by omega
    have h0 := hp.2 hi
    have h1 : l[i] ≠ y.key := hne _ (List.getElem_mem hi)
    rcases Nat.eq_zero_or_pos j with rfl | hj0
    · simp only [Nat.add_zero]; omega
    · have := (List.pairwise_iff_getElem.1 hs) i (i + j) hi (by omega) (by omega)
      omega
  · intro a ha b hb
    obtain ⟨j, hj, rfl⟩ := List.mem_iff_getElem.1 ha
    rw [List.length_take] at hj
    rw [List.getElem_take]
    have h1 := hp.1 j (by omega) (by omega)
    rw [List.singleton_append, List.mem_cons] at hb
    rcases hb with rfl | hb
    · exact h1
    · obtain ⟨m, hm, rfl⟩ := List.mem_iff_getElem.1 hb
      rw [List.length_drop] at hm
      rw [List.getElem_drop]
      exact (List.pairwise_iff_getElem.1 hs) j (i + m) (by omega) (by omega) (by omega)

/-- Where the walk of Lay stands behind the insertion. -/
theorem lay_st {w W0 w3 : World} {base rb : Nat} {lv lv' : Value} {r : Rng} {y : One} {i : Nat} {o : Obj} (h : RgSt w base rb lv r) (hB : Below w.heap.size w W0) (hyv : Sl Ty.ent w (fun k => k ≠ rb ∧ lv.ownBlock ≠ some k) y.v y.s.ents)
    (hi : i ≤ r.xs.length) (hs : (keys (insL r.xs i y)).Pairwise (· < ·)) (hl : r.xs.length ≤ 64) (hf : FrV lv (W0.alloc o).drew w3) (hg : Grow (W0.alloc o).drew lv lv') (ho : OwnO w3 base lv' (insL r.xs i y)) :
    RgSt (w3.setCell ⟨rb, 0, none⟩ lv') base rb lv' ⟨insL r.xs i y, r.most, r.floor, r.gone⟩ ∧ Fr (fun k => k = rb ∨ lv.ownBlock = some k) w (w3.setCell ⟨rb, 0, none⟩ lv') ∧ Grow w lv lv' := by
  have hlt := h.lt
  have hsz := hB.size
  have h1 : Fr (fun k => k = rb ∨ lv.ownBlock = some k) w (W0.alloc o).drew := ((Fr.of_below hB _).alloc o).drew
  have h2 : Fr (fun k => k = rb ∨ lv.ownBlock = some k) w w3 := h1.trans (hf.mono fun k _ e => .inr e)
  have hG : Grow w lv lv' := hg.mono (by simp; omega)
  have hk1 : (W0.alloc o).drew.heap[rb]? = some (.cells #[lv, .int .i64 r.most, .int .i64 r.floor, .bool r.gone] 103 (0, 0)) := heap_oldD (below_at hB h.blk hlt)
  have hk3 := hf.at hk1 h.ne
  have hne' : ∀ k, lv'.ownBlock = some k → k ≠ rb := fun k e e2 => by
    subst e2
    rcases hG with e3 | ⟨g, e3, hg3⟩
    · rw [e3] at e; exact h.ne e
    · rw [e3] at e; injection e with e; omega
  have hF := h2.setCell (p := ⟨rb, 0, none⟩) (fun _ => .inl rfl) lv'
  refine ⟨h.turn hF hG ?_ ?_ ?_ hs (by rw [insL_length _ _ _ hi]; omega), hF, hG⟩
  · exact blk_set hk3 0 lv'
  · exact own_fr ho (fr_set lv') hne'
  · intro x hx
    rcases mem_insL hx with hx | rfl
    · exact h.ents x hx
    · exact hyv

set_option maxRecDepth 100000 in
set_option maxHeartbeats 2000000 in
theorem lay_keep (base rb : Nat) (lv : Value) (r : Rng) (y : One) (w : World) (h : RgSt w base rb lv r) (hbase : base ≤ w.heap.size) (hyv : Sl Ty.ent w (fun k => k ≠ rb ∧ lv.ownBlock ≠ some k) y.v y.s.ents) (ht : thereL y.key (keys r.xs) = false)
    (hA : r.gone = false ∨ (r.gone = true ∧ ¬ y.key ≤ r.floor)) (hB : posL y.key (keys r.xs) ≠ 0 ∨ (posL y.key (keys r.xs) = 0 ∧ (r.xs.length : Int) ≠ r.most)) (hlt : (r.xs.length : Int) < r.most) :
    Calls Tryz.prog 35 #[.pointer (some ⟨rb, 0, none⟩), .int .i64 y.key, .agg #[.int .i64 y.s.tick, .int .i64 y.s.time, .slice y.A y.n y.c]] w fun e w' =>
      ∃ lv', e = .returned (.tuple #[.int .i64 0, .bool false, .int .i64 0]) ∧ RgSt w' base rb lv' ⟨insL r.xs (posL y.key (keys r.xs)) y, r.most, r.floor, r.gone⟩ ∧ Fr (fun k => k = rb ∨ lv.ownBlock = some k) w w' ∧ Grow w lv lv' := by
  have h2 := h.alloc (.cells #[.int .i64 y.s.tick, .int .i64 y.s.time, .slice y.A y.n y.c] 35)
  have hp := place_any base rb lv r y.key _ h2
  have hle : posL y.key (keys r.xs) ≤ r.xs.length := by have := posL_le y.key (keys r.xs); simpa [keys] using this
  have hxl : r.xs.length ≤ 64 := by have := h.most0; omega
  have hlen := insL_length r.xs _ y hle
  have hxm : (r.xs.length : Int) + 1 ≤ r.most := by omega
  rw [ht] at hp
  have HS := Lib.hid (keys_insL h.srt ht)
  have hk0 : (w.alloc (.cells #[.int .i64 y.s.tick, .int .i64 y.s.time, .slice y.A y.n y.c] 35)).heap[w.heap.size]? = some (.cells #[.int .i64 y.s.tick, .int .i64 y.s.time, .slice y.A y.n y.c] 35 (0, 0)) := heap_new rfl
  generalize posL y.key (keys r.xs) = i at *
  obtain ⟨A, c, rfl, _, _⟩ := own_form h.own
  rcases hA with hA | ⟨hA, hA2⟩
  · rcases hB with hB | ⟨hB, hB2⟩
    · have hb1 : ((i : Int) == 0) = false := by simpa using hB
      go_enter Tryz.func35, Tryz.ntmps35
      go_wp2_with (go_at_call 53; refine hp.mono ?_; rintro e w1 ⟨rfl, hb1⟩; obtain ⟨hc0, hc1, hc2, hc3, hcf⟩ := (h2.below hb1).cells; rw [hA] at hc3)
      go_quiet (fail)
      go_wp2_with (fail)
      have R0 := (h2.below hb1).below (below_drewN (Below.refl _ _) nq)
      have hk1 : (w1.drewN nq).heap[w.heap.size]? = some (.cells #[.int .i64 y.s.tick, .int .i64 y.s.time, .slice y.A y.n y.c] 35 (0, 0)) := below_at hb1 hk0 (heap_lt hk0)
      have hBz : Below w.heap.size w (w1.drewN nq) := below_drewN ((below_alloc (Below.refl _ _) (Nat.le_refl _) _).trans (hb1.mono (by simp))) _
      generalize w1.drewN nq = W0 at *
      clear hc0 hc1 hc2 hc3 hcf hb1 hp h2 hk0
      have R1 := (R0.alloc (.cells y.cells 105)).drew
      have hrl := R0.lt
      have hins := insert_any base (.slice A r.xs.length c) r.xs i y W0.heap.size (W0.alloc (.cells y.cells 105)).drew R1.own hle h.len (by have := hBz.size; simp; omega) (fun e => by have := own_lt R0.own _ e; omega) (heap_newD rfl)
      have hkr := R1.blk
      have hner := R1.ne
      obtain ⟨hc0, hc1, hc2, hc3, hcf⟩ := R0.cells
      have hb0 := blk hk1 0
      have hb1 := blk hk1 1
      have hb2 := blk hk1 2
      simp only [List.getElem?_toArray, List.getElem?_cons_succ, List.getElem?_cons_zero] at hb0 hb1 hb2
      clear hk1 R1
      have HR0 := Lib.hid R0
      clear R0
      have HSt := Lib.hid (fun w3 lv' => lay_st (w3 := w3) (lv' := lv') (o := .cells y.cells 105) h hBz hyv hle HS.out hxl)
      clear hyv hBz
      go_region_law (first | (go_simp; go_at_call 54; refine hins.mono ?_; rintro e w3 ⟨lv', rfl, ho, hf, hg⟩; have hSt := HSt.out w3 lv' hf hg ho; unfold OwnO at ho; rw [hlen] at ho; obtain ⟨A', c', rfl, _, _⟩ := own_form ho; have hk3 := hf.at hkr hner; have z0 := blk hk3 0; have zf := blkF hk3 0; simp only [List.getElem?_toArray, List.getElem?_cons_zero] at z0; clear hk3 hins HSt ho hf hg))
      all_goals
        obtain ⟨hR, hF, hG⟩ := hSt
        obtain ⟨c0, c1, c2, c3, cf⟩ := hR.cells
        clear hc0 hc1 hc2 hc3 hcf z0 zf hb0 hb1 hb2 hkr
        simp only at c0 c1 c2 c3
        generalize World.setCell w3 ⟨rb, 0, none⟩ (.slice A' (r.xs.length + 1) c') = W4 at *
        go_wp2_with (fail)
        go_quiet (fail)
        go_wp2
        go_ret3
        exact ⟨_, rfl, hR.below (below_drewN (Below.refl _ _) _), hF.drewN _, hG⟩
    · have hb1 : ((r.xs.length : Int) == r.most) = false := by simpa using hB2
      subst hB
      go_enter Tryz.func35, Tryz.ntmps35
      go_wp2_with (go_at_call 53; refine hp.mono ?_; rintro e w1 ⟨rfl, hb1⟩; obtain ⟨hc0, hc1, hc2, hc3, hcf⟩ := (h2.below hb1).cells; rw [hA] at hc3)
      go_quiet (fail)
      go_wp2_with (fail)
      have R0 := (h2.below hb1).below (below_drewN (Below.refl _ _) nq)
      have hk1 : (w1.drewN nq).heap[w.heap.size]? = some (.cells #[.int .i64 y.s.tick, .int .i64 y.s.time, .slice y.A y.n y.c] 35 (0, 0)) := below_at hb1 hk0 (heap_lt hk0)
      have hBz : Below w.heap.size w (w1.drewN nq) := below_drewN ((below_alloc (Below.refl _ _) (Nat.le_refl _) _).trans (hb1.mono (by simp))) _
      generalize w1.drewN nq = W0 at *
      clear hc0 hc1 hc2 hc3 hcf hb1 hp h2 hk0
      have R1 := (R0.alloc (.cells y.cells 105)).drew
      have hrl := R0.lt
      have hins := insert_any base (.slice A r.xs.length c) r.xs 0 y W0.heap.size (W0.alloc (.cells y.cells 105)).drew R1.own hle h.len (by have := hBz.size; simp; omega) (fun e => by have := own_lt R0.own _ e; omega) (heap_newD rfl)
      have hkr := R1.blk
      have hner := R1.ne
      obtain ⟨hc0, hc1, hc2, hc3, hcf⟩ := R0.cells
      have hb0 := blk hk1 0
      have hb1 := blk hk1 1
      have hb2 := blk hk1 2
      simp only [List.getElem?_toArray, List.getElem?_cons_succ, List.getElem?_cons_zero] at hb0 hb1 hb2
      clear hk1 R1
      have HR0 := Lib.hid R0
      clear R0
      have HSt := Lib.hid (fun w3 lv' => lay_st (w3 := w3) (lv' := lv') (o := .cells y.cells 105) h hBz hyv hle HS.out hxl)
      clear hyv hBz
      go_region_law (first | (go_simp; go_at_call 54; refine hins.mono ?_; rintro e w3 ⟨lv', rfl, ho, hf, hg⟩; have hSt := HSt.out w3 lv' hf hg ho; unfold OwnO at ho; rw [hlen] at ho; obtain ⟨A', c', rfl, _, _⟩ := own_form ho; have hk3 := hf.at hkr hner; have z0 := blk hk3 0; have zf := blkF hk3 0; simp only [List.getElem?_toArray, List.getElem?_cons_zero] at z0; clear hk3 hins HSt ho hf hg))
      all_goals
        obtain ⟨hR, hF, hG⟩ := hSt
        obtain ⟨c0, c1, c2, c3, cf⟩ := hR.cells
        clear hc0 hc1 hc2 hc3 hcf z0 zf hb0 hb1 hb2 hkr
        simp only at c0 c1 c2 c3
        generalize World.setCell w3 ⟨rb, 0, none⟩ (.slice A' (r.xs.length + 1) c') = W4 at *
        go_wp2_with (fail)
        go_quiet (fail)
        go_wp2
        go_ret3
        exact ⟨_, rfl, hR.below (below_drewN (Below.refl _ _) _), hF.drewN _, hG⟩
  · have hkf : decide (y.key ≤ r.floor) = false := by simpa using hA2
    rcases hB with hB | ⟨hB, hB2⟩
    · have hb1 : ((i : Int) == 0) = false := by simpa using hB
      go_enter Tryz.func35, Tryz.ntmps35
      go_wp2_with (go_at_call 53; refine hp.mono ?_; rintro e w1 ⟨rfl, hb1⟩; obtain ⟨hc0, hc1, hc2, hc3, hcf⟩ := (h2.below hb1).cells; rw [hA] at hc3)
      go_quiet (fail)
      go_wp2_with (fail)
      have R0 := (h2.below hb1).below (below_drewN (Below.refl _ _) nq)
      have hk1 : (w1.drewN nq).heap[w.heap.size]? = some (.cells #[.int .i64 y.s.tick, .int .i64 y.s.time, .slice y.A y.n y.c] 35 (0, 0)) := below_at hb1 hk0 (heap_lt hk0)
      have hBz : Below w.heap.size w (w1.drewN nq) := below_drewN ((below_alloc (Below.refl _ _) (Nat.le_refl _) _).trans (hb1.mono (by simp))) _
      generalize w1.drewN nq = W0 at *
      clear hc0 hc1 hc2 hc3 hcf hb1 hp h2 hk0
      have R1 := (R0.alloc (.cells y.cells 105)).drew
      have hrl := R0.lt
      have hins := insert_any base (.slice A r.xs.length c) r.xs i y W0.heap.size (W0.alloc (.cells y.cells 105)).drew R1.own hle h.len (by have := hBz.size; simp; omega) (fun e => by have := own_lt R0.own _ e; omega) (heap_newD rfl)
      have hkr := R1.blk
      have hner := R1.ne
      obtain ⟨hc0, hc1, hc2, hc3, hcf⟩ := R0.cells
      have hb0 := blk hk1 0
      have hb1 := blk hk1 1
      have hb2 := blk hk1 2
      simp only [List.getElem?_toArray, List.getElem?_cons_succ, List.getElem?_cons_zero] at hb0 hb1 hb2
      clear hk1 R1
      have HR0 := Lib.hid R0
      clear R0
      have HSt := Lib.hid (fun w3 lv' => lay_st (w3 := w3) (lv' := lv') (o := .cells y.cells 105) h hBz hyv hle HS.out hxl)
      clear hyv hBz
      go_region_law (first | (go_simp; go_at_call 54; refine hins.mono ?_; rintro e w3 ⟨lv', rfl, ho, hf, hg⟩; have hSt := HSt.out w3 lv' hf hg ho; unfold OwnO at ho; rw [hlen] at ho; obtain ⟨A', c', rfl, _, _⟩ := own_form ho; have hk3 := hf.at hkr hner; have z0 := blk hk3 0; have zf := blkF hk3 0; simp only [List.getElem?_toArray, List.getElem?_cons_zero] at z0; clear hk3 hins HSt ho hf hg))
      all_goals
        obtain ⟨hR, hF, hG⟩ := hSt
        obtain ⟨c0, c1, c2, c3, cf⟩ := hR.cells
        clear hc0 hc1 hc2 hc3 hcf z0 zf hb0 hb1 hb2 hkr
        simp only at c0 c1 c2 c3
        generalize World.setCell w3 ⟨rb, 0, none⟩ (.slice A' (r.xs.length + 1) c') = W4 at *
        go_wp2_with (fail)
        go_quiet (fail)
        go_wp2
        go_ret3
        exact ⟨_, rfl, hR.below (below_drewN (Below.refl _ _) _), hF.drewN _, hG⟩
    · have hb1 : ((r.xs.length : Int) == r.most) = false := by simpa using hB2
      subst hB
      go_enter Tryz.func35, Tryz.ntmps35
      go_wp2_with (go_at_call 53; refine hp.mono ?_; rintro e w1 ⟨rfl, hb1⟩; obtain ⟨hc0, hc1, hc2, hc3, hcf⟩ := (h2.below hb1).cells; rw [hA] at hc3)
      go_quiet (fail)
      go_wp2_with (fail)
      have R0 := (h2.below hb1).below (below_drewN (Below.refl _ _) nq)
      have hk1 : (w1.drewN nq).heap[w.heap.size]? = some (.cells #[.int .i64 y.s.tick, .int .i64 y.s.time, .slice y.A y.n y.c] 35 (0, 0)) := below_at hb1 hk0 (heap_lt hk0)
      have hBz : Below w.heap.size w (w1.drewN nq) := below_drewN ((below_alloc (Below.refl _ _) (Nat.le_refl _) _).trans (hb1.mono (by simp))) _
      generalize w1.drewN nq = W0 at *
      clear hc0 hc1 hc2 hc3 hcf hb1 hp h2 hk0
      have R1 := (R0.alloc (.cells y.cells 105)).drew
      have hrl := R0.lt
      have hins := insert_any base (.slice A r.xs.length c) r.xs 0 y W0.heap.size (W0.alloc (.cells y.cells 105)).drew R1.own hle h.len (by have := hBz.size; simp; omega) (fun e => by have := own_lt R0.own _ e; omega) (heap_newD rfl)
      have hkr := R1.blk
      have hner := R1.ne
      obtain ⟨hc0, hc1, hc2, hc3, hcf⟩ := R0.cells
      have hb0 := blk hk1 0
      have hb1 := blk hk1 1
      have hb2 := blk hk1 2
      simp only [List.getElem?_toArray, List.getElem?_cons_succ, List.getElem?_cons_zero] at hb0 hb1 hb2
      clear hk1 R1
      have HR0 := Lib.hid R0
      clear R0
      have HSt := Lib.hid (fun w3 lv' => lay_st (w3 := w3) (lv' := lv') (o := .cells y.cells 105) h hBz hyv hle HS.out hxl)
      clear hyv hBz
      go_region_law (first | (go_simp; go_at_call 54; refine hins.mono ?_; rintro e w3 ⟨lv', rfl, ho, hf, hg⟩; have hSt := HSt.out w3 lv' hf hg ho; unfold OwnO at ho; rw [hlen] at ho; obtain ⟨A', c', rfl, _, _⟩ := own_form ho; have hk3 := hf.at hkr hner; have z0 := blk hk3 0; have zf := blkF hk3 0; simp only [List.getElem?_toArray, List.getElem?_cons_zero] at z0; clear hk3 hins HSt ho hf hg))
      all_goals
        obtain ⟨hR, hF, hG⟩ := hSt
        obtain ⟨c0, c1, c2, c3, cf⟩ := hR.cells
        clear hc0 hc1 hc2 hc3 hcf z0 zf hb0 hb1 hb2 hkr
        simp only at c0 c1 c2 c3
        generalize World.setCell w3 ⟨rb, 0, none⟩ (.slice A' (r.xs.length + 1) c') = W4 at *
        go_wp2_with (fail)
        go_quiet (fail)
        go_wp2
        go_ret3
        exact ⟨_, rfl, hR.below (below_drewN (Below.refl _ _) _), hF.drewN _, hG⟩

end Go.Proofs.YtpdckdfnpehliaaGreat

namespace Go.Proofs.YtpdckdfnpehliaaGreat
open Go Go.RowKit Go.Deep Go.Shelf
set_option maxHeartbeats 400000

def firstKey (L : List One) (y : One) : Int := (L.headD y).key
theorem lay_head {W : World} {base rb : Nat} {A : Option Addr} {n c : Nat} {L : List One} (y : One) {m f : Int} {g : Bool} (h : RgSt W base rb (.slice A (n + 1) c) ⟨L, m, f, g⟩) (hl : L.length = n + 1) :
    ∃ b, A = some ⟨b, 0, none⟩ ∧ W.cell? ⟨b, 0, none⟩ = some (.int .i64 (firstKey L y)) := by
  have ho : OwnO W base (.slice A (n + 1) c) L := h.own
  obtain ⟨b, e, _, _, hc⟩ := ho.at 0 (by omega)
  refine ⟨b, e, ?_⟩
  have := hc 0 (by omega)
  cases L with
  | nil => simp at hl
  | cons x L => simpa [firstKey] using this

theorem lay_drop1 {w W : World} {base rb : Nat} {lv lv' : Value} {L : List One} (y : One) {m f : Int} {g : Bool} (hF : Fr (fun k => k = rb ∨ lv.ownBlock = some k) w W) (hG : Grow w lv lv') (h : RgSt W base rb lv' ⟨L, m, f, g⟩) (h2 : 2 ≤ L.length) :
    (Calls Tryz.prog 55 #[lv', .int .i64 0, .int .i64 1] ((W.setCell ⟨rb, 2, none⟩ (.int .i64 (firstKey L y))).setCell ⟨rb, 3, none⟩ (.bool true)) fun e w' =>
      ∃ lv2, e = .returned lv2 ∧ OwnO w' base lv2 (L.drop 1) ∧ FrV lv' ((W.setCell ⟨rb, 2, none⟩ (.int .i64 (firstKey L y))).setCell ⟨rb, 3, none⟩ (.bool true)) w' ∧ lv2.ownBlock = lv'.ownBlock) ∧
    ∀ w6 lv2, OwnO w6 base lv2 (L.drop 1) → FrV lv' ((W.setCell ⟨rb, 2, none⟩ (.int .i64 (firstKey L y))).setCell ⟨rb, 3, none⟩ (.bool true)) w6 → lv2.ownBlock = lv'.ownBlock →
      (w6.cell? ⟨rb, 0, none⟩ = some lv' ∧ w6.cell? ⟨rb, 1, none⟩ = some (.int .i64 m) ∧ w6.cell? ⟨rb, 2, none⟩ = some (.int .i64 (firstKey L y)) ∧ w6.cell? ⟨rb, 3, none⟩ = some (.bool true) ∧ ∀ i, w6.frozen? ⟨rb, i, none⟩ = false) ∧
      RgSt (w6.setCell ⟨rb, 0, none⟩ lv2) base rb lv2 ⟨L.drop 1, m, firstKey L y, true⟩ ∧ Fr (fun k => k = rb ∨ lv.ownBlock = some k) w (w6.setCell ⟨rb, 0, none⟩ lv2) ∧ Grow w lv lv2 := by
  have hne := h.ne
  have f1 : Fr (fun k => k = rb) W ((W.setCell ⟨rb, 2, none⟩ (.int .i64 (firstKey L y))).setCell ⟨rb, 3, none⟩ (.bool true)) := (fr_set _).trans (fr_set _)
  have k1 : ((W.setCell ⟨rb, 2, none⟩ (.int .i64 (firstKey L y))).setCell ⟨rb, 3, none⟩ (.bool true)).heap[rb]? = some (.cells #[lv', .int .i64 m, .int .i64 (firstKey L y), .bool true] 103 (0, 0)) := blk_set (blk_set h.blk 2 _) 3 _
  generalize ((W.setCell ⟨rb, 2, none⟩ (.int .i64 (firstKey L y))).setCell ⟨rb, 3, none⟩ (.bool true)) = W1 at *
  have o1 : OwnO W1 base lv' L := own_fr h.own f1 (fun k e e2 => hne (by rw [e, e2]))
  refine ⟨delete_any base lv' L W1 o1 h2 h.len, fun w6 lv2 ho hf hb => ?_⟩
  have k6 := hf.at k1 hne
  have hF6 : Fr (fun k => k = rb ∨ lv.ownBlock = some k) w w6 := by
    refine (hF.trans (f1.mono fun k _ e => .inl e)).trans' hf fun k hk e => ?_
    rcases hG with e3 | ⟨g, e3, hg⟩
    · right; rw [← e3]; exact e
    · have : lv'.ownBlock = some k := e
      rw [e3] at this; injection this with this; omega
  have hG2 : Grow w lv lv2 := by
    rcases hG with e3 | ⟨g, e3, hg⟩
    · exact .inl (hb.trans e3)
    · exact .inr ⟨g, hb.trans e3, hg⟩
  have hF7 := hF6.setCell (p := ⟨rb, 0, none⟩) (fun _ => .inl rfl) lv2
  refine ⟨⟨blk k6 0, blk k6 1, blk k6 2, blk k6 3, blkF k6⟩, ?_, hF7, hG2⟩
  have hf7 : Fr (fun k => k = rb ∨ lv'.ownBlock = some k) W (w6.setCell ⟨rb, 0, none⟩ lv2) :=
    ((f1.mono fun k _ e => .inl e).trans (hf.mono fun k _ e => .inr e)).setCell (p := ⟨rb, 0, none⟩) (fun _ => .inl rfl) lv2
  refine RgSt.turn h hf7 (.inl hb) (blk_set k6 0 lv2) ?_ ?_ ?_ ?_
  · exact own_fr ho (fr_set lv2) (fun k e e2 => by rw [hb] at e; exact hne (by rw [e, e2]))
  · exact fun x hx => h.ents x (List.mem_of_mem_drop hx)
  · have : keys (L.drop 1) = (keys L).drop 1 := by unfold keys; rw [List.map_drop]
    rw [this]
    exact h.srt.sublist (List.drop_sublist _ _)
  · have : L.length ≤ 100 := h.len
    rw [List.length_drop]; omega

set_option maxRecDepth 100000 in
set_option maxHeartbeats 4000000 in
theorem lay_over0 (base rb : Nat) (lv : Value) (r : Rng) (y : One) (w : World) (h : RgSt w base rb lv r) (hbase : base ≤ w.heap.size) (hyv : Sl Ty.ent w (fun k => k ≠ rb ∧ lv.ownBlock ≠ some k) y.v y.s.ents) (ht : thereL y.key (keys r.xs) = false)
    (hA : r.gone = false) (hB : posL y.key (keys r.xs) ≠ 0 ∨ (posL y.key (keys r.xs) = 0 ∧ (r.xs.length : Int) ≠ r.most)) (hlt : (r.xs.length : Int) = r.most) :
    Calls Tryz.prog 35 #[.pointer (some ⟨rb, 0, none⟩), .int .i64 y.key, .agg #[.int .i64 y.s.tick, .int .i64 y.s.time, .slice y.A y.n y.c]] w fun e w' =>
      ∃ lv', e = .returned (.tuple #[.int .i64 (firstKey (insL r.xs (posL y.key (keys r.xs)) y) y), .bool true, .int .i64 0]) ∧ RgSt w' base rb lv' ⟨(insL r.xs (posL y.key (keys r.xs)) y).drop 1, r.most, firstKey (insL r.xs (posL y.key (keys r.xs)) y) y, true⟩ ∧ Fr (fun k => k = rb ∨ lv.ownBlock = some k) w w' ∧ Grow w lv lv' := by
  have h2 := h.alloc (.cells #[.int .i64 y.s.tick, .int .i64 y.s.time, .slice y.A y.n y.c] 35)
  have hp := place_any base rb lv r y.key _ h2
  have hle : posL y.key (keys r.xs) ≤ r.xs.length := by have := posL_le y.key (keys r.xs); simpa [keys] using this
  have hxl : r.xs.length ≤ 64 := by have := h.most0; omega
  have hlen := insL_length r.xs _ y hle
  have hxm : ¬ (r.xs.length : Int) + 1 ≤ r.most := by omega
  have hrbw := h.lt
  have hx1 : 1 ≤ r.xs.length := by have := h.most0; omega
  have hlen2 : ((insL r.xs (posL y.key (keys r.xs)) y).drop 1).length = r.xs.length := by rw [List.length_drop, hlen]; omega
  rw [ht] at hp
  have HS := Lib.hid (keys_insL h.srt ht)
  have hk0 : (w.alloc (.cells #[.int .i64 y.s.tick, .int .i64 y.s.time, .slice y.A y.n y.c] 35)).heap[w.heap.size]? = some (.cells #[.int .i64 y.s.tick, .int .i64 y.s.time, .slice y.A y.n y.c] 35 (0, 0)) := heap_new rfl
  generalize posL y.key (keys r.xs) = i at *
  obtain ⟨A, c, rfl, _, _⟩ := own_form h.own
  have hB : i ≠ 0 := hB.elim id fun h => absurd hlt h.2
  clear hlt
  · have hb1 : ((i : Int) == 0) = false := by simpa using hB
    go_enter Tryz.func35, Tryz.ntmps35
    go_wp2_with (go_at_call 53; refine hp.mono ?_; rintro e w1 ⟨rfl, hb1⟩; obtain ⟨hc0, hc1, hc2, hc3, hcf⟩ := (h2.below hb1).cells; rw [hA] at hc3)
    go_quiet (fail)
    go_wp2_with (fail)
    have R0 := (h2.below hb1).below (below_drewN (Below.refl _ _) nq)
    have hk1 : (w1.drewN nq).heap[w.heap.size]? = some (.cells #[.int .i64 y.s.tick, .int .i64 y.s.time, .slice y.A y.n y.c] 35 (0, 0)) := below_at hb1 hk0 (heap_lt hk0)
    have hBz : Below w.heap.size w (w1.drewN nq) := below_drewN ((below_alloc (Below.refl _ _) (Nat.le_refl _) _).trans (hb1.mono (by simp))) _
    generalize w1.drewN nq = W0 at *
    clear hc0 hc1 hc2 hc3 hcf hb1 hp h2 hk0
    have R1 := (R0.alloc (.cells y.cells 105)).drew
    have hrl := R0.lt
    have hins := insert_any base (.slice A r.xs.length c) r.xs i y W0.heap.size (W0.alloc (.cells y.cells 105)).drew R1.own hle h.len (by have := hBz.size; simp; omega) (fun e => by have := own_lt R0.own _ e; omega) (heap_newD rfl)
    have hkr := R1.blk
    have hner := R1.ne
    obtain ⟨hc0, hc1, hc2, hc3, hcf⟩ := R0.cells
    have hb0 := blk hk1 0
    have hb1 := blk hk1 1
    have hb2 := blk hk1 2
    simp only [List.getElem?_toArray, List.getElem?_cons_succ, List.getElem?_cons_zero] at hb0 hb1 hb2
    clear hk1 R1
    have HR0 := Lib.hid R0
    clear R0
    have HSt := Lib.hid (fun w3 lv' => lay_st (w3 := w3) (lv' := lv') (o := .cells y.cells 105) h hBz hyv hle HS.out hxl)
    clear hyv hBz
    go_region_law (first | (go_simp; go_at_call 54; refine hins.mono ?_; rintro e w3 ⟨lv', rfl, ho, hf, hg⟩; have hSt := HSt.out w3 lv' hf hg ho; unfold OwnO at ho; rw [hlen] at ho; obtain ⟨A', c', rfl, _, _⟩ := own_form ho; have hk3 := hf.at hkr hner; have z0 := blk hk3 0; have zf := blkF hk3 0; simp only [List.getElem?_toArray, List.getElem?_cons_zero] at z0; clear hk3 hins HSt ho hf hg))
    all_goals
      obtain ⟨hR, hF, hG⟩ := hSt
      obtain ⟨c0, c1, c2, c3, cf⟩ := hR.cells
      clear hc0 hc1 hc2 hc3 hcf z0 zf hb0 hb1 hb2 hkr
      simp only at c0 c1 c2 c3
      generalize World.setCell w3 ⟨rb, 0, none⟩ (.slice A' (r.xs.length + 1) c') = W4 at *
      go_wp2_with (fail)
      go_quiet (fail)
      have hR2 := hR.below (below_drewN (Below.refl _ _) nq)
      have hF2 := hF.drewN nq
      generalize W4.drewN nq = W5 at *
      clear c0 c1 c2 c3 cf hR hF
      obtain ⟨c0, c1, c2, c3, cf⟩ := hR2.cells
      simp only at c0 c1 c2 c3
      obtain ⟨b, rfl, hx0⟩ := lay_head y hR2 hlen
      have hHd := Lib.hid (lay_drop1 y hF2 hG hR2 (by rw [hlen]; omega))
      have hd1 := hHd.out.1
      have hd2 := hHd.out.2
      clear hHd
      have hHd := Lib.hid hd2
      clear hd2
      go_wp2_with (go_at_call 55; refine hd1.mono ?_; rintro e w6 ⟨lv2, rfl, ho2, hf2, hg2⟩; obtain ⟨hc1, hrest⟩ := hHd.out w6 lv2 ho2 hf2 hg2; unfold OwnO at ho2; rw [hlen2] at ho2; obtain ⟨A2, c2', rfl, _, _⟩ := own_form ho2; obtain ⟨d0, d1, d2, d3, df⟩ := hc1)
      go_ret3
      exact ⟨_, rfl, hrest⟩

set_option maxRecDepth 100000 in
set_option maxHeartbeats 4000000 in
theorem lay_over1 (base rb : Nat) (lv : Value) (r : Rng) (y : One) (w : World) (h : RgSt w base rb lv r) (hbase : base ≤ w.heap.size) (hyv : Sl Ty.ent w (fun k => k ≠ rb ∧ lv.ownBlock ≠ some k) y.v y.s.ents) (ht : thereL y.key (keys r.xs) = false)
    (hA : r.gone = true) (hA2 : ¬ y.key ≤ r.floor) (hB : posL y.key (keys r.xs) ≠ 0 ∨ (posL y.key (keys r.xs) = 0 ∧ (r.xs.length : Int) ≠ r.most)) (hlt : (r.xs.length : Int) = r.most) :
    Calls Tryz.prog 35 #[.pointer (some ⟨rb, 0, none⟩), .int .i64 y.key, .agg #[.int .i64 y.s.tick, .int .i64 y.s.time, .slice y.A y.n y.c]] w fun e w' =>
      ∃ lv', e = .returned (.tuple #[.int .i64 (firstKey (insL r.xs (posL y.key (keys r.xs)) y) y), .bool true, .int .i64 0]) ∧ RgSt w' base rb lv' ⟨(insL r.xs (posL y.key (keys r.xs)) y).drop 1, r.most, firstKey (insL r.xs (posL y.key (keys r.xs)) y) y, true⟩ ∧ Fr (fun k => k = rb ∨ lv.ownBlock = some k) w w' ∧ Grow w lv lv' := by
  have h2 := h.alloc (.cells #[.int .i64 y.s.tick, .int .i64 y.s.time, .slice y.A y.n y.c] 35)
  have hp := place_any base rb lv r y.key _ h2
  have hle : posL y.key (keys r.xs) ≤ r.xs.length := by have := posL_le y.key (keys r.xs); simpa [keys] using this
  have hxl : r.xs.length ≤ 64 := by have := h.most0; omega
  have hlen := insL_length r.xs _ y hle
  have hxm : ¬ (r.xs.length : Int) + 1 ≤ r.most := by omega
  have hrbw := h.lt
  have hx1 : 1 ≤ r.xs.length := by have := h.most0; omega
  have hlen2 : ((insL r.xs (posL y.key (keys r.xs)) y).drop 1).length = r.xs.length := by rw [List.length_drop, hlen]; omega
  rw [ht] at hp
  have HS := Lib.hid (keys_insL h.srt ht)
  have hk0 : (w.alloc (.cells #[.int .i64 y.s.tick, .int .i64 y.s.time, .slice y.A y.n y.c] 35)).heap[w.heap.size]? = some (.cells #[.int .i64 y.s.tick, .int .i64 y.s.time, .slice y.A y.n y.c] 35 (0, 0)) := heap_new rfl
  generalize posL y.key (keys r.xs) = i at *
  obtain ⟨A, c, rfl, _, _⟩ := own_form h.own
  have hB : i ≠ 0 := hB.elim id fun h => absurd hlt h.2
  clear hlt
  · have hkf : decide (y.key ≤ r.floor) = false := by simpa using hA2
    have hb1 : ((i : Int) == 0) = false := by simpa using hB
    go_enter Tryz.func35, Tryz.ntmps35
    go_wp2_with (go_at_call 53; refine hp.mono ?_; rintro e w1 ⟨rfl, hb1⟩; obtain ⟨hc0, hc1, hc2, hc3, hcf⟩ := (h2.below hb1).cells; rw [hA] at hc3)
    go_quiet (fail)
    go_wp2_with (fail)
    have R0 := (h2.below hb1).below (below_drewN (Below.refl _ _) nq)
    have hk1 : (w1.drewN nq).heap[w.heap.size]? = some (.cells #[.int .i64 y.s.tick, .int .i64 y.s.time, .slice y.A y.n y.c] 35 (0, 0)) := below_at hb1 hk0 (heap_lt hk0)
    have hBz : Below w.heap.size w (w1.drewN nq) := below_drewN ((below_alloc (Below.refl _ _) (Nat.le_refl _) _).trans (hb1.mono (by simp))) _
    generalize w1.drewN nq = W0 at *
    clear hc0 hc1 hc2 hc3 hcf hb1 hp h2 hk0
    have R1 := (R0.alloc (.cells y.cells 105)).drew
    have hrl := R0.lt
    have hins := insert_any base (.slice A r.xs.length c) r.xs i y W0.heap.size (W0.alloc (.cells y.cells 105)).drew R1.own hle h.len (by have := hBz.size; simp; omega) (fun e => by have := own_lt R0.own _ e; omega) (heap_newD rfl)
    have hkr := R1.blk
    have hner := R1.ne
    obtain ⟨hc0, hc1, hc2, hc3, hcf⟩ := R0.cells
    have hb0 := blk hk1 0
    have hb1 := blk hk1 1
    have hb2 := blk hk1 2
    simp only [List.getElem?_toArray, List.getElem?_cons_succ, List.getElem?_cons_zero] at hb0 hb1 hb2
    clear hk1 R1
    have HR0 := Lib.hid R0
    clear R0
    have HSt := Lib.hid (fun w3 lv' => lay_st (w3 := w3) (lv' := lv') (o := .cells y.cells 105) h hBz hyv hle HS.out hxl)
    clear hyv hBz
    go_region_law (first | (go_simp; go_at_call 54; refine hins.mono ?_; rintro e w3 ⟨lv', rfl, ho, hf, hg⟩; have hSt := HSt.out w3 lv' hf hg ho; unfold OwnO at ho; rw [hlen] at ho; obtain ⟨A', c', rfl, _, _⟩ := own_form ho; have hk3 := hf.at hkr hner; have z0 := blk hk3 0; have zf := blkF hk3 0; simp only [List.getElem?_toArray, List.getElem?_cons_zero] at z0; clear hk3 hins HSt ho hf hg))
    all_goals
      obtain ⟨hR, hF, hG⟩ := hSt
      obtain ⟨c0, c1, c2, c3, cf⟩ := hR.cells
      clear hc0 hc1 hc2 hc3 hcf z0 zf hb0 hb1 hb2 hkr
      simp only at c0 c1 c2 c3
      generalize World.setCell w3 ⟨rb, 0, none⟩ (.slice A' (r.xs.length + 1) c') = W4 at *
      go_wp2_with (fail)
      go_quiet (fail)
      have hR2 := hR.below (below_drewN (Below.refl _ _) nq)
      have hF2 := hF.drewN nq
      generalize W4.drewN nq = W5 at *
      clear c0 c1 c2 c3 cf hR hF
      obtain ⟨c0, c1, c2, c3, cf⟩ := hR2.cells
      simp only at c0 c1 c2 c3
      obtain ⟨b, rfl, hx0⟩ := lay_head y hR2 hlen
      have hHd := Lib.hid (lay_drop1 y hF2 hG hR2 (by rw [hlen]; omega))
      have hd1 := hHd.out.1
      have hd2 := hHd.out.2
      clear hHd
      have hHd := Lib.hid hd2
      clear hd2
      go_wp2_with (go_at_call 55; refine hd1.mono ?_; rintro e w6 ⟨lv2, rfl, ho2, hf2, hg2⟩; obtain ⟨hc1, hrest⟩ := hHd.out w6 lv2 ho2 hf2 hg2; unfold OwnO at ho2; rw [hlen2] at ho2; obtain ⟨A2, c2', rfl, _, _⟩ := own_form ho2; obtain ⟨d0, d1, d2, d3, df⟩ := hc1)
      go_ret3
      exact ⟨_, rfl, hrest⟩


theorem lay_over (base rb : Nat) (lv : Value) (r : Rng) (y : One) (w : World) (h : RgSt w base rb lv r) (hbase : base ≤ w.heap.size) (hyv : Sl Ty.ent w (fun k => k ≠ rb ∧ lv.ownBlock ≠ some k) y.v y.s.ents) (ht : thereL y.key (keys r.xs) = false)
    (hA : r.gone = false ∨ (r.gone = true ∧ ¬ y.key ≤ r.floor)) (hB : posL y.key (keys r.xs) ≠ 0 ∨ (posL y.key (keys r.xs) = 0 ∧ (r.xs.length : Int) ≠ r.most)) (hlt : (r.xs.length : Int) = r.most) :
    Calls Tryz.prog 35 #[.pointer (some ⟨rb, 0, none⟩), .int .i64 y.key, .agg #[.int .i64 y.s.tick, .int .i64 y.s.time, .slice y.A y.n y.c]] w fun e w' =>
      ∃ lv', e = .returned (.tuple #[.int .i64 (firstKey (insL r.xs (posL y.key (keys r.xs)) y) y), .bool true, .int .i64 0]) ∧ RgSt w' base rb lv' ⟨(insL r.xs (posL y.key (keys r.xs)) y).drop 1, r.most, firstKey (insL r.xs (posL y.key (keys r.xs)) y) y, true⟩ ∧ Fr (fun k => k = rb ∨ lv.ownBlock = some k) w w' ∧ Grow w lv lv' := by
  rcases hA with hA | ⟨hA, hA2⟩
  · exact lay_over0 base rb lv r y w h hbase hyv ht hA hB hlt
  · exact lay_over1 base rb lv r y w h hbase hyv ht hA hA2 hB hlt

end Go.Proofs.YtpdckdfnpehliaaGreat
