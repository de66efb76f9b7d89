/- Layer 12: the store in memory; New, own, Len, Taken, Refused, stale.
   Layer 12: own, Refused, stale, timely, the closure of snap.
   Layer 12: stale, timely, the closure of snap. -/
import Derived.Test.YtpdckdfnpehliaaGreatRg7
import Derived.Test.YtpdckdfnpehliaaGreatAp3
set_option linter.unusedVariables false
set_option linter.unusedSimpArgs false

namespace Go.Proofs.YtpdckdfnpehliaaGreat
open Go Go.RowKit Go.Deep Go.Shelf
set_option maxHeartbeats 400000

theorem lay_any (base rb : Nat) (lv : Value) (r : Rng) (y : One) (w : World) (h : RgSt w base rb lv r) (hbase : base ≤ w.heap.size) (hyv : Sl Ty.ent w (fun k => k ≠ rb ∧ lv.ownBlock ≠ some k) y.v y.s.ents) (hle : (r.xs.length : Int) ≤ r.most) :
    Calls Tryz.prog 35 #[.pointer (some ⟨rb, 0, none⟩), .int .i64 y.key, .agg #[.int .i64 y.s.tick, .int .i64 y.s.time, .slice y.A y.n y.c]] w fun e w' =>
      ∃ lv', e = .returned (.tuple #[.int .i64 (r.lay y).1.1, .bool (r.lay y).1.2.1, .int .i64 (r.lay y).1.2.2]) ∧ RgSt w' base rb lv' (r.lay y).2 ∧ Fr (fun k => k = rb ∨ lv.ownBlock = some k) w w' ∧ Grow w lv lv' := by
  cases ht : thereL y.key (keys r.xs) with
  | true =>
    have e1 : r.lay y = ((0, false, 12), r) := by unfold Rng.lay; rw [if_pos ht]
    rw [e1]
    refine (lay_dup base rb lv r y w h ht).mono ?_
    rintro e w' ⟨rfl, hb⟩
    exact ⟨lv, rfl, h.below hb, Fr.of_below hb _, Grow.refl _ _⟩
  | false =>
    by_cases hA : (r.gone && decide (y.key ≤ r.floor)) = true
    · have e1 : r.lay y = ((0, false, 13), r) := by unfold Rng.lay; rw [if_neg (by simp [ht]), if_pos (by simp [hA])]
      rw [e1]
      simp only [Bool.and_eq_true, decide_eq_true_eq] at hA
      refine (lay_old base rb lv r y w h ht hA.1 hA.2).mono ?_
      rintro e w' ⟨rfl, hb⟩
      exact ⟨lv, rfl, h.below hb, Fr.of_below hb _, Grow.refl _ _⟩
    · have hA' : (r.gone && decide (y.key ≤ r.floor)) = false := by simpa using hA
      by_cases hB : posL y.key (keys r.xs) = 0 ∧ (r.xs.length : Int) = r.most
      · have e1 : r.lay y = ((0, false, 13), r) := by unfold Rng.lay; rw [if_neg (by simp [ht]), if_pos (by simp [hB.1, hB.2])]
        rw [e1]
        refine (lay_full base rb lv r y w h ht hA' hB.1 hB.2).mono ?_
        rintro e w' ⟨rfl, hb⟩
        exact ⟨lv, rfl, h.below hb, Fr.of_below hb _, Grow.refl _ _⟩
      · have hC : (decide (posL y.key (keys r.xs) = 0) && decide ((r.xs.length : Int) = r.most)) = false := by
          cases h1 : decide (posL y.key (keys r.xs) = 0) <;> cases h2 : decide ((r.xs.length : Int) = r.most) <;> simp_all
        have hA2 : r.gone = false ∨ (r.gone = true ∧ ¬ y.key ≤ r.floor) := by
          cases hg : r.gone
          · exact .inl rfl
          · right; refine ⟨rfl, fun h3 => ?_⟩; rw [hg] at hA'; simp [h3] at hA'
        have hB2 : posL y.key (keys r.xs) ≠ 0 ∨ (posL y.key (keys r.xs) = 0 ∧ (r.xs.length : Int) ≠ r.most) := by
          by_cases h0 : posL y.key (keys r.xs) = 0
          · exact .inr ⟨h0, fun h3 => hB ⟨h0, h3⟩⟩
          · exact .inl h0
        have hpl : posL y.key (keys r.xs) ≤ r.xs.length := by have := posL_le y.key (keys r.xs); simpa [keys] using this
        have hlen := insL_length r.xs _ y hpl
        by_cases hlt : (r.xs.length : Int) < r.most
        · have e1 : r.lay y = ((0, false, 0), ⟨insL r.xs (posL y.key (keys r.xs)) y, r.most, r.floor, r.gone⟩) := by
            unfold Rng.lay; rw [if_neg (by simp [ht]), if_neg (by simp [hA', hC])]; simp only; rw [if_pos (by rw [hlen]; omega)]
          rw [e1]
          exact lay_keep base rb lv r y w h hbase hyv ht hA2 hB2 hlt
        · have e1 : r.lay y = ((firstKey (insL r.xs (posL y.key (keys r.xs)) y) y, true, 0), ⟨(insL r.xs (posL y.key (keys r.xs)) y).drop 1, r.most, firstKey (insL r.xs (posL y.key (keys r.xs)) y) y, true⟩) := by
            unfold Rng.lay; rw [if_neg (by simp [ht]), if_neg (by simp [hA', hC])]; simp only; rw [if_neg (by rw [hlen]; omega)]; rfl
          rw [e1]
          exact lay_over base rb lv r y w h hbase hyv ht hA2 hB2 (by omega)

abbrev stoCells (rb : Nat) (most : Int) (c0 c1 c2 c3 c4 c5 c6 c7 c8 c9 c10 c11 c12 c13 c14 c15 c16 c17 : Int) : Array Value :=
  #[.pointer (some ⟨rb, 0, none⟩), .int .i64 most, .int .i64 c0, .int .i64 c1, .int .i64 c2, .int .i64 c3, .int .i64 c4, .int .i64 c5, .int .i64 c6, .int .i64 c7, .int .i64 c8, .int .i64 c9, .int .i64 c10, .int .i64 c11, .int .i64 c12, .int .i64 c13, .int .i64 c14, .int .i64 c15, .int .i64 c16, .int .i64 c17]

/-- A store in memory: its struct in block sb, its ring. -/
structure StSt (w : World) (base sb rb : Nat) (lv : Value) (r : Rng) (cn : List Int) : Prop where
  blk : w.heap[sb]? = some (.cells (.pointer (some ⟨rb, 0, none⟩) :: .int .i64 r.most :: nums .i64 cn).toArray 78 (0, 0))
  rg : RgSt w base rb lv r
  ne : sb ≠ rb
  nl : lv.ownBlock ≠ some sb
  ents : ∀ x ∈ r.xs, Sl Ty.ent w (fun k => k ≠ sb) x.v x.s.ents
  le : (r.xs.length : Int) ≤ r.most
  cl : cn.length = 18
  tick : ∀ x ∈ r.xs, x.key = x.s.tick
  bs : base ≤ w.heap.size

theorem StSt.below {w w' : World} {base sb rb : Nat} {lv : Value} {r : Rng} {cn : List Int} (h : StSt w base sb rb lv r cn) (hb : Below w.heap.size w w') : StSt w' base sb rb lv r cn :=
  ⟨below_at hb h.blk (heap_lt h.blk), h.rg.below hb, h.ne, h.nl, fun x hx => (h.ents x hx).below hb, h.le, h.cl, h.tick, Nat.le_trans h.bs hb.size⟩
theorem StSt.fr {w w' : World} {base sb rb : Nat} {lv : Value} {r : Rng} {cn : List Int} {S : Nat → Prop} (h : StSt w base sb rb lv r cn) (hf : Fr S w w') (hS : ∀ k, k < w.heap.size → ¬ S k) : StSt w' base sb rb lv r cn :=
  h.below ⟨hf.os, hf.tape, hf.output, hf.size, fun i hi => hf.block i hi (hS i hi)⟩
theorem StSt.cells {w : World} {base sb rb : Nat} {lv : Value} {r : Rng} {cn : List Int} (h : StSt w base sb rb lv r cn) :
    w.cell? ⟨sb, 0, none⟩ = some (.pointer (some ⟨rb, 0, none⟩)) ∧ w.cell? ⟨sb, 1, none⟩ = some (.int .i64 r.most) ∧ ∀ i, w.frozen? ⟨sb, i, none⟩ = false := ⟨Proofs.YtpdckdfnpehliaaGreat.blk h.blk 0, Proofs.YtpdckdfnpehliaaGreat.blk h.blk 1, blkF h.blk⟩
theorem StSt.count {w : World} {base sb rb : Nat} {lv : Value} {r : Rng} {cn : List Int} (h : StSt w base sb rb lv r cn) (i : Nat) (hi : i < 18) : w.cell? ⟨sb, 2 + i, none⟩ = some (.int .i64 (cn.getD i 0)) := by
  rw [Proofs.YtpdckdfnpehliaaGreat.blk h.blk, List.getElem?_toArray, Nat.add_comm, List.getElem?_cons_succ, List.getElem?_cons_succ]
  have := h.cl
  simp [nums, List.getD, List.getElem?_eq_getElem (show i < cn.length by omega)]

theorem storeNew_no (n : Int) (hn : n < 1 ∨ 64 < n) (w : World) :
    Calls Tryz.prog 10 #[.int .i64 n] w fun e w' => e = .returned (.tuple #[.pointer none, .int .i64 3]) ∧ w = w' := by
  have hr := ringNew_no n hn w
  clear hn
  go_enter Tryz.func10, Tryz.ntmps10
  go_wp2_with (go_at_call 29; refine hr.mono ?_; rintro e w' ⟨rfl, rfl⟩)
  go_ret2
  exact ⟨rfl, rfl⟩

theorem storeNew_any (n : Int) (h1 : 1 ≤ n) (h2 : n ≤ 64) (w : World) :
    Calls Tryz.prog 10 #[.int .i64 n] w fun e w' => e = .returned (.tuple #[.pointer (some ⟨w.heap.size + 1, 0, none⟩), .int .i64 0]) ∧ StSt w' w.heap.size (w.heap.size + 1) w.heap.size (.slice none 0 0) ⟨[], n, 0, false⟩ (List.replicate 18 0) ∧ Below w.heap.size w w' := by
  have hr := ringNew_any n h1 h2 w
  go_enter Tryz.func10, Tryz.ntmps10
  go_wp2_with (go_at_call 29; refine hr.mono ?_; rintro e w' ⟨rfl, rfl⟩)
  go_ret2
  refine ⟨by simp, ⟨?_, ⟨?_, World.ownsRow_nil _ _ _ _, by simp [Value.ownBlock], by simp, List.Pairwise.nil, by simp, ⟨h1, h2⟩⟩, by omega, by simp [Value.ownBlock], by simp, by simp; omega, by simp, by simp, by simp; omega⟩, below_alloc (below_alloc (Below.refl _ _) (Nat.le_refl _) _) (Nat.le_refl _) _⟩
  · exact heap_new (by simp)
  · exact heap_old (heap_new rfl)

theorem storeLen_any {base sb rb : Nat} {lv : Value} {r : Rng} {cn : List Int} (w : World) (h : StSt w base sb rb lv r cn) :
    Calls Tryz.prog 14 #[.pointer (some ⟨sb, 0, none⟩)] w fun e w' => e = .returned (.int .i64 r.xs.length) ∧ w = w' := by
  obtain ⟨c0, c1, cf⟩ := h.cells
  have hl := ringLen_any base rb lv r w h.rg
  clear c1 cf
  go_enter Tryz.func14, Tryz.ntmps14
  go_wp2_with (go_at_call 31; refine hl.mono ?_; rintro e w' ⟨rfl, rfl⟩)
  go_ret
  exact ⟨rfl, rfl⟩
theorem taken_any {base sb rb : Nat} {lv : Value} {r : Rng} {cn : List Int} (w : World) (h : StSt w base sb rb lv r cn) :
    Calls Tryz.prog 22 #[.pointer (some ⟨sb, 0, none⟩)] w fun e w' => e = .returned (.int .i64 (cn.getD 0 0)) ∧ w = w' := by
  have c2 := h.count 0 (by omega)
  simp only [Nat.add_zero] at c2
  generalize cn.getD 0 0 = q at *
  go_enter Tryz.func22, Tryz.ntmps22
  go_wp2
  go_ret
  exact ⟨rfl, rfl⟩

end Go.Proofs.YtpdckdfnpehliaaGreat

namespace Go.Proofs.YtpdckdfnpehliaaGreat
open Go Go.RowKit Go.Deep Go.Shelf
set_option maxHeartbeats 400000

set_option maxRecDepth 100000 in
theorem own_any (s : Snap) (v : Value) (F : Nat → Prop) (w : World) (h : Sl Ty.ent w F v s.ents) (hl : s.ents.length ≤ 1000000) :
    Calls Tryz.prog 33 #[s.val v] w fun e w' => ∃ v1, e = .returned (s.val v1) ∧ OwnE w' w.heap.size v1 s.ents ∧ Below w.heap.size w w' := by
  obtain ⟨A, c, rfl, hc1, hc2, _, _⟩ := id h
  have hB : Below w.heap.size w (((w.alloc (.cells (s.cells (.slice A s.ents.length c)) 35)).alloc (.cells snap0Cells 35)).alloc (.cells #[] 69)) := by
    repeat (first | exact Below.refl _ _ | refine below_alloc ?_ (Nat.le_refl _) _)
  have hsrc := Sl.src ent_one (h.below hB)
  have hO := own_new ((w.alloc (.cells (s.cells (.slice A s.ents.length c)) 35)).alloc (.cells snap0Cells 35)) w.heap.size 69 9 0 [] (by simp; omega) (by omega) (by simp)
  have k1 : (((w.alloc (.cells (s.cells (.slice A s.ents.length c)) 35)).alloc (.cells snap0Cells 35)).alloc (.cells #[] 69)).heap[w.heap.size]? = some (.cells (s.cells (.slice A s.ents.length c)) 35 (0, 0)) := heap_old (heap_old (heap_new rfl))
  have k2 : (((w.alloc (.cells (s.cells (.slice A s.ents.length c)) 35)).alloc (.cells snap0Cells 35)).alloc (.cells #[] 69)).heap[w.heap.size + 1]? = some (.cells snap0Cells 35 (0, 0)) := heap_old (heap_new (by simp))
  simp only [World.size_alloc] at hO
  go_enter Tryz.func33, Tryz.ntmps33
  go_wp2_with (at_builtin; refine app_row w.heap.size rfl (.tmp 3) (.tmp 5) 33 69 _ 9 64 rfl Tryz.underlying33 infoEnt rfl (by decide) (by decide) (.slice (some ⟨w.heap.size + 1 + 1, 0, none⟩) 0 0) (.slice A s.ents.length c) 0 s.ents.length [] _ rfl rfl hO hsrc hB.size (by omega) ?_; intro v1 w1 ho hg hat; rw [Nat.zero_add, List.nil_append] at ho; have j1 := (frv_grown hg).at k1 (by simp [Value.ownBlock] <;> omega); have j2 := (frv_grown hg).at k2 (by simp [Value.ownBlock] <;> omega); obtain ⟨x0, x1, x2, xf⟩ := cells3 j1; obtain ⟨y0, y1, y2, yf⟩ := cells3 j2; have hvo := ho; obtain ⟨A1, c1, rfl, _, _⟩ := own_form ho; clear ho)
  refine bodyPost_ret (v := s.val (.slice A1 s.ents.length c1)) (by simp [results, Tryz.results33, go_sem, x0, x1, x2, y0, y1, y2]) rfl ?_
  have hsz := hB.size
  have hF : Below w.heap.size w w1 := hB.trans ((frv_grown hg).to_below hB.size (fun i hi e => by simp [Value.ownBlock] at e; omega))
  have hnb : ∀ k, (Value.slice A1 s.ents.length c1).ownBlock = some k → w.heap.size + 1 < k := fun k e => by
    rcases hat with e2 | e2
    · have e2 : (Value.slice A1 s.ents.length c1).ownBlock = some (w.heap.size + 1 + 1) := e2
      rw [e2] at e; injection e with e; omega
    · have e2 : (Value.slice A1 s.ents.length c1).ownBlock = some (((w.alloc (.cells (s.cells (.slice A s.ents.length c)) 35)).alloc (.cells snap0Cells 35)).alloc (.cells #[] 69)).heap.size := e2
      rw [e2] at e; injection e with e; simp at e; omega
  refine ⟨_, rfl, ?_, ?_⟩
  · have f1 : Fr (fun k => k = w.heap.size ∨ k = w.heap.size + 1) w1 _ := (((((Fr.refl (fun k => k = w.heap.size ∨ k = w.heap.size + 1) w1).setCell (p := ⟨w.heap.size, 2, none⟩) (fun _ => .inl rfl) (.slice A1 s.ents.length c1)).setCell (p := ⟨w.heap.size + 1, 0, none⟩) (fun _ => .inr rfl) (.int .i64 s.tick)).setCell (p := ⟨w.heap.size + 1, 1, none⟩) (fun _ => .inr rfl) (.int .i64 s.time)).setCell (p := ⟨w.heap.size + 1, 2, none⟩) (fun _ => .inr rfl) (.slice A1 s.ents.length c1))
    exact own_fr hvo f1 (fun k e e2 => by have := hnb k e; omega)
  · exact (((hF.setCell (p := ⟨w.heap.size, 2, none⟩) (Nat.le_refl _) _).setCell (p := ⟨w.heap.size + 1, 0, none⟩) (by simp) _).setCell (p := ⟨w.heap.size + 1, 1, none⟩) (by simp) _).setCell (p := ⟨w.heap.size + 1, 2, none⟩) (by simp) _

theorem refused_bad {base sb rb : Nat} {lv : Value} {r : Rng} {cn : List Int} (k : Int) (w : World) (h : StSt w base sb rb lv r cn) (hk : k ≤ 0 ∨ 18 ≤ k) :
    Calls Tryz.prog 21 #[.pointer (some ⟨sb, 0, none⟩), .int .i64 k] w fun e w' => e = .returned (.int .i64 0) ∧ w = w' := by
  rcases (by omega : k ≤ 0 ∨ (¬ k ≤ 0 ∧ 18 ≤ k)) with h1 | ⟨h1, h2⟩
  · go_enter Tryz.func21, Tryz.ntmps21
    go_wp2
    go_ret
    exact ⟨rfl, rfl⟩
  · have hd : decide (k ≤ 0) = false := by simp; omega
    go_enter Tryz.func21, Tryz.ntmps21
    go_wp2
    go_ret
    exact ⟨rfl, rfl⟩
theorem refused_any {base sb rb : Nat} {lv : Value} {r : Rng} {cn : List Int} (k : Nat) (w : World) (h : StSt w base sb rb lv r cn) (h0 : 1 ≤ k) (h1 : k < 18) :
    Calls Tryz.prog 21 #[.pointer (some ⟨sb, 0, none⟩), .int .i64 k] w fun e w' => e = .returned (.int .i64 (cn.getD k 0)) ∧ w = w' := by
  have c2 := h.count k h1
  generalize cn.getD k 0 = q at *
  have hd : decide ((k : Int) ≤ 0) = false := by simp; omega
  have hd2 : decide ((18 : Int) ≤ (k : Int)) = false := by simp; omega
  have hk0 : (0 : Int) ≤ (k : Int) := by omega
  have hk1 : (k : Int) < 18 := by omega
  go_enter Tryz.func21, Tryz.ntmps21
  go_wp2
  go_ret
  exact ⟨rfl, rfl⟩

end Go.Proofs.YtpdckdfnpehliaaGreat

namespace Go.Proofs.YtpdckdfnpehliaaGreat
open Go Go.RowKit Go.Deep Go.Shelf
set_option maxHeartbeats 400000

/-- A world in which nothing that was has turned. -/
structure BelowOf (w : World) where
  W : World
  h : Below w.heap.size w W
instance (w : World) : Inhabited (BelowOf w) := ⟨⟨w, Below.refl _ _⟩⟩
theorem wp_region_below {P : Program} {id : Nat} {Q : Exit → Act → World → Prop} {a : Act} {w : World} {l : List Oper} (hm : P.follows .mixedOrders = true) (hB : Region.lexB .any l.toArray = true)
    (h : wpQuiet P l.toArray (fun w' => ∃ p : BelowOf w, w' = p.W) (fun a' => ∀ w', (∃ p : BelowOf w, w' = p.W) → Q .normal a' w') l a) : (Code.region id l.toArray true).wp P Q a w :=
  wp_region_quiet (C := fun w' => ∃ p : BelowOf w, w' = p.W) hm hB ⟨⟨w.drew, (Below.refl _ _).drew⟩, rfl⟩ (by simpa using h)
theorem calls_belowOf {P : Program} {f : FuncId} {args : Array Value} {w : World} {p : BelowOf w} {v : Value} (h : Calls P f args p.W fun e w' => e = .returned v ∧ Below p.W.heap.size p.W w') :
    Calls P f args p.W fun e w'' => e = .returned v ∧ ∃ q : BelowOf w, w'' = q.W := h.mono fun _ w' ⟨he, hb⟩ => ⟨he, ⟨w', p.h.trans (hb.mono p.h.size)⟩, rfl⟩
theorem calls_sameOf {P : Program} {f : FuncId} {args : Array Value} {w : World} {p : BelowOf w} {v : Value} (h : Calls P f args p.W fun e w' => e = .returned v ∧ p.W = w') :
    Calls P f args p.W fun e w'' => e = .returned v ∧ ∃ q : BelowOf w, w'' = q.W := h.mono fun _ w' ⟨he, hb⟩ => ⟨he, p, hb.symm⟩

def staleB (r : Rng) (k : Int) : Bool := (r.gone && decide (k ≤ r.floor)) || (decide ((r.xs.length : Int) = r.most) && decide (untilL k (keys r.xs) = 0))

set_option maxRecDepth 100000 in
theorem stale_any {base sb rb : Nat} {lv : Value} {r : Rng} {cn : List Int} (k : Int) (w : World) (h : StSt w base sb rb lv r cn) :
    Calls Tryz.prog 50 #[.pointer (some ⟨sb, 0, none⟩), .int .i64 k] w fun e w' => e = .returned (.bool (staleB r k)) ∧ Below w.heap.size w w' := by
  obtain ⟨c0, c1, cf⟩ := h.cells
  have hfl := floor_any base rb lv r w h.rg
  by_cases hA : r.gone = true ∧ k ≤ r.floor
  · have HS : Hid (staleB r k = true) := by show _ = _; unfold staleB; simp [hA.1, hA.2]
    have h1 := hA.1
    have h2 := hA.2
    rw [h1] at hfl
    generalize r.floor = fl at *
    clear hA h1 cf c1
    go_enter Tryz.func50, Tryz.ntmps50
    go_wp2_with (go_at_call 73; refine hfl.mono ?_; rintro e w1 ⟨rfl, q, rfl⟩)
    go_quiet (fail)
    go_wp2
    go_ret
    exact ⟨by rw [HS.out]; rfl, below_drewN (below_drewN (Below.refl _ _) _) _⟩
  · have hA2 : r.gone = false ∨ (r.gone = true ∧ ¬ k ≤ r.floor) := by
      cases hg : r.gone
      · exact .inl rfl
      · exact .inr ⟨rfl, fun h3 => hA ⟨hg, h3⟩⟩
    have hA3 : (r.gone && decide (k ≤ r.floor)) = false := by cases hg : r.gone <;> simp_all
    clear hA
    obtain ⟨u, hu⟩ : ∃ u, u = untilL k (keys r.xs) := ⟨_, rfl⟩
    obtain ⟨b1, hb1⟩ : ∃ b, (((r.xs.length : Nat) : Int) == r.most) = b := ⟨_, rfl⟩
    obtain ⟨b2, hb2⟩ : ∃ b, ((u : Int) == 0) = b := ⟨_, rfl⟩
    have HU := Lib.hid hu.symm
    have HS : Hid (staleB r k = (b1 && b2)) := by
      show _ = _
      unfold staleB
      rw [hA3, ← hu, ← hb1, ← hb2, Bool.false_or]
      congr 1
      rw [Bool.eq_iff_iff]; simp
    clear hA3 hu
    rcases hA2 with hA2 | ⟨hA2, hA4⟩
    · rw [hA2] at hfl
      cases b1 <;> cases b2
      all_goals
        go_enter Tryz.func50, Tryz.ntmps50
        go_wp2_with (go_at_call 73; refine hfl.mono ?_; clear hfl; rintro e w1 ⟨rfl, q, rfl⟩)
        have h0 := h.below (below_drewN (Below.refl _ _) q)
        have hbz : Below w.heap.size w (w.drewN q) := below_drewN (Below.refl _ _) q
        generalize w.drewN q = W0 at *
        clear c0 c1 cf
        have hf0 := fun p : BelowOf W0 => (h0.below p.h).cells.1
        have hf1 := fun p : BelowOf W0 => (h0.below p.h).cells.2.1
        have hun := fun p : BelowOf W0 => calls_belowOf (until_any base rb lv r k p.W (h0.rg.below p.h))
        have hln := fun p : BelowOf W0 => calls_sameOf (ringLen_any base rb lv r p.W (h0.rg.below p.h))
        rw [HU.out] at hun
        refine wp_region_below (by kernel_rfl) (by kernel_rfl) ?_
        repeat (first | go_big_quiet_step ((first | (go_at_call 31; exact hln _) | (go_at_call 74; exact hun _))) | quiet_step ((first | (go_at_call 31; exact hln _) | (go_at_call 74; exact hun _))))
        refine wpQuiet_nil ?_
        intro _ hw'
        obtain ⟨p, hw''⟩ := hw'
        subst hw''
        go_wp2
        go_ret
        exact ⟨by rw [HS.out]; rfl, hbz.trans (p.h.mono hbz.size)⟩
    · have hkf : decide (k ≤ r.floor) = false := by simpa using hA4
      rw [hA2] at hfl
      cases b1 <;> cases b2
      all_goals
        go_enter Tryz.func50, Tryz.ntmps50
        go_wp2_with (go_at_call 73; refine hfl.mono ?_; clear hfl; rintro e w1 ⟨rfl, q, rfl⟩)
        have h0 := h.below (below_drewN (Below.refl _ _) q)
        have hbz : Below w.heap.size w (w.drewN q) := below_drewN (Below.refl _ _) q
        generalize w.drewN q = W0 at *
        clear c0 c1 cf
        have hf0 := fun p : BelowOf W0 => (h0.below p.h).cells.1
        have hf1 := fun p : BelowOf W0 => (h0.below p.h).cells.2.1
        have hun := fun p : BelowOf W0 => calls_belowOf (until_any base rb lv r k p.W (h0.rg.below p.h))
        have hln := fun p : BelowOf W0 => calls_sameOf (ringLen_any base rb lv r p.W (h0.rg.below p.h))
        rw [HU.out] at hun
        refine wp_region_below (by kernel_rfl) (by kernel_rfl) ?_
        repeat (first | go_big_quiet_step ((first | (go_at_call 31; exact hln _) | (go_at_call 74; exact hun _))) | quiet_step ((first | (go_at_call 31; exact hln _) | (go_at_call 74; exact hun _))))
        refine wpQuiet_nil ?_
        intro _ hw'
        obtain ⟨p, hw''⟩ := hw'
        subst hw''
        go_wp2
        go_ret
        exact ⟨by rw [HS.out]; rfl, hbz.trans (p.h.mono hbz.size)⟩


/-- The time at a place, if there is one. -/
def timeAt (xs : List One) (i : Int) : Option Int := if i < 0 then none else xs[i.toNat]?.map (·.s.time)
theorem at_any (base rb : Nat) (lv : Value) (r : Rng) (i : Int) (w : World) (h : RgSt w base rb lv r) :
    Calls Tryz.prog 32 #[.pointer (some ⟨rb, 0, none⟩), .int .i64 i] w fun e w' => ∃ (q tk tm : Int) (A : Option Addr) (n c : Nat) (e0 : Int),
      e = .returned (.tuple #[.int .i64 q, .agg #[.int .i64 tk, .int .i64 tm, .slice A n c], .int .i64 e0]) ∧ ((e0 ≠ 0 ∧ timeAt r.xs i = none) ∨ (e0 = 0 ∧ timeAt r.xs i = some tm)) ∧ Below w.heap.size w w' := by
  by_cases hi : i < 0 ∨ (r.xs.length : Int) ≤ i
  · refine (at_none base rb lv r i w h hi).mono ?_
    rintro e w' ⟨rfl, hb⟩
    refine ⟨0, 0, 0, none, 0, 0, 3, rfl, .inl ⟨by decide, ?_⟩, hb⟩
    unfold timeAt
    split
    · rfl
    · rw [List.getElem?_eq_none (by omega)]; rfl
  · have hlt : i.toNat < r.xs.length := by omega
    have := at_some base rb lv r i.toNat w h hlt
    rw [show ((i.toNat : Nat) : Int) = i by omega] at this
    refine this.mono ?_
    rintro e w' ⟨rfl, hb⟩
    refine ⟨_, _, _, _, _, _, 0, rfl, .inr ⟨rfl, ?_⟩, hb⟩
    unfold timeAt
    rw [if_neg (by omega), List.getElem?_eq_getElem hlt]
    rfl

def timelyB (r : Rng) (x : Snap) : Bool :=
  (match timeAt r.xs ((untilL x.tick (keys r.xs) : Int) - 1) with | none => true | some t => decide (t < x.time)) &&
  (match timeAt r.xs (untilL x.tick (keys r.xs)) with | none => true | some t => decide (x.time < t))

set_option maxRecDepth 100000 in
theorem timely2_any {base sb rb : Nat} {lv : Value} {r : Rng} {cn : List Int} (x : Snap) (A : Option Addr) (n c : Nat) (w : World) (h : StSt w base sb rb lv r cn) :
    Calls Tryz.prog 52 #[.pointer (some ⟨sb, 0, none⟩), x.val (.slice A n c)] w fun e w' => e = .returned (.bool (timelyB r x)) ∧ Below w.heap.size w w' := by
  have hbz : Below w.heap.size w (w.alloc (.cells (x.cells (.slice A n c)) 35)) := below_alloc (Below.refl _ _) (Nat.le_refl _) _
  have h0 := h.below hbz
  have k0 : (w.alloc (.cells (x.cells (.slice A n c)) 35)).heap[w.heap.size]? = some (.cells (x.cells (.slice A n c)) 35 (0, 0)) := heap_new rfl
  have hul : untilL x.tick (keys r.xs) ≤ 1000 := by
    have := posL_le x.tick (keys r.xs)
    have e : (keys r.xs).length = r.xs.length := by simp [keys]
    have := h.rg.len
    unfold untilL
    split <;> omega
  obtain ⟨u, hu⟩ : ∃ u, u = untilL x.tick (keys r.xs) := ⟨_, rfl⟩
  have HU := Lib.hid hu.symm
  have HT : Hid (timelyB r x = ((match timeAt r.xs ((u : Int) - 1) with | none => true | some t => decide (t < x.time)) && (match timeAt r.xs (u : Int) with | none => true | some t => decide (x.time < t)))) := by
    show _ = _; unfold timelyB; rw [← hu]
  rw [← hu] at hul
  clear hu
  go_enter Tryz.func52, Tryz.ntmps52
  go_wp2_with (fail)
  generalize w.alloc (.cells (x.cells (.slice A n c)) 35) = W0 at *
  have hf0 := fun p : BelowOf W0 => (h0.below p.h).cells.1
  have hx0 := fun p : BelowOf W0 => (cells3 (below_at p.h k0 (heap_lt k0))).1
  have hun := fun p : BelowOf W0 => calls_belowOf (until_any base rb lv r x.tick p.W (h0.rg.below p.h))
  rw [HU.out] at hun
  refine wp_region_below (by kernel_rfl) (by kernel_rfl) ?_
  repeat (first | go_big_quiet_step ((go_at_call 74; exact hun _)) | quiet_step ((go_at_call 74; exact hun _)))
  refine wpQuiet_nil ?_
  intro _ hw'
  obtain ⟨p, hw''⟩ := hw'
  subst hw''
  clear hf0 hx0 hun
  have h1 := h0.below p.h
  have k1 := below_at p.h k0 (heap_lt k0)
  have hbz1 : Below w.heap.size w p.W := hbz.trans (p.h.mono hbz.size)
  generalize p.W = W1 at *
  obtain ⟨c0, c1, cf⟩ := h1.cells
  have ha1 := at_any base rb lv r ((u : Int) - 1) W1 h1.rg
  clear h0 k0 hbz
  have htok : True := trivial
  go_wp2_with (first
    | (go_at_call 32; have _t := htok; clear htok _t; refine ha1.mono ?_; clear ha1; rintro e w2 ⟨q1, tk1, tm1, A1, n1, c1', e1, rfl, hR1, hb2⟩; have h3 := (h1.below hb2).below ((Below.refl _ _).alloc (Nat.le_refl _) (.cells #[.int .i64 tk1, .int .i64 tm1, .slice A1 n1 c1'] 35)); have k3 := heap_old (o' := .cells #[.int .i64 tk1, .int .i64 tm1, .slice A1 n1 c1'] 35) (below_at hb2 k1 (heap_lt k1)); have j3 := heap_new (w := w2) (o := .cells #[.int .i64 tk1, .int .i64 tm1, .slice A1 n1 c1'] 35) rfl; have hbz3 := hbz1.trans ((hb2.mono hbz1.size).trans ((Below.refl w2.heap.size w2).alloc (Nat.le_refl _) (.cells #[.int .i64 tk1, .int .i64 tm1, .slice A1 n1 c1'] 35) |>.mono (Nat.le_trans hbz1.size hb2.size))); obtain ⟨d0, d1, df⟩ := h3.cells; have ha2 := at_any base rb lv r (u : Int) _ h3.rg)
    | (go_at_call 32; refine ha2.mono ?_; clear ha2; rintro e w4 ⟨q2, tk2, tm2, A2, n2, c2', e2, rfl, hR2, hb4⟩; obtain ⟨x0, x1, x2, xf⟩ := cells3 (below_at hb4 k3 (heap_lt k3)); obtain ⟨y0, y1, y2, yf⟩ := cells3 (below_at hb4 j3 (heap_lt j3)); obtain ⟨x0', x1', x2', xf'⟩ := cells3 (heap_old (o' := .cells #[.int .i64 tk2, .int .i64 tm2, .slice A2 n2 c2'] 35) (below_at hb4 k3 (heap_lt k3))); obtain ⟨y0', y1', y2', yf'⟩ := cells3 (heap_old (o' := .cells #[.int .i64 tk2, .int .i64 tm2, .slice A2 n2 c2'] 35) (below_at hb4 j3 (heap_lt j3))); have hbz5 := hbz3.trans ((hb4.mono hbz3.size).trans ((Below.refl w4.heap.size w4).alloc (Nat.le_refl _) (.cells #[.int .i64 tk2, .int .i64 tm2, .slice A2 n2 c2'] 35) |>.mono (Nat.le_trans hbz3.size hb4.size)))))
  all_goals
    go_ret
    refine ⟨?_, hbz5⟩
    rw [HT.out]
    clear HT HU
    first | (simp_all; done) | (simp_all; intro h9; omega)

end Go.Proofs.YtpdckdfnpehliaaGreat
