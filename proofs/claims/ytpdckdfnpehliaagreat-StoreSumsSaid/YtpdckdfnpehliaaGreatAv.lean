/- Layer 12: At, Get; no store.
   Layer 12's example in plain terms.
   Layer 12's statements: the helpers bytes, alive.
   Layer 12's statements: what stands while one runs.
   Layer 12's statements: the example. -/
import Derived.Test.YtpdckdfnpehliaaGreatAc
set_option linter.unusedVariables false
set_option linter.unusedSimpArgs false

namespace Go.Proofs.YtpdckdfnpehliaaGreat
open Go Go.RowKit Go.Deep Go.Shelf
set_option maxHeartbeats 400000

def atS (r : Rng) (i : Int) : Snap × Value × Int := if h : 0 ≤ i ∧ i.toNat < r.xs.length then (r.xs[i.toNat].s, r.xs[i.toNat].v, 0) else (⟨0, 0, []⟩, .slice none 0 0, 3)
theorem rat_any (base rb : Nat) (lv : Value) (r : Rng) (i : Int) (w : World) (h : RgSt w base rb lv r) :
    Calls Tryz.prog 32 #[.pointer (some ⟨rb, 0, none⟩), .int .i64 i] w fun e w' => ∃ q : Int, e = .returned (.tuple #[.int .i64 q, (atS r i).1.val (atS r i).2.1, .int .i64 (atS r i).2.2]) ∧ Below w.heap.size w w' := by
  unfold atS
  split
  · next hi =>
    have := at_some base rb lv r i.toNat w h hi.2
    rw [show ((i.toNat : Nat) : Int) = i by omega] at this
    refine this.mono ?_
    rintro e w' ⟨rfl, hb⟩
    exact ⟨_, rfl, hb⟩
  · next hi =>
    refine (at_none base rb lv r i w h (by omega)).mono ?_
    rintro e w' ⟨rfl, hb⟩
    exact ⟨_, rfl, hb⟩
theorem atS_sl {base rb : Nat} {lv : Value} {r : Rng} {w : World} (h : RgSt w base rb lv r) (i : Int) : Sl Ty.ent w (fun k => k ≠ rb ∧ lv.ownBlock ≠ some k) (atS r i).2.1 (atS r i).1.ents := by
  unfold atS
  split
  · exact h.ents _ (List.getElem_mem _)
  · exact Sl.nil _ _ _
theorem atS_len {r : Rng} (h : ∀ x ∈ r.xs, x.s.ents.length ≤ 64) (i : Int) : (atS r i).1.ents.length ≤ 64 := by
  unfold atS
  split
  · exact h _ (List.getElem_mem _)
  · simp
theorem getS_len {r : Rng} (h : ∀ x ∈ r.xs, x.s.ents.length ≤ 64) (k : Int) : (getS r k).1.ents.length ≤ 64 := by
  unfold getS
  cases hg : getL k r.xs with
  | none => simp
  | some x => exact h x (List.mem_of_find?_eq_some hg)

set_option maxRecDepth 100000 in
theorem sat_any {base sb rb : Nat} {lv : Value} {r : Rng} {cn : List Int} (i : Int) (w : World) (h : StSt w base sb rb lv r cn) (hl : ∀ x ∈ r.xs, x.s.ents.length ≤ 64) :
    Calls Tryz.prog 15 #[.pointer (some ⟨sb, 0, none⟩), .int .i64 i] w fun e w' => ∃ v1, e = .returned (.tuple #[(atS r i).1.val v1, .int .i64 (atS r i).2.2]) ∧ OwnE w' w.heap.size v1 (atS r i).1.ents ∧ Below w.heap.size w w' := by
  have hb0 : Below w.heap.size w (w.alloc (.cells snap0Cells 35)) := below_alloc (Below.refl _ _) (Nat.le_refl _) _
  have h1 := h.below hb0
  have k0 : (w.alloc (.cells snap0Cells 35)).heap[w.heap.size]? = some (.cells snap0Cells 35 (0, 0)) := heap_new rfl
  have hra := rat_any base rb lv r i _ h1.rg
  have hsl := atS_sl h.rg i
  have hln := atS_len hl i
  obtain ⟨s, A, n, c, e1, hs⟩ : ∃ s A n c e1, atS r i = (s, .slice A n c, e1) := by
    obtain ⟨A, c, e, _⟩ := hsl
    exact ⟨(atS r i).1, A, _, c, (atS r i).2.2, by rw [← e]⟩
  rw [hs] at hra hsl hln ⊢
  obtain ⟨c0, _, cf⟩ := h1.cells
  simp only at hra hsl hln ⊢
  clear hs hl
  go_enter Tryz.func15, Tryz.ntmps15
  go_wp2_with (first
    | (go_at_call 32; refine hra.mono ?_; clear hra; rintro e w1 ⟨q, rfl, hb1⟩; have hb2 := hb0.trans ((below_alloc hb1 (Nat.le_refl _) (.cells (s.cells (.slice A n c)) 35)).mono hb0.size); have k1 := heap_old (o' := .cells (s.cells (.slice A n c)) 35) (below_at hb1 k0 (heap_lt k0)); have hown := own_any s (.slice A n c) _ _ (hsl.below hb2) (by omega))
    | (go_at_call 33; refine hown.mono ?_; clear hown; rintro e w2 ⟨v2, rfl, ho, hb3⟩; obtain ⟨A2, c2, rfl, _, _⟩ := own_form ho; have k2 := below_at hb3 k1 (heap_lt k1); obtain ⟨z0, z1, z2, zf⟩ := cells3 k2))
  refine bodyPost_ret (v := .tuple #[s.val (.slice A2 s.ents.length c2), .int .i64 e1]) (by simp [results, Tryz.results15, go_sem, z0, z1, z2]) rfl ?_
  have hb4 := hb2.trans (hb3.mono hb2.size)
  have hsz := hb2.size
  have hlt := heap_lt k1
  refine ⟨_, rfl, ?_, ?_⟩
  · refine own_base (base := w.heap.size + 1) (own_fr (own_base ho (by omega)) (S := fun k => k = w.heap.size) ?_ (fun k e1 e2 => by have := own_lt ho k e1; omega)) (by omega)
    repeat (first | with_reducible exact Fr.refl _ _ | with_reducible refine Fr.drew ?_ | with_reducible refine Fr.setCell ?_ (by simp) _)
  · repeat (first | with_reducible exact hb4 | with_reducible refine Below.drew ?_ | with_reducible refine Below.setCell ?_ (by simp) _)

set_option maxRecDepth 100000 in
theorem sget_any {base sb rb : Nat} {lv : Value} {r : Rng} {cn : List Int} (i : Int) (w : World) (h : StSt w base sb rb lv r cn) (hl : ∀ x ∈ r.xs, x.s.ents.length ≤ 64) :
    Calls Tryz.prog 25 #[.pointer (some ⟨sb, 0, none⟩), .int .i64 i] w fun e w' => ∃ v1, e = .returned (.tuple #[(getS r i).1.val v1, .bool (getS r i).2.2]) ∧ OwnE w' w.heap.size v1 (getS r i).1.ents ∧ Below w.heap.size w w' := by
  have hb0 : Below w.heap.size w (w.alloc (.cells snap0Cells 35)) := below_alloc (Below.refl _ _) (Nat.le_refl _) _
  have h1 := h.below hb0
  have k0 : (w.alloc (.cells snap0Cells 35)).heap[w.heap.size]? = some (.cells snap0Cells 35 (0, 0)) := heap_new rfl
  have hra := rget_any base rb lv r i _ h1.rg
  have hsl := getS_sl h.rg i
  have hln := getS_len hl i
  obtain ⟨s, A, n, c, e1, hs⟩ := getS_form h.rg i
  rw [hs] at hra hsl hln ⊢
  obtain ⟨c0, _, cf⟩ := h1.cells
  simp only at hra hsl hln ⊢
  clear hs hl
  go_enter Tryz.func25, Tryz.ntmps25
  go_wp2_with (first
    | (go_at_call 40; refine hra.mono ?_; clear hra; rintro e w1 ⟨rfl, hb1⟩; have hb2 := hb0.trans ((below_alloc hb1 (Nat.le_refl _) (.cells (s.cells (.slice A n c)) 35)).mono hb0.size); have k1 := heap_old (o' := .cells (s.cells (.slice A n c)) 35) (below_at hb1 k0 (heap_lt k0)); have hown := own_any s (.slice A n c) _ _ (hsl.below hb2) (by omega))
    | (go_at_call 33; refine hown.mono ?_; clear hown; rintro e w2 ⟨v2, rfl, ho, hb3⟩; obtain ⟨A2, c2, rfl, _, _⟩ := own_form ho; have k2 := below_at hb3 k1 (heap_lt k1); obtain ⟨z0, z1, z2, zf⟩ := cells3 k2))
  refine bodyPost_ret (v := .tuple #[s.val (.slice A2 s.ents.length c2), .bool e1]) (by simp [results, Tryz.results25, go_sem, z0, z1, z2]) rfl ?_
  have hb4 := hb2.trans (hb3.mono hb2.size)
  have hsz := hb2.size
  have hlt := heap_lt k1
  refine ⟨_, rfl, ?_, ?_⟩
  · refine own_base (base := w.heap.size + 1) (own_fr (own_base ho (by omega)) (S := fun k => k = w.heap.size) ?_ (fun k e1 e2 => by have := own_lt ho k e1; omega)) (by omega)
    repeat (first | with_reducible exact Fr.refl _ _ | with_reducible refine Fr.drew ?_ | with_reducible refine Fr.setCell ?_ (by simp) _)
  · repeat (first | with_reducible exact hb4 | with_reducible refine Below.drew ?_ | with_reducible refine Below.setCell ?_ (by simp) _)

theorem accept_nil (v : Value) (w : World) :
    Calls Tryz.prog 16 #[.pointer none, v] w fun e w' => e = .returned (.tuple #[.int .i64 0, .int .i64 1]) ∧ w = w' := by
  go_enter Tryz.func16, Tryz.ntmps16
  go_wp2
  go_ret2
  exact ⟨rfl, rfl⟩
theorem len_nil (w : World) :
    Calls Tryz.prog 14 #[.pointer none] w fun e w' => e = .returned (.int .i64 0) ∧ w = w' := by
  go_enter Tryz.func14, Tryz.ntmps14
  go_wp2
  go_ret
  exact ⟨rfl, rfl⟩
theorem taken_nil (w : World) :
    Calls Tryz.prog 22 #[.pointer none] w fun e w' => e = .returned (.int .i64 0) ∧ w = w' := by
  go_enter Tryz.func22, Tryz.ntmps22
  go_wp2
  go_ret
  exact ⟨rfl, rfl⟩
theorem refused_nil (k : Int) (w : World) :
    Calls Tryz.prog 21 #[.pointer none, .int .i64 k] w fun e w' => e = .returned (.int .i64 0) ∧ w = w' := by
  go_enter Tryz.func21, Tryz.ntmps21
  go_wp2
  go_ret
  exact ⟨rfl, rfl⟩
theorem sat_nil (k : Int) (w : World) :
    Calls Tryz.prog 15 #[.pointer none, .int .i64 k] w fun e w' => e = .returned (.tuple #[snap0, .int .i64 1]) ∧ Below w.heap.size w w' := by
  go_enter Tryz.func15, Tryz.ntmps15
  go_wp2
  refine bodyPost_ret (v := .tuple #[snap0, .int .i64 1]) (by simp [results, Tryz.results15, go_sem]) rfl ⟨rfl, ?_⟩
  repeat (first | exact Below.refl _ _ | with_reducible refine Below.setCell ?_ (by simp) _ | with_reducible refine below_alloc ?_ (Nat.le_refl _) _)
theorem sget_nil (k : Int) (w : World) :
    Calls Tryz.prog 25 #[.pointer none, .int .i64 k] w fun e w' => e = .returned (.tuple #[snap0, .bool false]) ∧ Below w.heap.size w w' := by
  go_enter Tryz.func25, Tryz.ntmps25
  go_wp2
  refine bodyPost_ret (v := .tuple #[snap0, .bool false]) (by simp [results, Tryz.results25, go_sem]) rfl ⟨rfl, ?_⟩
  repeat (first | exact Below.refl _ _ | with_reducible refine Below.setCell ?_ (by simp) _ | with_reducible refine below_alloc ?_ (Nat.le_refl _) _)

end Go.Proofs.YtpdckdfnpehliaaGreat

namespace Go.Proofs.YtpdckdfnpehliaaGreat
open Go Go.RowKit Go.Deep Go.Shelf

def alG1 : Gram := ⟨1, 10, -1, []⟩
def alG2 : Gram := ⟨3, 30, 1, []⟩
def alG3 : Gram := ⟨2, 20, 1, []⟩
def alB (g : Gram) : List Int := match gramWrite g with | .ok b => b | .error _ => []
theorem al_w1 : gramWrite alG1 = .ok (alB alG1) := by kernel_rfl
theorem al_w2 : gramWrite alG2 = .ok (alB alG2) := by kernel_rfl
theorem al_w3 : gramWrite alG3 = .ok (alB alG3) := by kernel_rfl
theorem al_r1 : gramRead (alB alG1) = (alG1, 0) := by kernel_rfl
theorem al_r2 : gramRead (alB alG2) = (alG2, 0) := by kernel_rfl
theorem al_r3 : gramRead (alB alG3) = (alG3, 0) := by kernel_rfl
theorem al_len (g : Gram) (h : g = alG1 ∨ g = alG2 ∨ g = alG3) : (alB g).length = 10 := by
  rcases h with rfl | rfl | rfl <;> kernel_rfl

theorem al_apply (a : Snap) (g : Gram) (hc : gramCheck g = 0) (hs : snapCheck a = 0) (hb : g.base < 0 ∨ a.tick = g.base) (he : a.ents = []) (hr : g.recs = []) : snapApply a g = (⟨g.tick, g.time, []⟩, 0) := by
  unfold snapApply
  rw [if_neg (by simp [hc]), if_neg (by simp [hs]), if_neg (by rintro ⟨h1, h2⟩; rcases hb with h | h; omega; exact h2 h), he, hr]
  have : (if g.base ≥ 0 then byIdL [] else []) = [] := by split <;> rfl
  rw [this]
  simp [applyRecs, sortE]
theorem al_c1 : gramCheck alG1 = 0 := by kernel_rfl
theorem al_c2 : gramCheck alG2 = 0 := by kernel_rfl
theorem al_c3 : gramCheck alG3 = 0 := by kernel_rfl

def alO (k t : Int) (A : Option Addr) (n c : Nat) : One := ⟨k, ⟨k, t, []⟩, A, n, c⟩
theorem al_s1 : snapL ⟨[], 4, 0, false⟩ (alB alG1) = (⟨1, 10, []⟩, 0) := by
  unfold snapL
  rw [al_r1, if_neg (by decide)]
  have e3 : orErr (orErr (orErr 0 (getS ⟨[], 4, 0, false⟩ alG1.tick).2.2 12) (staleB ⟨[], 4, 0, false⟩ alG1.tick) 13) (!(getS ⟨[], 4, 0, false⟩ alG1.base).2.2 && decide (0 ≤ alG1.base)) 14 = 0 := by kernel_rfl
  simp only
  rw [if_pos e3, al_apply _ _ al_c1 (by kernel_rfl) (.inl (by decide)) rfl rfl]
  exact Prod.ext (by kernel_rfl) (by kernel_rfl)
theorem al_l1 (y : One) (h1 : y.key = 1) : (Rng.lay ⟨[], 4, 0, false⟩ y).2 = ⟨[y], 4, 0, false⟩ := by
  unfold Rng.lay; rw [h1]; rfl
theorem al_s2 (A : Option Addr) (n c : Nat) : snapL ⟨[alO 1 10 A n c], 4, 0, false⟩ (alB alG2) = (⟨3, 30, []⟩, 0) := by
  unfold snapL
  rw [al_r2, if_neg (by decide)]
  have e3 : orErr (orErr (orErr 0 (getS ⟨[alO 1 10 A n c], 4, 0, false⟩ alG2.tick).2.2 12) (staleB ⟨[alO 1 10 A n c], 4, 0, false⟩ alG2.tick) 13) (!(getS ⟨[alO 1 10 A n c], 4, 0, false⟩ alG2.base).2.2 && decide (0 ≤ alG2.base)) 14 = 0 := by kernel_rfl
  simp only
  rw [if_pos e3, al_apply _ _ al_c2 (by kernel_rfl) (.inr (by kernel_rfl)) (by kernel_rfl) rfl]
  exact Prod.ext (by kernel_rfl) (by kernel_rfl)
theorem al_l2 (A : Option Addr) (n c : Nat) (y : One) (h1 : y.key = 3) : (Rng.lay ⟨[alO 1 10 A n c], 4, 0, false⟩ y).2 = ⟨[alO 1 10 A n c, y], 4, 0, false⟩ := by
  unfold Rng.lay; rw [h1]; rfl
theorem al_s3 (A B : Option Addr) (n c m d : Nat) : snapL ⟨[alO 1 10 A n c, alO 3 30 B m d], 4, 0, false⟩ (alB alG3) = (⟨2, 20, []⟩, 0) := by
  unfold snapL
  rw [al_r3, if_neg (by decide)]
  have e3 : orErr (orErr (orErr 0 (getS ⟨[alO 1 10 A n c, alO 3 30 B m d], 4, 0, false⟩ alG3.tick).2.2 12) (staleB ⟨[alO 1 10 A n c, alO 3 30 B m d], 4, 0, false⟩ alG3.tick) 13) (!(getS ⟨[alO 1 10 A n c, alO 3 30 B m d], 4, 0, false⟩ alG3.base).2.2 && decide (0 ≤ alG3.base)) 14 = 0 := by kernel_rfl
  simp only
  rw [if_pos e3, al_apply _ _ al_c3 (by kernel_rfl) (.inr (by kernel_rfl)) (by kernel_rfl) rfl]
  exact Prod.ext (by kernel_rfl) (by kernel_rfl)
theorem al_l3 (A B : Option Addr) (n c m d : Nat) (y : One) (h1 : y.key = 2) : (Rng.lay ⟨[alO 1 10 A n c, alO 3 30 B m d], 4, 0, false⟩ y).2 = ⟨[alO 1 10 A n c, y, alO 3 30 B m d], 4, 0, false⟩ := by
  unfold Rng.lay; rw [h1]; rfl
theorem al_s4 (A B C : Option Addr) (n c m d k e : Nat) : (snapL ⟨[alO 1 10 A n c, alO 2 20 C k e, alO 3 30 B m d], 4, 0, false⟩ (alB alG2)).2 = 12 := by
  unfold snapL
  rw [al_r2, if_neg (by decide)]
  have e3 : orErr (orErr (orErr 0 (getS ⟨[alO 1 10 A n c, alO 2 20 C k e, alO 3 30 B m d], 4, 0, false⟩ alG2.tick).2.2 12) (staleB ⟨[alO 1 10 A n c, alO 2 20 C k e, alO 3 30 B m d], 4, 0, false⟩ alG2.tick) 13) (!(getS ⟨[alO 1 10 A n c, alO 2 20 C k e, alO 3 30 B m d], 4, 0, false⟩ alG2.base).2.2 && decide (0 ≤ alG2.base)) 14 = 12 := by kernel_rfl
  simp only
  rw [e3, if_neg (by decide)]
  exact orErr_no (.inl (by decide))

end Go.Proofs.YtpdckdfnpehliaaGreat

namespace Go.Proofs.YtpdckdfnpehliaaGreat
open Go Go.RowKit Go.Deep Go.Shelf
set_option maxHeartbeats 400000

theorem bytes_any (g : Gram) (v : Value) (F : Nat → Prop) (w : World) (hg : g.wf) (h : Sl Ty.recd w F v g.recs) (b : List Int) (hb : gramWrite g = .ok b) :
    Calls Tryz.prog 30 #[g.val v] w fun e w' => ∃ v1, e = .returned v1 ∧ OwnB w' w.heap.size v1 b ∧ Below w.heap.size w w' := by
  have hb0 : Below w.heap.size w (w.alloc (.cells (g.cells v) 45)) := below_alloc (Below.refl _ _) (Nat.le_refl _) _
  have hw := gramWrite_any g v F _ hg (h.below hb0)
  rw [hb] at hw
  obtain ⟨A, c, rfl, _⟩ := id h
  clear hb h
  go_enter Tryz.func30, Tryz.ntmps30
  go_wp2_with (go_at_call 19; refine hw.mono ?_; clear hw; rintro e w1 ⟨hO, hb1⟩; obtain ⟨v1, rfl, ho⟩ := hO)
  go_ret
  exact ⟨_, rfl, own_base ho (by simp), hb0.trans (hb1.mono hb0.size)⟩
end Go.Proofs.YtpdckdfnpehliaaGreat

namespace Go.Proofs.YtpdckdfnpehliaaGreat
open Go Go.RowKit Go.Deep Go.Shelf
set_option maxHeartbeats 400000

/-- A store in a world that came of W0: nothing of W0 has turned but the store's own. -/
structure LawSt (W0 W : World) (base sb rb : Nat) (lv : Value) (r : Rng) (cn : List Int) : Prop where
  st : StSt W base sb rb lv r cn
  fr : Fr (fun k => k = sb ∨ k = rb) W0 W
  own : ∀ b, lv.ownBlock = some b → W0.heap.size ≤ b
theorem LawSt.below {W0 W W' : World} {base sb rb : Nat} {lv : Value} {r : Rng} {cn : List Int} (h : LawSt W0 W base sb rb lv r cn) (hb : Below W.heap.size W W') : LawSt W0 W' base sb rb lv r cn :=
  ⟨h.st.below hb, h.fr.trans (Fr.of_below hb _), h.own⟩
theorem LawSt.next {W0 W W' : World} {base sb rb : Nat} {lv lv' : Value} {r r' : Rng} {cn cn' : List Int} (h : LawSt W0 W base sb rb lv r cn) (h2 : StSt W' base sb rb lv' r' cn') (hf : Fr (fun k => k = sb ∨ k = rb ∨ lv.ownBlock = some k) W W') (hg : Grow W lv lv') : LawSt W0 W' base sb rb lv' r' cn' := by
  refine ⟨h2, h.fr.trans' hf (fun i hi e => ?_), fun b e => ?_⟩
  · rcases e with e | e | e
    · exact .inl e
    · exact .inr e
    · have := h.own i e; omega
  · rcases hg with g | ⟨g, g1, g2⟩
    · exact h.own b (by rw [← g]; exact e)
    · rw [g1] at e; injection e with e; have := h.fr.size; omega
theorem LawSt.at {W0 W : World} {base sb rb : Nat} {lv : Value} {r : Rng} {cn : List Int} (h : LawSt W0 W base sb rb lv r cn) {k : Nat} {o : Obj} (hk : W0.heap[k]? = some o) (h1 : k ≠ sb) (h2 : k ≠ rb) : W.heap[k]? = some o :=
  h.fr.at hk (fun e => e.elim h1 h2)
theorem LawSt.sl {W0 W : World} {base sb rb : Nat} {lv : Value} {r : Rng} {cn : List Int} (h : LawSt W0 W base sb rb lv r cn) {bv : Value} {bs : List Int} (hb : Sl Ty.byte W0 (fun k => k ≠ sb ∧ k ≠ rb) bv bs) : Sl Ty.byte W (fun k => k ≠ sb ∧ k ≠ rb) bv bs :=
  hb.keep (fun b hb hl => h.fr.block b hl (fun e => e.elim hb.1 hb.2)) (fun b hb _ => hb)
theorem LawSt.new {W : World} {base sb rb : Nat} {r : Rng} {cn : List Int} (h : StSt W base sb rb (.slice none 0 0) r cn) : LawSt W W base sb rb (.slice none 0 0) r cn :=
  ⟨h, Fr.refl _ _, by simp [Value.ownBlock]⟩

theorem one_eq {y : One} {k t : Int} (h1 : y.key = k) (h2 : y.s = ⟨k, t, []⟩) : y = alO k t y.A y.n y.c := by
  obtain ⟨a, b, c, d, e⟩ := y
  simp only at h1 h2
  subst h1 h2
  rfl
theorem al_a1 {r' : Rng} (h : AccR ⟨[], 4, 0, false⟩ (alB alG1) r') : ∃ A n c, r' = ⟨[alO 1 10 A n c], 4, 0, false⟩ := by
  obtain ⟨y, h1, h2, h3⟩ := h.ok (by rw [al_s1])
  rw [al_s1] at h1 h2
  exact ⟨y.A, y.n, y.c, by rw [h3, al_l1 y h1, ← one_eq h1 h2]⟩
theorem al_a2 {A : Option Addr} {n c : Nat} {r' : Rng} (h : AccR ⟨[alO 1 10 A n c], 4, 0, false⟩ (alB alG2) r') : ∃ A2 n2 c2, r' = ⟨[alO 1 10 A n c, alO 3 30 A2 n2 c2], 4, 0, false⟩ := by
  obtain ⟨y, h1, h2, h3⟩ := h.ok (by rw [al_s2])
  rw [al_s2] at h1 h2
  exact ⟨y.A, y.n, y.c, by rw [h3, al_l2 _ _ _ y h1, ← one_eq h1 h2]⟩
theorem al_a3 {A A2 : Option Addr} {n c n2 c2 : Nat} {r' : Rng} (h : AccR ⟨[alO 1 10 A n c, alO 3 30 A2 n2 c2], 4, 0, false⟩ (alB alG3) r') : ∃ A3 n3 c3, r' = ⟨[alO 1 10 A n c, alO 2 20 A3 n3 c3, alO 3 30 A2 n2 c2], 4, 0, false⟩ := by
  obtain ⟨y, h1, h2, h3⟩ := h.ok (by rw [al_s3])
  rw [al_s3] at h1 h2
  exact ⟨y.A, y.n, y.c, by rw [h3, al_l3 _ _ _ _ _ _ y h1, ← one_eq h1 h2]⟩
theorem al_a4 {A A2 A3 : Option Addr} {n c n2 c2 n3 c3 : Nat} {r' : Rng} (h : AccR ⟨[alO 1 10 A n c, alO 2 20 A3 n3 c3, alO 3 30 A2 n2 c2], 4, 0, false⟩ (alB alG2) r') : r' = ⟨[alO 1 10 A n c, alO 2 20 A3 n3 c3, alO 3 30 A2 n2 c2], 4, 0, false⟩ :=
  h.no (by rw [al_s4]; decide)
def cn0 : List Int := [0, 0, 0, 0, 0, 0, 0, 0, 0, 0, 0, 0, 0, 0, 0, 0, 0, 0]
def cn1 : List Int := [1, 0, 0, 0, 0, 0, 0, 0, 0, 0, 0, 0, 0, 0, 0, 0, 0, 0]
def cn2 : List Int := [2, 0, 0, 0, 0, 0, 0, 0, 0, 0, 0, 0, 0, 0, 0, 0, 0, 0]
def cn3 : List Int := [3, 0, 0, 0, 0, 0, 0, 0, 0, 0, 0, 0, 0, 0, 0, 0, 0, 0]
def cn4 : List Int := [3, 0, 0, 0, 0, 0, 0, 0, 0, 0, 0, 0, 1, 0, 0, 0, 0, 0]

/-- Accept, at one step of the example. -/
theorem al_step {W0 W : World} {base sb rb : Nat} {lv : Value} {r : Rng} {cn cn' : List Int} {bv : Value} {bs : List Int} (h : LawSt W0 W base sb rb lv r cn) (hb : Sl Ty.byte W0 (fun k => k ≠ sb ∧ k ≠ rb) bv bs) (hB : isB bs) (hc : ∀ c ∈ cn, 0 ≤ c ∧ c ≤ 1000000)
    {k e : Int} (hk : accOut r bs = (k, e)) (hn : bump cn (snapL r bs).2.toNat = cn') :
    Calls Tryz.prog 16 #[.pointer (some ⟨sb, 0, none⟩), bv] W fun x W' => x = .returned (.tuple #[.int .i64 k, .int .i64 e]) ∧ ∃ r' lv', AccR r bs r' ∧ LawSt W0 W' base sb rb lv' r' cn' := by
  have := accept_any bv bs _ W h.st (h.sl hb) hB hc
  rw [hk, hn] at this
  refine this.mono ?_
  rintro x W' ⟨rfl, r', lv', h1, h2, h3, h4⟩
  exact ⟨rfl, r', lv', h1, h.next h2 h3 h4⟩

theorem alB_isB (g : Gram) (hg : g.wf) (b : List Int) (h : gramWrite g = .ok b) : isB b := by
  unfold gramWrite at h
  split at h
  · cases h
  · next b2 h2 =>
    split at h
    · cases h
    · injection h with h; subst h; exact seal_isB _ (gramBody_isB hg h2)

end Go.Proofs.YtpdckdfnpehliaaGreat

namespace Go.Proofs.YtpdckdfnpehliaaGreat
open Go Go.RowKit Go.Deep Go.Shelf
set_option maxHeartbeats 400000

theorem al_wf (g : Gram) (h : g = alG1 ∨ g = alG2 ∨ g = alG3) : g.wf := by
  rcases h with rfl | rfl | rfl <;> exact ⟨by unfold i64; decide, by unfold i64; decide, by unfold i64; decide, fun r hr => by cases hr⟩
theorem al_isB (g : Gram) (h : g = alG1 ∨ g = alG2 ∨ g = alG3) : isB (alB g) := by
  have hw := al_wf g h
  rcases h with rfl | rfl | rfl
  · exact alB_isB _ hw _ al_w1
  · exact alB_isB _ hw _ al_w2
  · exact alB_isB _ hw _ al_w3

set_option maxRecDepth 100000 in
set_option maxHeartbeats 4000000 in
theorem alive_any (w : World) :
    Calls Tryz.prog 12 #[] w fun e w' => e = .returned (.bool true) ∧ Below w.heap.size w w' := by
  have hnew := storeNew_any 4 (by omega) (by omega) w
  have hby1 := fun W => bytes_any alG1 (.slice none 0 0) (fun _ => True) W (al_wf _ (.inl rfl)) (Sl.nil _ _ _) _ al_w1
  have hby2 := fun W => bytes_any alG2 (.slice none 0 0) (fun _ => True) W (al_wf _ (.inr (.inl rfl))) (Sl.nil _ _ _) _ al_w2
  have hby3 := fun W => bytes_any alG3 (.slice none 0 0) (fun _ => True) W (al_wf _ (.inr (.inr rfl))) (Sl.nil _ _ _) _ al_w3
  have hB1 := al_isB alG1 (.inl rfl)
  have hB2 := al_isB alG2 (.inr (.inl rfl))
  have hB3 := al_isB alG3 (.inr (.inr rfl))
  have hl1 := al_len alG1 (.inl rfl)
  have hl2 := al_len alG2 (.inr (.inl rfl))
  have hl3 := al_len alG3 (.inr (.inr rfl))
  unfold Gram.val at hby1 hby2 hby3
  have a1 := fun r' => @al_a1 r'
  have a2 := fun A n c r' => @al_a2 A n c r'
  have a3 := fun A A2 n c n2 c2 r' => @al_a3 A A2 n c n2 c2 r'
  have a4 := fun A A2 A3 n c n2 c2 n3 c3 r' => @al_a4 A A2 A3 n c n2 c2 n3 c3 r'
  have o1 : accOut ⟨[], 4, 0, false⟩ (alB alG1) = (1, 0) := by unfold accOut; rw [al_s1]; rfl
  have o2 : ∀ A n c, accOut ⟨[alO 1 10 A n c], 4, 0, false⟩ (alB alG2) = (3, 0) := by intros; unfold accOut; rw [al_s2]; rfl
  have o3 : ∀ A A2 n c n2 c2, accOut ⟨[alO 1 10 A n c, alO 3 30 A2 n2 c2], 4, 0, false⟩ (alB alG3) = (2, 0) := by intros; unfold accOut; rw [al_s3]; rfl
  have o4 : ∀ A A2 A3 n c n2 c2 n3 c3, accOut ⟨[alO 1 10 A n c, alO 2 20 A3 n3 c3, alO 3 30 A2 n2 c2], 4, 0, false⟩ (alB alG2) = (0, 12) := by intros; unfold accOut; rw [al_s4]; rfl
  have b1 : bump (List.replicate 18 0) (snapL ⟨[], 4, 0, false⟩ (alB alG1)).2.toNat = cn1 := by rw [al_s1]; decide
  have b2 : ∀ A n c, bump cn1 (snapL ⟨[alO 1 10 A n c], 4, 0, false⟩ (alB alG2)).2.toNat = cn2 := by intros; rw [al_s2]; decide
  have b3 : ∀ A A2 n c n2 c2, bump cn2 (snapL ⟨[alO 1 10 A n c, alO 3 30 A2 n2 c2], 4, 0, false⟩ (alB alG3)).2.toNat = cn3 := by intros; rw [al_s3]; decide
  have b4 : ∀ A A2 A3 n c n2 c2 n3 c3, bump cn3 (snapL ⟨[alO 1 10 A n c, alO 2 20 A3 n3 c3, alO 3 30 A2 n2 c2], 4, 0, false⟩ (alB alG2)).2.toNat = cn4 := by intros; rw [al_s4]; decide
  have O1 := Lib.hid o1
  have O2 := Lib.hid o2
  have O3 := Lib.hid o3
  have O4 := Lib.hid o4
  have C1 := Lib.hid b1
  have C2 := Lib.hid b2
  have C3 := Lib.hid b3
  have C4 := Lib.hid b4
  have LL1 := Lib.hid hl1
  have LL2 := Lib.hid hl2
  have LL3 := Lib.hid hl3
  generalize ht1 : alB alG1 = t1 at *
  generalize ht2 : alB alG2 = t2 at *
  generalize ht3 : alB alG3 = t3 at *
  clear ht1 ht2 ht3 o1 o2 o3 o4 b1 b2 b3 b4 hl1 hl2 hl3
  have hg1 : alG1.tick = 1 ∧ alG1.time = 10 ∧ alG1.base = -1 := ⟨rfl, rfl, rfl⟩
  unfold alG1 at hby1
  unfold alG2 at hby2
  unfold alG3 at hby3
  simp only at hby1 hby2 hby3
  go_enter Tryz.func12, Tryz.ntmps12
  go_wp2_with (first
    | (go_at_call 10; refine hnew.mono ?_; clear hnew; rintro e w1 ⟨rfl, hst1, hb1⟩)
    | (go_at_call 30; refine (hby1 w1).mono ?_; clear hby1; rintro e w2 ⟨v1, rfl, ho1, hb2⟩; obtain ⟨A1, c1, rfl, _, _⟩ := own_form ho1)
    | (go_at_call 30; refine (hby2 w2).mono ?_; clear hby2; rintro e w3 ⟨v2, rfl, ho2, hb3⟩; obtain ⟨A2, c2, rfl, _, _⟩ := own_form ho2)
    | (go_at_call 30; refine (hby3 w3).mono ?_; clear hby3; rintro e w4 ⟨v3, rfl, ho3, hb4⟩; obtain ⟨A3, c3, rfl, _, _⟩ := own_form ho3))
  have z1 := heap_lt hst1.blk
  have q2 := hb2.size
  have q3 := hb3.size
  have q4 := hb4.size
  have hk4 : Below w1.heap.size w1 (w4.alloc (.cells #[.slice A1 t1.length c1, .slice A2 t2.length c2, .slice A3 t3.length c3] 30)) := below_alloc (hb2.trans ((hb3.mono q2).trans (hb4.mono (Nat.le_trans q2 q3)))) (Nat.le_refl _) _
  have S0 := LawSt.new (hst1.below hk4)
  have hW0 := hb1.trans (hk4.mono hb1.size)
  have kl := heap_new (w := w4) (o := .cells #[.slice A1 t1.length c1, .slice A2 t2.length c2, .slice A3 t3.length c3] 30) rfl
  have s1 := (Sl.of_ownI (F := fun k => k ≠ w.heap.size + 1 ∧ k ≠ w.heap.size) ho1 (by rw [LL1.out]; omega) (fun b hb => by have := own_lt ho1 b hb; omega)).below (hb3.trans ((hb4.mono q3).trans ((Below.refl _ _).alloc (Nat.le_trans q3 q4) (.cells #[.slice A1 t1.length c1, .slice A2 t2.length c2, .slice A3 t3.length c3] 30))))
  have s2 := (Sl.of_ownI (F := fun k => k ≠ w.heap.size + 1 ∧ k ≠ w.heap.size) ho2 (by rw [LL2.out]; omega) (fun b hb => by have := own_lt ho2 b hb; omega)).below (hb4.trans ((Below.refl _ _).alloc q4 (.cells #[.slice A1 t1.length c1, .slice A2 t2.length c2, .slice A3 t3.length c3] 30)))
  have s3 := (Sl.of_ownI (F := fun k => k ≠ w.heap.size + 1 ∧ k ≠ w.heap.size) ho3 (by rw [LL3.out]; omega) (fun b hb => by have := own_lt ho3 b hb; omega)).below ((Below.refl _ _).alloc (Nat.le_refl _) (.cells #[.slice A1 t1.length c1, .slice A2 t2.length c2, .slice A3 t3.length c3] 30))
  have hl1 : w4.heap.size ≠ w.heap.size + 1 := by omega
  have hl2 : w4.heap.size ≠ w.heap.size := by omega
  have hn0 : ∀ c ∈ List.replicate 18 (0 : Int), 0 ≤ c ∧ c ≤ 1000000 := by decide
  have hn1 : ∀ c ∈ cn1, 0 ≤ c ∧ c ≤ 1000000 := by decide
  have hn2 : ∀ c ∈ cn2, 0 ≤ c ∧ c ≤ 1000000 := by decide
  have hn3 : ∀ c ∈ cn3, 0 ≤ c ∧ c ≤ 1000000 := by decide
  clear z1 q2 q3 q4 hk4 hst1 ho1 ho2 ho3 hb2 hb3 hb4
  generalize w4.alloc (.cells #[.slice A1 t1.length c1, .slice A2 t2.length c2, .slice A3 t3.length c3] 30) = W0 at *
  generalize w4.heap.size = lb at *
  obtain ⟨x0, x1, x2, xf⟩ := cells3 kl
  refine wp_loop_rounds 4 ?_
  rw [rounds_succ]
  go_wp2_with (go_at_call 16; refine (al_step S0 s1 hB1 hn0 O1.out C1.out).mono ?_; clear S0 x0 x1 x2 xf; rintro e w5 ⟨rfl, r', lv1, har, S1⟩; obtain ⟨B1, m1, d1, rfl⟩ := a1 _ har; clear har a1; have T1 := S1.below ((Below.refl _ _).alloc (Nat.le_refl _) (.cells #[.int .i64 1, .int .i64 3, .int .i64 2] 2)); obtain ⟨y0, y1, y2, yf⟩ := cells3 (T1.at kl hl1 hl2))
  clear S1
  generalize w5.alloc (.cells #[.int .i64 1, .int .i64 3, .int .i64 2] 2) = W1 at *
  rw [rounds_succ]
  go_wp2_with (go_at_call 16; refine (al_step T1 s2 hB2 hn1 (O2.out _ _ _) (C2.out _ _ _)).mono ?_; clear T1 y0 y1 y2 yf; rintro e w6 ⟨rfl, r', lv2, har, S2⟩; obtain ⟨B2, m2, d2, rfl⟩ := a2 _ _ _ _ har; clear har a2; have T2 := S2.below ((Below.refl _ _).alloc (Nat.le_refl _) (.cells #[.int .i64 1, .int .i64 3, .int .i64 2] 2)); obtain ⟨x0, x1, x2, xf⟩ := cells3 (T2.at kl hl1 hl2))
  clear S2
  generalize w6.alloc (.cells #[.int .i64 1, .int .i64 3, .int .i64 2] 2) = W2 at *
  rw [rounds_succ]
  go_wp2_with (go_at_call 16; refine (al_step T2 s3 hB3 hn2 (O3.out _ _ _ _ _ _) (C3.out _ _ _ _ _ _)).mono ?_; clear T2 x0 x1 x2 xf; rintro e w7 ⟨rfl, r', lv3, har, S3⟩; obtain ⟨B3, m3, d3, rfl⟩ := a3 _ _ _ _ _ _ _ har; clear har a3; have T3 := S3.below ((Below.refl _ _).alloc (Nat.le_refl _) (.cells #[.int .i64 1, .int .i64 3, .int .i64 2] 2)); obtain ⟨y0, y1, y2, yf⟩ := cells3 (T3.at kl hl1 hl2))
  clear S3
  generalize w7.alloc (.cells #[.int .i64 1, .int .i64 3, .int .i64 2] 2) = W3 at *
  have hat : atS ⟨[alO 1 10 B1 m1 d1, alO 2 20 B3 m3 d3, alO 3 30 B2 m2 d2], 4, 0, false⟩ 1 = (⟨2, 20, []⟩, .slice B3 m3 d3, 0) := by kernel_rfl
  have hln : ∀ x ∈ (⟨[alO 1 10 B1 m1 d1, alO 2 20 B3 m3 d3, alO 3 30 B2 m2 d2], 4, 0, false⟩ : Rng).xs, x.s.ents.length ≤ 64 := by
    intro x hx
    simp [alO] at hx
    rcases hx with rfl | rfl | rfl <;> simp
  have HAT := Lib.hid hat
  have HLN := Lib.hid hln
  clear hat hln
  rw [rounds_succ]
  go_wp2_with (first
    | (go_at_call 16; refine (al_step T3 s2 hB2 hn3 (O4.out _ _ _ _ _ _ _ _ _) (C4.out _ _ _ _ _ _ _ _ _)).mono ?_; clear T3 y0 y1 y2 yf; rintro e w8 ⟨rfl, r', lv4, har, S4⟩; obtain rfl := a4 _ _ _ _ _ _ _ _ _ _ har; clear har a4; have hsat := sat_any 1 w8 S4.st HLN.out; rw [HAT.out] at hsat)
    | (go_at_call 15; refine hsat.mono ?_; clear hsat; rintro e w9 ⟨v9, rfl, ho9, hb9⟩; obtain ⟨A9, c9, rfl, _, _⟩ := own_form ho9; have T5 := (S4.below hb9).below ((Below.refl _ _).alloc (Nat.le_refl _) (.cells #[.int .i64 2, .int .i64 20, .slice A9 0 c9] 35)); have hlen := storeLen_any _ T5.st; have htk := taken_any _ T5.st; have hrf := refused_any 12 _ T5.st (by omega) (by omega); rw [show cn4.getD 0 0 = 3 from by decide] at htk; rw [show cn4.getD 12 0 = 1 from by decide] at hrf)
    | (go_at_call 14; refine hlen.mono ?_; clear hlen; rintro e w10 ⟨rfl, rfl⟩)
    | (go_at_call 22; refine htk.mono ?_; clear htk; rintro e w10 ⟨rfl, rfl⟩)
    | (go_at_call 21; refine hrf.mono ?_; clear hrf; rintro e w10 ⟨rfl, rfl⟩))
  go_ret
  exact ⟨rfl, hW0.trans (T5.fr.to_below hW0.size (fun i hi e => by omega))⟩
end Go.Proofs.YtpdckdfnpehliaaGreat
