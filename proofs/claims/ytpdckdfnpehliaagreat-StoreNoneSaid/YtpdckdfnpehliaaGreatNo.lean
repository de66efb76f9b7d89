/- StoreNone: the walk. -/
import Derived.Test.YtpdckdfnpehliaaGreatAv
set_option linter.unusedVariables false
set_option linter.unusedSimpArgs false

namespace Go.Proofs.YtpdckdfnpehliaaGreat
open Go Go.RowKit Go.Deep Go.Shelf
set_option maxHeartbeats 400000

theorem refused0 {base sb rb : Nat} {lv : Value} {r : Rng} (k : Int) (w : World) (h : StSt w base sb rb lv r (List.replicate 18 0)) :
    Calls Tryz.prog 21 #[.pointer (some ⟨sb, 0, none⟩), .int .i64 k] w fun e w' => e = .returned (.int .i64 0) ∧ w = w' := by
  by_cases hk : k ≤ 0 ∨ 18 ≤ k
  · exact refused_bad k w h hk
  · have := refused_any k.toNat w h (by omega) (by omega)
    rw [show ((k.toNat : Nat) : Int) = k by omega] at this
    refine this.mono ?_
    rintro e w' ⟨rfl, rfl⟩
    refine ⟨?_, rfl⟩
    congr 2
    have h18 : k.toNat < 18 := by omega
    generalize k.toNat = j at h18
    have : ∀ j : Fin 18, (List.replicate 18 (0 : Int)).getD j.1 0 = 0 := by decide
    exact this ⟨j, h18⟩

set_option maxRecDepth 100000 in
set_option maxHeartbeats 4000000 in
theorem none_bad (n i t : Int) (w : World) (hn : n < 1 ∨ 64 < n) :
    Calls Tryz.prog 6 #[.int .i64 n, .int .i64 i, .int .i64 t] w fun e w' => e = .returned (.bool true) ∧ Below w.heap.size w w' := by
  have hnew := fun W => storeNew_no n hn W
  have hal := fun W => alive_any W
  rcases (by omega : n < 1 ∨ (¬ n < 1 ∧ 64 < n)) with h1 | ⟨h1, h2⟩
  · go_enter Tryz.func6, Tryz.ntmps6
    go_wp2_with (first
      | (go_at_call 16; refine (accept_nil _ _).mono ?_; rintro e w1 ⟨rfl, rfl⟩)
      | (go_at_call 15; refine (sat_nil _ _).mono ?_; rintro e w2 ⟨rfl, hb2⟩)
      | (go_at_call 25; refine (sget_nil _ _).mono ?_; rintro e w3 ⟨rfl, hb3⟩; have hb4 := (below_alloc hb2 (Nat.le_refl _) (.cells snap0Cells 35)).trans ((below_alloc hb3 (Nat.le_refl _) (.cells snap0Cells 35)).mono (below_alloc hb2 (Nat.le_refl _) (.cells snap0Cells 35)).size); have k2 := heap_old (o' := .cells snap0Cells 35) (below_at hb3 (heap_new (w := w2) (o := .cells snap0Cells 35) rfl) (by simp)); obtain ⟨x0, x1, x2, xf⟩ := cells3 k2)
      | (go_at_call 14; refine (len_nil _).mono ?_; rintro e w1 ⟨rfl, rfl⟩)
      | (go_at_call 22; refine (taken_nil _).mono ?_; rintro e w1 ⟨rfl, rfl⟩)
      | (go_at_call 21; refine (refused_nil _ _).mono ?_; rintro e w1 ⟨rfl, rfl⟩)
      | (go_at_call 10; refine (hnew _).mono ?_; clear hnew; rintro e w1 ⟨rfl, rfl⟩)
      | (go_at_call 12; refine (hal _).mono ?_; clear hal; rintro e w5 ⟨rfl, hb5⟩))
    go_ret
    exact ⟨rfl, hb4.trans (hb5.mono hb4.size)⟩
  · have h3 : decide (n < 1) = false := by simpa using h1
    go_enter Tryz.func6, Tryz.ntmps6
    go_wp2_with (first
      | (go_at_call 16; refine (accept_nil _ _).mono ?_; rintro e w1 ⟨rfl, rfl⟩)
      | (go_at_call 15; refine (sat_nil _ _).mono ?_; rintro e w2 ⟨rfl, hb2⟩)
      | (go_at_call 25; refine (sget_nil _ _).mono ?_; rintro e w3 ⟨rfl, hb3⟩; have hb4 := (below_alloc hb2 (Nat.le_refl _) (.cells snap0Cells 35)).trans ((below_alloc hb3 (Nat.le_refl _) (.cells snap0Cells 35)).mono (below_alloc hb2 (Nat.le_refl _) (.cells snap0Cells 35)).size); have k2 := heap_old (o' := .cells snap0Cells 35) (below_at hb3 (heap_new (w := w2) (o := .cells snap0Cells 35) rfl) (by simp)); obtain ⟨x0, x1, x2, xf⟩ := cells3 k2)
      | (go_at_call 14; refine (len_nil _).mono ?_; rintro e w1 ⟨rfl, rfl⟩)
      | (go_at_call 22; refine (taken_nil _).mono ?_; rintro e w1 ⟨rfl, rfl⟩)
      | (go_at_call 21; refine (refused_nil _ _).mono ?_; rintro e w1 ⟨rfl, rfl⟩)
      | (go_at_call 10; refine (hnew _).mono ?_; clear hnew; rintro e w1 ⟨rfl, rfl⟩)
      | (go_at_call 12; refine (hal _).mono ?_; clear hal; rintro e w5 ⟨rfl, hb5⟩))
    go_ret
    exact ⟨rfl, hb4.trans (hb5.mono hb4.size)⟩

set_option maxRecDepth 100000 in
set_option maxHeartbeats 4000000 in
theorem none_ok (n i t : Int) (w : World) (hn1 : ¬ n < 1) (hn2 : ¬ 64 < n) :
    Calls Tryz.prog 6 #[.int .i64 n, .int .i64 i, .int .i64 t] w fun e w' => e = .returned (.bool true) ∧ Below w.heap.size w w' := by
  have hnew := fun W => storeNew_any n (by omega) (by omega) W
  have hal := fun W => alive_any W
  have d1 : decide (n < 1) = false := by simpa using hn1
  have d2 : decide (64 < n) = false := by simpa using hn2
  have hat : atS ⟨[], n, 0, false⟩ i = (⟨0, 0, []⟩, .slice none 0 0, 3) := by unfold atS; rw [dif_neg (by simp)]
  have hgt : getS ⟨[], n, 0, false⟩ t = (⟨0, 0, []⟩, .slice none 0 0, false) := rfl
  have HA := Lib.hid hat
  have HG := Lib.hid hgt
  have hnil : ∀ x ∈ ([] : List One), x.s.ents.length ≤ 64 := by intro x hx; cases hx
  have HN := Lib.hid hnil
  clear hat hgt hnil
  go_enter Tryz.func6, Tryz.ntmps6
  go_upto_region 12 with (first
    | (go_at_call 16; refine (accept_nil _ _).mono ?_; rintro e w1 ⟨rfl, rfl⟩)
    | (go_at_call 15; refine (sat_nil _ _).mono ?_; rintro e w2 ⟨rfl, hb2⟩)
    | (go_at_call 25; refine (sget_nil _ _).mono ?_; rintro e w3 ⟨rfl, hb3⟩; have hb4 := (below_alloc hb2 (Nat.le_refl _) (.cells snap0Cells 35)).trans ((below_alloc hb3 (Nat.le_refl _) (.cells snap0Cells 35)).mono (below_alloc hb2 (Nat.le_refl _) (.cells snap0Cells 35)).size); have k2 := heap_old (o' := .cells snap0Cells 35) (below_at hb3 (heap_new (w := w2) (o := .cells snap0Cells 35) rfl) (by simp)); obtain ⟨x0, x1, x2, xf⟩ := cells3 k2)
    | (go_at_call 14; refine (len_nil _).mono ?_; rintro e w1 ⟨rfl, rfl⟩)
    | (go_at_call 22; refine (taken_nil _).mono ?_; rintro e w1 ⟨rfl, rfl⟩)
    | (go_at_call 21; refine (refused_nil _ _).mono ?_; rintro e w1 ⟨rfl, rfl⟩)
    | (go_at_call 10; refine (hnew _).mono ?_; clear hnew; rintro e w5 ⟨rfl, hst, hb5⟩))
  have hb6 := hb4.trans (hb5.mono hb4.size)
  clear hb4 hb5 k2 x0 x1 x2 xf hb2 hb3
  simp only [World.size_alloc] at hst
  have hsat := sat_any i w5 hst HN.out
  rw [HA.out] at hsat
  go_wp2_with (first
    | (go_at_call 15; refine hsat.mono ?_; clear hsat; rintro e w7 ⟨v7, rfl, ho7, hb7⟩; obtain ⟨A7, c7, rfl, _, _⟩ := own_form ho7; have hst2 := (hst.below hb7).below ((Below.refl _ _).alloc (Nat.le_refl _) (.cells #[.int .i64 0, .int .i64 0, .slice A7 0 c7] 35)); have hb8 := (hb7.mono hb6.size).alloc (Nat.le_trans hb6.size hb7.size) (.cells #[.int .i64 0, .int .i64 0, .slice A7 0 c7] 35); have hget := sget_any t _ hst2 HN.out; rw [HG.out] at hget)
    | (go_at_call 25; refine hget.mono ?_; clear hget; rintro e w9 ⟨v9, rfl, ho9, hb9⟩; obtain ⟨A9, c9, rfl, _, _⟩ := own_form ho9; have hst3 := (hst2.below hb9).below ((Below.refl _ _).alloc (Nat.le_refl _) (.cells #[.int .i64 0, .int .i64 0, .slice A9 0 c9] 35)); have hb10 := (hb9.mono hb8.size).alloc (Nat.le_trans hb8.size hb9.size) (.cells #[.int .i64 0, .int .i64 0, .slice A9 0 c9] 35))
    | (go_at_call 12; refine (hal _).mono ?_; clear hal; rintro e w11 ⟨rfl, hb11⟩; have hst4 := hst3.below hb11)
    | (go_at_call 21; refine (refused0 _ _ hst4).mono ?_; rintro e w12 ⟨rfl, rfl⟩))
  go_ret
  have z6 := hb6.size
  have z7 := hb7.size
  have z9 := hb9.size
  simp only [World.size_alloc] at z9
  exact ⟨rfl, hb6.trans (hb8.trans ((hb10.mono z6).trans (hb11.mono (by simp only [World.size_alloc]; omega))))⟩

theorem none_walk (n i t : Int) (w : World) :
    Calls Tryz.prog 6 #[.int .i64 n, .int .i64 i, .int .i64 t] w fun e w' => e = .returned (.bool true) ∧ Below w.heap.size w w' := by
  by_cases h : n < 1 ∨ 64 < n
  · exact none_bad n i t w h
  · exact none_ok n i t w (by omega) (by omega)

end Go.Proofs.YtpdckdfnpehliaaGreat
