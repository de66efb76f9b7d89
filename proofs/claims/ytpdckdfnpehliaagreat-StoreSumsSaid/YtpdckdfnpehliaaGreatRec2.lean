/- Walks of layer 8: record, writing, the rest. -/
import Derived.Test.YtpdckdfnpehliaaGreatEq
import Derived.Laws.EntriesVeiled
set_option linter.unusedVariables false
set_option linter.unusedSimpArgs false

namespace Go.Proofs.YtpdckdfnpehliaaGreat
open Go Go.RowKit Go.Deep Go.Shelf
set_option maxHeartbeats 400000

theorem bare_eq (r : Rec) : decide ((⟨r.kind, r.id, r.p0, r.p1, r.p2, r.v0, r.v1, r.v2, r.angle⟩ : Rec) = ⟨r.kind, r.id, 0, 0, 0, 0, 0, 0, 0⟩) = r.bare := rfl

set_option maxRecDepth 100000 in
theorem recCheck_any (r : Rec) (w : World) :
    Calls Tryz.prog 86 #[r.val] w fun e w' => e = .returned (.int .i64 (recCheck r)) ∧ Below w.heap.size w w' := by
  have heq := eql_rec r.kind r.id r.p0 r.p1 r.p2 r.v0 r.v1 r.v2 r.angle r.kind r.id 0 0 0 0 0 0 0
  have hne := neq_rec r.kind r.id r.p0 r.p1 r.p2 r.v0 r.v1 r.v2 r.angle r.kind r.id 0 0 0 0 0 0 0
  rw [bare_eq] at heq hne
  have hB : Below w.heap.size w ((w.alloc (.cells r.cells 115)).alloc (.cells #[.int .i64 r.kind, .int .i64 r.id, .int .i64 0, .int .i64 0, .int .i64 0, .int .i64 0, .int .i64 0, .int .i64 0, .int .u16 0] 115)) :=
    ((Below.refl _ _).alloc (Nat.le_refl _) _).alloc (by simp) _
  by_cases hk : r.kind < 0 ∨ r.kind > 3
  · have HE : Hid (recCheck r = 11) := if_pos hk
    rw [HE.out]
    rcases hk with hk | hk
    · go_enter Tryz.func86, Tryz.ntmps86
      go_wp2
      go_ret
      exact ⟨rfl, hB⟩
    · have hk2 : ¬ r.kind < 0 := by omega
      go_enter Tryz.func86, Tryz.ntmps86
      go_wp2
      go_ret
      exact ⟨rfl, hB⟩
  · have hk2 : ¬ r.kind < 0 := by omega
    have hk3 : ¬ 3 < r.kind := by omega
    by_cases hi : r.id < 0 ∨ r.id > 65535
    · have HE : Hid (recCheck r = 3) := by show _ = _; unfold recCheck; rw [if_neg hk, if_pos hi]
      rw [HE.out]
      clear hk
      rcases hi with hi | hi
      · go_enter Tryz.func86, Tryz.ntmps86
        go_wp2
        go_ret
        exact ⟨rfl, hB⟩
      · have hi2 : ¬ r.id < 0 := by omega
        go_enter Tryz.func86, Tryz.ntmps86
        go_wp2
        go_ret
        exact ⟨rfl, hB⟩
    · have hi2 : ¬ r.id < 0 := by omega
      have hi3 : ¬ 65535 < r.id := by omega
      have HE : Hid (recCheck r = if (r.kind = 1 ∧ r.bare = true) ∨ (r.kind = 2 ∧ r.bare = false) then 2 else 0) := by show _ = _; unfold recCheck; rw [if_neg hk, if_neg hi]
      rw [HE.out]
      clear hk hi
      by_cases h1 : r.kind = 1
      · have e1 : (r.kind == 1) = true := by simp [h1]
        have e2 : (r.kind == 2) = false := by simp [h1]
        have H1 := Lib.hid h1
        clear h1
        cases hb : r.bare
        · have HF : Hid ((if (r.kind = 1 ∧ false = true) ∨ (r.kind = 2 ∧ false = false) then (2 : Int) else 0) = 0) := by show _ = _; rw [if_neg]; have := H1.out; rintro (⟨_, h⟩ | ⟨h, _⟩); cases h; omega
          rw [hb] at heq hne
          rw [HF.out]
          clear hb
          go_enter Tryz.func86, Tryz.ntmps86
          go_wp2
          go_ret
          exact ⟨rfl, hB⟩
        · have HF : Hid ((if (r.kind = 1 ∧ true = true) ∨ (r.kind = 2 ∧ true = false) then (2 : Int) else 0) = 2) := if_pos (.inl ⟨H1.out, rfl⟩)
          rw [hb] at heq hne
          rw [HF.out]
          clear hb
          go_enter Tryz.func86, Tryz.ntmps86
          go_wp2
          go_ret
          exact ⟨rfl, hB⟩
      · have e1 : (r.kind == 1) = false := by simp [h1]
        by_cases h2 : r.kind = 2
        · have e2 : (r.kind == 2) = true := by simp [h2]
          have H2 := Lib.hid h2
          clear h1 h2
          cases hb : r.bare
          · have HF : Hid ((if (r.kind = 1 ∧ false = true) ∨ (r.kind = 2 ∧ false = false) then (2 : Int) else 0) = 2) := if_pos (.inr ⟨H2.out, rfl⟩)
            rw [hb] at heq hne
            rw [HF.out]
            clear hb
            go_enter Tryz.func86, Tryz.ntmps86
            go_wp2
            go_ret
            exact ⟨rfl, hB⟩
          · have HF : Hid ((if (r.kind = 1 ∧ true = true) ∨ (r.kind = 2 ∧ true = false) then (2 : Int) else 0) = 0) := by show _ = _; rw [if_neg]; have := H2.out; rintro (⟨h, _⟩ | ⟨_, h⟩); omega; cases h
            rw [hb] at heq hne
            rw [HF.out]
            clear hb
            go_enter Tryz.func86, Tryz.ntmps86
            go_wp2
            go_ret
            exact ⟨rfl, hB⟩
        · have e2 : (r.kind == 2) = false := by simp [h2]
          have HF : Hid ((if (r.kind = 1 ∧ r.bare = true) ∨ (r.kind = 2 ∧ r.bare = false) then (2 : Int) else 0) = 0) := by show _ = _; rw [if_neg]; rintro (⟨h, _⟩ | ⟨h, _⟩); exact h1 h; exact h2 h
          rw [HF.out]
          clear h1 h2
          go_enter Tryz.func86, Tryz.ntmps86
          go_wp2
          go_ret
          exact ⟨rfl, hB⟩

abbrev fn (f : Nat) : Value := .func (.func f) #[] #[]
def kindFns : Array Value := #[fn 116, fn 117, fn 118, fn 119, fn 114, fn 115, fn 116, fn 117]
theorem kinds_any (w : World) : Calls Tryz.prog 87 #[] w fun e w' => e = .returned (.agg kindFns) ∧ Below w.heap.size w w' := by
  go_enter Tryz.func87, Tryz.ntmps87
  go_wp2
  refine bodyPost_ret (v := .agg kindFns) (by simp [results, Tryz.results87, go_sem]; rfl) rfl ⟨rfl, ?_⟩
  exact ((Below.refl _ _).alloc (Nat.le_refl _) _).alloc (by simp) _

end Go.Proofs.YtpdckdfnpehliaaGreat
