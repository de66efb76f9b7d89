/- Numbers off bytes: the plain law. -/
import Derived.Test.YtpdckdfnpehliaaGreatVarSpec
set_option linter.unusedVariables false
set_option linter.unusedSimpArgs false
namespace Go.Proofs.YtpdckdfnpehliaaGreat

/-- A reader: the bytes that are left, the first error. -/
structure RdS where
  rest : List Int
  err : Int
deriving DecidableEq

def RdS.fail (s : RdS) (e : Int) : RdS := if s.err = 0 then { s with err := e } else s
def rdByte (s : RdS) : Int × RdS :=
  if s.err ≠ 0 then (0, s) else match s.rest with
    | [] => (0, { s with err := 6 })
    | c :: r => (c, { s with rest := r })
def rdUint (most : Int) (s : RdS) : Int × RdS :=
  if s.err ≠ 0 then (0, s) else if s.rest = [] then (0, { s with err := 6 })
  else if (get s.rest).2.2 ≠ 0 then (0, { s with err := (get s.rest).2.2 })
  else if (get s.rest).1 > most then (0, { s with err := 3 })
  else ((get s.rest).1, { s with rest := s.rest.drop (get s.rest).2.1.toNat })
def rdInt (s : RdS) : Int × RdS := (zag (rdUint 18446744073709551615 s).1, (rdUint 18446744073709551615 s).2)
def RdS.done (s : RdS) : Int := if s.err ≠ 0 then s.err else if s.rest = [] then 0 else 8

/-- What a get tells: a number of 64 bits, at least a byte and no more than there are; nothing beside an error. -/
theorem getF_ok (k : Nat) : ∀ (i : Nat) (m acc : Int) (b : List Int), isB b → 0 ≤ m → 0 ≤ acc → (∀ j : Nat, j < 10 → i = j → m = 128 ^ j ∧ acc < 128 ^ j) → i + k = 10 →
    0 ≤ (getF k i m acc b).1 ∧ (getF k i m acc b).1 < two64 ∧ (i : Int) * (if (getF k i m acc b).2.2 = 0 then 1 else 0) ≤ (getF k i m acc b).2.1 ∧
      ((getF k i m acc b).2.2 = 0 → (i : Int) + 1 ≤ (getF k i m acc b).2.1 ∧ (getF k i m acc b).2.1 ≤ i + b.length) ∧ ((getF k i m acc b).2.2 ≠ 0 → (getF k i m acc b).1 = 0 ∧ (getF k i m acc b).2.1 = 0) ∧
      0 ≤ (getF k i m acc b).2.2 ∧ (getF k i m acc b).2.2 ≤ 8 := by
  induction k with
  | zero => intro i m acc b _ _ _ _ _; simp [getF, two64]
  | succ k ih =>
    intro i m acc b hb hm hacc hp hk
    obtain ⟨e1, e2⟩ := hp i (by omega) rfl
    cases b with
    | nil => simp [getF, two64]
    | cons c r =>
      have hc := hb c (by simp)
      have hr : isB r := fun x hx => hb x (by simp [hx])
      unfold getF
      by_cases h1 : c ≥ 128
      · rw [if_pos h1]
        have hstep : 0 ≤ (c - 128) * m := Int.mul_nonneg (by omega) hm
        have h2 := ih (i + 1) (m * 128) (acc + (c - 128) * m) r hr (by omega) (by omega) (by
          rintro j hj rfl
          refine ⟨by rw [e1, Int.pow_succ], ?_⟩
          have : (c - 128) * m ≤ 127 * m := Int.mul_le_mul_of_nonneg_right (by omega) hm
          rw [Int.pow_succ, ← e1]
          rw [← e1] at e2
          omega) (by omega)
        generalize getF k (i + 1) (m * 128) (acc + (c - 128) * m) r = q at *
        obtain ⟨a1, a2, a3, a4, a5, a6⟩ := h2
        refine ⟨a1, a2, ?_, fun h => ?_, a5, a6⟩
        · split
          · rename_i h; have := (a4 h).1; omega
          · rename_i h; have := (a5 h).2; omega
        · have := a4 h
          simp only [List.length_cons]
          omega
      · rw [if_neg h1]
        by_cases h2 : c * m ≥ two64
        · rw [if_pos h2]; simp [two64]
        · rw [if_neg h2]
          by_cases h3 : c = 0 ∧ 0 < i
          · rw [if_pos h3]; simp [two64]
          · rw [if_neg h3]
            have hcm : 0 ≤ c * m := Int.mul_nonneg (by omega) hm
            refine ⟨by show 0 ≤ acc + c * m; omega, ?_, by simp; omega, fun _ => ⟨by simp, by simp; omega⟩, fun h => absurd rfl h, by simp, by simp⟩
            show acc + c * m < two64
            -- c * m is a multiple of m below 2^64, acc is below m, and m divides 2^64
            have hd : two64 % m = 0 ∧ 0 < m := by
              rw [e1]
              unfold two64
              obtain rfl | rfl | rfl | rfl | rfl | rfl | rfl | rfl | rfl | rfl : i = 0 ∨ i = 1 ∨ i = 2 ∨ i = 3 ∨ i = 4 ∨ i = 5 ∨ i = 6 ∨ i = 7 ∨ i = 8 ∨ i = 9 := by omega
              all_goals decide
            rw [← e1] at e2
            have h5 : two64 / m * m = two64 := Int.ediv_mul_cancel (Int.dvd_of_emod_eq_zero hd.1)
            have h6 : c < two64 / m := by
              apply Int.lt_of_mul_lt_mul_right (a := m) _ (by omega)
              omega
            have h7 : (c + 1) * m ≤ two64 / m * m := Int.mul_le_mul_of_nonneg_right (by omega) (by omega)
            rw [Int.add_mul] at h7
            omega

theorem get_ok (b : List Int) (hb : isB b) : 0 ≤ (get b).1 ∧ (get b).1 < 18446744073709551616 ∧
    ((get b).2.2 = 0 → 1 ≤ (get b).2.1 ∧ (get b).2.1 ≤ b.length) ∧ ((get b).2.2 ≠ 0 → (get b).1 = 0 ∧ (get b).2.1 = 0) ∧ 0 ≤ (get b).2.2 ∧ (get b).2.2 ≤ 8 := by
  unfold get
  split
  · simp
  · have h := getF_ok 10 0 1 0 b hb (by omega) (by omega) (by rintro j hj h; subst h; simp) rfl
    obtain ⟨a1, a2, a3, a4, a5, a6⟩ := h
    unfold two64 at a2
    exact ⟨a1, a2, fun h => by have := a4 h; omega, a5, a6⟩

theorem rdUint_rest (most : Int) (s : RdS) : ∃ n, (rdUint most s).2.rest = s.rest.drop n := by
  unfold rdUint
  split
  · exact ⟨0, rfl⟩
  · split
    · exact ⟨0, rfl⟩
    · split
      · exact ⟨0, rfl⟩
      · split
        · exact ⟨0, rfl⟩
        · exact ⟨_, rfl⟩
theorem rdUint_range (most : Int) (s : RdS) (h : isB s.rest) (hm : 0 ≤ most) : 0 ≤ (rdUint most s).1 ∧ (rdUint most s).1 ≤ most ∧ (rdUint most s).1 < 18446744073709551616 := by
  have := get_ok s.rest h
  unfold rdUint
  split
  · simp [hm]
  · split
    · simp [hm]
    · split
      · simp [hm]
      · split
        · simp [hm]
        · exact ⟨this.1, by simp; omega, this.2.1⟩
theorem rdByte_range (s : RdS) (h : isB s.rest) : 0 ≤ (rdByte s).1 ∧ (rdByte s).1 < 256 := by
  unfold rdByte
  split
  · simp
  · split
    · simp
    · rename_i c r e
      exact h c (by rw [e]; simp)
end Go.Proofs.YtpdckdfnpehliaaGreat
