/- Numbers of as many bytes as they need: the plain law. -/
set_option linter.unusedVariables false
set_option linter.unusedSimpArgs false
namespace Go.Proofs.YtpdckdfnpehliaaGreat

def putF : Nat → Int → List Int
  | 0, _ => []
  | k + 1, x => if x < 128 then [x] else (x % 128 + 128) :: putF k (x / 128)
/-- A number's bytes. -/
def put (x : Int) : List Int := putF 10 x

def two64 : Int := 18446744073709551616

/-- The value of bytes, the first one ahead: what a get that succeeds tells. -/
def getF : Nat → Nat → Int → Int → List Int → Int × Int × Int
  | 0, _, _, _, _ => (0, 0, 8)
  | _ + 1, _, _, _, [] => (0, 0, 6)
  | k + 1, i, m, acc, c :: r =>
    if c ≥ 128 then getF k (i + 1) (m * 128) (acc + (c - 128) * m) r
    else if c * m ≥ two64 then (0, 0, 8)
    else if c = 0 ∧ 0 < i then (0, 0, 7)
    else (acc + c * m, (i : Int) + 1, 0)
/-- The number that bytes begin with, how many it has, the error. -/
def get (b : List Int) : Int × Int × Int := if b = [] then (0, 0, 5) else getF 10 0 1 0 b

def zig (x : Int) : Int := if 0 ≤ x then 2 * x else -2 * x - 1
def zag (x : Int) : Int := if x % 2 = 0 then x / 2 else -(x / 2) - 1

theorem zag_zig (x : Int) : zag (zig x) = x := by unfold zag zig; split <;> split <;> omega
theorem zig_zag (x : Int) (h : 0 ≤ x) : zig (zag x) = x := by unfold zag zig; split <;> split <;> omega
theorem zig_range (x : Int) (h1 : -9223372036854775808 ≤ x) (h2 : x ≤ 9223372036854775807) : 0 ≤ zig x ∧ zig x < 18446744073709551616 := by unfold zig; split <;> omega
theorem zag_range (x : Int) (h1 : 0 ≤ x) (h2 : x < 18446744073709551616) : -9223372036854775808 ≤ zag x ∧ zag x ≤ 9223372036854775807 := by unfold zag; split <;> omega

def isB (bs : List Int) : Prop := ∀ b ∈ bs, 0 ≤ b ∧ b < 256
theorem isB.nil : isB [] := by intro b h; cases h
theorem isB.cons {b : Int} {l : List Int} (h1 : 0 ≤ b ∧ b < 256) (h2 : isB l) : isB (b :: l) := by
  intro c hc; rcases List.mem_cons.1 hc with rfl | hc
  · exact h1
  · exact h2 c hc
theorem isB.append {a b : List Int} (h1 : isB a) (h2 : isB b) : isB (a ++ b) := by
  intro c hc; rcases List.mem_append.1 hc with h | h
  · exact h1 c h
  · exact h2 c h
theorem isB.take {a : List Int} (h : isB a) (n : Nat) : isB (a.take n) := fun c hc => h c (List.mem_of_mem_take hc)
theorem isB.drop {a : List Int} (h : isB a) (n : Nat) : isB (a.drop n) := fun c hc => h c (List.mem_of_mem_drop hc)

theorem putF_isB (k : Nat) : ∀ x : Int, 0 ≤ x → isB (putF k x) := by
  induction k with
  | zero => intro x _; exact isB.nil
  | succ k ih =>
    intro x hx
    unfold putF
    split
    · exact isB.cons (by omega) isB.nil
    · exact isB.cons (by omega) (ih _ (by omega))
theorem put_isB (x : Int) (h : 0 ≤ x) : isB (put x) := putF_isB 10 x h
theorem putF_len (k : Nat) : ∀ x : Int, (putF k x).length ≤ k := by
  induction k with
  | zero => intro x; simp [putF]
  | succ k ih =>
    intro x
    unfold putF
    split
    · simp
    · have := ih (x / 128); simp; omega
theorem put_len (x : Int) : (put x).length ≤ 10 := putF_len 10 x
theorem putF_pos (k : Nat) (x : Int) : 0 < (putF (k + 1) x).length := by unfold putF; split <;> simp
theorem put_pos (x : Int) : 0 < (put x).length := putF_pos 9 x

/-- A put that has room: its length by powers of 128. -/
theorem putF_len_iff (k : Nat) : ∀ (x : Int) (j : Nat), 0 ≤ x → j < k → x < 128 ^ k → ((putF k x).length ≤ j + 1 ↔ x < 128 ^ (j + 1)) := by
  induction k with
  | zero => intro x j _ h; omega
  | succ k ih =>
    intro x j hx hj hk
    unfold putF
    split
    · rename_i h
      refine ⟨fun _ => ?_, fun _ => by simp⟩
      have : (0 : Int) < 128 ^ j := Int.pow_pos (by omega)
      rw [Int.pow_succ]
      omega
    · rename_i h
      cases j with
      | zero =>
        have : ∃ m, k = m + 1 := ⟨k - 1, by cases k with | zero => simp at hk; omega | succ k => simp⟩
        obtain ⟨m, rfl⟩ := this
        have := putF_pos m (x / 128)
        simp only [List.length_cons, Nat.zero_add, Int.pow_one]
        omega
      | succ j =>
        have h2 := ih (x / 128) j (by omega) (by omega) (by rw [Int.pow_succ] at hk; omega)
        simp only [List.length_cons]
        rw [Int.pow_succ 128 (j + 1)]
        omega

/-- The i-th byte. -/
theorem putF_get (k : Nat) : ∀ (x : Int) (i : Nat) (h : i < (putF k x).length), 0 ≤ x →
    (putF k x)[i] = x / 128 ^ i % 128 + (if i + 1 = (putF k x).length then 0 else 128) ∨ x ≥ 128 ^ k := by
  induction k with
  | zero => intro x i h; simp [putF] at h
  | succ k ih =>
    intro x i h hx
    by_cases hb : x ≥ 128 ^ (k + 1)
    · exact .inr hb
    · refine .inl ?_
      by_cases h1 : x < 128
      · have e : putF (k + 1) x = [x] := by rw [putF, if_pos h1]
        have h0 : i = 0 := by rw [e] at h; simpa using h
        subst h0
        simp only [e]
        simp
        omega
      · have e : putF (k + 1) x = (x % 128 + 128) :: putF k (x / 128) := by rw [putF, if_neg h1]
        have hk : x / 128 < 128 ^ k := by rw [Int.pow_succ] at hb; omega
        cases i with
        | zero =>
          simp only [e]
          have : 0 < (putF k (x / 128)).length := by
            cases k with
            | zero => simp at hk; omega
            | succ k => exact putF_pos _ _
          have hne : putF k (x / 128) ≠ [] := by intro e2; rw [e2] at this; simp at this
          simp [hne]
        | succ i =>
          simp only [e]
          have hi : i < (putF k (x / 128)).length := by rw [e] at h; simpa using h
          rcases ih (x / 128) i hi (by omega) with h2 | h2
          · simp only [List.getElem_cons_succ, List.length_cons]
            rw [h2, Int.pow_succ', Int.ediv_ediv_of_nonneg (by omega)]
            simp
          · omega
end Go.Proofs.YtpdckdfnpehliaaGreat
