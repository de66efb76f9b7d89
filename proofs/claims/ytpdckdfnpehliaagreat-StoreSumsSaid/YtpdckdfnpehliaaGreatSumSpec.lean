/- A byte that was turned is found by the sum: the plain law. -/
import Derived.Test.YtpdckdfnpehliaaGreatGramRSpec
import Derived.Test.YtpdckdfnpehliaaGreatCrcSpec
set_option linter.unusedVariables false
set_option linter.unusedSimpArgs false
namespace Go.Proofs.YtpdckdfnpehliaaGreat

theorem crcBit_inj {s t : Nat} (hs : s < 4294967296) (ht : t < 4294967296) (h : crcBit s = crcBit t) : s = t := by
  have hb : ∀ u : Nat, u < 4294967296 → (crcBit u).testBit 31 = decide (u % 2 = 1) := by
    intro u hu
    unfold crcBit
    have h2 : (u / 2).testBit 31 = false := Nat.testBit_lt_two_pow (by omega)
    split
    · next h1 => rw [Nat.testBit_xor, h2]; simp [h1]; decide
    · next h1 => rw [h2]; simp [h1]
  have h1 := hb s hs
  rw [h, hb t ht] at h1
  have h3 : (t % 2 = 1) ↔ (s % 2 = 1) := by simpa using h1
  unfold crcBit at h
  by_cases h4 : s % 2 = 1
  · rw [if_pos h4, if_pos (h3.2 h4)] at h
    have : s / 2 = t / 2 := by
      have := congrArg (· ^^^ 3988292384) h
      simpa [Nat.xor_assoc] using this
    have := h3.2 h4
    omega
  · rw [if_neg h4, if_neg (fun h5 => h4 (h3.1 h5))] at h
    have : ¬ t % 2 = 1 := fun h5 => h4 (h3.1 h5)
    omega
theorem crcBits_inj (k : Nat) : ∀ {s t : Nat}, s < 4294967296 → t < 4294967296 → crcBits k s = crcBits k t → s = t := by
  induction k with
  | zero => intro s t _ _ h; exact h
  | succ k ih => intro s t hs ht h; exact crcBit_inj hs ht (ih (crcBit_lt s hs) (crcBit_lt t ht) h)
theorem xor_right {a b c : Nat} (h : a ^^^ c = b ^^^ c) : a = b := by
  have := congrArg (· ^^^ c) h
  simpa [Nat.xor_assoc] using this
theorem xor_left {a b c : Nat} (h : c ^^^ a = c ^^^ b) : a = b := by
  rw [Nat.xor_comm c a, Nat.xor_comm c b] at h
  exact xor_right h
theorem crcStep_inj {s t : Nat} {c : Int} (hs : s < 4294967296) (ht : t < 4294967296) (hc : 0 ≤ c ∧ c < 256) (h : crcStep s c = crcStep t c) : s = t :=
  xor_right (crcBits_inj 8 (Nat.xor_lt_two_pow (n := 32) hs (by omega)) (Nat.xor_lt_two_pow (n := 32) ht (by omega)) h)
theorem crcStep_byte {s : Nat} {c d : Int} (hs : s < 4294967296) (hc : 0 ≤ c ∧ c < 256) (hd : 0 ≤ d ∧ d < 256) (h : crcStep s c = crcStep s d) : c = d := by
  have := xor_left (crcBits_inj 8 (Nat.xor_lt_two_pow (n := 32) hs (by omega)) (Nat.xor_lt_two_pow (n := 32) hs (by omega)) h)
  omega
theorem crcL_inj (bs : List Int) : ∀ {s t : Nat}, s < 4294967296 → t < 4294967296 → isB bs → crcL s bs = crcL t bs → s = t := by
  induction bs with
  | nil => intro s t _ _ _ h; exact h
  | cons c bs ih =>
    intro s t hs ht hB h
    have hc := hB c (by simp)
    exact crcStep_inj hs ht hc (ih (crcStep_lt s c hs hc) (crcStep_lt t c ht hc) (fun x hx => hB x (by simp [hx])) h)
theorem crcL_set (bs : List Int) : ∀ {s : Nat} {i : Nat} {c : Int} (hi : i < bs.length), s < 4294967296 → isB bs → 0 ≤ c ∧ c < 256 → crcL s (bs.set i c) = crcL s bs → bs[i] = c := by
  induction bs with
  | nil => intro s i c hi; simp at hi
  | cons d bs ih =>
    intro s i c hi hs hB hc h
    have hd := hB d (by simp)
    have hB2 : isB bs := fun x hx => hB x (by simp [hx])
    cases i with
    | zero =>
      have h2 : crcStep s c = crcStep s d := crcL_inj bs (crcStep_lt s c hs hc) (crcStep_lt s d hs hd) hB2 h
      exact (crcStep_byte hs hc hd h2).symm
    | succ i => exact ih (by simpa using hi) (crcStep_lt s d hs hd) hB2 hc h
theorem crcSum_set {bs : List Int} {i : Nat} {c : Int} (hi : i < bs.length) (hB : isB bs) (hc : 0 ≤ c ∧ c < 256) (hn : bs[i] ≠ c) : crcSum (bs.set i c) ≠ crcSum bs := by
  intro h
  have hB2 : isB (bs.set i c) := by
    intro x hx
    rcases List.mem_or_eq_of_mem_set hx with hx | rfl
    · exact hB x hx
    · exact hc
  have h1 := crcL_lt bs 4294967295 (by omega) hB
  have h2 := crcL_lt (bs.set i c) 4294967295 (by omega) hB2
  unfold crcSum at h
  exact hn (crcL_set (s := 4294967295) bs hi (by omega) hB hc (by omega))
theorem beNum_sum (s : Nat) : beNum (sumBytes s) = s := by
  unfold sumBytes
  rw [beNum4]
  omega
theorem sum_set {s j : Nat} {c : Int} (hj : j < 4) (hc : 0 ≤ c ∧ c < 256) (hn : (sumBytes s)[j]'(by simpa [sumBytes] using hj) ≠ c) : ¬ beNum ((sumBytes s).set j c) = s := by
  rcases (by omega : j = 0 ∨ j = 1 ∨ j = 2 ∨ j = 3) with rfl | rfl | rfl | rfl
  all_goals
    simp only [sumBytes, List.set_cons_zero, List.set_cons_succ, List.getElem_cons_zero, List.getElem_cons_succ] at hn ⊢
    rw [beNum4]
    omega
theorem flip_none {x : List Int} {i : Nat} {c : Int} (hx : isB x) (hi : i < (seal_ x).length) (hc : 0 ≤ c ∧ c < 256) (hn : (seal_ x)[i] ≠ c) : open_ ((seal_ x).set i c) = none := by
  have hs := crcSum_lt x
  unfold seal_ at hi hn ⊢
  have hl : (x ++ sumBytes (crcSum x)).length = x.length + 4 := by simp [sumBytes]
  unfold open_
  rw [List.length_set, hl, if_neg (by omega), show x.length + 4 - 4 = x.length by omega]
  by_cases h1 : i < x.length
  · rw [List.set_append_left i c h1]
    have hlx : (x.set i c).length = x.length := by simp
    have ht : (x.set i c ++ sumBytes (crcSum x)).take x.length = x.set i c := by rw [← hlx, List.take_left]
    have hd : (x.set i c ++ sumBytes (crcSum x)).drop x.length = sumBytes (crcSum x) := by rw [← hlx, List.drop_left]
    rw [ht, hd, if_neg]
    rw [List.getElem_append_left h1] at hn
    intro h
    have h2 : beNum (sumBytes (crcSum x)) = crcSum x := beNum_sum _
    rw [h2] at h
    exact crcSum_set h1 hx hc hn (by omega)
  · rw [List.set_append_right i c (by omega), List.take_left, List.drop_left, if_neg]
    rw [List.getElem_append_right (by omega)] at hn
    rw [hl] at hi
    exact sum_set (by omega) hc hn
theorem flip_read {g : Gram} {b : List Int} (hw : gramWrite g = .ok b) {x : List Int} (hb : gramBody g = .ok x) (hx : isB x) {i : Nat} {c : Int} (hi : i < b.length) (hc : 0 ≤ c ∧ c < 256) (hn : b[i] ≠ c) : open_ (b.set i c) = none ∧ (gramRead (b.set i c)).2 = 9 := by
  unfold gramWrite at hw
  rw [hb] at hw
  simp only at hw
  split at hw
  · cases hw
  · next h4 =>
    injection hw with hw
    subst hw
    have h1 := flip_none hx hi hc hn
    refine ⟨h1, ?_⟩
    unfold gramRead
    rw [if_neg (by simp [seal_, sumBytes]; omega), h1]
theorem read_nil : (gramRead []).2 = 9 := rfl

end Go.Proofs.YtpdckdfnpehliaaGreat
