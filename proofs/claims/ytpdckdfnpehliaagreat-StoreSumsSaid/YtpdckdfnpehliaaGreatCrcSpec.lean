/- Sums of bytes: the plain law. -/
import Derived.Test.YtpdckdfnpehliaaGreatVarSpec
set_option linter.unusedVariables false
set_option linter.unusedSimpArgs false
namespace Go.Proofs.YtpdckdfnpehliaaGreat

def crcBit (s : Nat) : Nat := if s % 2 = 1 then s / 2 ^^^ 3988292384 else s / 2
def crcBits : Nat → Nat → Nat
  | 0, s => s
  | k + 1, s => crcBits k (crcBit s)
def crcStep (s : Nat) (c : Int) : Nat := crcBits 8 (s ^^^ c.toNat)
def crcL (s : Nat) (bs : List Int) : Nat := bs.foldl crcStep s
/-- The sum of bytes. -/
def crcSum (bs : List Int) : Nat := 4294967295 - crcL 4294967295 bs
/-- A sum's bytes. -/
def sumBytes (s : Nat) : List Int := [(s / 16777216 : Nat), (s / 65536 % 256 : Nat), (s / 256 % 256 : Nat), (s % 256 : Nat)]
def seal_ (bs : List Int) : List Int := bs ++ sumBytes (crcSum bs)
/-- The number that bytes are, the first one the greatest. -/
def beNum (l : List Int) : Int := l.foldl (fun s c => s * 256 + c) 0
def open_ (b : List Int) : Option (List Int) :=
  if b.length < 4 then none else if beNum (b.drop (b.length - 4)) = crcSum (b.take (b.length - 4)) then some (b.take (b.length - 4)) else none

theorem crcBit_lt (s : Nat) (h : s < 4294967296) : crcBit s < 4294967296 := by
  unfold crcBit
  split
  · exact Nat.xor_lt_two_pow (n := 32) (by omega) (by omega)
  · omega
theorem crcBits_lt (k : Nat) : ∀ s : Nat, s < 4294967296 → crcBits k s < 4294967296 := by
  induction k with
  | zero => intro s h; exact h
  | succ k ih => intro s h; exact ih _ (crcBit_lt s h)
theorem crcBits_succ (k : Nat) : ∀ s : Nat, crcBits (k + 1) s = crcBit (crcBits k s) := by
  induction k with
  | zero => intro s; rfl
  | succ k ih => intro s; show crcBits (k + 1) (crcBit s) = _; rw [ih]; rfl
theorem crcStep_lt (s : Nat) (c : Int) (h : s < 4294967296) (hc : 0 ≤ c ∧ c < 256) : crcStep s c < 4294967296 := crcBits_lt 8 _ (Nat.xor_lt_two_pow (n := 32) (by omega) (by omega))
theorem crcL_lt (bs : List Int) : ∀ s : Nat, s < 4294967296 → isB bs → crcL s bs < 4294967296 := by
  induction bs with
  | nil => intro s h _; exact h
  | cons c bs ih => intro s h hB; exact ih _ (crcStep_lt s c h (hB c (by simp))) (fun x hx => hB x (by simp [hx]))
theorem crcL_snoc (s : Nat) (bs : List Int) (c : Int) : crcL s (bs ++ [c]) = crcStep (crcL s bs) c := by simp [crcL]
theorem crcSum_lt (bs : List Int) : crcSum bs < 4294967296 := by unfold crcSum; omega
theorem sumBytes_isB (s : Nat) (h : s < 4294967296) : isB (sumBytes s) := by
  intro c hc
  simp [sumBytes] at hc
  omega
theorem seal_isB (bs : List Int) (h : isB bs) : isB (seal_ bs) := h.append (sumBytes_isB _ (crcSum_lt bs))
theorem beNum_snoc (l : List Int) (c : Int) : beNum (l ++ [c]) = beNum l * 256 + c := by simp [beNum]
theorem beNum4 (a b c d : Int) : beNum [a, b, c, d] = ((a * 256 + b) * 256 + c) * 256 + d := by simp [beNum]
theorem open_seal (bs : List Int) : open_ (seal_ bs) = some bs := by
  unfold open_ seal_
  have hl : (bs ++ sumBytes (crcSum bs)).length = bs.length + 4 := by simp [sumBytes]
  rw [hl, if_neg (by omega)]
  have e : bs.length + 4 - 4 = bs.length := by omega
  rw [e, List.take_left, List.drop_left]
  have := crcSum_lt bs
  rw [if_pos]
  unfold sumBytes
  rw [beNum4]
  omega
theorem open_isB {b x : List Int} (hb : isB b) (h : open_ b = some x) : isB x := by
  unfold open_ at h
  split at h
  · cases h
  · split at h
    · injection h with h; subst h; exact hb.take _
    · cases h
end Go.Proofs.YtpdckdfnpehliaaGreat
