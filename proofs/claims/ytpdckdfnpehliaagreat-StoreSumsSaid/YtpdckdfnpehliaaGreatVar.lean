/- Walks of layer 5: varint. -/
import Derived.Test.YtpdckdfnpehliaaGreatProg
import Derived.Test.YtpdckdfnpehliaaGreatLib
import Derived.Test.YtpdckdfnpehliaaGreatVarSpec
set_option linter.unusedVariables false
set_option linter.unusedSimpArgs false

namespace Go.Proofs.YtpdckdfnpehliaaGreat
open Go Go.RowKit Go.Deep
set_option maxHeartbeats 400000

theorem xor_ones (k : IntKind) (hk : k.signed = false) (a : Int) (h0 : 0 ≤ a) (h1 : a < 2 ^ k.bits) : bits .xor k a (2 ^ k.bits - 1) = 2 ^ k.bits - 1 - a := by
  obtain ⟨n, rfl⟩ := Int.eq_ofNat_of_zero_le h0
  have hn : n < 2 ^ k.bits := by exact_mod_cast h1
  have e1 : (BitVec.ofInt k.bits (n : Int)) = BitVec.ofNat k.bits n := by simp
  have e2 : (BitVec.ofInt k.bits (2 ^ k.bits - 1)) = BitVec.allOnes k.bits := by
    apply BitVec.eq_of_toInt_eq
    cases k <;> decide
  have e3 : (BitVec.ofNat k.bits n ^^^ BitVec.allOnes k.bits).toNat = 2 ^ k.bits - 1 - n := by
    rw [BitVec.xor_allOnes, BitVec.toNat_not, BitVec.toNat_ofNat, Nat.mod_eq_of_lt hn]
  have e4 : bits .xor k (n : Int) (2 ^ k.bits - 1) = k.wrap ((2 ^ k.bits - 1 - n : Nat) : Int) := by
    show k.wrap ((BitVec.ofInt k.bits (n : Int) ^^^ BitVec.ofInt k.bits (2 ^ k.bits - 1)).toNat : Int) = _
    rw [e1, e2, e3]
  rw [e4]
  cases k <;> simp [IntKind.signed] at hk <;> simp [IntKind.wrap, IntKind.bits, IntKind.signed] at * <;> omega

theorem i64_xor_sign (a : Int) (h0 : 0 ≤ a) (h1 : a ≤ 9223372036854775807) : bits .xor .i64 a 0 = a ∧ bits .xor .i64 a (-1) = -a - 1 := by
  obtain ⟨n, rfl⟩ := Int.eq_ofNat_of_zero_le h0
  have e1 : (BitVec.ofInt 64 (n : Int)) = BitVec.ofNat 64 n := by simp
  constructor
  · show IntKind.i64.wrap ((BitVec.ofInt 64 (n : Int) ^^^ BitVec.ofInt 64 0).toNat : Int) = _
    rw [e1]
    simp [IntKind.wrap_i64]
    omega
  · have e2 : (BitVec.ofInt 64 (-1)) = BitVec.allOnes 64 := by decide
    show IntKind.i64.wrap ((BitVec.ofInt 64 (n : Int) ^^^ BitVec.ofInt 64 (-1)).toNat : Int) = _
    rw [e1, e2, BitVec.xor_allOnes, BitVec.toNat_not, BitVec.toNat_ofNat, Nat.mod_eq_of_lt (by omega), IntKind.wrap_i64]
    omega

theorem zig_any (x : Int) (w : World) (h1 : -9223372036854775808 ≤ x) (h2 : x ≤ 9223372036854775807) :
    Calls Tryz.prog 84 #[.int .i64 x] w fun e w' => e = .returned (.int .u64 (zig x)) ∧ w = w' := by
  have hz : bits BinOp.xor IntKind.u64 (IntKind.u64.wrap (wrap64 (x * 2))) (IntKind.u64.wrap (x / 9223372036854775808)) = zig x := by
    rw [IntKind.wrap_u64, IntKind.wrap_u64]
    unfold zig wrap64
    split
    · have e : x / 9223372036854775808 % 18446744073709551616 = ((0 : Nat) : Int) := by omega
      have e2 : ((x * 2 + 9223372036854775808) % 18446744073709551616 - 9223372036854775808) % 18446744073709551616 = ((2 * x).toNat : Int) := by omega
      rw [e, e2, bits_xor_u64_nat _ _ (by omega) (by omega)]
      simp; omega
    · have e : x / 9223372036854775808 % 18446744073709551616 = 2 ^ (IntKind.u64).bits - 1 := by simp [IntKind.bits]; omega
      rw [e, xor_ones .u64 rfl _ (by omega) (by simp [IntKind.bits]; omega)]
      simp [IntKind.bits]; omega
  go_enter Tryz.func84, Tryz.ntmps84
  go_wp2
  go_ret
  exact ⟨by simp [hz], rfl⟩

theorem zag_any (x : Int) (w : World) (h1 : 0 ≤ x) (h2 : x ≤ 18446744073709551615) :
    Calls Tryz.prog 104 #[.int .u64 x] w fun e w' => e = .returned (.int .i64 (zag x)) ∧ w = w' := by
  have ha : bits BinOp.and IntKind.u64 x 1 = x % 2 := and_one_u64 x h1 h2
  have hz : bits BinOp.xor IntKind.i64 (x / 2) (-(x % 2)) = zag x := by
    unfold zag
    have hx := i64_xor_sign (x / 2) (by omega) (by omega)
    rcases Int.emod_two_eq x with h | h
    · rw [h]; simpa using hx.1
    · rw [h, if_neg (by omega)]; have := hx.2; omega
  have hr : 0 ≤ x % 2 ∧ x % 2 ≤ 1 := by omega
  obtain ⟨hr1, hr2⟩ := hr
  go_enter Tryz.func104, Tryz.ntmps104
  go_wp2
  go_ret
  exact ⟨rfl, rfl⟩

/-- How many bits a number has: told by powers. -/
def IsLen (x n : Int) : Prop := 0 ≤ n ∧ n ≤ 64 ∧ x < 2 ^ n.toNat ∧ (0 < n → 2 ^ (n.toNat - 1) ≤ x)
def TabOK (i n : Nat) : Bool := if i = 0 then n == 0 else decide (1 ≤ n) && decide (n ≤ 8) && decide (2 ^ (n - 1) ≤ i) && decide (i < 2 ^ n)
theorem len_close (T : ByteArray) (hT : ∀ i, i < 256 → TabOK i (T.data.toList.getD i 0).toNat = true) (x b : Int) (j : Nat) (h0 : 0 ≤ b) (h1 : b < 256) (hj : j ≤ 56) (hx : x / 2 ^ j = b) (hlo : b = 0 → j = 0) (h : b.toNat < T.size) :
    ∃ m : Int, (T[b.toNat]'h).toNat = m ∧ 0 ≤ m ∧ m ≤ 8 ∧ IsLen x (j + m) := by
  refine ⟨_, rfl, by omega, ?_⟩
  have e : (T.data.toList.getD b.toNat 0) = (T[b.toNat]'h) := by
    have : b.toNat < T.data.toList.length := by simpa using h
    rw [List.getD_eq_getElem?_getD, List.getElem?_eq_getElem this]
    simp; rfl
  have ht := hT b.toNat (by omega)
  rw [e] at ht
  generalize (T[b.toNat]'h).toNat = n at ht ⊢
  unfold TabOK at ht
  have hp : (0 : Int) < 2 ^ j := Int.pow_pos (by omega)
  split at ht
  · rename_i hz
    have hb : b = 0 := by omega
    obtain rfl := hlo hb
    have hn : n = 0 := by simpa using ht
    subst hn
    refine ⟨by omega, ?_⟩
    unfold IsLen
    refine ⟨by omega, by omega, ?_, by omega⟩
    simp at hx ⊢
    omega
  · rename_i hz
    simp only [Bool.and_eq_true, decide_eq_true_eq] at ht
    obtain ⟨⟨⟨h2, h3⟩, h4⟩, h5⟩ := ht
    refine ⟨by omega, ?_⟩
    have h4' : (2 : Int) ^ (n - 1) ≤ b := by have : ((2 ^ (n - 1) : Nat) : Int) ≤ (b.toNat : Int) := by exact_mod_cast h4
                                             rw [Int.toNat_of_nonneg h0] at this; simpa using this
    have h5' : b < (2 : Int) ^ n := by have : (b.toNat : Int) < ((2 ^ n : Nat) : Int) := by exact_mod_cast h5
                                       rw [Int.toNat_of_nonneg h0] at this; simpa using this
    unfold IsLen
    have ea : ((j : Int) + (n : Int)).toNat = j + n := by omega
    rw [ea]
    refine ⟨by omega, by omega, ?_, fun _ => ?_⟩
    · rw [Int.pow_add]
      have : x / 2 ^ j < 2 ^ n := by rw [hx]; exact h5'
      rw [Int.mul_comm]
      exact (Int.ediv_lt_iff_lt_mul hp).1 this
    · have e2 : j + n - 1 = j + (n - 1) := by omega
      rw [e2, Int.pow_add]
      have : 2 ^ (n - 1) ≤ x / 2 ^ j := by rw [hx]; exact h4'
      rw [Int.mul_comm]
      exact (Int.le_ediv_iff_mul_le hp).1 this


theorem len_fin (T : ByteArray) (x b : Int) (j : Nat) (J : Int) (w : World) (h : b.toNat < T.size) (hJ : J = (j : Int)) (h0 : 0 ≤ b) (h1 : b < 256) (hj : j ≤ 56) (hx : x / 2 ^ j = b) (hlo : b = 0 → j = 0)
    (hT : ∀ i, i < 256 → TabOK i (T.data.toList.getD i 0).toNat = true) :
    ∃ n, Ending.returned (.int .i64 (wrap64 (J + wrap64 ↑(T[b.toNat]'h).toNat))) = .returned (.int .i64 n) ∧ IsLen x n ∧ w = w := by
  obtain ⟨m, hm, hm0, hm8, hl⟩ := len_close T hT x b j h0 h1 hj hx hlo h
  exact ⟨_, by rw [hm, hJ, wrap64_id (n := m) (by omega) (by omega), wrap64_id (by omega) (by omega)], hl, rfl⟩
theorem len_fin0 (T : ByteArray) (x : Int) (w : World) (h : x.toNat < T.size) (h0 : 0 ≤ x) (h1 : x < 256)
    (hT : ∀ i, i < 256 → TabOK i (T.data.toList.getD i 0).toNat = true) :
    ∃ n, Ending.returned (.int .i64 (wrap64 (wrap64 ↑(T[x.toNat]'h).toNat))) = .returned (.int .i64 n) ∧ IsLen x n ∧ w = w := by
  obtain ⟨m, hm, hm0, hm8, hl⟩ := len_close T hT x x 0 h0 h1 (by omega) (by simp) (fun _ => rfl) h
  exact ⟨_, by rw [hm, wrap64_id (n := m) (by omega) (by omega), wrap64_id (by omega) (by omega)], by simpa using hl, rfl⟩

set_option maxRecDepth 100000 in
theorem len64_any (x : Int) (w : World) (h1 : 0 ≤ x) (h2 : x ≤ 18446744073709551615) :
    Calls Tryz.prog 139 #[.int .u64 x] w fun e w' => ∃ n, e = .returned (.int .i64 n) ∧ IsLen x n ∧ w = w' := by
  go_enter Tryz.func139, Tryz.ntmps139
  go_wp2
  all_goals go_ret
  all_goals first
    | exact len_fin _ x _ 56 56 w _ rfl (by omega) (by omega) (by omega) (by omega) (by omega) (by decide +kernel)
    | exact len_fin _ x _ 48 48 w _ rfl (by omega) (by omega) (by omega) (by omega) (by omega) (by decide +kernel)
    | exact len_fin _ x _ 40 40 w _ rfl (by omega) (by omega) (by omega) (by omega) (by omega) (by decide +kernel)
    | exact len_fin _ x _ 32 32 w _ rfl (by omega) (by omega) (by omega) (by omega) (by omega) (by decide +kernel)
    | exact len_fin _ x _ 24 24 w _ rfl (by omega) (by omega) (by omega) (by omega) (by omega) (by decide +kernel)
    | exact len_fin _ x _ 16 16 w _ rfl (by omega) (by omega) (by omega) (by omega) (by omega) (by decide +kernel)
    | exact len_fin _ x _ 8 8 w _ rfl (by omega) (by omega) (by omega) (by omega) (by omega) (by decide +kernel)
    | (refine len_fin0 _ x w _ ?_ ?_ ?_ <;> first | omega | decide +kernel)

theorem le_mul_pos (a b : Int) (h : 0 < a) (h2 : 0 < b) : a ≤ a * b := by
  have := Int.mul_le_mul_of_nonneg_left (show (1 : Int) ≤ b by omega) (show 0 ≤ a by omega)
  omega
/-- A varint's size, and how long its bytes are. -/
theorem size_eq (x n : Int) (h0 : 0 ≤ x) (h1 : x ≤ 18446744073709551615) (h : IsLen x n) : (max 1 n + 6) / 7 = ((put x).length : Int) := by
  obtain ⟨a, b, c, d⟩ := h
  have hx : x < 128 ^ 10 := by omega
  have hp := put_pos x
  have hl := put_len x
  have key : ∀ j : Nat, j < 10 → ((put x).length ≤ j + 1 ↔ x < 128 ^ (j + 1)) := fun j hj => putF_len_iff 10 x j h0 hj hx
  have up : ∀ j : Nat, j < 10 → n ≤ 7 * (j + 1) → (put x).length ≤ j + 1 := fun j hj hn => (key j hj).2 (by
    have : (2 : Int) ^ n.toNat ≤ 2 ^ (7 * (j + 1)) := by
      have e : 7 * (j + 1) = n.toNat + (7 * (j + 1) - n.toNat) := by omega
      rw [e, Int.pow_add]
      have h2 : (0 : Int) < 2 ^ n.toNat := Int.pow_pos (by omega)
      have h3 : (0 : Int) < 2 ^ (7 * (j + 1) - n.toNat) := Int.pow_pos (by omega)
      exact le_mul_pos _ _ (by omega) (by omega)
    rw [Int.pow_mul] at this
    have e7 : (2 : Int) ^ 7 = 128 := by decide
    rw [e7] at this
    omega)
  have dn : ∀ j : Nat, j < 10 → 7 * (j + 1) < n → ¬ (put x).length ≤ j + 1 := fun j hj hn hc => by
    have h2 := (key j hj).1 hc
    have h3 := d (by omega)
    have : (2 : Int) ^ (7 * (j + 1)) ≤ 2 ^ (n.toNat - 1) := by
      have e : n.toNat - 1 = 7 * (j + 1) + (n.toNat - 1 - 7 * (j + 1)) := by omega
      rw [e, Int.pow_add]
      have h2 : (0 : Int) < 2 ^ (7 * (j + 1)) := Int.pow_pos (by omega)
      have h3 : (0 : Int) < 2 ^ (n.toNat - 1 - 7 * (j + 1)) := Int.pow_pos (by omega)
      exact le_mul_pos _ _ (by omega) (by omega)
    rw [Int.pow_mul] at this
    have e7 : (2 : Int) ^ 7 = 128 := by decide
    rw [e7] at this
    omega
  generalize (put x).length = L at *
  obtain ⟨q, hq⟩ : ∃ q : Nat, (q : Int) = (max 1 n + 6) / 7 := ⟨((max 1 n + 6) / 7).toNat, by omega⟩
  rw [← hq]
  have hq1 : 1 ≤ q ∧ q ≤ 10 := by omega
  have h1 := up (q - 1) (by omega) (by omega)
  by_cases hq2 : q = 1
  · omega
  · have h2 := dn (q - 2) (by omega) (by omega)
    omega

theorem size_any (x : Int) (w : World) (h1 : 0 ≤ x) (h2 : x ≤ 18446744073709551615) :
    Calls Tryz.prog 113 #[.int .u64 x] w fun e w' => e = .returned (.int .i64 ((put x).length : Int)) ∧ w = w' := by
  go_enter Tryz.func113, Tryz.ntmps113
  go_wp2_with (go_at_call 139; refine (len64_any _ _ h1 h2).mono ?_; rintro e w' ⟨n, rfl, hn, rfl⟩; have hs := size_eq x n h1 h2 hn; obtain ⟨a, b, _, _⟩ := hn)
  all_goals
    go_ret
    exact ⟨ret_int (by omega), rfl⟩

theorem u8_or_128 : ∀ a : Nat, a < 256 → a ||| 128 = a % 128 + 128 := by decide +kernel
theorem u8_andnot_128 : ∀ a : Nat, a < 256 → a &&& (255 - 128) = a % 128 := by decide +kernel
/-- Put's block behind i rounds. -/
def putRow (x : Int) (m i : Nat) : List Value := (List.range m).map fun j => .int .u8 (if j < i then x / 128 ^ j % 128 + 128 else 0)
theorem putRow_zero (x : Int) (m : Nat) : madeCells #[.int .u8 0] m = (putRow x m 0).toArray := by
  apply Array.ext
  · simp [madeCells, putRow]
  · intro i h1 h2
    simp [madeCells, putRow, Nat.mod_one]
theorem putRow_set (x : Int) (m i : Nat) : (putRow x m i).set i (.int .u8 (x / 128 ^ i % 128 + 128)) = putRow x m (i + 1) := by
  apply List.ext_getElem
  · simp [putRow]
  · intro j h1 h2
    simp only [putRow, List.getElem_set, List.getElem_map, List.getElem_range]
    split
    · rename_i h; subst h; simp
    · rename_i h
      have e : (j < i + 1) ↔ j < i := by omega
      simp [e]
theorem put_byte (x : Int) (i : Nat) (hx : 0 ≤ x) : bits BinOp.or IntKind.u8 (x / 2 ^ (7 * i) % 256) 128 = x / 128 ^ i % 128 + 128 := by
  have e2 : (2 : Int) ^ (7 * i) = 128 ^ i := by rw [Int.pow_mul]; rfl
  rw [e2, u8_or _ _ (by omega) (by omega) (by omega) (by omega)]
  have := u8_or_128 (x / 128 ^ i % 256).toNat (by omega)
  simp only [show (128 : Int).toNat = 128 from rfl]
  rw [this]
  omega
theorem putRow_last (x : Int) (h0 : 0 ≤ x) (h2 : x ≤ 18446744073709551615) (m : Nat) (hm : m = (put x).length) :
    (putRow x m m).set (m - 1) (.int .u8 (bits BinOp.andNot IntKind.u8 (x / 128 ^ (m - 1) % 128 + 128) 128)) = nums .u8 (put x) := by
  have hp := put_pos x
  rw [u8_andNot _ _ (by omega) (by omega) (by omega) (by omega)]
  have := u8_andnot_128 (x / 128 ^ (m - 1) % 128 + 128).toNat (by omega)
  simp only [show (128 : Int).toNat = 128 from rfl]
  rw [this]
  apply List.ext_getElem
  · simp [putRow, nums, hm]
  · intro j h1 h3
    have hj : j < (put x).length := by simpa [nums] using h3
    simp only [putRow, nums, List.getElem_set, List.getElem_map, List.getElem_range]
    have hb := putF_get 10 x j hj h0
    rcases hb with hb | hb
    · have hb' : (put x)[j] = x / 128 ^ j % 128 + (if j + 1 = (put x).length then 0 else 128) := hb
      rw [hb']
      split
      · rename_i h; subst h
        rw [if_pos (by omega)]
        congr 1
        omega
      · rename_i h
        rw [if_pos (by omega), if_neg (by omega)]
    · exfalso; omega

theorem put_any (x : Int) (w : World) (h1 : 0 ≤ x) (h2 : x ≤ 18446744073709551615) :
    Calls Tryz.prog 85 #[.int .u64 x] w fun e w' =>
      e = .returned (.slice (some ⟨w.heap.size, 0, none⟩) (put x).length (put x).length) ∧ w' = w.alloc (.cells (nums .u8 (put x)).toArray 5) := by
  have hp := put_pos x
  have hl := put_len x
  obtain ⟨m, hm⟩ : ∃ m, m = (put x).length := ⟨_, rfl⟩
  have HM : Hid (m = (put x).length) := hm
  have hmk : ∀ W : World, (Instr.makeSlice 30 (.int .i64 (m : Int)) (.int .i64 (m : Int))).run Tryz.prog W = .ok (.slice (some ⟨W.heap.size, 0, none⟩) m m) (W.alloc (.cells (putRow x m 0).toArray 5)) := fun W => by
    rw [← putRow_zero]
    exact run_make_row' 30 5 (.int .u8 0) 1 (by kernel_rfl) (by kernel_rfl) rfl .i64 .i64 m (by omega) (by omega) W
  rw [← hm] at hp hl ⊢
  have HL : Hid (_) := putRow_last x h1 h2 m hm
  clear hm
  go_enter Tryz.func85, Tryz.ntmps85
  go_wp2_with (go_at_call 113; refine (size_any _ _ h1 h2).mono ?_; rintro e w' ⟨rfl, rfl⟩; rw [← HM.out])
  go_loopw [10] (fun t wr => ∃ i : Nat, i ≤ m ∧ t = .int .i64 i ∧ wr = w.alloc (.cells (putRow x m i).toArray 5)) (fun t _ => m - (intOf t).toNat)
  case atStart => exact ⟨0, Nat.zero_le _, rfl, rfl⟩
  case round =>
    obtain ⟨i, hi, rfl, rfl⟩ := hrel
    by_cases hlt : i < m
    · have hb := put_byte x i h1
      have hg : (putRow x m i)[i]? = some (.int .u8 0) := by simp [putRow, hlt]
      have hset := putRow_set x m i
      go_wp2
      go_roundw
      case rel => exact ⟨i + 1, by omega, by go_num, rfl⟩
      case measure => simp [intOf]; omega
    · have hmi : i = m := by omega
      subst hmi
      have hg : (putRow x i i)[i - 1]? = some (.int .u8 (x / 128 ^ (i - 1) % 128 + 128)) := by
        have : i - 1 < i := by omega
        simp [putRow, this]
      go_wp2
      go_ret
      exact ⟨rfl, by rw [← HL.out]⟩

end Go.Proofs.YtpdckdfnpehliaaGreat
