/- Walk of layer 5: varint.Get. -/
import Derived.Test.YtpdckdfnpehliaaGreatVar
set_option linter.unusedVariables false
set_option linter.unusedSimpArgs false

namespace Go.Proofs.YtpdckdfnpehliaaGreat
open Go Go.RowKit Go.Deep
set_option maxHeartbeats 400000

theorem u8_andnot (c : Int) (h0 : 0 ≤ c) (h1 : c < 256) : bits BinOp.andNot IntKind.u8 c 128 = c % 128 := by
  rw [u8_andNot _ _ h0 h1 (by omega) (by omega)]
  have := u8_andnot_128 c.toNat (by omega)
  simp only [show (128 : Int).toNat = 128 from rfl]
  rw [this]; omega

theorem pow7 (i : Nat) : (2 : Int) ^ (7 * i) = 128 ^ i := by rw [Int.pow_mul]; rfl
theorem part_div (c : Int) (i : Nat) (hi : i ≤ 9) : c * 128 ^ i % 18446744073709551616 = 128 ^ i * (c % (18446744073709551616 / 128 ^ i)) ∧ (18446744073709551616 : Int) / 128 ^ i * 128 ^ i = 18446744073709551616 ∧ (0 : Int) < 128 ^ i := by
  have e : (18446744073709551616 : Int) / 128 ^ i * 128 ^ i = 18446744073709551616 ∧ (0 : Int) < 128 ^ i := by
    obtain rfl | rfl | rfl | rfl | rfl | rfl | rfl | rfl | rfl | rfl : i = 0 ∨ i = 1 ∨ i = 2 ∨ i = 3 ∨ i = 4 ∨ i = 5 ∨ i = 6 ∨ i = 7 ∨ i = 8 ∨ i = 9 := by omega
    all_goals decide
  refine ⟨?_, e⟩
  generalize (18446744073709551616 : Int) / 128 ^ i = d at *
  rw [← e.1, Int.mul_comm c, Int.mul_comm d, Int.mul_emod_mul_of_pos _ _ e.2]
theorem or_part (acc c : Int) (i : Nat) (hi : i ≤ 9) (h0 : 0 ≤ acc) (h1 : acc < 128 ^ i) :
    bits BinOp.or IntKind.u64 acc (c * 128 ^ i % 18446744073709551616) = acc + c * 128 ^ i % 18446744073709551616 := by
  obtain ⟨e1, e2, e3⟩ := part_div c i hi
  have hd : (0 : Int) < 18446744073709551616 / 128 ^ i := by
    obtain rfl | rfl | rfl | rfl | rfl | rfl | rfl | rfl | rfl | rfl : i = 0 ∨ i = 1 ∨ i = 2 ∨ i = 3 ∨ i = 4 ∨ i = 5 ∨ i = 6 ∨ i = 7 ∨ i = 8 ∨ i = 9 := by omega
    all_goals decide
  have hr0 : 0 ≤ c * 128 ^ i % 18446744073709551616 := Int.emod_nonneg _ (by omega)
  have hr1 : c * 128 ^ i % 18446744073709551616 < 18446744073709551616 := Int.emod_lt_of_pos _ (by omega)
  have hle : (128 : Int) ^ i ≤ 18446744073709551616 := by
    obtain rfl | rfl | rfl | rfl | rfl | rfl | rfl | rfl | rfl | rfl : i = 0 ∨ i = 1 ∨ i = 2 ∨ i = 3 ∨ i = 4 ∨ i = 5 ∨ i = 6 ∨ i = 7 ∨ i = 8 ∨ i = 9 := by omega
    all_goals decide
  rw [u64_or _ _ h0 (by omega) hr0 hr1]
  have hq0 : 0 ≤ c % (18446744073709551616 / 128 ^ i) := Int.emod_nonneg _ (by omega)
  obtain ⟨q, hq⟩ := Int.eq_ofNat_of_zero_le hq0
  obtain ⟨a, rfl⟩ := Int.eq_ofNat_of_zero_le h0
  have e4 : c * 128 ^ i % 18446744073709551616 = ((2 ^ (7 * i) * q : Nat) : Int) := by rw [e1, hq, ← pow7]; simp
  rw [e4]
  have ha : a < 2 ^ (7 * i) := by rw [← pow7] at h1; exact_mod_cast h1
  have := Nat.two_pow_add_eq_or_of_lt ha q
  rw [Int.toNat_natCast, Int.toNat_natCast, Nat.or_comm, ← this]
  simp; omega
/-- One round of a get. -/
theorem getF_step (bs : List Int) (i : Nat) (hi : i < bs.length) (h10 : i < 10) (m acc : Int) :
    getF (10 - i) i m acc (bs.drop i) =
      if bs[i] ≥ 128 then getF (10 - (i + 1)) (i + 1) (m * 128) (acc + (bs[i] - 128) * m) (bs.drop (i + 1))
      else if bs[i] * m ≥ two64 then (0, 0, 8) else if bs[i] = 0 ∧ 0 < i then (0, 0, 7) else (acc + bs[i] * m, (i : Int) + 1, 0) := by
  have e : 10 - i = (10 - (i + 1)) + 1 := by omega
  rw [e, List.drop_eq_getElem_cons hi, getF]
theorem getF_zero (i : Nat) (m acc : Int) (l : List Int) : getF 0 i m acc l = (0, 0, 8) := by rw [getF]
/-- The accumulator does not matter where no round is left. -/
theorem getF_acc (i : Nat) (m a b : Int) (l : List Int) (h : i < 10 → a = b) : getF (10 - i) i m a l = getF (10 - i) i m b l := by
  by_cases h1 : i < 10
  · rw [h h1]
  · have : 10 - i = 0 := by omega
    rw [this, getF_zero, getF_zero]

theorem get_any (bs : List Int) (v : Value) (w : World) (F : Nat → Prop) (h : Sl Ty.byte w F v bs) (hB : isB bs) :
    Calls Tryz.prog 103 #[v] w fun e w' => e = .returned (.tuple #[.int .u64 (get bs).1, .int .i64 (get bs).2.1, .int .i64 (get bs).2.2]) ∧ w = w' := by
  obtain ⟨A, cap, rfl, h1, h2, h3, h4⟩ := h.int
  by_cases h0 : bs.length = 0
  · have hb : bs = [] := List.eq_nil_of_length_eq_zero h0
    subst hb
    go_enter Tryz.func103, Tryz.ntmps103
    go_wp2
    go_ret3
    exact ⟨rfl, rfl⟩
  · obtain ⟨b, off, rfl, _, _, hc⟩ := h4 (by omega)
    have hne : bs ≠ [] := by intro e; subst e; simp at h0
    have HG : Hid (get bs = getF 10 0 1 0 bs) := by show get bs = _; unfold get; rw [if_neg hne]
    obtain ⟨n, hn⟩ : ∃ n, n = bs.length := ⟨_, rfl⟩
    have HN : Hid (n = bs.length) := hn
    rw [← hn] at h0 h1 h3 ⊢
    have hpos : 0 < n := by omega
    have hz : ((n : Int) == 0) = false := by simpa using h0
    rw [HG.out]
    obtain ⟨m, hm⟩ : ∃ m : Nat, m = min n 10 := ⟨_, rfl⟩
    have hm1 : m ≤ n := by omega
    have hm2 : m ≤ 10 := by omega
    have hm3 : (if (10 : Int) < (n : Int) then (10 : Int) else (n : Int)) = (m : Int) := by split <;> omega
    have hm4 : m < 10 → m = n := by omega
    clear hm h4 h hn
    generalize hG : getF 10 0 1 0 bs = G
    have HG2 : Hid (getF 10 0 1 0 bs = G) := hG
    clear hG
    go_enter Tryz.func103, Tryz.ntmps103
    go_wp2
    go_loop [5, 15] (fun x t => ∃ (i : Nat) (acc : Int), i ≤ m ∧ t = .int .i64 i ∧ x = .int .u64 acc ∧ (i < 10 → 0 ≤ acc ∧ acc < 128 ^ i) ∧ Hid (getF (10 - i) i (128 ^ i) acc (bs.drop i) = G)) (fun _ t => m - (intOf t).toNat)
    case atStart => exact ⟨0, 0, Nat.zero_le _, rfl, rfl, fun _ => by simp, HG2⟩
    case round =>
      obtain ⟨i, acc, hi, rfl, rfl, hacc, HR⟩ := hrel
      by_cases hlt : i < m
      · have hib : i < bs.length := by rw [← HN.out]; omega
        have hci := hc i hib
        have hst := getF_step bs i hib (by omega) (128 ^ i) acc
        have hcB := hB bs[i] (List.getElem_mem hib)
        obtain ⟨ha0, ha1⟩ := hacc (by omega)
        clear hacc hc
        rw [HR.out] at hst
        generalize bs[i] = c at *
        have hpw := pow7 i
        have hand := u8_andnot c hcB.1 hcB.2
        have hor := or_part acc (c % 128) i (by omega) ha0 ha1
        obtain ⟨e1, e2, e3⟩ := part_div (c % 128) i (by omega)
        have hdvd : (128 ^ i * (c % 128 % (18446744073709551616 / 128 ^ i))) / 128 ^ i = c % 128 % (18446744073709551616 / 128 ^ i) := Int.mul_ediv_cancel_left _ (by omega)
        generalize hd : (18446744073709551616 : Int) / 128 ^ i = d at *
        obtain ⟨p, hp⟩ : ∃ p, p = c % 128 * 128 ^ i % 18446744073709551616 := ⟨_, rfl⟩
        rw [← hp] at hor e1
        rw [← e1] at hdvd
        generalize hM : (128 : Int) ^ i = M at *
        have hp0 : 0 ≤ p := by rw [hp]; exact Int.emod_nonneg _ (by omega)
        have hp1 : p < 18446744073709551616 := by rw [hp]; exact Int.emod_lt_of_pos _ (by omega)
        have HP : Hid (p = c % 128 * M % 18446744073709551616) := hp
        have HS : Hid (_) := hst
        have H1 : Hid (_) := e1
        have H2 : Hid (d * M = 18446744073709551616) := e2
        have HM : Hid (128 ^ i = M) := hM
        have HD : Hid (18446744073709551616 / 128 ^ i = d) := by show _ = _; rw [hM]; exact hd
        have hp2 : IntKind.u64.wrap (c % 128 * M) = p := by rw [IntKind.wrap_u64]; exact hp.symm
        clear hst hp e1 e2 hd hM
        have hbig : i < 9 → 128 ≤ d := fun h9 => by
          rw [← HD.out]
          obtain rfl | rfl | rfl | rfl | rfl | rfl | rfl | rfl | rfl : i = 0 ∨ i = 1 ∨ i = 2 ∨ i = 3 ∨ i = 4 ∨ i = 5 ∨ i = 6 ∨ i = 7 ∨ i = 8 := by omega
          all_goals decide
        by_cases hc1 : 128 ≤ c
        · have HF : Hid ((∃ i_1 acc_1, i_1 ≤ m ∧ Value.int IntKind.i64 (↑i + 1) = Value.int IntKind.i64 ↑i_1 ∧ Value.int IntKind.u64 (acc + p) = Value.int IntKind.u64 acc_1 ∧
              (i_1 < 10 → 0 ≤ acc_1 ∧ acc_1 < 128 ^ i_1) ∧ Hid (getF (10 - i_1) i_1 (128 ^ i_1) acc_1 (List.drop i_1 bs) = G))) := by
            have hpc : i + 1 < 10 → p = (c - 128) * M := fun h9 => by
              have hd := hbig (by omega)
              rw [H1.out, Int.emod_eq_of_lt (by omega) (by omega), Int.mul_comm]
              congr 1; omega
            refine ⟨i + 1, acc + p, by omega, by go_num, rfl, fun h9 => ⟨by omega, ?_⟩, ?_⟩
            · rw [hpc h9, Int.pow_succ, HM.out]
              have : (c - 128) * M ≤ 127 * M := Int.mul_le_mul_of_nonneg_right (by omega) (by omega)
              omega
            · show getF _ _ _ _ _ = G
              have := HS.out
              rw [if_pos hc1] at this
              rw [this, Int.pow_succ, HM.out]
              exact getF_acc _ _ _ _ _ fun h9 => by rw [hpc h9]
          clear hbig
          go_wp2
          all_goals exact ⟨HF.out, by simp [intOf]; omega⟩
        · have hcm : c % 128 = c := by omega
          by_cases hov : c < d
          · have hpe : p = c * M := by rw [H1.out, hcm, Int.emod_eq_of_lt (by omega) hov, Int.mul_comm]
            have hlt2 : ¬ c * M ≥ two64 := by unfold two64; omega
            have hqd : p / M = c := by rw [hdvd, hcm, Int.emod_eq_of_lt (by omega) hov]
            have HF : Hid (G = if c = 0 ∧ 0 < i then (0, 0, 7) else (acc + p, (i : Int) + 1, 0)) := by
              have := HS.out
              rw [if_neg hc1, if_neg hlt2] at this
              rw [hpe]; exact this
            rw [hcm] at hand hp2
            clear hbig HS hcm hdvd hpe hlt2
            by_cases hc0 : c = 0
            · have hb0 : (c == 0) = true := by simp [hc0]
              have H0 : Hid (c = 0) := hc0
              clear hc0
              by_cases hi0 : 0 < i
              · go_wp2
                go_ret3
                have hG : G = (0, 0, 7) := by rw [HF.out, if_pos ⟨H0.out, hi0⟩]
                exact ⟨by rw [hG]; rfl, rfl⟩
              · go_wp2
                go_ret3
                have hG := HF.out
                rw [if_neg (by omega)] at hG
                exact ⟨by rw [hG]; rfl, rfl⟩
            · have hb0 : (c == 0) = false := by simp [hc0]
              go_wp2
              go_ret3
              have hG := HF.out
              rw [if_neg (by omega)] at hG
              exact ⟨by rw [hG]; rfl, rfl⟩
          · have hqd : ¬ p / M = c := by
              rw [hdvd, hcm]
              have := Int.emod_lt_of_pos c (show 0 < d by have := H2.out; by_cases h : 0 < d; exact h; exfalso; have : d * M ≤ 0 := Int.mul_nonpos_of_nonpos_of_nonneg (by omega) (by omega); omega)
              omega
            have HF : Hid (G = (0, 0, 8)) := by
              have := HS.out
              rw [if_neg hc1, if_pos] at this
              · exact this
              · have h3 : d * M ≤ c * M := Int.mul_le_mul_of_nonneg_right (by omega) (by omega)
                have := H2.out
                unfold two64; omega
            rw [hcm] at hand hp2
            clear hbig HS hcm hdvd
            have hb1 : (p / M != c) = true := by simp [hqd]
            clear hqd
            go_wp2
            go_ret3
            have hG := HF.out
            exact ⟨by rw [hG]; rfl, rfl⟩
      · go_wp2
        · go_ret3
          have hi10 : i = 10 := by omega
          subst hi10
          have hG : G = (0, 0, 8) := by rw [← HR.out, getF_zero]
          exact ⟨by rw [hG]; rfl, rfl⟩
        · go_ret3
          have hin : i = n := by omega
          have hd : bs.drop i = [] := List.drop_eq_nil_of_le (by rw [← HN.out]; omega)
          have hG : G = (0, 0, 6) := by
            obtain ⟨q, hq⟩ : ∃ q, 10 - i = q + 1 := ⟨9 - i, by omega⟩
            rw [← HR.out, hd, hq, getF]
          exact ⟨by rw [hG]; rfl, rfl⟩

end Go.Proofs.YtpdckdfnpehliaaGreat
