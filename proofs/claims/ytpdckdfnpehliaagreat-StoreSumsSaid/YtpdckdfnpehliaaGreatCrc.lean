/- Walks of layer 6: crc. -/
import Derived.Test.YtpdckdfnpehliaaGreatProg
import Derived.Test.YtpdckdfnpehliaaGreatApp
import Derived.Test.YtpdckdfnpehliaaGreatCrcSpec
import Derived.Shelf.Abstract
set_option linter.unusedVariables false
set_option linter.unusedSimpArgs false

namespace Go.Proofs.YtpdckdfnpehliaaGreat
open Go Go.RowKit Go.Deep Go.Shelf
set_option maxHeartbeats 400000

theorem crcBit_int (s : Nat) (h : s < 4294967296) : bits BinOp.xor IntKind.u32 ((s : Int) / 2) (bits BinOp.and IntKind.u32 3988292384 (-(bits BinOp.and IntKind.u32 s 1) % 4294967296)) = (crcBit s : Int) := by
  have h1 : bits BinOp.and IntKind.u32 s 1 = ((s % 2 : Nat) : Int) := by
    have := u32_and_nat s 1 h (by omega)
    rw [Nat.and_one_is_mod] at this
    exact this
  rw [h1]
  have e2 : ((s : Int) / 2) = ((s / 2 : Nat) : Int) := by omega
  unfold crcBit
  rcases Nat.mod_two_eq_zero_or_one s with h2 | h2
  · rw [h2, if_neg (by omega), e2]
    have h3 : bits BinOp.and IntKind.u32 3988292384 (-((0 : Nat) : Int) % 4294967296) = ((0 : Nat) : Int) := by decide
    rw [h3, u32_xor_nat _ _ (by omega) (by omega)]
    simp
  · rw [h2, if_pos rfl, e2]
    have h3 : bits BinOp.and IntKind.u32 3988292384 (-((1 : Nat) : Int) % 4294967296) = ((3988292384 : Nat) : Int) := by decide
    rw [h3, u32_xor_nat _ _ (by omega) (by omega)]

set_option maxRecDepth 100000 in
theorem step_any (s : Nat) (c : Int) (w : World) (hs : s < 4294967296) (h0 : 0 ≤ c) (h1 : c < 256) :
    Calls Tryz.prog 89 #[.int .u32 s, .int .u8 c] w fun e w' => e = .returned (.int .u32 (crcStep s c)) ∧ w = w' := by
  obtain ⟨n, rfl⟩ := Int.eq_ofNat_of_zero_le h0
  have hx : bits BinOp.xor IntKind.u32 (s : Int) (n : Int) = ((s ^^^ n : Nat) : Int) := u32_xor_nat s n hs (by omega)
  have hlt : s ^^^ n < 4294967296 := Nat.xor_lt_two_pow (n := 32) (by omega) (by omega)
  have hst : crcStep s (n : Int) = crcBits 8 (s ^^^ n) := rfl
  rw [hst]
  have hm : (n : Int) % 4294967296 = n := by omega
  generalize s ^^^ n = q at *
  go_enter Tryz.func89, Tryz.ntmps89
  go_wp2
  go_loop [0, 9] (fun x t => ∃ k : Nat, k ≤ 8 ∧ t = .int .i64 k ∧ x = .int .u32 (crcBits k q)) (fun _ t => 8 - (intOf t).toNat)
  case atStart => exact ⟨0, by omega, rfl, rfl⟩
  case round =>
    obtain ⟨k, hk, rfl, rfl⟩ := hrel
    by_cases hlt8 : k < 8
    · have hb := crcBit_int (crcBits k q) (crcBits_lt k q hlt)
      have hsu := crcBits_succ k q
      have HS := Lib.hid hsu
      clear hsu
      generalize crcBits k q = z at *
      go_wp2
      go_round
      case rel => exact ⟨k + 1, by omega, by go_num, by rw [HS.out]⟩
      case measure => simp [intOf]; omega
    · have : k = 8 := by omega
      subst this
      go_wp2
      go_ret
      exact ⟨rfl, rfl⟩

theorem more1_any (bx s : Nat) (c : Int) (w : World) (hs : s < 4294967296) (h0 : 0 ≤ c) (h1 : c < 256) (hb : w.heap[bx]? = some (.cells #[.int .u32 s] 88 (0, 0))) :
    Calls Tryz.prog 88 #[.int .u8 c, .pointer (some ⟨bx, 0, none⟩)] w fun e w' => e = .returned (.tuple #[]) ∧ w' = w.setCell ⟨bx, 0, none⟩ (.int .u32 (crcStep s c)) := by
  have c0 : w.cell? ⟨bx, 0, none⟩ = some (.int .u32 s) := blk hb 0
  have f0 : w.frozen? ⟨bx, 0, none⟩ = false := blkF hb 0
  clear hb
  go_enter Tryz.func88, Tryz.ntmps88
  go_wp2_with (go_at_call 89; refine (step_any s c _ hs h0 h1).mono ?_; rintro e w' ⟨rfl, rfl⟩)
  go_end0
  exact ⟨rfl, rfl⟩

theorem not_u32 (s : Nat) (h : s < 4294967296) : bits BinOp.xor IntKind.u32 IntKind.u32.max (s : Int) = ((4294967295 - s : Nat) : Int) := by
  have hmx : IntKind.u32.max = 4294967295 := by decide
  rw [hmx]
  have h2 : (4294967295 : Nat) ^^^ s = 4294967295 - s := by
    have e1 : BitVec.allOnes 32 ^^^ BitVec.ofNat 32 s = ~~~ BitVec.ofNat 32 s := by rw [BitVec.xor_comm, BitVec.xor_allOnes]
    have e2 := congrArg BitVec.toNat e1
    rw [BitVec.toNat_xor, BitVec.toNat_not, BitVec.toNat_allOnes, BitVec.toNat_ofNat, Nat.mod_eq_of_lt (by omega)] at e2
    simpa using e2
  have := u32_xor_nat 4294967295 s (by omega) h
  rw [h2] at this
  exact this

theorem more_any (sum : Nat) (v : Value) (bs : List Int) (w : World) (F : Nat → Prop) (hs : sum < 4294967296) (h : Sl Ty.byte w F v bs) (hB : isB bs) :
    Calls Tryz.prog 58 #[.int .u32 sum, v] w fun e w' => e = .returned (.int .u32 ((4294967295 - crcL (4294967295 - sum) bs : Nat) : Int)) ∧ Below w.heap.size w w' := by
  obtain ⟨A, c, rfl, g1, g2, g3, g4⟩ := h.int
  obtain ⟨n, hn⟩ : ∃ n, n = bs.length := ⟨_, rfl⟩
  have HN : Hid (n = bs.length) := hn
  have HB := Lib.hid hB
  have G4 := Lib.hid g4
  rw [← hn] at g1 g3 ⊢
  have hnot := not_u32 sum hs
  have s0 : 4294967295 - sum < 4294967296 := by omega
  generalize 4294967295 - sum = s1 at *
  have HL := Lib.hid (crcL_lt bs s1 s0 hB)
  have HT : Hid (bs.take n = bs) := by show _ = _; rw [hn]; exact List.take_length
  clear hn hB g4 h hs
  go_enter Tryz.func58, Tryz.ntmps58
  go_wp2
  go_loopw [14] (fun t wr => ∃ i : Nat, i ≤ n ∧ t = .int .i64 i ∧ wr = w.alloc (.cells #[.int .u32 (crcL s1 (bs.take i))] 88)) (fun t _ => n - (intOf t).toNat)
  case atStart => exact ⟨0, by omega, rfl, rfl⟩
  case round =>
    obtain ⟨i, hi, rfl, rfl⟩ := hrel
    by_cases hlt : i < n
    · obtain ⟨b, off, rfl, hF, hbl, hc⟩ := G4.out (by rw [← HN.out]; omega)
      have hib : i < bs.length := by rw [← HN.out]; omega
      have hci := hc i hib
      have hcb := HB.out bs[i] (List.getElem_mem hib)
      have hts : bs.take (i + 1) = bs.take i ++ [bs[i]] := List.take_succ_eq_append_getElem hib
      have hsl := crcL_lt (bs.take i) s1 s0 (HB.out.take i)
      have HC : Hid (crcL s1 (bs.take (i + 1)) = crcStep (crcL s1 (bs.take i)) bs[i]) := by show _ = _; rw [hts, crcL_snoc]
      generalize bs[i] = x at *
      generalize crcL s1 (bs.take i) = z at *
      clear hts hc
      obtain ⟨hx0, hx1⟩ := hcb
      have hcw : (w.alloc (.cells #[.int .u32 z] 88)).cell? ⟨b, off + i, none⟩ = some (.int .u8 x) := (((Below.refl w.heap.size w).alloc (Nat.le_refl _) _).cell (p := ⟨b, off + i, none⟩) hbl).trans hci
      have hm1 := more1_any w.heap.size z x (w.alloc (.cells #[.int .u32 z] 88)) hsl hx0 hx1 (heap_alloc_new _ _)
      go_wp2_with (go_at_call 88; refine hm1.mono ?_; rintro e w' ⟨rfl, rfl⟩)
      go_roundw
      case rel => exact ⟨i + 1, by omega, by go_num, by rw [HC.out]⟩
      case measure => simp [intOf]; omega
    · have hin : i = n := by omega
      subst hin
      rw [HT.out]
      have hnz := not_u32 _ HL.out
      go_wp2
      go_ret
      exact ⟨rfl, (Below.refl _ _).alloc (Nat.le_refl _) _⟩

theorem sum_any (v : Value) (bs : List Int) (w : World) (F : Nat → Prop) (h : Sl Ty.byte w F v bs) (hB : isB bs) :
    Calls Tryz.prog 38 #[v] w fun e w' => e = .returned (.int .u32 (crcSum bs)) ∧ Below w.heap.size w w' := by
  have H := more_any 0 v bs w F (by omega) h hB
  have HE : Hid (4294967295 - crcL (4294967295 - 0) bs = crcSum bs) := rfl
  rw [HE.out] at H
  obtain ⟨A, c, rfl, -⟩ := h.int
  generalize crcSum bs = z at *
  go_enter Tryz.func38, Tryz.ntmps38
  go_wp2_with (go_at_call 58; refine H.mono ?_; rintro e w' ⟨rfl, hb⟩)
  go_ret
  exact ⟨rfl, hb⟩

theorem sumB0 (z : Nat) : (nums .u8 (sumBytes z)) = [.int .u8 ((z / 16777216 : Nat) : Int), .int .u8 ((z / 65536 % 256 : Nat) : Int), .int .u8 ((z / 256 % 256 : Nat) : Int), .int .u8 ((z % 256 : Nat) : Int)] := rfl
theorem infoB : (Tryz.prog.info? 5).map (fun i => (i.zero, i.size, i.bytes)) = some (some (.int .u8 0), 1, 1) := by kernel_rfl
theorem nums_append (k : IntKind) (xs ys : List Int) : nums k (xs ++ ys) = nums k xs ++ nums k ys := by simp [nums]

theorem seal_any (v : Value) (bs : List Int) (w : World) (F : Nat → Prop) (h : Sl Ty.byte w F v bs) (hB : isB bs) (hl : bs.length ≤ 70368744177664) :
    Calls Tryz.prog 37 #[v] w fun e w' => ∃ v1, e = .returned v1 ∧ w'.ownsRow w.heap.size 5 1 v1 (seal_ bs).length (nums .u8 (seal_ bs)) ∧ Below w.heap.size w w' := by
  have H := sum_any v bs w F h hB
  have hz := crcSum_lt bs
  have HE : Hid (seal_ bs = bs ++ sumBytes (crcSum bs)) := rfl
  rw [HE.out]
  have h0 := h
  obtain ⟨A, c, rfl, -⟩ := h.int
  generalize crcSum bs = z at *
  go_enter Tryz.func37, Tryz.ntmps37
  go_wp2_with (first
    | (go_at_call 38; refine H.mono ?_; rintro e w1 ⟨rfl, hb⟩; have HS1 := Lib.hid ((h0.below hb).srcI.alloc (.cells #[] 5)); have HO1 := Lib.hid (own_new w1 w.heap.size 5 1 0 [] hb.size (by omega) rfl))
    | (at_builtin; refine app_row w.heap.size rfl (.tmp 6) (.tmp 7) 30 5 (.int .u8 0) 1 1 rfl Tryz.underlying30 infoB rfl (by decide) (by decide) _ _ 0 bs.length [] (nums .u8 bs) rfl rfl HO1.out HS1.out ?_ ?_ ?_; (have := hb.size; simp; omega); omega; intro v2 w2 hown hg hat; simp only [Nat.zero_add, List.nil_append] at hown; have HOW := Lib.hid hown; clear hown)
    | (at_builtin; refine app_row w.heap.size rfl (.tmp 8) (.tmp 20) 30 5 (.int .u8 0) 1 1 rfl Tryz.underlying30 infoB rfl (by decide) (by decide) _ _ bs.length 4 (nums .u8 bs) _ rfl rfl (HOW.out.alloc _) (Src.of_block (heap_alloc_new _ _) rfl ?_) ?_ ?_ ?_; (simp [Value.oneCell']); (have := hb.size; have := hg.size; simp at *; omega); omega; intro v3 w3 hown3 hg3 hat3))
  go_ret
  have hB1 : Below w.heap.size w (w1.alloc (.cells #[] 5)) := hb.alloc hb.size _
  have hB2 := hB1.grown hg (by have := hb.size; simp; omega) (fun k hk => (HO1.out.lt k hk).1)
  have hB3 := (hB2.alloc (by have := hb.size; have := hg.size; simp at *; omega) _).grown hg3 (by have := hb.size; have := hg.size; simp at *; omega) (fun k hk => ((HOW.out).lt k hk).1)
  refine ⟨_, rfl, ?_, hB3⟩
  rw [nums_append, sumB0]
  simpa [sumBytes] using hown3

theorem shl8 (s : Int) (c : Int) (h0 : 0 ≤ s) (h1 : s < 16777216) (h2 : 0 ≤ c) (h3 : c < 256) : bits BinOp.or IntKind.u32 (s * 256) c = s * 256 + c := by
  rw [u32_or _ _ (by omega) (by omega) h2 (by omega)]
  obtain ⟨n, rfl⟩ := Int.eq_ofNat_of_zero_le h0
  obtain ⟨m, rfl⟩ := Int.eq_ofNat_of_zero_le h2
  have e : ((n : Int) * 256).toNat = 2 ^ 8 * n := by omega
  have := Nat.two_pow_add_eq_or_of_lt (i := 8) (show m < 2 ^ 8 by omega) n
  rw [e, Int.toNat_natCast, ← this]
  omega

theorem open_any (v : Value) (bs : List Int) (w : World) (F : Nat → Prop) (h : Sl Ty.byte w F v bs) (hB : isB bs) (hl : bs.length ≤ 70368744177664) :
    Calls Tryz.prog 20 #[v] w fun e w' => Below w.heap.size w w' ∧ match open_ bs with
      | none => e = .returned (.tuple #[.slice none 0 0, .bool false])
      | some x => ∃ v1, e = .returned (.tuple #[v1, .bool true]) ∧ w'.ownsRow w.heap.size 5 1 v1 x.length (nums .u8 x) := by
  have h0 := h
  obtain ⟨A, c, rfl, g1, g2, g3, g4⟩ := h.int
  by_cases h4 : bs.length < 4
  · have HO : Hid (open_ bs = none) := by show _ = _; unfold open_; rw [if_pos h4]
    rw [HO.out]
    have h5 : (bs.length : Int) - 4 < 0 := by omega
    go_enter Tryz.func20, Tryz.ntmps20
    go_wp2
    go_ret2
    exact ⟨Below.refl _ _, rfl⟩
  · obtain ⟨n, hn⟩ : ∃ n, bs.length = n + 4 := ⟨bs.length - 4, by omega⟩
    obtain ⟨b, off, rfl, hF, hbl, hc⟩ := g4 (by omega)
    clear g4
    have htk : Sl Ty.byte w F (.slice (some ⟨b, off, none⟩) n c) (bs.take n) := by
      have e : n = (bs.take n).length := by simp; omega
      have h5 := Sl.of_int (q := .u8) (w := w) (F := F) (A := some ⟨b, off, none⟩) (c := c) (xs := bs.take n) (by simp; omega) g2 (by simp; omega) (fun _ => ⟨b, off, rfl, hF, hbl, fun j hj => by rw [List.getElem_take]; exact hc j (by simp at hj; omega)⟩)
      rw [← e] at h5
      exact h5
    have hs := sum_any _ (bs.take n) w F htk (hB.take n)
    obtain ⟨d0, hd0⟩ : ∃ d, d = bs[n] := ⟨_, rfl⟩
    obtain ⟨d1, hd1⟩ : ∃ d, d = bs[n + 1] := ⟨_, rfl⟩
    obtain ⟨d2, hd2⟩ : ∃ d, d = bs[n + 2] := ⟨_, rfl⟩
    obtain ⟨d3, hd3⟩ : ∃ d, d = bs[n + 3] := ⟨_, rfl⟩
    have c0 := hc n (by omega)
    have c1 := hc (n + 1) (by omega)
    have c2 := hc (n + 2) (by omega)
    have c3 := hc (n + 3) (by omega)
    have b0 := hB bs[n] (List.getElem_mem _)
    have b1 := hB bs[n + 1] (List.getElem_mem _)
    have b2 := hB bs[n + 2] (List.getElem_mem _)
    have b3 := hB bs[n + 3] (List.getElem_mem _)
    have hdr : bs.drop n = [bs[n], bs[n + 1], bs[n + 2], bs[n + 3]] := by
      apply List.ext_getElem
      · simp; omega
      · intro j h1 h2
        have hj : j < 4 := by simpa using h2
        obtain rfl | rfl | rfl | rfl : j = 0 ∨ j = 1 ∨ j = 2 ∨ j = 3 := by omega
        all_goals simp
    rw [← hd0] at c0 b0 hdr
    rw [← hd1] at c1 b1 hdr
    rw [← hd2] at c2 b2 hdr
    rw [← hd3] at c3 b3 hdr
    obtain ⟨x0, x1⟩ := b0
    obtain ⟨y0, y1⟩ := b1
    obtain ⟨z0, z1⟩ := b2
    obtain ⟨t0, t1⟩ := b3
    have HO : Hid (open_ bs = if ((d0 * 256 + d1) * 256 + d2) * 256 + d3 = crcSum (bs.take n) then some (bs.take n) else none) := by
      show _ = _
      unfold open_
      have e : bs.length - 4 = n := by omega
      rw [if_neg h4, e, hdr, beNum4]
    rw [HO.out]
    have o0 : bits BinOp.or IntKind.u32 0 d0 = d0 := by have := shl8 0 d0 (by omega) (by omega) x0 x1; simpa using this
    have o1 := shl8 d0 d1 x0 (by omega) y0 y1
    have o2 := shl8 (d0 * 256 + d1) d2 (by omega) (by omega) z0 z1
    have o3 := shl8 ((d0 * 256 + d1) * 256 + d2) d3 (by omega) (by omega) t0 t1
    have HN := Lib.hid hn
    have hl4 : n + 4 ≤ 70368744177664 := by omega
    rw [hn] at g1
    rw [hn]
    clear hd0 hd1 hd2 hd3 hdr hc h4 hn h h0
    rw [← Nat.add_assoc] at c1 c2 c3
    have hlt : (bs.take n).length = n := by simp; have := HN.out; omega
    generalize bs.take n = ts at *
    by_cases hq : ((d0 * 256 + d1) * 256 + d2) * 256 + d3 = crcSum ts
    · have hb1 : (((d0 * 256 + d1) * 256 + d2) * 256 + d3 != (crcSum ts : Int)) = false := by simp [hq]
      have HQ : Hid ((if ((d0 * 256 + d1) * 256 + d2) * 256 + d3 = crcSum ts then some ts else none) = some ts) := if_pos hq
      rw [HQ.out]
      have HLT := Lib.hid hlt
      clear hq hlt
      go_enter Tryz.func20, Tryz.ntmps20
      go_wp2_with (fail)
      refine wp_loop_rounds 5 ?_
      rw [rounds_succ]
      go_wp2
      rw [rounds_succ]
      go_wp2
      rw [rounds_succ]
      go_wp2
      rw [rounds_succ]
      go_wp2
      rw [rounds_succ]
      go_wp2_with (first
        | (go_at_call 38; refine hs.mono ?_; rintro e w1 ⟨rfl, hb⟩; have HS1 := Lib.hid ((htk.below hb).srcI.alloc (.cells #[] 5)); have HO1 := Lib.hid (own_new w1 w.heap.size 5 1 0 [] hb.size (by omega) rfl))
        | (at_builtin; refine app_row w.heap.size rfl (.tmp 33) (.tmp 36) 30 5 (.int .u8 0) 1 1 rfl Tryz.underlying30 infoB rfl (by decide) (by decide) _ _ 0 n [] (nums .u8 ts) rfl rfl HO1.out (by have := HS1.out; rw [HLT.out] at this; exact this) ?_ ?_ ?_; (have := hb.size; simp; omega); omega; intro v2 w2 hown hg hat; simp only [Nat.zero_add, List.nil_append] at hown))
      go_ret2
      have hB1 : Below w.heap.size w (w1.alloc (.cells #[] 5)) := hb.alloc hb.size _
      exact ⟨hB1.grown hg (by have := hb.size; simp; omega) (fun k hk => (HO1.out.lt k hk).1), _, rfl, by rw [HLT.out]; exact hown⟩
    · have hb1 : (((d0 * 256 + d1) * 256 + d2) * 256 + d3 != (crcSum ts : Int)) = true := by simp [hq]
      have HQ : Hid ((if ((d0 * 256 + d1) * 256 + d2) * 256 + d3 = crcSum ts then some ts else none) = none) := if_neg hq
      rw [HQ.out]
      clear hq hlt
      go_enter Tryz.func20, Tryz.ntmps20
      go_wp2_with (fail)
      refine wp_loop_rounds 5 ?_
      rw [rounds_succ]
      go_wp2
      rw [rounds_succ]
      go_wp2
      rw [rounds_succ]
      go_wp2
      rw [rounds_succ]
      go_wp2
      rw [rounds_succ]
      go_wp2_with (go_at_call 38; refine hs.mono ?_; rintro e w1 ⟨rfl, hb⟩)
      go_ret2
      exact ⟨hb, rfl⟩

end Go.Proofs.YtpdckdfnpehliaaGreat
