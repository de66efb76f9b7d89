/- Walks of layer 7: reader, the rest. -/
import Derived.Test.YtpdckdfnpehliaaGreatRd
set_option linter.unusedVariables false
set_option linter.unusedSimpArgs false

namespace Go.Proofs.YtpdckdfnpehliaaGreat
open Go Go.RowKit Go.Deep Go.Shelf
set_option maxHeartbeats 400000

theorem takeByte_any (r : Nat) (s : RdS) (w : World) (F : Nat → Prop) (h : Rd w F r s) :
    Calls Tryz.prog 128 #[.pointer (some ⟨r, 0, none⟩), .func (.func 129) #[] #[]] w fun e w' =>
      e = .returned (.int .u8 (rdByte s).1) ∧ Rd w' F r (rdByte s).2 ∧ Fr (fun k => k = r) w w' := by
  obtain ⟨v, bs, a, hblk, hsl, hB, ha, hrest, hnF, he0, he1⟩ := h
  obtain ⟨A, c, rfl, g1, g2, g3, g4⟩ := hsl.int
  clear g4
  have c0 : w.cell? ⟨r, 0, none⟩ = some (.slice A bs.length c) := blk hblk 0
  have c1 : w.cell? ⟨r, 1, none⟩ = some (.int .i64 a) := blk hblk 1
  have c2 : w.cell? ⟨r, 2, none⟩ = some (.int .i64 s.err) := blk hblk 2
  have f1 : w.frozen? ⟨r, 1, none⟩ = false := blkF hblk 1
  have f2 : w.frozen? ⟨r, 2, none⟩ = false := blkF hblk 2
  by_cases he : s.err = 0
  · by_cases hl : a = bs.length
    · have hr0 : s.rest = [] := by rw [hrest, hl]; simp
      have HU : Hid (rdByte s = (0, { s with err := 6 })) := by show _ = _; unfold rdByte; rw [if_neg (by simp [he]), hr0]
      rw [HU.out]
      rw [he] at c2 hblk
      have hl2 := left_any r A bs.length c a 0 w hblk g3 ha
      rw [hl] at hl2
      clear he hl
      go_enter Tryz.func128, Tryz.ntmps128
      go_wp2_with (first | (go_at_call 67; refine (err_any r _ _ _ _ hblk).mono ?_; rintro e w' ⟨rfl, rfl⟩) | (go_at_call 68; refine hl2.mono ?_; rintro e w' ⟨rfl, q, rfl⟩))
      go_ret
      refine ⟨rfl, ⟨_, bs, a, ?_, hsl.fr ((Fr.refl (fun k => k = r) w).drewN q |>.setCell (p := ⟨r, 2, none⟩) (fun _ => rfl) _) (fun b hb e => hnF (e ▸ hb)), hB, ha, hrest, hnF, by simp, by simp⟩, (Fr.refl (fun k => k = r) w).drewN q |>.setCell (p := ⟨r, 2, none⟩) (fun _ => rfl) _⟩
      simpa using blk_set (w := w.drewN q) hblk 2 (.int .i64 6)
    · obtain ⟨e1, e2, e3, b, off, rfl, hd⟩ := hsl.drop a (by omega)
      have hlt : a < bs.length := by omega
      have hcons := List.drop_eq_getElem_cons hlt
      have hu := fun (q : Nat) => byte1_any b (off + a) (bs.length - a) (c - a) (bs.drop a) (w.drewN q) F hd bs[a] (bs.drop (a + 1)) hcons
      have hl2 := fun q => left_any r _ bs.length c a 0 (w.drewN q) (by rw [he] at hblk; exact hblk) g3 ha
      have HU : Hid (rdByte s = (bs[a], { s with rest := bs.drop (a + 1) })) := by show _ = _; unfold rdByte; rw [if_neg (by simp [he]), hrest, hcons]
      rw [HU.out]
      have H0 : Hid (s.err = 0) := he
      rw [he] at c2 hblk
      generalize bs[a] = x at *
      clear he hrest e1 hcons
      have hz : (((bs.length : Int) - (a : Int)) == 0) = false := by simp; omega
      go_enter Tryz.func128, Tryz.ntmps128
      go_wp2_with (first | (go_at_call 67; refine (err_any r _ _ _ _ hblk).mono ?_; rintro e w' ⟨rfl, rfl⟩) | (go_at_call 68; refine (hl2 0).mono ?_; rintro e w' ⟨rfl, q, rfl⟩))
      go_quiet ((go_at_call 129; exact calls_quiet2 (hu _)))
      go_wp2
      go_ret
      have hfr : Fr (fun k => k = r) w (World.setCell (w.drewN (q + nq)) ⟨r, 1, none⟩ (.int .i64 ((a : Int) + 1))) := ((Fr.refl (fun k => k = r) w).drewN _).setCell (p := ⟨r, 1, none⟩) (fun _ => rfl) _
      refine ⟨rfl, ⟨_, bs, a + 1, ?_, hsl.fr hfr (fun b hb e => hnF (e ▸ hb)), hB, by omega, rfl, hnF, he0, he1⟩, hfr⟩
      rw [H0.out]
      simpa using blk_set (w := w.drewN (q + nq)) hblk 1 (.int .i64 ((a : Int) + 1))
  · have hb : (s.err == 0) = false := by simp [he]
    have HU : Hid (rdByte s = (0, s)) := by show _ = _; unfold rdByte; rw [if_pos he]
    rw [HU.out]
    go_enter Tryz.func128, Tryz.ntmps128
    go_wp2_with (go_at_call 67; refine (err_any r _ _ _ _ hblk).mono ?_; rintro e w' ⟨rfl, rfl⟩)
    go_ret
    exact ⟨rfl, ⟨_, bs, a, hblk, hsl, hB, ha, hrest, hnF, he0, he1⟩, Fr.refl _ _⟩

theorem byte_any (r : Nat) (s : RdS) (w : World) (F : Nat → Prop) (h : Rd w F r s) :
    Calls Tryz.prog 100 #[.pointer (some ⟨r, 0, none⟩)] w fun e w' => e = .returned (.int .u8 (rdByte s).1) ∧ Rd w' F r (rdByte s).2 ∧ Fr (fun k => k = r) w w' := by
  have H := takeByte_any r s w F h
  clear h
  generalize rdByte s = q at *
  go_enter Tryz.func100, Tryz.ntmps100
  go_wp2_with (go_at_call 128; refine H.mono ?_; rintro e w' ⟨rfl, h1, h2⟩)
  go_ret
  exact ⟨rfl, h1, h2⟩

theorem uint_any (r : Nat) (s : RdS) (most : Int) (w : World) (F : Nat → Prop) (h : Rd w F r s) :
    Calls Tryz.prog 62 #[.pointer (some ⟨r, 0, none⟩), .int .u64 most] w fun e w' => e = .returned (.int .u64 (rdUint most s).1) ∧ Rd w' F r (rdUint most s).2 ∧ Fr (fun k => k = r) w w' := by
  have hlt := h.lt
  have hf0 : Fr (fun k => k = r) w (w.alloc (.cells #[.int .u64 most] 125)) := (Fr.refl _ w).alloc _
  have H := takeUint_any r w.heap.size s most (w.alloc (.cells #[.int .u64 most] 125)) F (h.below ((Below.refl _ _).alloc (Nat.le_refl _) _)) (by omega) (heap_alloc_new _ _)
  clear h
  generalize rdUint most s = q at *
  go_enter Tryz.func62, Tryz.ntmps62
  go_wp2_with (go_at_call 101; refine H.mono ?_; rintro e w' ⟨rfl, h1, h2⟩)
  go_ret
  exact ⟨rfl, h1, hf0.trans h2⟩

theorem int_any (r : Nat) (s : RdS) (w : World) (F : Nat → Prop) (h : Rd w F r s) :
    Calls Tryz.prog 63 #[.pointer (some ⟨r, 0, none⟩)] w fun e w' => e = .returned (.int .i64 (rdInt s).1) ∧ Rd w' F r (rdInt s).2 ∧ Fr (fun k => k = r) w w' := by
  have hr := rdUint_range 18446744073709551615 s h.isB (by omega)
  have H := uint_any r s 18446744073709551615 w F h
  have HI : Hid (rdInt s = (zag (rdUint 18446744073709551615 s).1, (rdUint 18446744073709551615 s).2)) := rfl
  rw [HI.out]
  clear h
  generalize rdUint 18446744073709551615 s = q at *
  go_enter Tryz.func63, Tryz.ntmps63
  go_wp2_with (first | (go_at_call 62; refine H.mono ?_; rintro e w' ⟨rfl, h1, h2⟩) | (go_at_call 104; refine (zag_any _ _ hr.1 (by omega)).mono ?_; rintro e w'' ⟨rfl, rfl⟩))
  go_ret
  exact ⟨rfl, h1, h2⟩

theorem done_any (r : Nat) (s : RdS) (w : World) (F : Nat → Prop) (h : Rd w F r s) :
    Calls Tryz.prog 46 #[.pointer (some ⟨r, 0, none⟩)] w fun e w' => e = .returned (.int .i64 s.done) ∧ ∃ q, w' = w.drewN q := by
  obtain ⟨v, bs, a, hblk, hsl, hB, ha, hrest, hnF, he0, he1⟩ := h
  obtain ⟨A, c, rfl, g1, g2, g3, g4⟩ := hsl.int
  clear g4
  have hl2 := left_any r A bs.length c a s.err w hblk g3 ha
  by_cases he : s.err = 0
  · have hbn : (s.err != 0) = false := by simp [he]
    by_cases hl : a = bs.length
    · have HD : Hid (s.done = s.err) := by show _ = _; unfold RdS.done; rw [if_neg (by simp [he]), if_pos (by rw [hrest, hl]; simp), he]
      have hz : (((bs.length : Int) - (a : Int)) == 0) = true := by simp; omega
      rw [HD.out]
      clear he hl
      go_enter Tryz.func46, Tryz.ntmps46
      go_wp2_with (first | (go_at_call 67; refine (err_any r _ _ _ _ hblk).mono ?_; rintro e w' ⟨rfl, rfl⟩) | (go_at_call 68; refine hl2.mono ?_; rintro e w' ⟨rfl, q, rfl⟩))
      go_ret
      exact ⟨rfl, q, rfl⟩
    · have HD : Hid (s.done = 8) := by show _ = _; unfold RdS.done; rw [if_neg (by simp [he]), if_neg (by rw [hrest]; intro h; have := congrArg List.length h; simp at this; omega)]
      have hz : (((bs.length : Int) - (a : Int)) == 0) = false := by simp; omega
      rw [HD.out]
      clear he hl
      go_enter Tryz.func46, Tryz.ntmps46
      go_wp2_with (first | (go_at_call 67; refine (err_any r _ _ _ _ hblk).mono ?_; rintro e w' ⟨rfl, rfl⟩) | (go_at_call 68; refine hl2.mono ?_; rintro e w' ⟨rfl, q, rfl⟩))
      go_ret
      exact ⟨rfl, q, rfl⟩
  · have hbn : (s.err != 0) = true := by simp [he]
    have HD : Hid (s.done = s.err) := by show _ = _; unfold RdS.done; rw [if_pos he]
    rw [HD.out]
    go_enter Tryz.func46, Tryz.ntmps46
    go_wp2_with (first | (go_at_call 67; refine (err_any r _ _ _ _ hblk).mono ?_; rintro e w' ⟨rfl, rfl⟩) | (go_at_call 68; refine hl2.mono ?_; rintro e w' ⟨rfl, q, rfl⟩))
    go_ret
    exact ⟨rfl, 0, rfl⟩

end Go.Proofs.YtpdckdfnpehliaaGreat
