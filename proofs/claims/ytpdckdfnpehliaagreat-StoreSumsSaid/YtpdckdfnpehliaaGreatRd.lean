/- Walks of layer 7: reader. -/
import Derived.Test.YtpdckdfnpehliaaGreatGet
import Derived.Test.YtpdckdfnpehliaaGreatRdSpec
import Derived.Shelf.Abstract
set_option linter.unusedVariables false
set_option linter.unusedSimpArgs false

namespace Go.Proofs.YtpdckdfnpehliaaGreat
open Go Go.RowKit Go.Deep Go.Shelf
set_option maxHeartbeats 400000

/-- A reader in block r. -/
def Rd (w : World) (F : Nat → Prop) (r : Nat) (s : RdS) : Prop :=
  ∃ (v : Value) (bs : List Int) (a : Nat), w.heap[r]? = some (.cells #[v, .int .i64 a, .int .i64 s.err] 123 (0, 0)) ∧ Sl Ty.byte w F v bs ∧ isB bs ∧ a ≤ bs.length ∧ s.rest = bs.drop a ∧ ¬ F r ∧
    0 ≤ s.err ∧ s.err ≤ 17

theorem Rd.isB {w : World} {F : Nat → Prop} {r : Nat} {s : RdS} (h : Rd w F r s) : isB s.rest := by
  obtain ⟨v, bs, a, _, _, hB, _, e, _⟩ := h
  rw [e]; exact hB.drop a
theorem Rd.fr {w w' : World} {F S : Nat → Prop} {r : Nat} {s : RdS} (h : Rd w F r s) (hf : Fr S w w') (hS : ∀ b, F b ∨ b = r → ¬ S b) : Rd w' F r s := by
  obtain ⟨v, bs, a, hb, hs, h1⟩ := h
  exact ⟨v, bs, a, hf.at hb (hS r (.inr rfl)), hs.fr hf (fun b hb => hS b (.inl hb)), h1⟩
theorem Rd.below {w w' : World} {F : Nat → Prop} {r : Nat} {s : RdS} (h : Rd w F r s) (hf : Below w.heap.size w w') : Rd w' F r s :=
  h.fr (Fr.of_below hf fun _ => False) (fun _ _ h => h)
theorem Rd.lt {w : World} {F : Nat → Prop} {r : Nat} {s : RdS} (h : Rd w F r s) : r < w.heap.size := by obtain ⟨v, bs, a, hb, _⟩ := h; exact heap_lt hb

theorem new_any (v : Value) (A : Option Addr) (n c : Nat) (hv : v = .slice A n c) (w : World) :
    Calls Tryz.prog 41 #[v] w fun e w' => e = .returned (.pointer (some ⟨w.heap.size, 0, none⟩)) ∧
      w' = w.alloc (.cells #[v, .int .i64 0, .int .i64 0] 123) := by
  subst hv
  go_enter Tryz.func41, Tryz.ntmps41
  go_wp2
  go_ret
  exact ⟨rfl, rfl⟩

theorem err_any (r : Nat) (v : Value) (a e0 : Int) (w : World) (h : w.heap[r]? = some (.cells #[v, .int .i64 a, .int .i64 e0] 123 (0, 0))) :
    Calls Tryz.prog 67 #[.pointer (some ⟨r, 0, none⟩)] w fun e w' => e = .returned (.int .i64 e0) ∧ w = w' := by
  have h2 : w.cell? ⟨r, 2, none⟩ = some (.int .i64 e0) := blk h 2
  clear h
  go_enter Tryz.func67, Tryz.ntmps67
  go_wp2
  go_ret
  exact ⟨rfl, rfl⟩

theorem left_any (r : Nat) (A : Option Addr) (n c a : Nat) (e0 : Int) (w : World) (h : w.heap[r]? = some (.cells #[.slice A n c, .int .i64 a, .int .i64 e0] 123 (0, 0))) (hn : n ≤ 140737488355328) (ha : a ≤ n) :
    Calls Tryz.prog 68 #[.pointer (some ⟨r, 0, none⟩)] w fun e w' => e = .returned (.int .i64 ((n : Int) - a)) ∧ ∃ q, w' = w.drewN q := by
  have h0 : w.cell? ⟨r, 0, none⟩ = some (.slice A n c) := blk h 0
  have h1 : w.cell? ⟨r, 1, none⟩ = some (.int .i64 a) := blk h 1
  clear h
  go_enter Tryz.func68, Tryz.ntmps68
  go_wp2
  go_quiet (fail)
  go_wp2
  go_ret
  exact ⟨rfl, _, rfl⟩

theorem fail_any (r : Nat) (v : Value) (a e0 e1 : Int) (w : World) (h : w.heap[r]? = some (.cells #[v, .int .i64 a, .int .i64 e0] 123 (0, 0))) :
    Calls Tryz.prog 65 #[.pointer (some ⟨r, 0, none⟩), .int .i64 e1] w fun e w' => e = .returned (.tuple #[]) ∧ w' = if e0 = 0 then w.setCell ⟨r, 2, none⟩ (.int .i64 e1) else w := by
  have h2 : w.cell? ⟨r, 2, none⟩ = some (.int .i64 e0) := blk h 2
  have h3 : w.frozen? ⟨r, 2, none⟩ = false := blkF h 2
  by_cases he : e0 = 0
  · subst he
    go_enter Tryz.func65, Tryz.ntmps65
    go_wp2_with (go_at_call 67; refine (err_any r v a 0 _ h).mono ?_; rintro e w' ⟨rfl, rfl⟩)
    go_end0
    exact ⟨rfl, by simp⟩
  · have hb : (e0 == 0) = false := by simp [he]
    go_enter Tryz.func65, Tryz.ntmps65
    go_wp2_with (go_at_call 67; refine (err_any r v a e0 _ h).mono ?_; rintro e w' ⟨rfl, rfl⟩)
    go_end0
    exact ⟨rfl, by simp [he]⟩

theorem byte1_any (b off n c : Nat) (bs : List Int) (w : World) (F : Nat → Prop) (h : Sl Ty.byte w F (.slice (some ⟨b, off, none⟩) n c) bs) (x : Int) (l : List Int) (hx : bs = x :: l) :
    Calls Tryz.prog 129 #[.slice (some ⟨b, off, none⟩) n c] w fun e w' => e = .returned (.tuple #[.int .u8 x, .int .i64 1, .int .i64 0]) ∧ w = w' := by
  subst hx
  obtain ⟨e, h1, h2, h3, hc⟩ := h.first
  have h0 : w.cell? ⟨b, off, none⟩ = some (.int .u8 x) := hc 0 (by simp)
  have hn : 0 < n := by rw [e]; simp
  clear e hc h
  go_enter Tryz.func129, Tryz.ntmps129
  go_wp2
  go_ret3
  exact ⟨rfl, rfl⟩

theorem uint1_any (b off n c bm : Nat) (bs : List Int) (most : Int) (w : World) (F : Nat → Prop) (h : Sl Ty.byte w F (.slice (some ⟨b, off, none⟩) n c) bs) (hB : isB bs)
    (hm : w.heap[bm]? = some (.cells #[.int .u64 most] 125 (0, 0))) :
    Calls Tryz.prog 102 #[.slice (some ⟨b, off, none⟩) n c, .pointer (some ⟨bm, 0, none⟩)] w fun e w' =>
      e = .returned (.tuple #[.int .u64 (get bs).1, .int .i64 (get bs).2.1, .int .i64 (if (get bs).2.2 = 0 ∧ (get bs).1 > most then 3 else (get bs).2.2)]) ∧ w = w' := by
  have hc : w.cell? ⟨bm, 0, none⟩ = some (.int .u64 most) := blk hm 0
  have hg := get_any bs _ w F h hB
  clear hm h
  generalize get bs = G at *
  by_cases h0 : G.2.2 = 0
  · have hb : (G.2.2 == 0) = true := by simp [h0]
    have H0 : Hid (G.2.2 = 0) := h0
    by_cases h1 : G.1 > most
    · have HF : Hid ((if G.2.2 = 0 ∧ G.1 > most then (3 : Int) else G.2.2) = 3) := if_pos ⟨h0, h1⟩
      rw [HF.out]
      clear h0
      go_enter Tryz.func102, Tryz.ntmps102
      go_wp2_with (go_at_call 103; refine hg.mono ?_; rintro e w' ⟨rfl, rfl⟩)
      go_ret3
      exact ⟨rfl, rfl⟩
    · have HF : Hid ((if G.2.2 = 0 ∧ G.1 > most then (3 : Int) else G.2.2) = G.2.2) := if_neg (by omega)
      rw [HF.out]
      clear h0
      go_enter Tryz.func102, Tryz.ntmps102
      go_wp2_with (go_at_call 103; refine hg.mono ?_; rintro e w' ⟨rfl, rfl⟩)
      go_ret3
      exact ⟨rfl, rfl⟩
  · have hb : (G.2.2 == 0) = false := by simp [h0]
    have HF : Hid ((if G.2.2 = 0 ∧ G.1 > most then (3 : Int) else G.2.2) = G.2.2) := if_neg (by omega)
    rw [HF.out]
    go_enter Tryz.func102, Tryz.ntmps102
    go_wp2_with (go_at_call 103; refine hg.mono ?_; rintro e w' ⟨rfl, rfl⟩)
    go_ret3
    exact ⟨rfl, rfl⟩

theorem takeUint_any (r bm : Nat) (s : RdS) (most : Int) (w : World) (F : Nat → Prop) (h : Rd w F r s) (hbr : bm ≠ r) (hm : w.heap[bm]? = some (.cells #[.int .u64 most] 125 (0, 0))) :
    Calls Tryz.prog 101 #[.pointer (some ⟨r, 0, none⟩), .func (.func 102) #[] #[.pointer (some ⟨bm, 0, none⟩)]] w fun e w' =>
      e = .returned (.int .u64 (rdUint most s).1) ∧ Rd w' F r (rdUint most s).2 ∧ Fr (fun k => k = r) w w' := by
  obtain ⟨v, bs, a, hblk, hsl, hB, ha, hrest, hnF, he0, he1⟩ := h
  obtain ⟨A, c, rfl, g1, g2, g3, g4⟩ := hsl.int
  clear g4
  have c0 : w.cell? ⟨r, 0, none⟩ = some (.slice A bs.length c) := blk hblk 0
  have c1 : w.cell? ⟨r, 1, none⟩ = some (.int .i64 a) := blk hblk 1
  have c2 : w.cell? ⟨r, 2, none⟩ = some (.int .i64 s.err) := blk hblk 2
  have f1 : w.frozen? ⟨r, 1, none⟩ = false := blkF hblk 1
  have f2 : w.frozen? ⟨r, 2, none⟩ = false := blkF hblk 2
  by_cases he : s.err = 0
  · by_cases hl : a = bs.length
    · have hr0 : s.rest = [] := by rw [hrest, hl]; simp
      have HU : Hid (rdUint most s = (0, { s with err := 6 })) := by show _ = _; simp [rdUint, he, hr0]
      rw [HU.out]
      rw [he] at c2 hblk
      have hl2 := left_any r A bs.length c a 0 w hblk g3 ha
      rw [hl] at hl2
      clear he hl
      go_enter Tryz.func101, Tryz.ntmps101
      go_wp2_with (first | (go_at_call 67; refine (err_any r _ _ _ _ hblk).mono ?_; rintro e w' ⟨rfl, rfl⟩) | (go_at_call 68; refine hl2.mono ?_; rintro e w' ⟨rfl, q, rfl⟩))
      go_ret
      refine ⟨rfl, ⟨_, bs, a, ?_, hsl.fr ((Fr.refl (fun k => k = r) w).drewN q |>.setCell (p := ⟨r, 2, none⟩) (fun _ => rfl) _) (fun b hb e => hnF (e ▸ hb)), hB, ha, hrest, hnF, by simp, by simp⟩, (Fr.refl (fun k => k = r) w).drewN q |>.setCell (p := ⟨r, 2, none⟩) (fun _ => rfl) _⟩
      simpa using blk_set (w := w.drewN q) hblk 2 (.int .i64 6)
    · obtain ⟨e1, e2, e3, b, off, rfl, hd⟩ := hsl.drop a (by omega)
      have hne : s.rest ≠ [] := by rw [hrest]; intro h; have := congrArg List.length h; simp at this; omega
      have hok := get_ok s.rest (by rw [hrest]; exact hB.drop a)
      have hu := fun (q : Nat) => uint1_any b (off + a) (bs.length - a) (c - a) bm (bs.drop a) most (w.drewN q) F hd (hB.drop a) hm
      have hl2 := fun q => left_any r _ bs.length c a 0 (w.drewN q) (by rw [he] at hblk; exact hblk) g3 ha
      have hlt : a < bs.length := by omega
      have HU : Hid (rdUint most s = if (get s.rest).2.2 ≠ 0 then (0, { s with err := (get s.rest).2.2 })
        else if (get s.rest).1 > most then (0, { s with err := 3 })
        else ((get s.rest).1, { s with rest := s.rest.drop (get s.rest).2.1.toNat })) := by show _ = _; simp only [rdUint, he, hne]; simp
      have hr2 : s.rest.length = bs.length - a := by rw [hrest]; simp
      rw [hr2] at hok
      rw [← hrest] at hu
      generalize get s.rest = G at *
      have H0 : Hid (s.err = 0) := he
      have HR : Hid (s.rest = bs.drop a) := hrest
      rw [he] at c2 hblk
      clear he hrest hr2 e1
      have hz : (((bs.length : Int) - (a : Int)) == 0) = false := by simp; omega
      have hB0 := hB
      by_cases hG : G.2.2 = 0
      · have HG := Lib.hid hG
        have hA := hok.2.2.1 hG
        have hB := hok.1
        by_cases hgt : G.1 > most
        · have HF : Hid ((if G.2.2 = 0 ∧ G.1 > most then (3 : Int) else G.2.2) = 3) := if_pos ⟨hG, hgt⟩
          rw [HF.out] at hu
          have HR2 : Hid (rdUint most s = (0, { s with err := 3 })) := by show _ = _; rw [HU.out, if_neg (by simp [hG]), if_pos hgt]
          rw [HR2.out]
          clear hG hok
          go_enter Tryz.func101, Tryz.ntmps101
          go_wp2_with (first | (go_at_call 67; refine (err_any r _ _ _ _ hblk).mono ?_; rintro e w' ⟨rfl, rfl⟩) | (go_at_call 68; refine (hl2 0).mono ?_; rintro e w' ⟨rfl, q, rfl⟩))
          go_quiet ((go_at_call 102; exact calls_quiet2 (hu _)))
          go_wp2
          go_ret
          have hfr : Fr (fun k => k = r) w (World.setCell (w.drewN (q + nq)) ⟨r, 2, none⟩ (.int .i64 3)) := ((Fr.refl (fun k => k = r) w).drewN _).setCell (p := ⟨r, 2, none⟩) (fun _ => rfl) _
          refine ⟨rfl, ⟨_, bs, a, ?_, hsl.fr hfr (fun b hb e => hnF (e ▸ hb)), hB0, ha, HR.out, hnF, by simp, by simp⟩, hfr⟩
          simpa using blk_set (w := w.drewN (q + nq)) hblk 2 (.int .i64 3)
        · have HF : Hid ((if G.2.2 = 0 ∧ G.1 > most then (3 : Int) else G.2.2) = 0) := by show _ = _; rw [if_neg (by omega), hG]
          rw [HF.out] at hu
          have HR2 : Hid (rdUint most s = (G.1, { s with rest := s.rest.drop G.2.1.toNat })) := by show _ = _; rw [HU.out, if_neg (by simp [hG]), if_neg hgt]
          rw [HR2.out]
          clear hG hok
          go_enter Tryz.func101, Tryz.ntmps101
          go_wp2_with (first | (go_at_call 67; refine (err_any r _ _ _ _ hblk).mono ?_; rintro e w' ⟨rfl, rfl⟩) | (go_at_call 68; refine (hl2 0).mono ?_; rintro e w' ⟨rfl, q, rfl⟩))
          go_quiet ((go_at_call 102; exact calls_quiet2 (hu _)))
          go_wp2
          go_ret
          have hfr : Fr (fun k => k = r) w (World.setCell (w.drewN (q + nq)) ⟨r, 1, none⟩ (.int .i64 ((a : Int) + G.2.1))) := ((Fr.refl (fun k => k = r) w).drewN _).setCell (p := ⟨r, 1, none⟩) (fun _ => rfl) _
          refine ⟨rfl, ⟨_, bs, a + G.2.1.toNat, ?_, hsl.fr hfr (fun b hb e => hnF (e ▸ hb)), hB0, by omega, ?_, hnF, he0, he1⟩, hfr⟩
          · have h5 := blk_set (w := w.drewN (q + nq)) hblk 1 (.int .i64 ((a : Int) + G.2.1))
            have h6 : ((a + G.2.1.toNat : Nat) : Int) = (a : Int) + G.2.1 := by omega
            rw [h6, H0.out]
            simpa using h5
          · show s.rest.drop _ = _
            rw [HR.out, List.drop_drop]
      · have HF : Hid ((if G.2.2 = 0 ∧ G.1 > most then (3 : Int) else G.2.2) = G.2.2) := if_neg (by omega)
        rw [HF.out] at hu
        have HR2 : Hid (rdUint most s = (0, { s with err := G.2.2 })) := by show _ = _; rw [HU.out, if_pos hG]
        rw [HR2.out]
        have hbn : (G.2.2 != 0) = true := by simp [hG]
        have hbn2 : (G.2.2 == 0) = false := by simp [hG]
        go_enter Tryz.func101, Tryz.ntmps101
        go_wp2_with (first | (go_at_call 67; refine (err_any r _ _ _ _ hblk).mono ?_; rintro e w' ⟨rfl, rfl⟩) | (go_at_call 68; refine (hl2 0).mono ?_; rintro e w' ⟨rfl, q, rfl⟩))
        go_quiet ((go_at_call 102; exact calls_quiet2 (hu _)))
        go_wp2
        go_ret
        have hfr : Fr (fun k => k = r) w (World.setCell (w.drewN (q + nq)) ⟨r, 2, none⟩ (.int .i64 G.2.2)) := ((Fr.refl (fun k => k = r) w).drewN _).setCell (p := ⟨r, 2, none⟩) (fun _ => rfl) _
        refine ⟨rfl, ⟨_, bs, a, ?_, hsl.fr hfr (fun b hb e => hnF (e ▸ hb)), hB0, ha, HR.out, hnF, hok.2.2.2.2.1, by show G.2.2 ≤ 17; have := hok.2.2.2.2.2; omega⟩, hfr⟩
        simpa using blk_set (w := w.drewN (q + nq)) hblk 2 (.int .i64 G.2.2)
  · have hb : (s.err == 0) = false := by simp [he]
    have HU : Hid (rdUint most s = (0, s)) := by show _ = _; simp [rdUint, he]
    rw [HU.out]
    go_enter Tryz.func101, Tryz.ntmps101
    go_wp2_with (go_at_call 67; refine (err_any r _ _ _ _ hblk).mono ?_; rintro e w' ⟨rfl, rfl⟩)
    go_ret
    exact ⟨rfl, ⟨_, bs, a, hblk, hsl, hB, ha, hrest, hnF, he0, he1⟩, Fr.refl _ _⟩

end Go.Proofs.YtpdckdfnpehliaaGreat
