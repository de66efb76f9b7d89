/- Walks of layer 8: record, reading. -/
import Derived.Test.YtpdckdfnpehliaaGreatRd3
import Derived.Test.YtpdckdfnpehliaaGreatRec4
set_option linter.unusedVariables false
set_option linter.unusedSimpArgs false

namespace Go.Proofs.YtpdckdfnpehliaaGreat
open Go Go.RowKit Go.Deep Go.Shelf
set_option maxHeartbeats 400000

theorem u16_id {x : Int} (h0 : 0 ≤ x) (h1 : x ≤ 65535) : IntKind.u16.wrap x = x := by
  have : IntKind.u16.wrap x = x % 65536 := by simp [IntKind.wrap, IntKind.bits, IntKind.signed]
  omega

/-- Where a walk of a record's reading stands: the reader, the record's block. -/
structure RecSt (w : World) (F : Nat → Prop) (r rb : Nat) (s1 : RdS) (x : Rec) (W : World) : Prop where
  rd : Rd W F r s1
  fr : Fr (fun k => k = r ∨ k = rb) w W
  ne : r ≠ rb
  nF : ¬ F rb
  k : W.heap[rb]? = some (.cells x.cells 115 (0, 0))
theorem RecSt.step {w W W' : World} {F : Nat → Prop} {r rb : Nat} {s1 s2 : RdS} {x : Rec} (h : RecSt w F r rb s1 x W) (hR : Rd W' F r s2) (hF : Fr (fun k => k = r) W W') : RecSt w F r rb s2 x W' :=
  ⟨hR, h.fr.trans' hF (fun _ _ e => .inl e), h.ne, h.nF, hF.at h.k (fun e => h.ne e.symm)⟩
theorem RecSt.set {w W : World} {F : Nat → Prop} {r rb : Nat} {s1 : RdS} {x : Rec} (h : RecSt w F r rb s1 x W) (i : Nat) (v : Value) {y : Rec} (he : x.cells.setIfInBounds i v = y.cells) :
    RecSt w F r rb s1 y (W.setCell ⟨rb, i, none⟩ v) := by
  have hne := h.ne
  refine ⟨h.rd.fr (fr_set _) ?_, h.fr.trans' (fr_set v) (fun _ _ e => .inr e), h.ne, h.nF, ?_⟩
  · rintro b (hb | hb) e
    · exact h.nF (e ▸ hb)
    · omega
  · rw [← he]; exact blk_set h.k i _

theorem RecSt.vec2 {w W : World} {F : Nat → Prop} {r rb : Nat} {s1 : RdS} {x : Rec} (h : RecSt w F r rb s1 x W) (a b c : Int) :
    RecSt w F r rb s1 ⟨x.kind, x.id, a, b, c, x.v0, x.v1, x.v2, x.angle⟩ (((W.setCell ⟨rb, 2, none⟩ (.int .i64 a)).setCell ⟨rb, 3, none⟩ (.int .i64 b)).setCell ⟨rb, 4, none⟩ (.int .i64 c)) :=
  ((h.set 2 _ (y := ⟨x.kind, x.id, a, x.p1, x.p2, x.v0, x.v1, x.v2, x.angle⟩) rfl).set 3 _ (y := ⟨x.kind, x.id, a, b, x.p2, x.v0, x.v1, x.v2, x.angle⟩) rfl).set 4 _ rfl
theorem RecSt.vec5 {w W : World} {F : Nat → Prop} {r rb : Nat} {s1 : RdS} {x : Rec} (h : RecSt w F r rb s1 x W) (a b c : Int) :
    RecSt w F r rb s1 ⟨x.kind, x.id, x.p0, x.p1, x.p2, a, b, c, x.angle⟩ (((W.setCell ⟨rb, 5, none⟩ (.int .i64 a)).setCell ⟨rb, 6, none⟩ (.int .i64 b)).setCell ⟨rb, 7, none⟩ (.int .i64 c)) :=
  ((h.set 5 _ (y := ⟨x.kind, x.id, x.p0, x.p1, x.p2, a, x.v1, x.v2, x.angle⟩) rfl).set 6 _ (y := ⟨x.kind, x.id, x.p0, x.p1, x.p2, a, b, x.v2, x.angle⟩) rfl).set 7 _ rfl
theorem RecSt.ang {w W : World} {F : Nat → Prop} {r rb : Nat} {s1 : RdS} {x : Rec} (h : RecSt w F r rb s1 x W) (a : Int) :
    RecSt w F r rb s1 ⟨x.kind, x.id, x.p0, x.p1, x.p2, x.v0, x.v1, x.v2, a⟩ (W.setCell ⟨rb, 8, none⟩ (.int .u16 a)) := h.set 8 _ rfl
theorem RecSt.cells {w W : World} {F : Nat → Prop} {r rb : Nat} {s1 : RdS} {x : Rec} (h : RecSt w F r rb s1 x W) :
    W.cell? ⟨rb, 0, none⟩ = some (.int .i64 x.kind) ∧ W.cell? ⟨rb, 1, none⟩ = some (.int .i64 x.id) ∧ W.cell? ⟨rb, 2, none⟩ = some (.int .i64 x.p0) ∧ W.cell? ⟨rb, 3, none⟩ = some (.int .i64 x.p1) ∧ W.cell? ⟨rb, 4, none⟩ = some (.int .i64 x.p2) ∧
      W.cell? ⟨rb, 5, none⟩ = some (.int .i64 x.v0) ∧ W.cell? ⟨rb, 6, none⟩ = some (.int .i64 x.v1) ∧ W.cell? ⟨rb, 7, none⟩ = some (.int .i64 x.v2) ∧ W.cell? ⟨rb, 8, none⟩ = some (.int .u16 x.angle) ∧ ∀ i, W.frozen? ⟨rb, i, none⟩ = false :=
  ⟨blk h.k 0, blk h.k 1, blk h.k 2, blk h.k 3, blk h.k 4, blk h.k 5, blk h.k 6, blk h.k 7, blk h.k 8, blkF h.k⟩

set_option maxRecDepth 100000 in
theorem readAll_any (r rb : Nat) (s : RdS) (x : Rec) (w : World) (F : Nat → Prop) (h : Rd w F r s) (hne : r ≠ rb) (hnF : ¬ F rb) (hk : w.heap[rb]? = some (.cells x.cells 115 (0, 0))) :
    Calls Tryz.prog 117 #[.pointer (some ⟨r, 0, none⟩), .pointer (some ⟨rb, 0, none⟩)] w fun e w' => e = .returned (.tuple #[]) ∧ RecSt w F r rb (rdAll x s).2 (rdAll x s).1 w' := by
  have S0 : RecSt w F r rb s x w := ⟨h, Fr.refl _ _, hne, hnF, hk⟩
  have HV : Hid (rdAll x s = (⟨x.kind, x.id, (rdVec s).1.1, (rdVec s).1.2.1, (rdVec s).1.2.2, (rdVec (rdVec s).2).1.1, (rdVec (rdVec s).2).1.2.1, (rdVec (rdVec s).2).1.2.2, (rdUint 65535 (rdVec (rdVec s).2).2).1⟩, (rdUint 65535 (rdVec (rdVec s).2).2).2)) := rfl
  rw [HV.out]
  generalize hv1 : rdVec s = q1 at *
  generalize hv2 : rdVec q1.2 = q2 at *
  generalize hv3 : rdUint 65535 q2.2 = q3 at *
  have HV1 := Lib.hid hv1
  have HV2 := Lib.hid hv2
  have HV3 := Lib.hid hv3
  clear hv1 hv2 hv3 HV h
  go_enter Tryz.func117, Tryz.ntmps117
  go_wp2_with (first
    | (go_at_call 144; refine (vec_any r _ _ _ S1.rd).mono ?_; rintro e w2 ⟨he, hR2, hF2⟩; rw [HV2.out] at he hR2; subst he; have S2 := S1.step hR2 hF2; obtain ⟨_, _, hz2, hz3, hz4, hz5, hz6, hz7, hz8, hzf⟩ := S2.cells)
    | (go_at_call 144; refine (vec_any r _ _ _ S0.rd).mono ?_; rintro e w1 ⟨he, hR1, hF1⟩; rw [HV1.out] at he hR1; subst he; have S1 := S0.step hR1 hF1)
    | (go_at_call 62; have S3 := (S2.vec2 q1.1.1 q1.1.2.1 q1.1.2.2).vec5 q2.1.1 q2.1.2.1 q2.1.2.2; refine (uint_any r _ _ _ _ S3.rd).mono ?_; rintro e w3 ⟨he, hR3, hF3⟩; rw [HV3.out] at he hR3; subst he; have hu := rdUint_range 65535 q2.2 S2.rd.isB (by omega); rw [HV3.out] at hu; have hq3 : IntKind.u16.wrap q3.1 = q3.1 := u16_id hu.1 hu.2.1; have S4 := S3.step hR3 hF3; obtain ⟨_, _, _, _, _, _, _, _, hw8, hwf⟩ := S4.cells))
  go_end0
  exact ⟨rfl, S4.ang q3.1⟩

theorem rdFail_any (r : Nat) (s : RdS) (e1 : Int) (w : World) (F : Nat → Prop) (h : Rd w F r s) (h0 : 0 ≤ e1) (h1 : e1 ≤ 17) :
    Calls Tryz.prog 65 #[.pointer (some ⟨r, 0, none⟩), .int .i64 e1] w fun e w' => e = .returned (.tuple #[]) ∧ Rd w' F r (s.fail e1) ∧ Fr (fun k => k = r) w w' := by
  obtain ⟨v, bs, a, hblk, hsl, hB, ha, hrest, hnF, he0, he1⟩ := h
  refine (fail_any r v a s.err e1 w hblk).mono ?_
  rintro e w' ⟨rfl, rfl⟩
  refine ⟨rfl, ?_⟩
  by_cases h0 : s.err = 0
  · rw [if_pos h0]
    refine ⟨⟨v, bs, a, ?_, hsl.fr (fr_set _) (fun b hb e => hnF (e ▸ hb)), hB, ha, ?_, hnF, ?_, ?_⟩, fr_set _⟩
    · have := blk_set hblk 2 (.int .i64 e1)
      rw [this]; simp [RdS.fail, h0]
    · simp [RdS.fail, h0, hrest]
    · simp [RdS.fail, h0]; omega
    · simp [RdS.fail, h0]; omega
  · rw [if_neg h0]
    have : s.fail e1 = s := by simp [RdS.fail, h0]
    rw [this]
    exact ⟨⟨v, bs, a, hblk, hsl, hB, ha, hrest, hnF, he0, he1⟩, Fr.refl _ _⟩

def Rec.setN (x : Rec) (i : Nat) (v : Int) : Rec :=
  match i with
  | 0 => ⟨x.kind, x.id, v, x.p1, x.p2, x.v0, x.v1, x.v2, x.angle⟩
  | 1 => ⟨x.kind, x.id, x.p0, v, x.p2, x.v0, x.v1, x.v2, x.angle⟩
  | 2 => ⟨x.kind, x.id, x.p0, x.p1, v, x.v0, x.v1, x.v2, x.angle⟩
  | 3 => ⟨x.kind, x.id, x.p0, x.p1, x.p2, v, x.v1, x.v2, x.angle⟩
  | 4 => ⟨x.kind, x.id, x.p0, x.p1, x.p2, x.v0, v, x.v2, x.angle⟩
  | _ => ⟨x.kind, x.id, x.p0, x.p1, x.p2, x.v0, x.v1, v, x.angle⟩
def rdStep (m : Int) (i : Nat) (p : Rec × RdS) : Rec × RdS :=
  if (m / 2 ^ i % 2 == 1) = true then (p.1.setN i (rdInt p.2).1, if (rdInt p.2).1 = 0 then (rdInt p.2).2.fail 7 else (rdInt p.2).2) else p
def rdSteps (m : Int) : Nat → Rec × RdS → Rec × RdS
  | 0, p => p
  | i + 1, p => rdStep m i (rdSteps m i p)
theorem rdStep_eq (m : Int) (i : Nat) (x : Rec) (s : RdS) (old : Int) (h : x.setN i old = x) : rdStep m i (x, s) = (x.setN i (rdOne (m / 2 ^ i % 2 == 1) old s).1, (rdOne (m / 2 ^ i % 2 == 1) old s).2) := by
  unfold rdStep rdOne
  by_cases hb : (m / 2 ^ i % 2 == 1) = true
  · rw [if_pos hb, if_pos hb]
  · rw [if_neg hb, if_neg hb]; simp [h]
theorem rdSome_eq (r : Rec) (s : RdS) : rdSome r s =
    if (rdByte s).1 = 0 ∨ (rdByte s).1 > 127 then (r, (rdByte s).2.fail 7)
    else if (rdByte s).1 / 64 % 2 = 1 then
      (⟨(rdSteps (rdByte s).1 6 (r, (rdByte s).2)).1.kind, (rdSteps (rdByte s).1 6 (r, (rdByte s).2)).1.id, (rdSteps (rdByte s).1 6 (r, (rdByte s).2)).1.p0, (rdSteps (rdByte s).1 6 (r, (rdByte s).2)).1.p1, (rdSteps (rdByte s).1 6 (r, (rdByte s).2)).1.p2, (rdSteps (rdByte s).1 6 (r, (rdByte s).2)).1.v0, (rdSteps (rdByte s).1 6 (r, (rdByte s).2)).1.v1, (rdSteps (rdByte s).1 6 (r, (rdByte s).2)).1.v2, (rdUint 65535 (rdSteps (rdByte s).1 6 (r, (rdByte s).2)).2).1⟩,
        if (rdUint 65535 (rdSteps (rdByte s).1 6 (r, (rdByte s).2)).2).1 = 0 then (rdUint 65535 (rdSteps (rdByte s).1 6 (r, (rdByte s).2)).2).2.fail 7 else (rdUint 65535 (rdSteps (rdByte s).1 6 (r, (rdByte s).2)).2).2)
    else rdSteps (rdByte s).1 6 (r, (rdByte s).2) := by
  unfold rdSome
  generalize rdByte s = q
  obtain ⟨m, s1⟩ := q
  simp only
  split
  · rfl
  · have e : rdSteps m 6 (r, s1) = rdStep m 5 (rdStep m 4 (rdStep m 3 (rdStep m 2 (rdStep m 1 (rdStep m 0 (r, s1)))))) := rfl
    rw [e, rdStep_eq m 0 r s1 r.p0 rfl, rdStep_eq m 1 _ _ r.p1 rfl, rdStep_eq m 2 _ _ r.p2 rfl, rdStep_eq m 3 _ _ r.v0 rfl, rdStep_eq m 4 _ _ r.v1 rfl, rdStep_eq m 5 _ _ r.v2 rfl]
    have e1 : (2 : Int) ^ 0 = 1 ∧ (2 : Int) ^ 1 = 2 ∧ (2 : Int) ^ 2 = 4 ∧ (2 : Int) ^ 3 = 8 ∧ (2 : Int) ^ 4 = 16 ∧ (2 : Int) ^ 5 = 32 := by decide
    obtain ⟨a0, a1, a2, a3, a4, a5⟩ := e1
    rw [a0, a1, a2, a3, a4, a5]
    rfl

set_option maxRecDepth 100000 in
theorem and_1_all : ∀ y : Fin 256, bits BinOp.and IntKind.u8 (y.val : Int) 1 = ((y.val % 2 : Nat) : Int) := by decide +kernel
set_option maxRecDepth 100000 in
theorem and_64_all : ∀ y : Fin 256, bits BinOp.and IntKind.u8 (y.val : Int) 64 = ((y.val / 64 % 2 * 64 : Nat) : Int) := by decide +kernel
theorem and_1 (y : Int) (h0 : 0 ≤ y) (h1 : y < 256) : bits BinOp.and IntKind.u8 y 1 = y % 2 := by
  have := and_1_all ⟨y.toNat, by omega⟩
  have e : ((y.toNat : Nat) : Int) = y := Int.toNat_of_nonneg h0
  simp only [e] at this
  rw [this]; omega
theorem and_64 (y : Int) (h0 : 0 ≤ y) (h1 : y < 256) : bits BinOp.and IntKind.u8 y 64 = y / 64 % 2 * 64 := by
  have := and_64_all ⟨y.toNat, by omega⟩
  have e : ((y.toNat : Nat) : Int) = y := Int.toNat_of_nonneg h0
  simp only [e] at this
  rw [this]; omega
theorem div_pow (y : Int) (i : Nat) (h0 : 0 ≤ y) (h1 : y < 256) : 0 ≤ y / 2 ^ i ∧ y / 2 ^ i < 256 := by
  have hp : (0 : Int) < 2 ^ i := Int.pow_pos (by omega)
  refine ⟨Int.ediv_nonneg h0 (Int.le_of_lt hp), ?_⟩
  have := Int.ediv_le_self (2 ^ i) h0
  omega

theorem RecSt.num {w W : World} {F : Nat → Prop} {r rb : Nat} {s1 : RdS} {x : Rec} (h : RecSt w F r rb s1 x W) (i : Nat) (hi : i < 6) (v : Int) :
    RecSt w F r rb s1 (x.setN i v) (W.setCell ⟨rb, 2 + i, none⟩ (.int .i64 v)) := by
  obtain rfl | rfl | rfl | rfl | rfl | rfl : i = 0 ∨ i = 1 ∨ i = 2 ∨ i = 3 ∨ i = 4 ∨ i = 5 := by omega
  all_goals exact h.set _ _ rfl

set_option maxRecDepth 100000 in
theorem readSome_any (r rb : Nat) (s : RdS) (x : Rec) (w : World) (F : Nat → Prop) (h : Rd w F r s) (hne : r ≠ rb) (hnF : ¬ F rb) (hk : w.heap[rb]? = some (.cells x.cells 115 (0, 0))) :
    Calls Tryz.prog 119 #[.pointer (some ⟨r, 0, none⟩), .pointer (some ⟨rb, 0, none⟩)] w fun e w' => e = .returned (.tuple #[]) ∧ RecSt w F r rb (rdSome x s).2 (rdSome x s).1 w' := by
  have S0 : RecSt w F r rb s x w := ⟨h, Fr.refl _ _, hne, hnF, hk⟩
  have hbr := rdByte_range s h.isB
  have HE : Hid _ := rdSome_eq x s
  generalize hv1 : rdByte s = q1 at *
  have HV1 := Lib.hid hv1
  clear hv1 h
  by_cases h0 : q1.1 = 0 ∨ q1.1 > 127
  · have HG : Hid (rdSome x s = (x, q1.2.fail 7)) := by show _ = _; rw [HE.out, if_pos h0]
    rw [HG.out]
    rcases h0 with h0 | h0
    · have e1 : (q1.1 == 0) = true := by simp [h0]
      clear h0
      go_enter Tryz.func119, Tryz.ntmps119
      go_wp2_with (first
        | (go_at_call 100; refine (byte_any r _ _ _ S0.rd).mono ?_; rintro e w1 ⟨he, hR1, hF1⟩; rw [HV1.out] at he hR1; subst he; have S1 := S0.step hR1 hF1)
        | (go_at_call 65; refine (rdFail_any r _ 7 _ _ S1.rd (by omega) (by omega)).mono ?_; rintro e w2 ⟨rfl, hR2, hF2⟩))
      refine bodyPost_ret (results_none rfl _ _ _) rfl ?_
      exact ⟨rfl, S1.step hR2 hF2⟩
    · have e1 : (q1.1 == 0) = false := by simp; omega
      go_enter Tryz.func119, Tryz.ntmps119
      go_wp2_with (first
        | (go_at_call 100; refine (byte_any r _ _ _ S0.rd).mono ?_; rintro e w1 ⟨he, hR1, hF1⟩; rw [HV1.out] at he hR1; subst he; have S1 := S0.step hR1 hF1)
        | (go_at_call 65; refine (rdFail_any r _ 7 _ _ S1.rd (by omega) (by omega)).mono ?_; rintro e w2 ⟨rfl, hR2, hF2⟩))
      refine bodyPost_ret (results_none rfl _ _ _) rfl ?_
      exact ⟨rfl, S1.step hR2 hF2⟩
  · have e1 : (q1.1 == 0) = false := by simp; omega
    have e2 : ¬ 127 < q1.1 := by omega
    have HG := HE.out
    rw [if_neg h0] at HG
    have HGG := Lib.hid HG
    clear HG HE h0
    go_enter Tryz.func119, Tryz.ntmps119
    go_wp2_with (first
      | (go_at_call 100; refine (byte_any r _ _ _ S0.rd).mono ?_; rintro e w1 ⟨he, hR1, hF1⟩; rw [HV1.out] at he hR1; subst he; have S1 := S0.step hR1 hF1)
      | (go_at_call 105; refine (numbers_any rb _).mono ?_; rintro e w2 ⟨rfl, qd, rfl⟩))
    go_loopw [19] (fun t wr => ∃ i : Nat, i ≤ 6 ∧ t = .int .i64 i ∧ RecSt w F r rb (rdSteps q1.1 i (x, q1.2)).2 (rdSteps q1.1 i (x, q1.2)).1 wr) (fun t _ => 6 - (intOf t).toNat)
    case atStart => exact ⟨0, by omega, rfl, ⟨S1.rd.below (below_drewN ((Below.refl _ _).alloc (Nat.le_refl _) _) _), (S1.fr.alloc _).drewN _, S1.ne, S1.nF, heap_old S1.k⟩⟩
    case round =>
      obtain ⟨i, hi, rfl, St⟩ := hrel
      by_cases h6 : i < 6
      · have hix := idx6 rb i h6
        have HST : Hid (rdSteps q1.1 (i + 1) (x, q1.2) = rdStep q1.1 i (rdSteps q1.1 i (x, q1.2))) := rfl
        generalize rdSteps q1.1 i (x, q1.2) = p at *
        have hdp := div_pow q1.1 i hbr.1 hbr.2
        have hand := and_1 _ hdp.1 hdp.2
        by_cases hb : (q1.1 / 2 ^ i % 2 == 1) = true
        · have e3 : (bits BinOp.and IntKind.u8 (q1.1 / 2 ^ i) 1 == 0) = false := by rw [hand]; simp at hb ⊢; omega
          have HS2 : Hid (rdStep q1.1 i p = (p.1.setN i (rdInt p.2).1, if (rdInt p.2).1 = 0 then (rdInt p.2).2.fail 7 else (rdInt p.2).2)) := if_pos hb
          clear hand hdp hb
          have hzi := blk St.k (2 + i)
          rw [Rec.cell p.1 i h6] at hzi
          by_cases hv : (rdInt p.2).1 = 0
          · have e4 : ((rdInt p.2).1 == 0) = true := by simp [hv]
            have HS3 : Hid (rdStep q1.1 i p = (p.1.setN i (rdInt p.2).1, (rdInt p.2).2.fail 7)) := by show _ = _; rw [HS2.out, if_pos hv]
            clear HS2 hv
            go_wp2_with (first
              | (go_at_call 63; refine (int_any r _ _ _ St.rd).mono ?_; rintro e w2 ⟨rfl, hR2, hF2⟩; have St2 := St.step hR2 hF2; have hz2 := (blk St2.k (2 + i)).trans (Rec.cell p.1 i h6); have hz3 := blkF St2.k (2 + i); have St3 := St2.num i h6 (rdInt p.2).1)
              | (go_at_call 65; refine (rdFail_any r _ 7 _ _ St3.rd (by omega) (by omega)).mono ?_; rintro e w3 ⟨rfl, hR3, hF3⟩))
            refine ⟨⟨i + 1, by omega, by go_num, ?_⟩, by simp [intOf]; omega⟩
            rw [HST.out, HS3.out]
            exact St3.step hR3 hF3
          · have e4 : ((rdInt p.2).1 == 0) = false := by simp [hv]
            have HS3 : Hid (rdStep q1.1 i p = (p.1.setN i (rdInt p.2).1, (rdInt p.2).2)) := by show _ = _; rw [HS2.out, if_neg hv]
            clear HS2 hv
            go_wp2_with (first
              | (go_at_call 63; refine (int_any r _ _ _ St.rd).mono ?_; rintro e w2 ⟨rfl, hR2, hF2⟩; have St2 := St.step hR2 hF2; have hz2 := (blk St2.k (2 + i)).trans (Rec.cell p.1 i h6); have hz3 := blkF St2.k (2 + i); have St3 := St2.num i h6 (rdInt p.2).1))
            refine ⟨⟨i + 1, by omega, by go_num, ?_⟩, by simp [intOf]; omega⟩
            rw [HST.out, HS3.out]
            exact St3
        · have e3 : (bits BinOp.and IntKind.u8 (q1.1 / 2 ^ i) 1 == 0) = true := by rw [hand]; simp at hb ⊢; omega
          have HS2 : Hid (rdStep q1.1 i p = p) := if_neg hb
          clear hand hdp hb
          go_wp2_with (fail)
          refine ⟨⟨i + 1, by omega, by go_num, ?_⟩, by simp [intOf]; omega⟩
          rw [HST.out, HS2.out]
          exact St
      · have h6 : i = 6 := by omega
        subst h6
        have hand := and_64 q1.1 hbr.1 hbr.2
        generalize rdSteps q1.1 6 (x, q1.2) = p at *
        by_cases hb : q1.1 / 64 % 2 = 1
        · have e3 : (bits BinOp.and IntKind.u8 q1.1 64 != 0) = true := by rw [hand]; simp; omega
          have HG2 := HGG.out
          rw [if_pos hb] at HG2
          have HG3 := Lib.hid HG2
          clear HG2 HGG hand hb
          obtain ⟨_, _, _, _, _, _, _, _, hz8, hzf⟩ := St.cells
          have hu := rdUint_range 65535 p.2 St.rd.isB (by omega)
          have hq3 := u16_id hu.1 hu.2.1
          by_cases hv : (rdUint 65535 p.2).1 = 0
          · have e4 : ((rdUint 65535 p.2).1 == 0) = true := by simp [hv]
            have HG4 := HG3.out
            rw [if_pos hv] at HG4
            have HG5 := Lib.hid HG4
            clear HG3 HG4 hv
            go_wp2_with (first
              | (go_at_call 62; refine (uint_any r _ _ _ _ St.rd).mono ?_; rintro e w2 ⟨rfl, hR2, hF2⟩; have St2 := St.step hR2 hF2; obtain ⟨_, _, _, _, _, _, _, _, hy8, hyf⟩ := St2.cells; have St3 := St2.ang (rdUint 65535 p.2).1)
              | (go_at_call 65; refine (rdFail_any r _ 7 _ _ St3.rd (by omega) (by omega)).mono ?_; rintro e w3 ⟨rfl, hR3, hF3⟩))
            go_end0
            rw [HG5.out]
            exact ⟨rfl, St3.step hR3 hF3⟩
          · have e4 : ((rdUint 65535 p.2).1 == 0) = false := by simp [hv]
            have HG4 := HG3.out
            rw [if_neg hv] at HG4
            have HG5 := Lib.hid HG4
            clear HG3 HG4 hv
            go_wp2_with (first
              | (go_at_call 62; refine (uint_any r _ _ _ _ St.rd).mono ?_; rintro e w2 ⟨rfl, hR2, hF2⟩; have St2 := St.step hR2 hF2; obtain ⟨_, _, _, _, _, _, _, _, hy8, hyf⟩ := St2.cells; have St3 := St2.ang (rdUint 65535 p.2).1))
            go_end0
            rw [HG5.out]
            exact ⟨rfl, St3⟩
        · have e3 : (bits BinOp.and IntKind.u8 q1.1 64 != 0) = false := by rw [hand]; simp; omega
          have HG2 := HGG.out
          rw [if_neg hb] at HG2
          have HG3 := Lib.hid HG2
          clear HG2 HGG hand hb
          go_wp2_with (fail)
          go_end0
          rw [HG3.out]
          exact ⟨rfl, St⟩

theorem kinds2_any (r rb : Nat) (w : World) :
    Calls Tryz.prog 115 #[.pointer (some ⟨r, 0, none⟩), .pointer (some ⟨rb, 0, none⟩)] w fun e w' => e = .returned (.tuple #[]) ∧ w = w' := by
  go_enter Tryz.func115, Tryz.ntmps115
  go_wp2
  go_end0
  exact ⟨rfl, rfl⟩

end Go.Proofs.YtpdckdfnpehliaaGreat
