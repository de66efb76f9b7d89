/- Walks of layer 9: reading. -/
import Derived.Test.YtpdckdfnpehliaaGreatRec6
import Derived.Test.YtpdckdfnpehliaaGreatGram3
import Derived.Test.YtpdckdfnpehliaaGreatGramRSpec
set_option linter.unusedVariables false
set_option linter.unusedSimpArgs false

namespace Go.Proofs.YtpdckdfnpehliaaGreat
open Go Go.RowKit Go.Deep Go.Shelf
set_option maxHeartbeats 400000

/-- An owned row of records. -/
abbrev OwnR (w : World) (base : Nat) (v : Value) (xs : List Rec) : Prop := w.ownsRow base 115 9 v xs.length (xs.flatMap Rec.enc)
/-- Where a parser stands: its reader in block r, itself in block pb, what it has read. -/
structure PSt (w : World) (B : Nat) (F : Nat → Prop) (r pb : Nat) (g : Gram) (s : RdS) (W : World) : Prop where
  rd : Rd W F r s
  bl : Below B w W
  hB : B ≤ r
  hr : r < pb
  hF : ∀ b, F b → b < pb
  cl : W.heap[pb + 1]? = w.heap[pb + 1]?
  lt : pb + 1 < w.heap.size
  st : ∃ v, W.heap[pb]? = some (.cells #[.pointer (some ⟨r, 0, none⟩), .int .i64 g.tick, .int .i64 g.time, .int .i64 g.base, v] 94 (0, 0)) ∧ OwnR W (pb + 2) v g.recs
theorem PSt.step {w W W' : World} {B : Nat} {F : Nat → Prop} {r pb : Nat} {g : Gram} {s s2 : RdS} (h : PSt w B F r pb g s W) (hR : Rd W' F r s2) (hF : Fr (fun k => k = r) W W') : PSt w B F r pb g s2 W' := by
  obtain ⟨v, hk, ho⟩ := h.st
  have h1 := h.hr
  refine ⟨hR, h.bl.trans (hF.to_below (by have := h.rd.lt; have := h.hB; omega) (fun i hi e => by have := h.hB; omega)), h.hB, h.hr, h.hF, (hF.block (pb + 1) (Nat.lt_of_lt_of_le h.lt h.bl.size) (by omega)).trans h.cl, h.lt, v, hF.at hk (by omega), own_fr ho hF (fun k hk e => ?_)⟩
  have := (ho.lt k hk).1
  omega
theorem PSt.cells {w W : World} {B : Nat} {F : Nat → Prop} {r pb : Nat} {g : Gram} {s : RdS} (h : PSt w B F r pb g s W) :
    W.cell? ⟨pb, 0, none⟩ = some (.pointer (some ⟨r, 0, none⟩)) ∧ W.cell? ⟨pb, 1, none⟩ = some (.int .i64 g.tick) ∧ W.cell? ⟨pb, 2, none⟩ = some (.int .i64 g.time) ∧ W.cell? ⟨pb, 3, none⟩ = some (.int .i64 g.base) ∧ ∀ i, W.frozen? ⟨pb, i, none⟩ = false := by
  obtain ⟨v, hk, _⟩ := h.st
  exact ⟨blk hk 0, blk hk 1, blk hk 2, blk hk 3, blkF hk⟩
/-- A number of the parser's is turned. -/
theorem PSt.set {w W : World} {B : Nat} {F : Nat → Prop} {r pb : Nat} {g g2 : Gram} {s : RdS} (h : PSt w B F r pb g s W) (i : Nat) (x : Value)
    (he : ∀ v, #[.pointer (some ⟨r, 0, none⟩), .int .i64 g.tick, .int .i64 g.time, .int .i64 g.base, v].setIfInBounds i x = #[Value.pointer (some ⟨r, 0, none⟩), .int .i64 g2.tick, .int .i64 g2.time, .int .i64 g2.base, v]) (hr : g2.recs = g.recs) :
    PSt w B F r pb g2 s (W.setCell ⟨pb, i, none⟩ x) := by
  obtain ⟨v, hk, ho⟩ := h.st
  have h1 := h.hr
  have h2 := h.hB
  have hlt := heap_lt hk
  refine ⟨h.rd.fr (fr_set _) ?_, h.bl.trans ((fr_set (w := W) (r := pb) (i := i) x).to_below (by omega) (fun i hi e => by omega)), h.hB, h.hr, h.hF, ((fr_set (w := W) (r := pb) (i := i) x).block (pb + 1) (Nat.lt_of_lt_of_le h.lt h.bl.size) (by omega)).trans h.cl, h.lt, v, ?_, ?_⟩
  · rintro b (hb | hb) e
    · have := h.hF b hb; omega
    · omega
  · rw [← he]; exact blk_set hk i _
  · rw [hr]; exact own_fr ho (fr_set _) (fun k hk e => by have := (ho.lt k hk).1; omega)

theorem PSt.keep {w W W' : World} {B : Nat} {F : Nat → Prop} {r pb : Nat} {g : Gram} {s : RdS} (h : PSt w B F r pb g s W) (hf : Fr (fun _ => False) W W') : PSt w B F r pb g s W' := by
  obtain ⟨v, hk, ho⟩ := h.st
  exact ⟨h.rd.fr hf (fun _ _ h => h), h.bl.trans (hf.to_below (by have := h.rd.lt; have := h.hB; omega) (fun _ _ h => h)), h.hB, h.hr, h.hF, (hf.block (pb + 1) (Nat.lt_of_lt_of_le h.lt h.bl.size) (fun h => h)).trans h.cl, h.lt, v, hf.at hk (fun h => h), own_fr ho hf (fun _ _ h => h)⟩
theorem PSt.alloc {w W : World} {B : Nat} {F : Nat → Prop} {r pb : Nat} {g : Gram} {s : RdS} (h : PSt w B F r pb g s W) (o : Obj) : PSt w B F r pb g s (W.alloc o) := h.keep ((Fr.refl _ _).alloc o)
/-- A record more. -/
theorem PSt.app {w W W' : World} {B : Nat} {F : Nat → Prop} {r pb : Nat} {g : Gram} {s : RdS} (h : PSt w B F r pb g s W) {v v3 : Value} {x : Rec} (hvo : OwnR W (pb + 2) v g.recs)
    (hf : Fr (fun k => v.ownBlock = some k) W W') (hp : ∃ u, W'.heap[pb]? = some (.cells #[.pointer (some ⟨r, 0, none⟩), .int .i64 g.tick, .int .i64 g.time, .int .i64 g.base, u] 94 (0, 0)))
    (ho : W'.ownsRow (pb + 2) 115 9 v3 (g.recs.length + 1) (g.recs.flatMap Rec.enc ++ x.enc)) :
    PSt w B F r pb ⟨g.tick, g.time, g.base, g.recs ++ [x]⟩ s (W'.setCell ⟨pb, 4, none⟩ v3) := by
  obtain ⟨u, hp⟩ := hp
  have h1 := h.hr
  have h2 := h.hB
  have hlt := h.rd.lt
  have hbl : Below B W W' := hf.to_below (by omega) (fun i hi e => by have := (hvo.lt i e).1; omega)
  refine ⟨(h.rd.fr hf ?_).fr (fr_set _) ?_, h.bl.trans (hbl.trans ((fr_set (w := W') (r := pb) (i := 4) v3).to_below (by have := hbl.size; omega) (fun i hi e => by omega))), h.hB, h.hr, h.hF, ?_, h.lt, v3, ?_, ?_⟩
  · rintro b (hb | hb) e
    · have := h.hF b hb; have := (hvo.lt b e).1; omega
    · have := (hvo.lt b e).1; omega
  · rintro b (hb | hb) e
    · have := h.hF b hb; omega
    · omega
  · have h3 := Nat.lt_of_lt_of_le h.lt h.bl.size
    exact ((fr_set (w := W') (r := pb) (i := 4) v3).block (pb + 1) (Nat.lt_of_lt_of_le h3 hf.size) (by omega)).trans ((hf.block (pb + 1) h3 (fun e => by have := (hvo.lt _ e).1; omega)).trans h.cl)
  · exact blk_set hp 4 v3
  · have : OwnR W' (pb + 2) v3 (g.recs ++ [x]) := by
      show World.ownsRow _ _ _ _ _ (g.recs ++ [x]).length _
      rw [List.length_append, List.flatMap_append]
      simpa using ho
    exact own_fr this (fr_set _) (fun k hk e => by have := (this.lt k hk).1; omega)

theorem must_any (w : World) (B : Nat) (F : Nat → Prop) (r pb : Nat) (g : Gram) (s : RdS) (c : Int) (W : World) (h : PSt w B F r pb g s W) :
    Calls Tryz.prog 61 #[.pointer (some ⟨pb, 0, none⟩), .int .u8 c] W fun e W' => e = .returned (.tuple #[]) ∧ PSt w B F r pb g (rdMust c s) W' := by
  obtain ⟨hc0, hc1, hc2, hc3, hcf⟩ := h.cells
  by_cases hb : (rdByte s).1 ≠ c
  · have e1 : ((rdByte s).1 != c) = true := by simpa using hb
    have HM : Hid (rdMust c s = (rdByte s).2.fail 7) := if_pos hb
    rw [HM.out]
    clear hb
    go_enter Tryz.func61, Tryz.ntmps61
    go_wp2_with (first
      | (go_at_call 100; refine (byte_any r _ _ _ h.rd).mono ?_; rintro e w5 ⟨rfl, hR2, hF2⟩; have S3 := h.step hR2 hF2; obtain ⟨hd0, _, _, _, _⟩ := S3.cells)
      | (go_at_call 65; refine (rdFail_any r _ 7 _ _ S3.rd (by omega) (by omega)).mono ?_; rintro e w8 ⟨rfl, hR7, hF7⟩))
    go_end0
    exact ⟨rfl, S3.step hR7 hF7⟩
  · have e1 : ((rdByte s).1 != c) = false := by simpa using hb
    have HM : Hid (rdMust c s = (rdByte s).2) := if_neg hb
    rw [HM.out]
    clear hb
    go_enter Tryz.func61, Tryz.ntmps61
    go_wp2_with (first
      | (go_at_call 100; refine (byte_any r _ _ _ h.rd).mono ?_; rintro e w5 ⟨rfl, hR2, hF2⟩; have S3 := h.step hR2 hF2; obtain ⟨hd0, _, _, _, _⟩ := S3.cells))
    go_end0
    exact ⟨rfl, S3⟩

theorem signs_any (w : World) (B : Nat) (F : Nat → Prop) (r pb : Nat) (g : Gram) (s : RdS) (W : World) (h : PSt w B F r pb g s W) :
    Calls Tryz.prog 42 #[.pointer (some ⟨pb, 0, none⟩)] W fun e W' => e = .returned (.tuple #[]) ∧ PSt w B F r pb g (rdSigns s) W' := by
  have HS : Hid (rdSigns s = rdMust 1 (rdMust 71 s)) := rfl
  rw [HS.out]
  go_enter Tryz.func42, Tryz.ntmps42
  go_wp2_with (go_at_call 61; first
    | (refine (must_any w B F r pb g (rdMust 71 s) 1 _ h1).mono ?_; rintro e w2 ⟨rfl, h2⟩)
    | (refine (must_any w B F r pb g s 71 _ h).mono ?_; rintro e w1 ⟨rfl, h1⟩))
  go_end0
  exact ⟨rfl, h2⟩

theorem when_any (w : World) (B : Nat) (F : Nat → Prop) (r pb : Nat) (g : Gram) (s : RdS) (W : World) (h : PSt w B F r pb g s W) :
    Calls Tryz.prog 43 #[.pointer (some ⟨pb, 0, none⟩)] W fun e W' => e = .returned (.tuple #[]) ∧ PSt w B F r pb (rdWhen g s).1 (rdWhen g s).2 W' := by
  have hrg := rdUint_range 4294967295 s h.rd.isB (by omega)
  obtain ⟨hc0, hc1, hc2, hc3, hcf⟩ := h.cells
  have HW : Hid (rdWhen g s = (⟨(rdUint 4294967295 s).1, (rdInt (rdUint 4294967295 s).2).1, g.base, g.recs⟩, if timely (rdInt (rdUint 4294967295 s).2).1 = true then (rdInt (rdUint 4294967295 s).2).2 else (rdInt (rdUint 4294967295 s).2).2.fail 3)) := rfl
  rw [HW.out]
  generalize hv1 : rdUint 4294967295 s = q1 at *
  generalize hv2 : rdInt q1.2 = q2 at *
  have HV1 := Lib.hid hv1
  have HV2 := Lib.hid hv2
  clear hv1 hv2 HW
  have a1 : IntKind.i64.wrap q1.1 = q1.1 := by rw [IntKind.wrap_i64]; omega
  cases ht : timely q2.1
  · have HG : Hid ((if false = true then q2.2 else q2.2.fail 3) = q2.2.fail 3) := rfl
    rw [HG.out]
    go_enter Tryz.func43, Tryz.ntmps43
    go_wp2_with (first
      | (go_at_call 62; refine (uint_any r _ _ _ _ h.rd).mono ?_; rintro e w5 ⟨he, hR2, hF2⟩; rw [HV1.out] at he hR2; subst he; have S3 := h.step hR2 hF2; obtain ⟨hd0, hd1, hd2, hd3, hdf⟩ := S3.cells; have S4 := S3.set 1 (.int .i64 q1.1) (g2 := ⟨q1.1, g.time, g.base, g.recs⟩) (fun _ => rfl) rfl)
      | (go_at_call 63; refine (int_any r _ _ _ S4.rd).mono ?_; rintro e w6 ⟨he, hR3, hF3⟩; rw [HV2.out] at he hR3; subst he; have S5 := S4.step hR3 hF3; obtain ⟨he0, he1, he2, he3, hef⟩ := S5.cells; have S6 := S5.set 2 (.int .i64 q2.1) (g2 := ⟨q1.1, q2.1, g.base, g.recs⟩) (fun _ => rfl) rfl)
      | (go_at_call 64; refine (timely_any _ _).mono ?_; rintro e w7 ⟨rfl, rfl⟩)
      | (go_at_call 65; refine (rdFail_any r _ 3 _ _ S6.rd (by omega) (by omega)).mono ?_; rintro e w8 ⟨rfl, hR7, hF7⟩))
    go_end0
    exact ⟨rfl, S6.step hR7 hF7⟩
  · have HG : Hid ((if true = true then q2.2 else q2.2.fail 3) = q2.2) := rfl
    rw [HG.out]
    go_enter Tryz.func43, Tryz.ntmps43
    go_wp2_with (first
      | (go_at_call 62; refine (uint_any r _ _ _ _ h.rd).mono ?_; rintro e w5 ⟨he, hR2, hF2⟩; rw [HV1.out] at he hR2; subst he; have S3 := h.step hR2 hF2; obtain ⟨hd0, hd1, hd2, hd3, hdf⟩ := S3.cells; have S4 := S3.set 1 (.int .i64 q1.1) (g2 := ⟨q1.1, g.time, g.base, g.recs⟩) (fun _ => rfl) rfl)
      | (go_at_call 63; refine (int_any r _ _ _ S4.rd).mono ?_; rintro e w6 ⟨he, hR3, hF3⟩; rw [HV2.out] at he hR3; subst he; have S5 := S4.step hR3 hF3; obtain ⟨he0, he1, he2, he3, hef⟩ := S5.cells; have S6 := S5.set 2 (.int .i64 q2.1) (g2 := ⟨q1.1, q2.1, g.base, g.recs⟩) (fun _ => rfl) rfl)
      | (go_at_call 64; refine (timely_any _ _).mono ?_; rintro e w7 ⟨rfl, rfl⟩))
    go_end0
    exact ⟨rfl, S6⟩

theorem base_any (w : World) (B : Nat) (F : Nat → Prop) (r pb : Nat) (g : Gram) (s : RdS) (W : World) (h : PSt w B F r pb g s W) (ht0 : 0 ≤ g.tick) (ht1 : g.tick ≤ 4294967295) :
    Calls Tryz.prog 44 #[.pointer (some ⟨pb, 0, none⟩)] W fun e W' => e = .returned (.tuple #[]) ∧ PSt w B F r pb (rdBase g s).1 (rdBase g s).2 W' := by
  have hrg := rdUint_range g.tick s h.rd.isB ht0
  obtain ⟨hc0, hc1, hc2, hc3, hcf⟩ := h.cells
  have HW : Hid (rdBase g s = (⟨g.tick, g.time, if (rdUint g.tick s).1 > 0 then g.tick - (rdUint g.tick s).1 else -1, g.recs⟩, (rdUint g.tick s).2)) := rfl
  rw [HW.out]
  generalize hv1 : rdUint g.tick s = q1 at *
  have HV1 := Lib.hid hv1
  clear hv1 HW
  have S1 := h.set 3 (.int .i64 (-1)) (g2 := ⟨g.tick, g.time, -1, g.recs⟩) (fun _ => rfl) rfl
  obtain ⟨hy0, hy1, hy2, hy3, hyf⟩ := S1.cells
  have a0 : IntKind.u64.wrap g.tick = g.tick := by rw [IntKind.wrap_u64]; omega
  have a1 : IntKind.i64.wrap q1.1 = q1.1 := by rw [IntKind.wrap_i64]; omega
  have a2 : IntKind.i64.wrap (g.tick - q1.1) = g.tick - q1.1 := by rw [IntKind.wrap_i64]; omega
  by_cases hb : 0 < q1.1
  all_goals
    go_enter Tryz.func44, Tryz.ntmps44
    go_wp2_with (fail)
    go_region_held3 (fun W => W.cell? ⟨pb, 0, none⟩ = some (.pointer (some ⟨r, 0, none⟩)) ∧ W.cell? ⟨pb, 1, none⟩ = some (.int .i64 g.tick))
      (first | go_keep | exact ⟨hd0, hd1⟩)
      (first | (go_at_call 62; refine (uint_any r _ _ (World.drew _) _ (S1.rd.below (Below.refl _ _).drew)).mono ?_; rintro e w4 ⟨he, hR1, hF1d⟩; have hF1 := fr_undrew hF1d; rw [HV1.out] at he hR1; subst he; have S2 := S1.step hR1 hF1; obtain ⟨hd0, hd1, hd2, hd3, hdf⟩ := S2.cells; simp only at hd1))
    all_goals
      go_wp2
      go_end0
      refine ⟨rfl, ?_⟩
      have S3 := S2.set 3 (.int .i64 (g.tick - q1.1)) (g2 := ⟨g.tick, g.time, g.tick - q1.1, g.recs⟩) (fun _ => rfl) rfl
      first | exact S3 | exact S2

theorem cells9S {W : World} {b : Nat} {x : Rec} {t : TypeId} (h : W.heap[b]? = some (.cells x.cells t (0, 0))) :
    W.cell? ⟨b, 0, none⟩ = some (.int .i64 x.kind) ∧ W.cell? ⟨b, 1, none⟩ = some (.int .i64 x.id) ∧ W.cell? ⟨b, 2, none⟩ = some (.int .i64 x.p0) ∧ W.cell? ⟨b, 3, none⟩ = some (.int .i64 x.p1) ∧ W.cell? ⟨b, 4, none⟩ = some (.int .i64 x.p2) ∧
      W.cell? ⟨b, 5, none⟩ = some (.int .i64 x.v0) ∧ W.cell? ⟨b, 6, none⟩ = some (.int .i64 x.v1) ∧ W.cell? ⟨b, 7, none⟩ = some (.int .i64 x.v2) ∧ W.cell? ⟨b, 8, none⟩ = some (.int .u16 x.angle) :=
  ⟨blk h 0, blk h 1, blk h 2, blk h 3, blk h 4, blk h 5, blk h 6, blk h 7, blk h 8⟩
theorem infoR : (Tryz.prog.info? 115).map (fun i => (i.zero, i.size, i.bytes)) = some (some (.agg #[.int .i64 0, .int .i64 0, .int .i64 0, .int .i64 0, .int .i64 0, .int .i64 0, .int .i64 0, .int .i64 0, .int .u16 0]), 9, 72) := by kernel_rfl

set_option maxRecDepth 100000 in
set_option maxHeartbeats 6000000 in
theorem records_any (w : World) (B : Nat) (F : Nat → Prop) (r pb : Nat) (g : Gram) (s : RdS) (W : World) (h : PSt w B F r pb g s W) (hlen : g.recs.length ≤ 1000) :
    Calls Tryz.prog 45 #[.pointer (some ⟨pb, 0, none⟩)] W fun e W' => e = .returned (.tuple #[]) ∧ PSt w B F r pb (rdRecords g s).1 (rdRecords g s).2 W' := by
  have hrg := rdUint_range 128 s h.rd.isB (by omega)
  obtain ⟨hc0, hc1, hc2, hc3, hcf⟩ := h.cells
  have HW : Hid (rdRecords g s = rdLoop (rdUint 128 s).1.toNat (-1) g (rdUint 128 s).2) := rfl
  rw [HW.out]
  generalize hv1 : rdUint 128 s = q1 at *
  have HV1 := Lib.hid hv1
  clear hv1 HW
  obtain ⟨n, hn⟩ : ∃ n : Nat, q1.1 = n := ⟨q1.1.toNat, by omega⟩
  obtain ⟨k1, s1⟩ := q1
  simp only at hn hrg
  subst hn
  have hnn : (n : Int).toNat = n := by omega
  rw [show ((n : Int), s1).1.toNat = n from hnn]
  go_enter Tryz.func45, Tryz.ntmps45
  go_wp2_with (first
      | (go_at_call 62; refine (uint_any r _ _ _ _ h.rd).mono ?_; rintro e w5 ⟨he, hR2, hF2⟩; rw [HV1.out] at he hR2; subst he; have S1 := h.step hR2 hF2))
  go_loopw [2, 10] (fun y t wr => ∃ (k : Nat) (last : Int) (g1 : Gram) (s2 : RdS), k ≤ n ∧ t = .int .u64 k ∧ y = .int .i64 last ∧ PSt w B F r pb g1 s2 wr ∧ g1.recs.length ≤ 1000 + k ∧ rdLoop n (-1) g s1 = rdLoop (n - k) last g1 s2) (fun _ t _ => n - (intOf t).toNat)
  case atStart => exact ⟨0, -1, g, s1, by omega, rfl, rfl, S1, by omega, rfl⟩
  case round =>
    obtain ⟨k, last, g1, s2, hk, rfl, rfl, St, hl, hrw⟩ := hrel
    have HRW := Lib.hid hrw
    clear hrw
    obtain ⟨hd0, hd1, hd2, hd3, hdf⟩ := St.cells
    by_cases hlt : k < n
    · have HU : Hid (rdLoop (n - k) last g1 s2 = if (recRead last s2).1.2 ≠ 0 then (g1, (recRead last s2).2) else rdLoop (n - (k + 1)) (recRead last s2).1.1.id { g1 with recs := g1.recs ++ [(recRead last s2).1.1] } (recRead last s2).2) := by
        show _ = _
        rw [show n - k = (n - (k + 1)) + 1 by omega]; rfl
      have hR := recRead_any r s2 last wr F St.rd
      generalize recRead last s2 = q at *
      obtain ⟨⟨x, e0⟩, s3⟩ := q
      simp only at hR HU
      by_cases he : e0 = 0
      · have e1 : (e0 != 0) = false := by simp [he]
        have HU2 := HU.out
        rw [if_neg (by simpa using he)] at HU2
        have HU3 := Lib.hid HU2
        clear HU HU2 he
        have hw1 : IntKind.u64.wrap ((k : Int) + 1) = (k : Int) + 1 := by rw [IntKind.wrap_u64]; omega
        go_wp2_with (first
          | (go_at_call 66; refine hR.mono ?_; rintro e w5 ⟨rfl, hR3, hF3⟩; have S3 := St.step hR3 hF3))
        obtain ⟨v, hvk, hvo⟩ := S3.st
        have hrp := S3.hr
        have hpl := heap_lt hvk
        have hpl2 := Nat.lt_of_lt_of_le S3.lt S3.bl.size
        have hv4 := blk hvk 4
        simp only [List.getElem?_toArray, List.getElem?_cons_zero, List.getElem?_cons_succ] at hv4
        obtain ⟨Av, cv, rfl, hv1, hv2⟩ := own_form hvo
        have hxk : ∀ o, ((w5.alloc (.cells x.cells 115)).alloc o).heap[w5.heap.size]? = some (.cells x.cells 115 (0, 0)) := fun o => heap_old (heap_new rfl)
        have hpk : ∀ o, ((w5.alloc (.cells x.cells 115)).alloc o).heap[pb]? = _ := fun o => heap_old (heap_old hvk)
        obtain ⟨hz0, hz1, hz2, hz3, hz4, hz5, hz6, hz7, hz8, hzf⟩ := cells9 (x := x) (show (w5.alloc (.cells x.cells 115)).heap[w5.heap.size]? = _ from heap_new rfl)
        go_region_law (first
          | (refine step_app (pb + 2) rfl (.tmp 28) (.tmp 30) 43 115 (.agg #[.int .i64 0, .int .i64 0, .int .i64 0, .int .i64 0, .int .i64 0, .int .i64 0, .int .i64 0, .int .i64 0, .int .u16 0]) 9 72 rfl Tryz.underlying43 infoR rfl (by decide) (by decide) _ _ g1.recs.length 1 (g1.recs.flatMap Rec.enc) x.enc rfl rfl ((hvo.alloc _).alloc _) (Src.of_block (heap_newD (by simp)) rfl (by simp [Value.oneCell'])) (by simp; omega) (by omega) ?_
             intro v3 w3 hown3 hg3 hat3 hkp
             obtain ⟨A3, c3, rfl, hv5, hv6⟩ := own_form hown3
             have hx3 : w3.heap[w5.heap.size]? = some (.cells x.cells 115 (0, 0)) :=
               (hg3.block w5.heap.size (by simp; omega) (fun e => by have := (hvo.lt _ e.symm).2; omega)).trans (hxk _)
             have hX : ∀ u, (w3.setCell ⟨pb, 4, none⟩ u).heap[w5.heap.size]? = some (.cells x.cells 115 (0, 0)) := fun u => (fr_set u).at hx3 (by omega)
             have hp3 : w3.heap[pb]? = some (.cells #[.pointer (some ⟨r, 0, none⟩), .int .i64 g1.tick, .int .i64 g1.time, .int .i64 g1.base, .slice Av g1.recs.length cv] 94 (0, 0)) :=
               (hg3.block pb (by simp; omega) (fun e => by have := (hvo.lt _ e.symm).1; omega)).trans (hpk _)
             have hy0 := blk hp3 4
             have hy1 := blkF hp3 4
             obtain ⟨hq0, hq1, hq2, hq3, hq4, hq5, hq6, hq7, hq8, _⟩ := cells9 (x := x) hx3
             simp only [List.getElem?_toArray, List.getElem?_cons_zero, List.getElem?_cons_succ] at hy0))
        all_goals
          go_wp2
          refine ⟨⟨k + 1, x.id, ⟨g1.tick, g1.time, g1.base, g1.recs ++ [x]⟩, s3, by omega, by go_num, rfl, S3.app hvo (((((Fr.refl _ _).alloc _).drew).alloc _).grown hg3 (fun i hi _ => hi)) ⟨_, hp3⟩ hown3, by simp; omega, ?_⟩, by simp [intOf]; omega⟩
          rw [HRW.out, HU3.out]
      · have e1 : (e0 != 0) = true := by simp [he]
        have HU2 := HU.out
        rw [if_pos (by simpa using he)] at HU2
        have HU3 := Lib.hid HU2
        clear HU HU2 he
        go_wp2_with (first
          | (go_at_call 66; refine hR.mono ?_; rintro e w5 ⟨rfl, hR3, hF3⟩; have S3 := St.step hR3 hF3))
        refine bodyPost_ret (results_none rfl _ _ _) rfl ?_
        rw [HRW.out, HU3.out]
        exact ⟨rfl, S3.alloc _⟩
    · have hk : k = n := by omega
      subst hk
      have HU : Hid (rdLoop (k - k) last g1 s2 = (g1, s2)) := by show _ = _; rw [Nat.sub_self]; rfl
      go_wp2
      go_end0
      rw [HRW.out, HU.out]
      exact ⟨rfl, St⟩

end Go.Proofs.YtpdckdfnpehliaaGreat
