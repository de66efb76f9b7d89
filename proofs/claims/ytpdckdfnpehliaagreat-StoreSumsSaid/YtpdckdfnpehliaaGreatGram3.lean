/- Walks of layer 9: gram.Check, gram.Write. -/
import Derived.Test.YtpdckdfnpehliaaGreatGram2
set_option linter.unusedVariables false
set_option linter.unusedSimpArgs false

namespace Go.Proofs.YtpdckdfnpehliaaGreat
open Go Go.RowKit Go.Deep Go.Shelf
set_option maxHeartbeats 400000

theorem someBytes_isB (l : List Int) (h : ∀ n ∈ l, i64 n) : isB (someBytes l) := by
  intro c hc
  obtain ⟨n, hn, hc⟩ := List.mem_flatMap.1 hc
  by_cases h0 : n = 0
  · rw [if_neg (by simpa using h0)] at hc; cases hc
  · rw [if_pos h0] at hc; exact put_isB _ (zig_range n (h n hn).1 (h n hn).2).1 c hc
theorem recBody_isB {r : Rec} (h : r.wf) : isB (recBody r) := by
  have ha := h.angle
  unfold recBody
  split
  · unfold recSome
    have hm := maskOf_range r.ns 0
    have h6 : r.ns.length = 6 := rfl
    rw [h6] at hm
    refine isB.cons ?_ ((someBytes_isB _ (Rec.ns_wf h)).append ?_)
    · have h1 := hm.1; have h2 := hm.2
      have e : (2 : Int) ^ (0 + 6) = 64 := by decide
      rw [e] at h2
      split <;> omega
    · split
      · exact put_isB _ ha.1
      · exact isB.nil
  · split
    · exact isB.nil
    · exact (nsBytes_isB _ (Rec.ns_wf h)).append (put_isB _ ha.1)
theorem recWrite_isB {r : Rec} (hr : r.wf) {last : Int} {b : List Int} (h : recWrite r last = .ok b) : isB b := by
  unfold recWrite at h
  split at h
  · cases h
  · next h0 =>
    split at h
    · cases h
    · split at h
      · cases h
      · injection h with h
        subst h
        have hk := recCheck_zero (r := r) (by omega)
        exact ((put_isB _ (by omega)).append (isB.cons (by omega) isB.nil)).append (recBody_isB hr)
theorem recsWrite_isB {l : List Rec} : ∀ {last : Int} {b : List Int}, (∀ r ∈ l, r.wf) → recsWrite last l = .ok b → isB b := by
  induction l with
  | nil => intro last b _ h; injection h with h; subst h; exact isB.nil
  | cons r l ih =>
    intro last b hw h
    cases h1 : recWrite r last with
    | error e => rw [recsWrite_err last r l h1] at h; cases h
    | ok b1 =>
      rw [recsWrite_cons last r l h1] at h
      cases h2 : recsWrite r.id l with
      | error e => rw [h2] at h; cases h
      | ok c =>
        rw [h2] at h
        injection h with h
        subst h
        exact (recWrite_isB (hw r (by simp)) h1).append (ih (fun r hr => hw r (by simp [hr])) h2)
theorem gramHead_isB {g : Gram} {h : List Int} (hh : gramHead g = .ok h) : isB h := by
  obtain ⟨⟨b1, b2, b3, b4, b5, b6⟩, e⟩ := gramHead_ok hh
  subst e
  have ht := timely_range b3
  have ha : 0 ≤ g.ago := by unfold Gram.ago; split <;> omega
  refine ((((isB.cons (by omega) (isB.cons (by omega) isB.nil)).append (put_isB _ b1)).append (put_isB _ (zig_range g.time (by omega) (by omega)).1)).append (put_isB _ ha)).append (put_isB _ (by omega))
theorem gramBody_isB {g : Gram} (hg : g.wf) {b : List Int} (h : gramBody g = .ok b) : isB b := by
  cases h0 : gramHead g with
  | error e => unfold gramBody at h; rw [h0] at h; cases h
  | ok hd =>
    rw [gramBody_eq h0] at h
    cases h1 : recsWrite (-1) g.recs with
    | error e => rw [h1] at h; cases h
    | ok c => rw [h1] at h; injection h with h; subst h; exact (gramHead_isB h0).append (recsWrite_isB hg.recs h1)

theorem recWrite_err {r : Rec} {last e0 : Int} (h : recWrite r last = .error e0) : e0 ≠ 0 := by
  unfold recWrite at h
  split at h
  · injection h with h; omega
  · split at h
    · injection h with h; omega
    · split at h
      · injection h with h; omega
      · cases h
theorem recsWrite_err0 {l : List Rec} : ∀ {last e0 : Int}, recsWrite last l = .error e0 → e0 ≠ 0 := by
  induction l with
  | nil => intro last e0 h; cases h
  | cons r l ih =>
    intro last e0 h
    cases h1 : recWrite r last with
    | error e => rw [recsWrite_err last r l h1] at h; injection h with h; subst h; exact recWrite_err h1
    | ok b1 =>
      rw [recsWrite_cons last r l h1] at h
      cases h2 : recsWrite r.id l with
      | error e => rw [h2] at h; injection h with h; subst h; exact ih h2
      | ok c => rw [h2] at h; cases h
theorem gramBody_err {g : Gram} {e0 : Int} (h : gramBody g = .error e0) : e0 ≠ 0 := by
  cases h0 : gramHead g with
  | error e =>
    unfold gramBody at h; rw [h0] at h; injection h with h; subst h
    unfold gramHead at h0
    split at h0
    · injection h0 with h0; omega
    · split at h0
      · injection h0 with h0; omega
      · split at h0
        · injection h0 with h0; omega
        · cases h0
  | ok hd =>
    rw [gramBody_eq h0] at h
    cases h1 : recsWrite (-1) g.recs with
    | error e => rw [h1] at h; injection h with h; subst h; exact recsWrite_err0 h1
    | ok c => rw [h1] at h; cases h

theorem gramCheck_any (g : Gram) (v : Value) (F : Nat → Prop) (w : World) (hg : g.wf) (h : Sl Ty.recd w F v g.recs) :
    Calls Tryz.prog 75 #[g.val v] w fun e w' => e = .returned (.int .i64 (gramCheck g)) ∧ Below w.heap.size w w' := by
  have hbl : Below w.heap.size w (w.alloc (.cells (g.cells v) 45)) := (Below.refl _ _).alloc (Nat.le_refl _) _
  have hhd := gbody_any g v F (w.alloc (.cells (g.cells v) 45)) hg (h.below hbl)
  obtain ⟨A, c, rfl, hc1, hc2, hc3, _⟩ := id h
  cases hh : gramBody g with
  | error e0 =>
    rw [hh] at hhd
    have HC : Hid (gramCheck g = e0) := by show _ = _; unfold gramCheck; rw [hh]
    clear hh
    go_enter Tryz.func75, Tryz.ntmps75
    go_wp2_with (go_at_call 36; refine hhd.mono ?_; rintro e w1 ⟨rfl, hb1⟩)
    go_ret
    exact ⟨by rw [HC.out]; rfl, hbl.trans (hb1.mono (by simp))⟩
  | ok bs =>
    rw [hh] at hhd
    have HC : Hid (gramCheck g = 0) := by show _ = _; unfold gramCheck; rw [hh]
    clear hh
    go_enter Tryz.func75, Tryz.ntmps75
    go_wp2_with (go_at_call 36; refine hhd.mono ?_; rintro e w1 ⟨⟨v1, rfl, _⟩, hb1⟩)
    go_ret
    exact ⟨by rw [HC.out]; rfl, hbl.trans (hb1.mono (by simp))⟩

theorem gramWrite_any (g : Gram) (v : Value) (F : Nat → Prop) (w : World) (hg : g.wf) (h : Sl Ty.recd w F v g.recs) :
    Calls Tryz.prog 19 #[g.val v] w fun e w' => Outs (gramWrite g) w.heap.size e w' ∧ Below w.heap.size w w' := by
  have hbl : Below w.heap.size w (w.alloc (.cells (g.cells v) 45)) := (Below.refl _ _).alloc (Nat.le_refl _) _
  have hhd := gbody_any g v F (w.alloc (.cells (g.cells v) 45)) hg (h.below hbl)
  obtain ⟨A, c, rfl, hc1, hc2, hc3, _⟩ := id h
  cases hh : gramBody g with
  | error e0 =>
    rw [hh] at hhd
    have hz : (e0 != 0) = true := by simpa using gramBody_err hh
    have HC : Hid (gramWrite g = .error e0) := by show _ = _; unfold gramWrite; rw [hh]
    rw [HC.out]
    clear hh
    go_enter Tryz.func19, Tryz.ntmps19
    go_wp2_with (go_at_call 36; refine hhd.mono ?_; rintro e w1 ⟨rfl, hb1⟩)
    go_ret2
    exact ⟨rfl, hbl.trans (hb1.mono (by simp))⟩
  | ok bs =>
    rw [hh] at hhd
    have hlen := gramBody_len hh
    have hisB := gramBody_isB hg hh
    by_cases hb : 4092 < bs.length
    · have HC : Hid (gramWrite g = .error 8) := by show _ = _; unfold gramWrite; rw [hh]; exact if_pos hb
      have hb2 : (4092 : Int) < (bs.length : Int) := by omega
      rw [HC.out]
      clear hh
      go_enter Tryz.func19, Tryz.ntmps19
      go_wp2_with (go_at_call 36; refine hhd.mono ?_; rintro e w1 ⟨⟨v1, rfl, ho1⟩, hb1⟩; obtain ⟨A1, c1, rfl, hc3, hc4⟩ := own_form ho1)
      go_ret2
      exact ⟨rfl, hbl.trans (hb1.mono (by simp))⟩
    · have HC : Hid (gramWrite g = .ok (seal_ bs)) := by show _ = _; unfold gramWrite; rw [hh]; exact if_neg hb
      have hb2 : ¬ (4092 : Int) < (bs.length : Int) := by omega
      rw [HC.out]
      clear hh
      go_enter Tryz.func19, Tryz.ntmps19
      go_wp2_with (first
        | (go_at_call 36; refine hhd.mono ?_; rintro e w1 ⟨⟨v1, rfl, ho1⟩, hb1⟩; obtain ⟨A1, c1, rfl, hc3, hc4⟩ := own_form ho1)
        | (go_at_call 37; refine (seal_any _ bs w1 (fun _ => True) (Sl.of_ownI ho1 (by omega) (fun _ _ => trivial)) hisB (by omega)).mono ?_; rintro e w2 ⟨v2, rfl, ho2, hb2⟩))
      go_ret2
      have hw1 : Below w.heap.size w w1 := hbl.trans (hb1.mono (by simp))
      exact ⟨⟨v2, rfl, own_base ho2 hw1.size⟩, below_then hw1 hw1.size hb2⟩

end Go.Proofs.YtpdckdfnpehliaaGreat
