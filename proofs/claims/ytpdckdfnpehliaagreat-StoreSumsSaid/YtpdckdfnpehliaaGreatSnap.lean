/- Walks of layer 10: delta.Check. -/
import Derived.Test.YtpdckdfnpehliaaGreatRec8
import Derived.Test.YtpdckdfnpehliaaGreatGram2
import Derived.Test.YtpdckdfnpehliaaGreatSnapSpec
set_option linter.unusedVariables false
set_option linter.unusedSimpArgs false

namespace Go.Proofs.YtpdckdfnpehliaaGreat
open Go Go.RowKit Go.Deep Go.Shelf
set_option maxHeartbeats 400000

abbrev Snap.val (s : Snap) (v : Value) : Value := .agg #[.int .i64 s.tick, .int .i64 s.time, v]
abbrev Snap.cells (s : Snap) (v : Value) : Array Value := #[.int .i64 s.tick, .int .i64 s.time, v]

/-- What is known of the i-th entity of a slice. -/
theorem Sl.entAt {w : World} {F : Nat → Prop} {A : Option Addr} {n c : Nat} {xs : List Ent} (h : Sl Ty.ent w F (.slice A n c) xs) (i : Nat) (hi : i < xs.length) :
    ∃ b off, A = some ⟨b, off, none⟩ ∧ F b ∧ b < w.heap.size ∧ ∀ j, j < 9 → w.cell? ⟨b, off + i * 9 + j, none⟩ = xs[i].cells[j]? := by
  obtain ⟨A2, c2, e, h1, h2, h3, h4⟩ := h
  injection e with e1 e2 e3
  subst e1
  obtain ⟨b, off, ea, hb, hl, hc⟩ := h4 (by omega)
  refine ⟨b, off, ea, hb, hl, fun j hj => ?_⟩
  obtain ⟨cs, hR, hcs⟩ := hc i hi
  have hR : cs = xs[i].enc := hR
  subst hR
  refine (hcs j hj).trans ?_
  have : xs[i].cells[j]? = xs[i].enc[j]? := by show xs[i].enc.toArray[j]? = _; exact List.getElem?_toArray
  rw [this]
  exact (List.getElem?_eq_getElem _).symm

set_option maxRecDepth 100000 in
theorem snapCheck_any (s : Snap) (v : Value) (F : Nat → Prop) (w : World) (h : Sl Ty.ent w F v s.ents) :
    Calls Tryz.prog 17 #[s.val v] w fun e w' => e = .returned (.int .i64 (snapCheck s)) ∧ Below w.heap.size w w' := by
  have hbl : Below w.heap.size w (w.alloc (.cells (s.cells v) 35)) := (Below.refl _ _).alloc (Nat.le_refl _) _
  have h1 := h.below hbl
  obtain ⟨A, c, rfl, hc1, hc2, hc3, _⟩ := id h
  by_cases b1 : s.tick < 0
  · have HE : Hid (snapCheck s = 3) := by show _ = _; unfold snapCheck; rw [if_pos (.inl b1)]
    go_enter Tryz.func17, Tryz.ntmps17
    go_wp2
    go_ret
    exact ⟨by rw [HE.out]; rfl, hbl⟩
  by_cases b2 : 4294967295 < s.tick
  · have HE : Hid (snapCheck s = 3) := by show _ = _; unfold snapCheck; rw [if_pos (.inr (.inl b2))]
    go_enter Tryz.func17, Tryz.ntmps17
    go_wp2
    go_ret
    exact ⟨by rw [HE.out]; rfl, hbl⟩
  by_cases b3 : s.time < -2305843009213693952
  · have HE : Hid (snapCheck s = 3) := by show _ = _; unfold snapCheck; rw [if_pos (.inr (.inr (.inl b3)))]
    go_enter Tryz.func17, Tryz.ntmps17
    go_wp2
    go_ret
    exact ⟨by rw [HE.out]; rfl, hbl⟩
  by_cases b4 : 2305843009213693952 < s.time
  · have HE : Hid (snapCheck s = 3) := by show _ = _; unfold snapCheck; rw [if_pos (.inr (.inr (.inr b4)))]
    go_enter Tryz.func17, Tryz.ntmps17
    go_wp2
    go_ret
    exact ⟨by rw [HE.out]; rfl, hbl⟩
  have hno : ¬ (s.tick < 0 ∨ s.tick > 4294967295 ∨ s.time < -2305843009213693952 ∨ s.time > 2305843009213693952) := by omega
  by_cases b5 : 64 < s.ents.length
  · have HE : Hid (snapCheck s = 4) := by show _ = _; unfold snapCheck; rw [if_neg hno, if_pos b5]
    have b6 : (64 : Int) < (s.ents.length : Int) := by omega
    clear hno
    go_enter Tryz.func17, Tryz.ntmps17
    go_wp2
    go_ret
    exact ⟨by rw [HE.out]; rfl, hbl⟩
  have HE : Hid (snapCheck s = entsCheck (-1) s.ents) := by show _ = _; unfold snapCheck; rw [if_neg hno, if_neg b5]
  have b6 : ¬ (64 : Int) < (s.ents.length : Int) := by omega
  clear hno
  rw [HE.out]
  go_enter Tryz.func17, Tryz.ntmps17
  go_wp2_with (fail)
  go_loopw [3, 33] (fun y t wr => ∃ (i : Nat) (last : Int), i ≤ s.ents.length ∧ t = .int .i64 i ∧ y = .int .i64 last ∧ Below w.heap.size w wr ∧ entsCheck (-1) s.ents = entsCheck last (s.ents.drop i)) (fun _ t _ => s.ents.length - (intOf t).toNat)
  case atStart => exact ⟨0, -1, by omega, rfl, rfl, hbl, rfl⟩
  case round =>
    obtain ⟨i, last, hi, rfl, rfl, hB, hrw⟩ := hrel
    have HRW := Lib.hid hrw
    clear hrw
    by_cases hlt : i < s.ents.length
    · obtain ⟨b, off, rfl, hFb, hbl2, hcs⟩ := (h.below hB).entAt i hlt
      have hx0 := hcs 0 (by omega)
      have hx1 := hcs 1 (by omega)
      have hx2 := hcs 2 (by omega)
      have hx3 := hcs 3 (by omega)
      have hx4 := hcs 4 (by omega)
      have hx5 := hcs 5 (by omega)
      have hx6 := hcs 6 (by omega)
      have hx7 := hcs 7 (by omega)
      have hx8 := hcs 8 (by omega)
      simp only [List.getElem?_toArray, List.getElem?_cons_succ, List.getElem?_cons_zero, Nat.add_zero] at hx0 hx1 hx2 hx3 hx4 hx5 hx6 hx7 hx8
      clear hcs
      have hd := Lib.hid (drop_cons hlt)
      generalize s.ents[i] = x at *
      have HU : Hid (entsCheck last (s.ents.drop i) = if x.id < 0 ∨ x.id > 65535 then 3 else if x.id ≤ last then 10 else entsCheck x.id (s.ents.drop (i + 1))) := by show _ = _; rw [hd.out]; rfl
      have hBa := below_alloc hB (Nat.le_refl _) (.cells x.cells 69)
      by_cases c1 : x.id < 0
      · have HV : Hid (entsCheck (-1) s.ents = 3) := by show _ = _; rw [HRW.out, HU.out, if_pos (.inl c1)]
        go_wp2
        go_ret
        exact ⟨by rw [HV.out]; rfl, hBa⟩
      by_cases c2 : 65535 < x.id
      · have HV : Hid (entsCheck (-1) s.ents = 3) := by show _ = _; rw [HRW.out, HU.out, if_pos (.inr c2)]
        go_wp2
        go_ret
        exact ⟨by rw [HV.out]; rfl, hBa⟩
      by_cases c3 : x.id ≤ last
      · have HV : Hid (entsCheck (-1) s.ents = 10) := by show _ = _; rw [HRW.out, HU.out, if_neg (by omega), if_pos c3]
        go_wp2
        go_ret
        exact ⟨by rw [HV.out]; rfl, hBa⟩
      have HV : Hid (entsCheck (-1) s.ents = entsCheck x.id (s.ents.drop (i + 1))) := by show _ = _; rw [HRW.out, HU.out, if_neg (by omega), if_neg c3]
      go_wp2
      exact ⟨⟨i + 1, x.id, by omega, by go_num, rfl, hBa, HV.out⟩, by simp [intOf]; omega⟩
    · have hi : i = s.ents.length := by omega
      subst hi
      have HV : Hid (entsCheck (-1) s.ents = 0) := by show _ = _; rw [HRW.out, List.drop_length]; rfl
      go_wp2
      go_ret
      exact ⟨by rw [HV.out]; rfl, hB⟩

end Go.Proofs.YtpdckdfnpehliaaGreat
