/- Walks of layer 10: delta.byId. -/
import Derived.Test.YtpdckdfnpehliaaGreatMp
set_option linter.unusedVariables false
set_option linter.unusedSimpArgs false

namespace Go.Proofs.YtpdckdfnpehliaaGreat
open Go Go.RowKit Go.Deep Go.Shelf
set_option maxHeartbeats 400000

def byIdL (l : List Ent) : List (Int × Ent) := l.foldl (fun m x => putL x.id x m) []
theorem byIdL_succ (l : List Ent) (i : Nat) (h : i < l.length) : byIdL (l.take (i + 1)) = putL l[i].id l[i] (byIdL (l.take i)) := by
  unfold byIdL
  rw [List.take_succ_eq_append_getElem h, List.foldl_append]
  rfl
theorem MapE.fr {w w' : World} {b : Nat} {l : List (Int × Ent)} {S : Nat → Prop} (h : MapE w b l) (hf : Fr S w w') (hb : ¬ S b) : MapE w' b l := by
  obtain ⟨es, c, h1, h2⟩ := h
  exact ⟨es, c, hf.at h1 hb, h2⟩
theorem MapE.new (w : World) : MapE (w.alloc (.map #[] 0)) w.heap.size [] := ⟨#[], 0, heap_new rfl, rfl, by simp, by simp⟩
theorem MapE.lt {w : World} {b : Nat} {l : List (Int × Ent)} (h : MapE w b l) : b < w.heap.size := by
  obtain ⟨es, c, h1, h2⟩ := h
  exact heap_lt h1

set_option maxRecDepth 100000 in
theorem byId_any (v : Value) (F : Nat → Prop) (xs : List Ent) (w : World) (h : Sl Ty.ent w F v xs) :
    Calls Tryz.prog 48 #[v] w fun e w' => e = .returned (.map (some w.heap.size)) ∧ MapE w' w.heap.size (byIdL xs) ∧ Below w.heap.size w w' := by
  obtain ⟨A, c, rfl, hc1, hc2, hc3, _⟩ := id h
  have hmk : (Instr.makeMap 99 none).run Tryz.prog w = .ok (.map (some w.heap.size)) (w.alloc (.map #[] 0)) := run_makeMap _ _
  go_enter Tryz.func48, Tryz.ntmps48
  go_wp2_with (fail)
  go_loopw [9] (fun t wr => ∃ i : Nat, i ≤ xs.length ∧ t = .int .i64 i ∧ MapE wr w.heap.size (byIdL (xs.take i)) ∧ Below w.heap.size w wr) (fun t _ => xs.length - (intOf t).toNat)
  case atStart => exact ⟨0, by omega, rfl, MapE.new w, (Below.refl _ _).alloc (Nat.le_refl _) _⟩
  case round =>
    obtain ⟨i, hi, rfl, hM, hB⟩ := hrel
    by_cases hlt : i < xs.length
    · obtain ⟨b, off, rfl, hFb, hbl2, hcs⟩ := (h.below hB).entAt i hlt
      have hx0 := hcs 0 (by omega)
      have hx1 := hcs 1 (by omega)
      have hx2 := hcs 2 (by omega)
      have hx3 := hcs 3 (by omega)
      have hx4 := hcs 4 (by omega)
      have hx5 := hcs 5 (by omega)
      have hx6 := hcs 6 (by omega)
      have hx7 := hcs 7 (by omega)
      have hx8 := hcs 8 (by omega)
      simp only [List.getElem?_toArray, List.getElem?_cons_succ, List.getElem?_cons_zero, Nat.add_zero] at hx0 hx1 hx2 hx3 hx4 hx5 hx6 hx7 hx8
      clear hcs
      have HS := Lib.hid (byIdL_succ xs i hlt)
      generalize xs[i] = x at *
      generalize byIdL (xs.take i) = l at *
      have hml := hM.lt
      go_wp2_with (at_mapUpdate; refine put_row rfl (.tmp 13) (.tmp 15) (.tmp 16) rfl w.heap.size l x.id x rfl rfl rfl (hM.fr ((Fr.refl (fun _ => False) _).alloc _) (fun h => h)) ?_; intro w1 hM1 hF1)
      refine ⟨⟨i + 1, by omega, by go_num, by rw [HS.out]; exact hM1, (below_alloc hB (Nat.le_refl _) _).trans (hF1.to_below (by simp; omega) (fun i hi e => by omega))⟩, by simp [intOf]; omega⟩
    · have hi : i = xs.length := by omega
      subst hi
      rw [List.take_length] at hM
      go_wp2
      go_ret
      exact ⟨rfl, hM, hB⟩

end Go.Proofs.YtpdckdfnpehliaaGreat
