/- slices.SortedFunc over maps.Values at entities. -/
import Derived.Test.YtpdckdfnpehliaaGreatSrt
set_option linter.unusedVariables false
set_option linter.unusedSimpArgs false

namespace Go.Proofs.YtpdckdfnpehliaaGreat
open Go Go.RowKit Go.Deep Go.Shelf
set_option maxHeartbeats 400000

theorem sortedFunc_any (Bm b : Nat) (L : List (Int × Ent)) (hL : L.length ≤ 1000000) (w : World) (hBm : Bm < w.heap.size) (hm : w.cell? ⟨Bm, 0, none⟩ = some (.map (some b))) (hM : MapE w b L) :
    Calls Tryz.prog 77 #[.func (.func 111) #[] #[.pointer (some ⟨Bm, 0, none⟩)], .func (.func 79) #[] #[]] w fun e W' =>
      ∃ (ys : List Ent) (v : Value), ys.Perm (L.map (·.2)) ∧ ys.Pairwise (fun a b => a.id ≤ b.id) ∧ e = .returned v ∧ OwnE W' w.heap.size v ys ∧ Below w.heap.size w W' := by
  have hc := collect_any Bm b L hL w hBm hm hM
  clear hm hM
  go_enter Tryz.func77, Tryz.ntmps77
  go_wp2_with (first
    | (go_at_call 109; refine hc.mono ?_; clear hc; rintro e w1 ⟨ps, v, hp, rfl, ho, hb1⟩; have hs := sortEnt_any w.heap.size v (ps.map (·.2)) w1 ho (by rw [List.length_map, hp.length_eq]; exact hL); have hlo := ho.lt; unfold OwnE at ho; rw [List.length_map] at ho; obtain ⟨A, c, rfl, _, _⟩ := own_form ho; clear ho)
    | (go_at_call 110; refine hs.mono ?_; clear hs; rintro e w2 ⟨rfl, ys, hy, hso, ho2, hf2⟩))
  go_ret
  exact ⟨ys, _, hy.trans (hp.map _), hso, rfl, ho2, hb1.trans (hf2.to_below hb1.size (fun i hi e => by have := (hlo i e).1; omega))⟩

end Go.Proofs.YtpdckdfnpehliaaGreat
