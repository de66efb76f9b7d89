/- Walks of layer 9: gram, writing: the body. -/
import Derived.Test.YtpdckdfnpehliaaGreatGram
set_option linter.unusedVariables false
set_option linter.unusedSimpArgs false

namespace Go.Proofs.YtpdckdfnpehliaaGreat
open Go Go.RowKit Go.Deep Go.Shelf
set_option maxHeartbeats 400000

theorem recWrite_any (r : Rec) (last : Int) (w : World) (hr : r.wf) :
    Calls Tryz.prog 57 #[r.val, .int .i64 last] w fun e w' => Outs (recWrite r last) w.heap.size e w' ∧ Below w.heap.size w w' := by
  cases hh : recWrite r last with
  | error e0 => exact recWrite_no r last w e0 hh
  | ok bs =>
    unfold recWrite at hh
    split at hh
    · cases hh
    · next h1 =>
      split at hh
      · cases hh
      · next h2 =>
        split at hh
        · cases hh
        · next h3 =>
          injection hh with hh
          subst hh
          refine (recWrite_ok r last w hr (by omega) (by omega) (by omega) (by omega)).mono ?_
          rintro e w' ⟨v1, rfl, ho, hb⟩
          exact ⟨⟨v1, rfl, ho⟩, hb⟩

/-- What is known of the i-th record of a slice. -/
theorem Sl.recAt {w : World} {F : Nat → Prop} {A : Option Addr} {n c : Nat} {xs : List Rec} (h : Sl Ty.recd w F (.slice A n c) xs) (i : Nat) (hi : i < xs.length) :
    ∃ b off, A = some ⟨b, off, none⟩ ∧ F b ∧ b < w.heap.size ∧ ∀ j, j < 9 → w.cell? ⟨b, off + i * 9 + j, none⟩ = xs[i].cells[j]? := by
  obtain ⟨A2, c2, e, h1, h2, h3, h4⟩ := h
  injection e with e1 e2 e3
  subst e1
  obtain ⟨b, off, ea, hb, hl, hc⟩ := h4 (by omega)
  refine ⟨b, off, ea, hb, hl, fun j hj => ?_⟩
  obtain ⟨cs, hR, hcs⟩ := hc i hi
  have hR : cs = xs[i].enc := hR
  subst hR
  refine (hcs j hj).trans ?_
  have : xs[i].cells[j]? = xs[i].enc[j]? := by show xs[i].enc.toArray[j]? = _; exact List.getElem?_toArray
  rw [this]
  exact (List.getElem?_eq_getElem _).symm

theorem drop_cons {α : Type} {l : List α} {i : Nat} (h : i < l.length) : l.drop i = l[i] :: l.drop (i + 1) := by simp

def exMap (b : List Int) : Except Int (List Int) → Except Int (List Int)
  | .error e => .error e
  | .ok c => .ok (b ++ c)
theorem exMap_app (a b : List Int) (x : Except Int (List Int)) : exMap a (exMap b x) = exMap (a ++ b) x := by
  cases x <;> simp [exMap]
theorem recsWrite_cons (last : Int) (r : Rec) (l : List Rec) {b : List Int} (h : recWrite r last = .ok b) : recsWrite last (r :: l) = exMap b (recsWrite r.id l) := by
  show (match recWrite r last with | .error e => _ | .ok b => _) = _
  rw [h]
  cases recsWrite r.id l <;> rfl
theorem recsWrite_err (last : Int) (r : Rec) (l : List Rec) {e : Int} (h : recWrite r last = .error e) : recsWrite last (r :: l) = .error e := by
  show (match recWrite r last with | .error e => _ | .ok b => _) = _
  rw [h]
theorem gramBody_eq {g : Gram} {h : List Int} (hh : gramHead g = .ok h) : gramBody g = exMap h (recsWrite (-1) g.recs) := by
  unfold gramBody
  rw [hh]
  cases recsWrite (-1) g.recs <;> rfl

set_option maxRecDepth 100000 in
theorem gbody_any (g : Gram) (v : Value) (F : Nat → Prop) (w : World) (hg : g.wf) (h : Sl Ty.recd w F v g.recs) :
    Calls Tryz.prog 36 #[g.val v] w fun e w' => Outs (gramBody g) w.heap.size e w' ∧ Below w.heap.size w w' := by
  have hbl : Below w.heap.size w (w.alloc (.cells (g.cells v) 45)) := (Below.refl _ _).alloc (Nat.le_refl _) _
  have hbk : (w.alloc (.cells (g.cells v) 45)).heap[w.heap.size]? = some (.cells (g.cells v) 45 (0, 0)) := heap_alloc_new _ _
  have h1 : Sl Ty.recd (w.alloc (.cells (g.cells v) 45)) F v g.recs := h.below hbl
  have hhd := head_any g v F _ h1
  obtain ⟨A, c, rfl, hc1, hc2, hc3, _⟩ := id h
  cases hh : gramHead g with
  | error e0 =>
    have HE : Hid (gramBody g = .error e0) := by show _ = _; unfold gramBody; rw [hh]
    rw [HE.out]
    rw [hh] at hhd
    have hz : (e0 != 0) = true := by
      have : e0 = 3 ∨ e0 = 10 ∨ e0 = 8 := by
        unfold gramHead at hh
        split at hh
        · injection hh with hh; omega
        · split at hh
          · injection hh with hh; omega
          · split at hh
            · injection hh with hh; omega
            · cases hh
      rcases this with rfl | rfl | rfl <;> rfl
    clear hh
    go_enter Tryz.func36, Tryz.ntmps36
    go_wp2_with (go_at_call 56; refine hhd.mono ?_; rintro e w1 ⟨rfl, hb1⟩)
    go_ret2
    exact ⟨rfl, hbl.trans (hb1.mono (by simp))⟩
  | ok hs =>
    rw [hh] at hhd
    have hlh := gramHead_len hh
    have hn := (gramHead_ok hh).1.2.2.2.2.2
    have HE : Hid (gramBody g = exMap hs (recsWrite (-1) g.recs)) := gramBody_eq hh
    rw [HE.out]
    clear hh
    go_enter Tryz.func36, Tryz.ntmps36
    go_wp2_with (go_at_call 56; refine hhd.mono ?_; rintro e w1 ⟨⟨v1, rfl, ho1⟩, hb1⟩; have hbk1 := below_at hb1 hbk (by simp); have hc3 := blk hbk1 3; simp only [List.getElem?_toArray, List.getElem?_cons_succ, List.getElem?_cons_zero] at hc3)
    go_loopw [4, 6, 22] (fun x y t wr => ∃ (i : Nat) (last : Int) (bs : List Int), i ≤ g.recs.length ∧ t = .int .i64 i ∧ y = .int .i64 last ∧ OwnB wr w.heap.size x (hs ++ bs) ∧ Below w.heap.size w wr ∧ bs.length ≤ 82 * i ∧ recsWrite (-1) g.recs = exMap bs (recsWrite last (g.recs.drop i))) (fun _ _ t _ => g.recs.length - (intOf t).toNat)
    case atStart =>
      refine ⟨0, -1, [], by omega, rfl, rfl, ?_, ?_, by simp, ?_⟩
      · rw [List.append_nil]
        exact own_base ho1 (by simp)
      · exact hbl.trans (hb1.mono (by simp))
      · rw [List.drop_zero]; cases recsWrite (-1) g.recs <;> rfl
    case round =>
      obtain ⟨i, last, bs, hi, rfl, rfl, hown, hB, hlb, hrw⟩ := hrel
      have HRW := Lib.hid hrw
      clear hrw
      by_cases hlt : i < g.recs.length
      · obtain ⟨b, off, rfl, hFb, hbl, hcs⟩ := (h.below hB).recAt i hlt
        have hx0 := hcs 0 (by omega)
        have hx1 := hcs 1 (by omega)
        have hx2 := hcs 2 (by omega)
        have hx3 := hcs 3 (by omega)
        have hx4 := hcs 4 (by omega)
        have hx5 := hcs 5 (by omega)
        have hx6 := hcs 6 (by omega)
        have hx7 := hcs 7 (by omega)
        have hx8 := hcs 8 (by omega)
        simp only [List.getElem?_toArray, List.getElem?_cons_succ, List.getElem?_cons_zero, Nat.add_zero] at hx0 hx1 hx2 hx3 hx4 hx5 hx6 hx7 hx8
        clear hcs
        have hr := hg.recs _ (List.getElem_mem hlt)
        have hd := Lib.hid (drop_cons hlt)
        generalize g.recs[i] = r at *
        have hW := recWrite_any r last (wr.alloc (.cells r.cells 115)) hr
        have hbk2 : (wr.alloc (.cells r.cells 115)).heap[wr.heap.size]? = some (.cells r.cells 115 (0, 0)) := heap_alloc_new _ _
        cases hrw : recWrite r last with
        | error e0 =>
          have HR := Lib.hid (recsWrite_err last r (g.recs.drop (i + 1)) hrw)
          have hz : (e0 != 0) = true := by
            have : e0 ≠ 0 := by
              unfold recWrite at hrw
              split at hrw
              · injection hrw with hrw; omega
              · split at hrw
                · injection hrw with hrw; omega
                · split at hrw
                  · injection hrw with hrw; omega
                  · cases hrw
            simpa using this
          rw [hrw] at hW
          clear hrw
          go_wp2_with (go_at_call 57; refine hW.mono ?_; rintro e w2 ⟨rfl, hb2⟩)
          go_ret2
          have : exMap hs (recsWrite (-1) g.recs) = .error e0 := by rw [HRW.out, hd.out, HR.out]; rfl
          rw [this]
          exact ⟨rfl, (below_alloc hB (Nat.le_refl _) _).trans (hb2.mono (by have := hB.size; simp; omega))⟩
        | ok b =>
          have HR := Lib.hid (recsWrite_cons last r (g.recs.drop (i + 1)) hrw)
          have hlw := recWrite_len hrw
          rw [hrw] at hW
          clear hrw
          have hsz := hB.size
          have hL : (hs ++ bs).length ≤ 42 + 82 * i := by simp; omega
          have HBS : Hid (hs ++ (bs ++ b) = hs ++ bs ++ b) := (List.append_assoc _ _ _).symm
          generalize hbz : hs ++ bs = bz at *
          have HBZ := Lib.hid hbz
          clear hbz
          go_wp2_with (go_at_call 57; refine hW.mono ?_; rintro e w2 ⟨⟨v2, rfl, ho2⟩, hb2⟩; have hbk3 := below_at hb2 hbk2 (by simp); have hc1 := blk hbk3 1; simp only [List.getElem?_toArray, List.getElem?_cons_succ, List.getElem?_cons_zero] at hc1)
          have hb2' : Below wr.heap.size wr w2 := ((Below.refl _ _).alloc (Nat.le_refl _) _).trans (hb2.mono (by simp))
          have hown2 := own_below hown hb2'
          have hsz2 := hb2'.size
          have hlt2 : wr.heap.size < w2.heap.size := by have := hb2.size; simp at this; omega
          have hsrc := (Sl.of_ownI (F := fun _ => True) ho2 (by omega) (fun _ _ => trivial)).srcI
          have hnex : ∀ k, Value.ownBlock _ = some k → k < wr.heap.size := fun k hk => (hown.lt k hk).2
          go_region_held3 (fun w' => w'.cell? ⟨wr.heap.size, 1, none⟩ = some (.int .i64 r.id)) (first | go_keep | exact hkp1)
            (first
              | (refine step_app w.heap.size rfl (.tmp 35) (.tmp 36) 30 5 (.int .u8 0) 1 1 rfl Tryz.underlying30 infoB rfl (by decide) (by decide) _ _ bz.length b.length (nums .u8 bz) (nums .u8 b) rfl rfl hown2 hsrc (Nat.le_trans hsz hsz2) (by omega) ?_
                 intro v3 w3 hown3 hg3 hat3 hkp
                 have hkp1 : w3.cell? ⟨wr.heap.size, 1, none⟩ = some (.int .i64 r.id) := (World.cell?_of_block (w := w2) (hg3.block wr.heap.size hlt2 (fun e => Nat.lt_irrefl wr.heap.size (hnex wr.heap.size e.symm)))).trans hc1))
          all_goals
            go_wp2
            refine ⟨⟨i + 1, r.id, bs ++ b, by omega, by go_num, rfl, ?_, ((hB.trans (hb2'.mono hsz)).drew).grown hg3 (Nat.le_trans hsz hsz2) (fun k hk => (hown.lt k hk).1), by simp; omega, ?_⟩, by simp [intOf]; omega⟩
            · rw [HBS.out]
              show World.ownsRow _ _ _ _ _ (bz ++ b).length _
              rw [List.length_append, nums_append]
              exact hown3
            · rw [HRW.out, hd.out, HR.out, exMap_app]
      · have hi : i = g.recs.length := by omega
        subst hi
        have : exMap hs (recsWrite (-1) g.recs) = .ok (hs ++ bs) := by rw [HRW.out, List.drop_length]; simp [recsWrite, exMap]
        go_wp2
        go_ret2
        rw [this]
        exact ⟨⟨_, rfl, hown⟩, hB⟩

end Go.Proofs.YtpdckdfnpehliaaGreat
