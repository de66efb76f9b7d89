/- Walks of layer 8: record.Write. -/
import Derived.Test.YtpdckdfnpehliaaGreatRec3
set_option linter.unusedVariables false
set_option linter.unusedSimpArgs false

namespace Go.Proofs.YtpdckdfnpehliaaGreat
open Go Go.RowKit Go.Deep Go.Shelf
set_option maxHeartbeats 400000

theorem kinds1_any (v : Value) (A : Option Addr) (n c : Nat) (hv : v = .slice A n c) (p : Value) (w : World) : Calls Tryz.prog 114 #[v, p] w fun e w' => e = .returned v ∧ w = w' := by
  subst hv
  go_enter Tryz.func114, Tryz.ntmps114
  go_wp2
  go_ret
  exact ⟨rfl, rfl⟩

/-- What a record's kind writes. -/
theorem body_any (base rb : Nat) (v : Value) (bs : List Int) (r : Rec) (w : World) (f : Nat) (HO : OwnB w base v bs) (hbase : base ≤ w.heap.size) (hl : bs.length ≤ 35184372088832) (hr : r.wf)
    (hb : w.heap[rb]? = some (.cells r.cells 115 (0, 0))) (hne : v.ownBlock ≠ some rb)
    (hf : (r.kind = 1 ∧ f = 118) ∨ (r.kind = 2 ∧ f = 114) ∨ (r.kind ≠ 1 ∧ r.kind ≠ 2 ∧ f = 116)) :
    Calls Tryz.prog f #[v, .pointer (some ⟨rb, 0, none⟩)] w fun e w' => ∃ v1, e = .returned v1 ∧ OwnB w' base v1 (bs ++ recBody r) ∧ FrV v w w' ∧ Grow w v v1 := by
  rcases hf with ⟨hk, rfl⟩ | ⟨hk, rfl⟩ | ⟨h1, h2, rfl⟩
  · have : recBody r = recSome r := if_pos hk
    rw [this]; exact writeSome_any base rb v bs r w HO hbase hl hr hb hne
  · have : recBody r = [] := by unfold recBody; rw [if_neg (by omega), if_pos hk]
    rw [this, List.append_nil]
    obtain ⟨A, c, hv, _, _⟩ := own_form HO
    exact (kinds1_any v A _ c hv _ w).mono fun e w' ⟨he, hw⟩ => by subst hw; exact ⟨v, he, HO, Fr.refl _ _, Grow.refl _ _⟩
  · have : recBody r = recAll r := by unfold recBody; rw [if_neg h1, if_neg h2]
    rw [this]; exact writeAll_any base rb v bs r w HO hbase hl hr hb hne

theorem recCheck_zero {r : Rec} (h : recCheck r = 0) : 0 ≤ r.kind ∧ r.kind ≤ 3 ∧ 0 ≤ r.id ∧ r.id ≤ 65535 := by
  unfold recCheck at h
  split at h
  · omega
  · split at h
    · omega
    · omega

set_option maxRecDepth 100000 in
set_option maxHeartbeats 3000000 in
theorem recWrite_ok (r : Rec) (last : Int) (w : World) (hr : r.wf) (hc : recCheck r = 0) (hl0 : -1 ≤ last) (hl1 : last ≤ 65535) (hlt : last < r.id) :
    Calls Tryz.prog 57 #[r.val, .int .i64 last] w fun e w' => ∃ v1, e = .returned (.tuple #[v1, .int .i64 0]) ∧ OwnB w' w.heap.size v1 (put (r.id - last - 1) ++ [r.kind] ++ recBody r) ∧ Below w.heap.size w w' := by
  obtain ⟨k0, k1, i0, i1⟩ := recCheck_zero hc
  have hck := recCheck_any r (w.alloc (.cells r.cells 115))
  rw [hc] at hck
  have hp := put_len (r.id - last - 1)
  clear hc
  have hbl : Below w.heap.size w (w.alloc (.cells r.cells 115)) := (Below.refl _ _).alloc (Nat.le_refl _) _
  have hbk : (w.alloc (.cells r.cells 115)).heap[w.heap.size]? = some (.cells r.cells 115 (0, 0)) := heap_alloc_new _ _
  go_enter Tryz.func57, Tryz.ntmps57
  go_wp2_with (go_at_call 86; refine hck.mono ?_; rintro e w1 ⟨rfl, hb1⟩; have hbk1 := below_at hb1 hbk (by simp); have hsz1 := hb1.size; simp only [World.size_alloc] at hsz1; have hc0 := blk hbk1 0; have hc1 := blk hbk1 1; simp only [List.getElem?_toArray, List.getElem?_cons_succ, List.getElem?_cons_zero] at hc0 hc1)
  have hs1 : IntKind.i64.wrap (r.id - last) = r.id - last := by rw [IntKind.wrap_i64]; omega
  have hs2 : IntKind.i64.wrap (r.id - last - 1) = r.id - last - 1 := by rw [IntKind.wrap_i64]; omega
  have hs3 : IntKind.u64.wrap (r.id - last - 1) = r.id - last - 1 := by rw [IntKind.wrap_u64]; omega
  have hs4 : IntKind.u8.wrap r.kind = r.kind := by rw [IntKind.wrap_u8]; omega
  go_region_held3 (fun w' => w'.cell? ⟨w.heap.size, 0, none⟩ = some (.int .i64 r.kind) ∧ w'.cell? ⟨w.heap.size, 1, none⟩ = some (.int .i64 r.id))
    (first | go_keep | exact ⟨hkp0, hkp1⟩)
    (first
      | (go_at_call 85; refine (put_any (r.id - last - 1) _ (by omega) (by omega)).mono ?_; rintro e w2 ⟨rfl, rfl⟩)
      | (refine step_app (w.heap.size + 1) rfl (.tmp 31) (.tmp 35) 30 5 (.int .u8 0) 1 1 rfl Tryz.underlying30 infoB rfl (by decide) (by decide) _ _ (put (r.id - last - 1)).length 1 (nums .u8 (put (r.id - last - 1))) [.int .u8 r.kind] rfl rfl
            (own_blk (by first | exact heap_newD (by simp) | exact heap_oldD (heap_new (by simp))) (by first | omega | (simp; omega)) (by omega) (by simp [nums]))
            (Src.of_block (cs := #[.int .u8 r.kind]) (by first | exact heap_newD (by simp) | exact heap_oldD (heap_new (by simp))) rfl (by simp [Value.oneCell'])) (by simp; omega) (by omega) ?_
         intro v3 w3 hown3 hg3 hat3 hkp
         have hB3 : Below (w.heap.size + 1) w1 w3 := hkp _ ((((Below.refl (w.heap.size + 1) w1).alloc (by omega) _).alloc (by simp; omega) _).drew)
         have hkp0 : w3.cell? ⟨w.heap.size, 0, none⟩ = some (.int .i64 r.kind) := (hB3.cell (p := ⟨w.heap.size, 0, none⟩) (by simp)).trans hc0
         have hkp1 : w3.cell? ⟨w.heap.size, 1, none⟩ = some (.int .i64 r.id) := (hB3.cell (p := ⟨w.heap.size, 1, none⟩) (by simp)).trans hc1
         clear hkp hg3 hat3))
  all_goals
    have hbk3 := below_at hB3 hbk1 (by simp)
    have ho3 : OwnB w3 (w.heap.size + 1) v3 (put (r.id - last - 1) ++ [r.kind]) := by
      show World.ownsRow _ _ _ _ _ (put (r.id - last - 1) ++ [r.kind]).length _
      rw [nums_append, List.length_append]
      exact hown3
    have hlt3 : w.heap.size < w3.heap.size := by have := hB3.size; omega
    have hne3 : v3.ownBlock ≠ some w.heap.size := fun e => by have := (ho3.lt _ e).1; omega
    have hBw : Below w.heap.size w w3 := (hbl.trans (hb1.mono (by simp))).trans (hB3.mono (by omega))
    clear hc0 hc1 hkp1 hbk1 hown3 hs1 hs2 hs3 hs4
    have hx0 : ∀ W, (Instr.index 160 (.agg kindFns) (.int .i64 0)).run Tryz.prog W = .ok (.agg #[fn 116, fn 117]) W := fun W => by kernel_rfl
    have hx1 : ∀ W, (Instr.index 160 (.agg kindFns) (.int .i64 1)).run Tryz.prog W = .ok (.agg #[fn 118, fn 119]) W := fun W => by kernel_rfl
    have hx2 : ∀ W, (Instr.index 160 (.agg kindFns) (.int .i64 2)).run Tryz.prog W = .ok (.agg #[fn 114, fn 115]) W := fun W => by kernel_rfl
    have hx3 : ∀ W, (Instr.index 160 (.agg kindFns) (.int .i64 3)).run Tryz.prog W = .ok (.agg #[fn 116, fn 117]) W := fun W => by kernel_rfl
    have hf0 : ∀ W, (Instr.field 159 (.agg #[fn 116, fn 117]) 0).run Tryz.prog W = .ok (fn 116) W := fun W => by kernel_rfl
    have hf1 : ∀ W, (Instr.field 159 (.agg #[fn 118, fn 119]) 0).run Tryz.prog W = .ok (fn 118) W := fun W => by kernel_rfl
    have hf2 : ∀ W, (Instr.field 159 (.agg #[fn 114, fn 115]) 0).run Tryz.prog W = .ok (fn 114) W := fun W => by kernel_rfl
    have hln : (put (r.id - last - 1) ++ [r.kind]).length ≤ 11 := by simp; omega
    rcases (by omega : r.kind = 0 ∨ r.kind = 1 ∨ r.kind = 2 ∨ r.kind = 3) with hk | hk | hk | hk
    all_goals
      have HK := Lib.hid hk
      go_wp2
      go_region_held3 (fun w' => w'.cell? ⟨w.heap.size, 0, none⟩ = some (.int .i64 r.kind)) (first | go_keep | exact hkp4 | exact hkp5)
        (first
          | (go_at_call 87; go_must (refine (kinds_any _).mono ?_; rintro e w4 ⟨rfl, hb4d⟩; have hb4 := below_undrew hb4d; have hkp4 := (hb4.cell (p := ⟨w.heap.size, 0, none⟩) (show w.heap.size < w3.heap.size from hlt3)).trans hkp0; have hbk4 := below_at hb4 hbk3 hlt3; have ho4 : OwnB w4 (w.heap.size + 1) v3 (put (r.id - last - 1) ++ [r.kind]) := own_below ho3 hb4))
          | (go_at_call 116; refine (body_any (w.heap.size + 1) w.heap.size v3 (put (r.id - last - 1) ++ [r.kind]) r w4 _ ho4 (Nat.le_trans hlt3 hb4.size) (by omega) hr hbk4 hne3 (by omega)).mono ?_; rintro e w5 ⟨v5, rfl, ho5, hf5, hg5⟩; have hkp5 : w5.cell? ⟨w.heap.size, 0, none⟩ = some (.int .i64 r.kind) := (blk (hf5.at hbk4 hne3) 0))
          | (go_at_call 118; refine (body_any (w.heap.size + 1) w.heap.size v3 (put (r.id - last - 1) ++ [r.kind]) r w4 _ ho4 (Nat.le_trans hlt3 hb4.size) (by omega) hr hbk4 hne3 (by omega)).mono ?_; rintro e w5 ⟨v5, rfl, ho5, hf5, hg5⟩; have hkp5 : w5.cell? ⟨w.heap.size, 0, none⟩ = some (.int .i64 r.kind) := (blk (hf5.at hbk4 hne3) 0))
          | (go_at_call 114; refine (body_any (w.heap.size + 1) w.heap.size v3 (put (r.id - last - 1) ++ [r.kind]) r w4 _ ho4 (Nat.le_trans hlt3 hb4.size) (by omega) hr hbk4 hne3 (by omega)).mono ?_; rintro e w5 ⟨v5, rfl, ho5, hf5, hg5⟩; have hkp5 : w5.cell? ⟨w.heap.size, 0, none⟩ = some (.int .i64 r.kind) := (blk (hf5.at hbk4 hne3) 0)))
      all_goals
        go_wp2
        go_ret2
        refine ⟨v5, rfl, own_base ho5 (Nat.le_succ _), (hBw.trans (hb4.mono (Nat.le_of_lt hlt3))).trans (Below.mono (hf5.below (fun k e => (ho3.lt k e).1) (Nat.le_trans hlt3 hb4.size)) (Nat.le_succ _))⟩

/-- A record that record.Check refuses, or that doesn't follow, isn't written. -/
theorem recWrite_no (r : Rec) (last : Int) (w : World) (e0 : Int) (hc : recWrite r last = .error e0) :
    Calls Tryz.prog 57 #[r.val, .int .i64 last] w fun e w' => e = .returned (.tuple #[.slice none 0 0, .int .i64 e0]) ∧ Below w.heap.size w w' := by
  have hck := recCheck_any r (w.alloc (.cells r.cells 115))
  have hbl : Below w.heap.size w (w.alloc (.cells r.cells 115)) := (Below.refl _ _).alloc (Nat.le_refl _) _
  have hbk : (w.alloc (.cells r.cells 115)).heap[w.heap.size]? = some (.cells r.cells 115 (0, 0)) := heap_alloc_new _ _
  unfold recWrite at hc
  by_cases h0 : recCheck r = 0
  · rw [if_neg (by simpa using h0)] at hc
    have hck0 := hck
    rw [h0] at hck0
    clear hck
    by_cases h1 : last < -1 ∨ 65535 < last
    · have he : e0 = 3 := by rw [if_pos h1] at hc; injection hc with hc; exact hc.symm
      subst he
      clear hc
      rcases h1 with h1 | h1
      · go_enter Tryz.func57, Tryz.ntmps57
        go_wp2_with (go_at_call 86; refine hck0.mono ?_; rintro e w1 ⟨rfl, hb1⟩)
        go_ret2
        exact ⟨rfl, hbl.trans (hb1.mono (by simp))⟩
      · have h1' : ¬ last < -1 := by omega
        go_enter Tryz.func57, Tryz.ntmps57
        go_wp2_with (go_at_call 86; refine hck0.mono ?_; rintro e w1 ⟨rfl, hb1⟩)
        go_ret2
        exact ⟨rfl, hbl.trans (hb1.mono (by simp))⟩
    · have h2 : ¬ last < -1 := by omega
      have h3 : ¬ 65535 < last := by omega
      rw [if_neg h1] at hc
      have h4 : r.id ≤ last := by
        by_cases h : r.id ≤ last
        · exact h
        · rw [if_neg h] at hc; cases hc
      have he : e0 = 10 := by rw [if_pos h4] at hc; injection hc with hc; exact hc.symm
      subst he
      clear hc h1
      go_enter Tryz.func57, Tryz.ntmps57
      go_wp2_with (go_at_call 86; refine hck0.mono ?_; rintro e w1 ⟨rfl, hb1⟩; have hbk1 := below_at hb1 hbk (by simp); have hc1 := blk hbk1 1; simp only [List.getElem?_toArray, List.getElem?_cons_succ, List.getElem?_cons_zero] at hc1)
      go_ret2
      exact ⟨rfl, hbl.trans (hb1.mono (by simp))⟩
  · have he : e0 = recCheck r := by rw [if_pos h0] at hc; injection hc with hc; exact hc.symm
    have hz : (recCheck r != 0) = true := by simpa using h0
    subst he
    clear hc h0
    go_enter Tryz.func57, Tryz.ntmps57
    go_wp2_with (go_at_call 86; refine hck.mono ?_; rintro e w1 ⟨rfl, hb1⟩)
    go_ret2
    exact ⟨rfl, hbl.trans (hb1.mono (by simp))⟩

end Go.Proofs.YtpdckdfnpehliaaGreat
