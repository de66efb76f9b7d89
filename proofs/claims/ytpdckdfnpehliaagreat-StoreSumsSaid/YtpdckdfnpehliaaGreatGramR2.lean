/- Walks of layer 9: gram.Read. -/
import Derived.Test.YtpdckdfnpehliaaGreatGramR
set_option linter.unusedVariables false
set_option linter.unusedSimpArgs false

namespace Go.Proofs.YtpdckdfnpehliaaGreat
open Go Go.RowKit Go.Deep Go.Shelf
set_option maxHeartbeats 400000

theorem own_nilR (w : World) (base : Nat) : OwnR w base (.slice none 0 0) [] := ⟨rfl, .inl ⟨rfl, rfl⟩⟩

abbrev Gram0 : Gram := ⟨0, 0, 0, []⟩
abbrev gram0Cells : Array Value := #[.int .i64 0, .int .i64 0, .int .i64 0, .slice none 0 0]

theorem open_len {bs x : List Int} (h : open_ bs = some x) : x.length ≤ bs.length := by
  unfold open_ at h
  split at h
  · cases h
  · split at h
    · injection h with h; subst h; simp
    · cases h
theorem rdWhen_tick (g : Gram) (s : RdS) (h : isB s.rest) : 0 ≤ (rdWhen g s).1.tick ∧ (rdWhen g s).1.tick ≤ 4294967295 := by
  have := rdUint_range 4294967295 s h (by omega)
  exact ⟨this.1, this.2.1⟩

set_option maxRecDepth 100000 in
theorem gramRead_any (v : Value) (bs : List Int) (w : World) (F : Nat → Prop) (h : Sl Ty.byte w F v bs) (hB : isB bs) :
    Calls Tryz.prog 26 #[v] w fun e w' => ∃ v1, e = .returned (.tuple #[(gramRead bs).1.val v1, .int .i64 (gramRead bs).2]) ∧ OwnR w' w.heap.size v1 (gramRead bs).1.recs ∧ Below w.heap.size w w' := by
  obtain ⟨A, c, rfl, hc1, hc2, hc3, hc4⟩ := id h
  have hbl : Below w.heap.size w (w.alloc (.cells gram0Cells 45)) := (Below.refl _ _).alloc (Nat.le_refl _) _
  have hk0 : (w.alloc (.cells gram0Cells 45)).heap[w.heap.size]? = some (.cells gram0Cells 45 (0, 0)) := heap_alloc_new _ _
  by_cases hlen : 4096 < bs.length
  · have hl : (4096 : Int) < (bs.length : Int) := by omega
    have HE : Hid (gramRead bs = (Gram0, 8)) := by show _ = _; unfold gramRead; rw [if_pos hlen]
    rw [HE.out]
    clear hlen
    go_enter Tryz.func26, Tryz.ntmps26
    go_wp2
    refine bodyPost_ret (v := .tuple #[Gram0.val (.slice none 0 0), .int .i64 8]) (by simp [results, Tryz.results26, go_sem]) rfl ⟨_, rfl, own_nilR _ _, hbl⟩
  · have hl : ¬ (4096 : Int) < (bs.length : Int) := by omega
    have ho := open_any _ bs (w.alloc (.cells gram0Cells 45)) F (h.below hbl) hB (by omega)
    cases hop : open_ bs with
    | none =>
      have HE : Hid (gramRead bs = (Gram0, 9)) := by show _ = _; unfold gramRead; rw [if_neg hlen, hop]
      rw [HE.out]
      rw [hop] at ho
      clear hlen hop
      go_enter Tryz.func26, Tryz.ntmps26
      go_wp2_with (go_at_call 20; refine ho.mono ?_; rintro e w1 ⟨hb1, rfl⟩; have hk1 := below_at hb1 hk0 (by simp); have hy0 := blk hk1 0; have hy1 := blk hk1 1; have hy2 := blk hk1 2; have hy3 := blk hk1 3; have hyf := blkF hk1; simp only [List.getElem?_toArray, List.getElem?_cons_zero, List.getElem?_cons_succ] at hy0 hy1 hy2 hy3)
      have hS := setList_fr w.heap.size gram0Cells.toList w1 0
      simp only [setList, Nat.reduceAdd] at hS
      refine bodyPost_ret (v := .tuple #[Gram0.val (.slice none 0 0), .int .i64 9]) (by simp [results, Tryz.results26, go_sem, hy0, hy1, hy2, hy3]) rfl ⟨_, rfl, own_nilR _ _, (hbl.trans (hb1.mono (by simp))).trans (hS.to_below (by have := hb1.size; simp at this; omega) (fun i hi e => by omega))⟩
    | some x =>
      rw [hop] at ho
      have hxB := open_isB hB hop
      have hxl := open_len hop
      have HE : Hid (gramRead bs = if (rdGram ⟨x, 0⟩).2.done ≠ 0 then (Gram0, (rdGram ⟨x, 0⟩).2.done) else ((rdGram ⟨x, 0⟩).1, 0)) := by show _ = _; unfold gramRead; rw [if_neg hlen, hop]
      clear hlen hop
      go_enter Tryz.func26, Tryz.ntmps26
      go_wp2_with (first
        | (go_at_call 20; refine ho.mono ?_; rintro e w1 ⟨hb1, v1, rfl, ho1⟩; obtain ⟨A1, c1, rfl, hc5, hc6⟩ := own_form ho1)
        | (go_at_call 41; refine (new_any _ _ _ _ rfl _).mono ?_; rintro e w2 ⟨rfl, rfl⟩))
      have hs1 := hb1.size
      simp only [World.size_alloc] at hs1
      have P1 : PSt (((w1.alloc (.cells #[.slice A1 x.length c1, .int .i64 0, .int .i64 0] 123)).alloc (.cells #[.pointer (some ⟨w1.heap.size, 0, none⟩), .int .i64 0, .int .i64 0, .int .i64 0, .slice none 0 0] 94)).alloc (.cells #[.func (.func 42) #[.pointer (some ⟨w1.heap.size + 1, 0, none⟩)] #[], .func (.func 43) #[.pointer (some ⟨w1.heap.size + 1, 0, none⟩)] #[], .func (.func 44) #[.pointer (some ⟨w1.heap.size + 1, 0, none⟩)] #[], .func (.func 45) #[.pointer (some ⟨w1.heap.size + 1, 0, none⟩)] #[]] 1)) (w.heap.size + 1) (fun b => b < w1.heap.size) w1.heap.size (w1.heap.size + 1) Gram0 ⟨x, 0⟩ (((w1.alloc (.cells #[.slice A1 x.length c1, .int .i64 0, .int .i64 0] 123)).alloc (.cells #[.pointer (some ⟨w1.heap.size, 0, none⟩), .int .i64 0, .int .i64 0, .int .i64 0, .slice none 0 0] 94)).alloc (.cells #[.func (.func 42) #[.pointer (some ⟨w1.heap.size + 1, 0, none⟩)] #[], .func (.func 43) #[.pointer (some ⟨w1.heap.size + 1, 0, none⟩)] #[], .func (.func 44) #[.pointer (some ⟨w1.heap.size + 1, 0, none⟩)] #[], .func (.func 45) #[.pointer (some ⟨w1.heap.size + 1, 0, none⟩)] #[]] 1)) := by
        refine ⟨⟨_, x, 0, heap_old (heap_old (heap_new rfl)), ?_, hxB, by omega, rfl, by omega, by show (0 : Int) ≤ 0; omega, by show (0 : Int) ≤ 17; omega⟩, Below.refl _ _, hs1, by omega, fun b hb => by omega, rfl, by simp, _, heap_old (heap_new (by simp)), own_nilR _ _⟩
        exact (Sl.of_ownI (F := fun b => b < w1.heap.size) ho1 (by omega) (fun k hk => (ho1.lt k hk).2)).below ((((Below.refl _ _).alloc (Nat.le_refl _) _).alloc (by simp) _).alloc (by simp; omega) _)
      have hcl : ∀ W : World, W.heap[w1.heap.size + 1 + 1]? = (((w1.alloc (.cells #[.slice A1 x.length c1, .int .i64 0, .int .i64 0] 123)).alloc (.cells #[.pointer (some ⟨w1.heap.size, 0, none⟩), .int .i64 0, .int .i64 0, .int .i64 0, .slice none 0 0] 94)).alloc (.cells #[.func (.func 42) #[.pointer (some ⟨w1.heap.size + 1, 0, none⟩)] #[], .func (.func 43) #[.pointer (some ⟨w1.heap.size + 1, 0, none⟩)] #[], .func (.func 44) #[.pointer (some ⟨w1.heap.size + 1, 0, none⟩)] #[], .func (.func 45) #[.pointer (some ⟨w1.heap.size + 1, 0, none⟩)] #[]] 1)).heap[w1.heap.size + 1 + 1]? → W.heap[w1.heap.size + 2]? = some (.cells #[.func (.func 42) #[.pointer (some ⟨w1.heap.size + 1, 0, none⟩)] #[], .func (.func 43) #[.pointer (some ⟨w1.heap.size + 1, 0, none⟩)] #[], .func (.func 44) #[.pointer (some ⟨w1.heap.size + 1, 0, none⟩)] #[], .func (.func 45) #[.pointer (some ⟨w1.heap.size + 1, 0, none⟩)] #[]] 1 (0, 0)) := fun W h => h.trans (heap_new (by simp))
      have hW3 : Below w.heap.size w (((w1.alloc (.cells #[.slice A1 x.length c1, .int .i64 0, .int .i64 0] 123)).alloc (.cells #[.pointer (some ⟨w1.heap.size, 0, none⟩), .int .i64 0, .int .i64 0, .int .i64 0, .slice none 0 0] 94)).alloc (.cells #[.func (.func 42) #[.pointer (some ⟨w1.heap.size + 1, 0, none⟩)] #[], .func (.func 43) #[.pointer (some ⟨w1.heap.size + 1, 0, none⟩)] #[], .func (.func 44) #[.pointer (some ⟨w1.heap.size + 1, 0, none⟩)] #[], .func (.func 45) #[.pointer (some ⟨w1.heap.size + 1, 0, none⟩)] #[]] 1)) := ((((hbl.trans (hb1.mono (by simp))).alloc (by omega) _).alloc (by simp; omega) _).alloc (by simp; omega) _)
      have hk3 : (((w1.alloc (.cells #[.slice A1 x.length c1, .int .i64 0, .int .i64 0] 123)).alloc (.cells #[.pointer (some ⟨w1.heap.size, 0, none⟩), .int .i64 0, .int .i64 0, .int .i64 0, .slice none 0 0] 94)).alloc (.cells #[.func (.func 42) #[.pointer (some ⟨w1.heap.size + 1, 0, none⟩)] #[], .func (.func 43) #[.pointer (some ⟨w1.heap.size + 1, 0, none⟩)] #[], .func (.func 44) #[.pointer (some ⟨w1.heap.size + 1, 0, none⟩)] #[], .func (.func 45) #[.pointer (some ⟨w1.heap.size + 1, 0, none⟩)] #[]] 1)).heap[w.heap.size]? = some (.cells gram0Cells 45 (0, 0)) := heap_old (heap_old (heap_old (below_at hb1 hk0 (by simp))))
      refine wp_loop_rounds 5 ?_
      rw [rounds_succ]
      go_wp2_with ((go_at_call 42; refine (signs_any _ _ _ _ _ _ _ _ P1).mono ?_; rintro e w4 ⟨rfl, P2⟩; have hcw := hcl _ P2.cl; have hq0 := blk hcw 0; have hq1 := blk hcw 1; have hq2 := blk hcw 2; have hq3 := blk hcw 3; simp only [List.getElem?_toArray, List.getElem?_cons_zero, List.getElem?_cons_succ] at hq0 hq1 hq2 hq3))
      have ht := rdWhen_tick Gram0 (rdSigns ⟨x, 0⟩) P2.rd.isB
      rw [rounds_succ]
      go_wp2_with ((go_at_call 43; refine (when_any _ _ _ _ _ _ _ _ P2).mono ?_; rintro e w5 ⟨rfl, P3⟩; clear hcw hq0 hq1 hq2 hq3; have hcw := hcl _ P3.cl; have hq0 := blk hcw 0; have hq1 := blk hcw 1; have hq2 := blk hcw 2; have hq3 := blk hcw 3; simp only [List.getElem?_toArray, List.getElem?_cons_zero, List.getElem?_cons_succ] at hq0 hq1 hq2 hq3))
      rw [rounds_succ]
      go_wp2_with ((go_at_call 44; refine (base_any _ _ _ _ _ _ _ _ P3 ht.1 ht.2).mono ?_; rintro e w6 ⟨rfl, P4⟩; clear hcw hq0 hq1 hq2 hq3; have hcw := hcl _ P4.cl; have hq0 := blk hcw 0; have hq1 := blk hcw 1; have hq2 := blk hcw 2; have hq3 := blk hcw 3; simp only [List.getElem?_toArray, List.getElem?_cons_zero, List.getElem?_cons_succ] at hq0 hq1 hq2 hq3))
      rw [rounds_succ]
      go_wp2_with ((go_at_call 45; refine (records_any _ _ _ _ _ _ _ _ P4 (Nat.zero_le _)).mono ?_; rintro e w7 ⟨rfl, P5⟩; clear hcw hq0 hq1 hq2 hq3; have hcw := hcl _ P5.cl; have hq0 := blk hcw 0; have hq1 := blk hcw 1; have hq2 := blk hcw 2; have hq3 := blk hcw 3; simp only [List.getElem?_toArray, List.getElem?_cons_zero, List.getElem?_cons_succ] at hq0 hq1 hq2 hq3))
      clear hcl hcw hq0 hq1 hq2 hq3
      have HG : Hid (rdGram ⟨x, 0⟩ = rdRecords (rdBase (rdWhen Gram0 (rdSigns ⟨x, 0⟩)).1 (rdWhen Gram0 (rdSigns ⟨x, 0⟩)).2).1 (rdBase (rdWhen Gram0 (rdSigns ⟨x, 0⟩)).1 (rdWhen Gram0 (rdSigns ⟨x, 0⟩)).2).2) := rfl
      rw [← HG.out] at P5
      rw [rounds_succ]
      have HE2 := HE.out
      clear HG P1 P2 P3 P4 HE
      generalize rdGram ⟨x, 0⟩ = q at *
      have HE := Lib.hid HE2
      clear HE2
      obtain ⟨hz0, hz1, hz2, hz3, hzf⟩ := P5.cells
      obtain ⟨v5, hvk, hvo⟩ := P5.st
      obtain ⟨A5, c5, rfl, hv5, hv6⟩ := own_form hvo
      have hz4 := blk hvk 4
      have hz5 := blk hvk 1
      have hz6 := blk hvk 2
      have hz7 := blk hvk 3
      have hk7 := below_at P5.bl hk3 (by omega)
      have hy0 := blk hk7 0
      have hy1 := blk hk7 1
      have hy2 := blk hk7 2
      have hy3 := blk hk7 3
      have hyf := blkF hk7
      simp only [List.getElem?_toArray, List.getElem?_cons_zero, List.getElem?_cons_succ] at hz4 hz5 hz6 hz7 hy0 hy1 hy2 hy3
      have hs7 := P5.bl.size
      simp only [World.size_alloc] at hs7
      have hW7 := hW3.trans (P5.bl.mono (by omega))
      by_cases hd : q.2.done = 0
      · have e1 : (q.2.done != 0) = false := by simp [hd]
        have HE2 : Hid (gramRead bs = (q.1, 0)) := by show _ = _; rw [HE.out, if_neg (by simpa using hd)]
        clear HE hd
        go_wp2_with (first
          | (go_at_call 46; refine (done_any _ _ _ _ P5.rd).mono ?_; rintro e w8 ⟨rfl, qn, rfl⟩))
        have hS := setList_fr w.heap.size (q.1.cells (.slice A5 q.1.recs.length c5)).toList (w7.drewN qn) 0
        simp only [setList, Nat.reduceAdd] at hS
        refine bodyPost_ret (v := .tuple #[q.1.val (.slice A5 q.1.recs.length c5), .int .i64 0]) (by simp [results, Tryz.results26, go_sem, hy0, hy1, hy2, hy3]) rfl ?_
        rw [HE2.out]
        refine ⟨_, rfl, own_base (own_fr (show (w7.drewN qn).ownsRow _ _ _ _ _ _ from hvo) hS (fun k hk e => by have := (hvo.lt k hk).1; omega)) (by omega), (below_drewN hW7 qn).trans (hS.to_below (by simp; omega) (fun i hi e => by omega))⟩
      · have e1 : (q.2.done != 0) = true := by simp [hd]
        have HE2 : Hid (gramRead bs = (Gram0, q.2.done)) := by show _ = _; rw [HE.out, if_pos (by simpa using hd)]
        clear HE hd
        go_wp2_with (first
          | (go_at_call 46; refine (done_any _ _ _ _ P5.rd).mono ?_; rintro e w8 ⟨rfl, qn, rfl⟩))
        have hS := setList_fr w.heap.size gram0Cells.toList (w7.drewN qn) 0
        simp only [setList, Nat.reduceAdd] at hS
        refine bodyPost_ret (v := .tuple #[Gram0.val (.slice none 0 0), .int .i64 q.2.done]) (by simp [results, Tryz.results26, go_sem, hy0, hy1, hy2, hy3]) rfl ?_
        rw [HE2.out]
        refine ⟨_, rfl, own_nilR _ _, (below_drewN hW7 qn).trans (hS.to_below (by simp; omega) (fun i hi e => by omega))⟩

end Go.Proofs.YtpdckdfnpehliaaGreat
