/- Walks of layer 8: record.writeSome. -/
import Derived.Test.YtpdckdfnpehliaaGreatRec2
set_option linter.unusedVariables false
set_option linter.unusedSimpArgs false

namespace Go.Proofs.YtpdckdfnpehliaaGreat
open Go Go.RowKit Go.Deep Go.Shelf
set_option maxHeartbeats 400000

theorem maskOf_append (l : List Int) (n : Int) : ∀ k, maskOf k (l ++ [n]) = maskOf k l + (if n ≠ 0 then (2 : Int) ^ (k + l.length) else 0) := by
  induction l with
  | nil => intro k; simp [maskOf]
  | cons m l ih =>
    intro k
    simp only [List.cons_append, maskOf, List.length_cons]
    rw [ih (k + 1), show k + 1 + l.length = k + (l.length + 1) by omega]
    omega
theorem maskOf_range (l : List Int) : ∀ k, 0 ≤ maskOf k l ∧ maskOf k l + 2 ^ k ≤ 2 ^ (k + l.length) := by
  induction l with
  | nil => intro k; simp [maskOf]
  | cons m l ih =>
    intro k
    have := ih (k + 1)
    have hp : (0 : Int) < 2 ^ k := Int.pow_pos (by omega)
    rw [Int.pow_succ] at this
    simp only [maskOf, List.length_cons]
    rw [show k + (l.length + 1) = k + 1 + l.length by omega]
    split <;> omega
theorem or_bit (m : Int) (i : Nat) (h0 : 0 ≤ m) (h1 : m < 2 ^ i) (hi : i ≤ 6) : bits BinOp.or IntKind.u8 m (2 ^ i % 256) = m + 2 ^ i := by
  have e : (2 : Int) ^ i % 256 = 2 ^ i ∧ (2 : Int) ^ i < 256 ∧ (0 : Int) < 2 ^ i := by
    obtain rfl | rfl | rfl | rfl | rfl | rfl | rfl : i = 0 ∨ i = 1 ∨ i = 2 ∨ i = 3 ∨ i = 4 ∨ i = 5 ∨ i = 6 := by omega
    all_goals decide
  rw [e.1, u8_or _ _ h0 (by omega) (by omega) (by omega)]
  obtain ⟨n, rfl⟩ := Int.eq_ofNat_of_zero_le h0
  have hn : n < 2 ^ i := by exact_mod_cast h1
  have := Nat.two_pow_add_eq_or_of_lt hn 1
  rw [Int.toNat_natCast, toNat_two_pow, Nat.or_comm]
  rw [Nat.mul_one] at this
  rw [← this]
  simp; omega
theorem someBytes_succ (l : List Int) (i : Nat) (h : i < l.length) : someBytes (l.take (i + 1)) = someBytes (l.take i) ++ (if l[i] ≠ 0 then put (zig l[i]) else []) := by
  rw [List.take_succ_eq_append_getElem h]
  simp only [someBytes, List.flatMap_append, List.flatMap_cons, List.flatMap_nil, List.append_nil]

/-- A byte of a row of one's own turned. -/
theorem OwnB.put {w : World} {base g c : Nat} {bs : List Int} (h : OwnB w base (.slice (some ⟨g, 0, none⟩) bs.length c) bs) (i : Nat) (x : Int) :
    OwnB (w.setCell ⟨g, i, none⟩ (.int .u8 x)) base (.slice (some ⟨g, 0, none⟩) bs.length c) (bs.set i x) := by
  have hs := (World.ownsRow.stored (w := w) h i (.int .u8 x)).1
  have he : (nums .u8 bs).set i (.int .u8 x) = nums .u8 (bs.set i x) := by simp [nums, List.map_set]
  rw [he] at hs
  show World.ownsRow _ _ _ _ _ (bs.set i x).length _
  rw [List.length_set]
  exact hs
theorem OwnB.ptr {w : World} {base : Nat} {v : Value} {bs : List Int} (h : OwnB w base v bs) (h0 : 0 < bs.length) :
    ∃ g c, v = .slice (some ⟨g, 0, none⟩) bs.length c ∧ base ≤ g ∧ g < w.heap.size ∧ bs.length ≤ c ∧ c ≤ 9223372036854775807 ∧ (∀ j (hj : j < bs.length), w.cell? ⟨g, j, none⟩ = some (.int .u8 bs[j])) ∧ (∀ j, w.frozen? ⟨g, j, none⟩ = false) := by
  rcases h.2 with ⟨_, hn⟩ | ⟨g, cap, cur, rfl, hb, hg, hc, hm, hs, ht⟩
  · omega
  · refine ⟨g, cap, rfl, hb, heap_lt hg, hc, by simpa [maxLen] using hm, fun j hj => ?_, fun j => blkF hg j⟩
    rw [blk hg]
    have : (nums .u8 bs)[j]? = some (.int .u8 bs[j]) := by simp [nums, hj]
    rw [← ht, List.getElem?_take] at this
    split at this
    · simpa using this
    · cases this

set_option maxRecDepth 100000 in
theorem writeSome_any (base rb : Nat) (v : Value) (bs : List Int) (r : Rec) (w : World) (HO : OwnB w base v bs) (hbase : base ≤ w.heap.size) (hl : bs.length ≤ 35184372088832) (hr : r.wf)
    (hb : w.heap[rb]? = some (.cells r.cells 115 (0, 0))) (hne : v.ownBlock ≠ some rb) :
    Calls Tryz.prog 118 #[v, .pointer (some ⟨rb, 0, none⟩)] w fun e w' => ∃ v1, e = .returned v1 ∧ OwnB w' base v1 (bs ++ recSome r) ∧ FrV v w w' ∧ Grow w v v1 := by
  have hlt := heap_lt hb
  obtain ⟨A, c, rfl, hc1, hc2⟩ := own_form HO
  go_enter Tryz.func118, Tryz.ntmps118
  go_wp2_with (first
    | (go_at_call 105; refine (numbers_any rb _).mono ?_; rintro e w1 ⟨rfl, q, rfl⟩)
    | (at_builtin; refine app_row base rfl (.tmp 10) (.tmp 11) 30 5 (.int .u8 0) 1 1 rfl Tryz.underlying30 infoB rfl (by decide) (by decide) _ _ bs.length 1 (nums .u8 bs) [.int .u8 0] rfl rfl (HO.alloc _) (Src.of_block (heap_alloc_new _ _) rfl ?_) ?_ ?_ ?_; (simp [Value.oneCell']); (simp; omega); omega; intro v3 w3 hown3 hg3 hat3))
  have hf3 : FrV (.slice A bs.length c) w w3 := FrV.grown (v1 := .slice A bs.length c) ((Fr.refl _ _).alloc _) (Grow.refl _ _) hg3
  have hgr3 : Grow w (.slice A bs.length c) v3 := (Grow.refl w _).of_app (w1 := w.alloc (.cells #[.int .u8 0] 5)) (by simp) hat3
  have ho3 : OwnB w3 base v3 (bs ++ [0]) := by
    show World.ownsRow _ _ _ _ _ (bs ++ [0]).length _
    rw [nums_append, List.length_append]
    exact hown3
  clear hown3 hg3 hat3
  go_loopw [0, 15] (fun x t wr => ∃ i : Nat, i ≤ 6 ∧ t = .int .i64 i ∧ OwnB wr base x (bs ++ [maskOf 0 (r.ns.take i)] ++ someBytes (r.ns.take i)) ∧ FrV (.slice A bs.length c) w wr ∧ Grow w (.slice A bs.length c) x) (fun _ t _ => 6 - (intOf t).toNat)
  case atStart => exact ⟨0, by omega, rfl, by have := ho3.alloc (.cells (ptrs rb) 181); simp only [List.take_zero, someBytes, List.flatMap_nil, List.append_nil, maskOf]; exact this, (hf3.alloc _).drewN _, hgr3⟩
  case round =>
    obtain ⟨i, hi, rfl, hown, hfr, hgr⟩ := hrel
    by_cases h6 : i < 6
    · have hix := idx6 rb i h6
      have hcell := (blk (hfr.at hb (by simpa using hne)) (2 + i)).trans (r.cell i h6)
      have hlen : i < r.ns.length := by simpa [Rec.ns] using h6
      have hns := Rec.ns_wf hr r.ns[i] (List.getElem_mem _)
      have HS := Lib.hid (someBytes_succ r.ns i hlen)
      have hlb := someBytes_len (r.ns.take i)
      have hl2 : (r.ns.take i).length = i := by simp; omega
      have HM : Hid (maskOf 0 (r.ns.take (i + 1)) = maskOf 0 (r.ns.take i) + (if r.ns[i] ≠ 0 then (2 : Int) ^ i else 0)) := by
        show _ = _
        rw [List.take_succ_eq_append_getElem hlen, maskOf_append, hl2, Nat.zero_add]
      have hmr := maskOf_range (r.ns.take i) 0
      rw [hl2, Nat.zero_add] at hmr
      generalize r.ns[i] = n at *
      have hob := or_bit (maskOf 0 (r.ns.take i)) i hmr.1 (by have := hmr.2; omega) (by omega)
      by_cases hn0 : n = 0
      · have e1 : (n == 0) = true := by simp [hn0]
        have HN := Lib.hid hn0
        clear hn0
        go_wp2
        refine ⟨⟨i + 1, by omega, by go_num, ?_, hfr, hgr⟩, by simp [intOf]; omega⟩
        rw [HS.out, HM.out, if_neg (by have := HN.out; omega), if_neg (by have := HN.out; omega), List.append_nil, Int.add_zero]
        exact hown
      · have e1 : (n == 0) = false := by simp [hn0]
        have e2 : (n != 0) = true := by simp [hn0]
        have HN := Lib.hid hn0
        clear hn0
        obtain ⟨g, c2, rfl, hbg, hglt, hcc, hcm, hcs, hfz⟩ := hown.ptr (by simp only [List.length_append, List.length_cons, List.length_nil]; omega)
        have hca := hcs bs.length (by simp only [List.length_append, List.length_cons, List.length_nil]; omega)
        have hca2 : (bs ++ [maskOf 0 (r.ns.take i)] ++ someBytes (r.ns.take i))[bs.length]'(by simp only [List.length_append, List.length_cons, List.length_nil]; omega) = maskOf 0 (r.ns.take i) := by simp
        rw [hca2] at hca
        have hfa := hfz bs.length
        have hL0 : bs.length < (bs ++ [maskOf 0 (r.ns.take i)] ++ someBytes (r.ns.take i)).length := by simp only [List.length_append, List.length_cons, List.length_nil]; omega
        have hL1 : (bs ++ [maskOf 0 (r.ns.take i)] ++ someBytes (r.ns.take i)).length ≤ bs.length + 61 := by simp only [List.length_append, List.length_cons, List.length_nil]; omega
        clear hcs hfz hca2
        generalize hL : (bs ++ [maskOf 0 (r.ns.take i)] ++ someBytes (r.ns.take i)).length = L at *
        have HL := Lib.hid hL
        clear hL
        have hgrb : g ≠ rb := by
          rintro rfl
          rcases hgr with h | ⟨q, h, hq⟩
          · exact hne h.symm
          · simp [Value.ownBlock] at h; omega
        have hc2 : ∀ X, (wr.setCell ⟨g, bs.length, none⟩ X).cell? ⟨rb, 2 + i, none⟩ = some (.int .i64 n) := fun X => by
          rw [World.cell?_of_block (w := wr) (Below.heap_setCell _ _ _ _ (by simpa using Ne.symm hgrb))]; exact hcell
        have hset : (bs ++ [maskOf 0 (r.ns.take i)] ++ someBytes (r.ns.take i)).set bs.length (maskOf 0 (r.ns.take i) + 2 ^ i) = bs ++ [maskOf 0 (r.ns.take i) + 2 ^ i] ++ someBytes (r.ns.take i) := by simp
        have ho2 : OwnB (wr.setCell ⟨g, bs.length, none⟩ (.int .u8 (maskOf 0 (r.ns.take i) + 2 ^ i))) base (.slice (some ⟨g, 0, none⟩) L c2) (bs ++ [maskOf 0 (r.ns.take i) + 2 ^ i] ++ someBytes (r.ns.take i)) := by
          have h5 := hown
          rw [← HL.out] at h5
          have := OwnB.put h5 bs.length (maskOf 0 (r.ns.take i) + 2 ^ i)
          rw [hset, HL.out] at this
          exact this
        have hnum := number_any base _ _ n (World.drew (wr.setCell ⟨g, bs.length, none⟩ (.int .u8 (maskOf 0 (r.ns.take i) + 2 ^ i)))) (show OwnB (World.drew (wr.setCell ⟨g, bs.length, none⟩ (.int .u8 (maskOf 0 (r.ns.take i) + 2 ^ i)))) base (.slice (some ⟨g, 0, none⟩) L c2) (bs ++ [maskOf 0 (r.ns.take i) + 2 ^ i] ++ someBytes (r.ns.take i)) from ho2) (Nat.le_trans hbase (by have := hfr.size; simpa using this)) (by simp only [List.length_append, List.length_cons, List.length_nil]; omega) hns
        have hfs : FrV (.slice A bs.length c) w (World.drew (wr.setCell ⟨g, bs.length, none⟩ (.int .u8 (maskOf 0 (r.ns.take i) + 2 ^ i)))) := by
          refine (hfr.setCell (p := ⟨g, bs.length, none⟩) (fun hp => ?_) _).drew
          rcases hgr with h | ⟨q, h, hq⟩
          · exact h.symm
          · simp [Value.ownBlock] at h; simp at hp; omega
        clear hset ho2 hgrb
        go_wp2_with (fail)
        go_still_tail 8, (by kernel_rfl)
        change wpList _ _ _ _ _ (World.drew _)
        go_wp2_with (go_at_call 143; refine hnum.mono ?_; rintro e w2 ⟨v2, rfl, ho2, hf2, hg2⟩)
        refine ⟨⟨i + 1, by omega, by go_num, ?_, hfs.step hgr hf2, hgr.trans hg2 (by have := hfs.size; simpa using this)⟩, by simp [intOf]; omega⟩
        rw [HS.out, HM.out, if_pos (by have := HN.out; omega), if_pos (by have := HN.out; omega), ← List.append_assoc]
        exact ho2
    · have h6 : i = 6 := by omega
      subst h6
      have hcell := blk (hfr.at hb (by simpa using hne)) 8
      simp only [List.getElem?_toArray, List.getElem?_cons_succ, List.getElem?_cons_zero] at hcell
      have ht6 : r.ns.take 6 = r.ns := rfl
      rw [ht6] at hown
      have hmr := maskOf_range r.ns 0
      have hl6 : r.ns.length = 6 := rfl
      rw [hl6] at hmr
      have hlb := someBytes_len r.ns
      have hang := hr.angle
      have hp := put_len r.angle
      have hob := or_bit (maskOf 0 r.ns) 6 hmr.1 (by have := hmr.2; omega) (by omega)
      have e64 : (2 : Int) ^ 6 % 256 = 64 ∧ (2 : Int) ^ 6 = 64 := by decide
      rw [e64.1, e64.2] at hob
      generalize hms : maskOf 0 r.ns = ms at *
      generalize hsb : someBytes r.ns = sb at *
      have HE : Hid (recSome r = (ms + (if r.angle ≠ 0 then 64 else 0)) :: (sb ++ if r.angle ≠ 0 then put r.angle else [])) := by show _ = _; unfold recSome; rw [hms, hsb]
      clear hms hsb ht6 e64
      by_cases ha0 : r.angle = 0
      · have e1 : (r.angle != 0) = false := by simp [ha0]
        have HF : Hid (bs ++ recSome r = bs ++ [ms] ++ sb) := by show _ = _; rw [HE.out, if_neg (by omega), if_neg (by omega)]; simp
        clear ha0
        obtain ⟨A2, c2, rfl, hc3, hc4⟩ := own_form hown
        go_wp2
        go_ret
        refine ⟨_, rfl, ?_, hfr, hgr⟩
        rw [HF.out]; exact hown
      · have e1 : (r.angle != 0) = true := by simp [ha0]
        have HF : Hid (bs ++ recSome r = bs ++ [ms + 64] ++ sb ++ put r.angle) := by show _ = _; rw [HE.out, if_pos ha0, if_pos ha0]; simp
        clear ha0
        obtain ⟨g, c2, rfl, hbg, hglt, hcc, hcm, hcs, hfz⟩ := hown.ptr (by simp only [List.length_append, List.length_cons, List.length_nil]; omega)
        have hca := hcs bs.length (by simp only [List.length_append, List.length_cons, List.length_nil]; omega)
        have hca2 : (bs ++ [ms] ++ sb)[bs.length]'(by simp only [List.length_append, List.length_cons, List.length_nil]; omega) = ms := by simp
        rw [hca2] at hca
        have hfa := hfz bs.length
        have hL0 : bs.length < (bs ++ [ms] ++ sb).length := by simp only [List.length_append, List.length_cons, List.length_nil]; omega
        have hL1 : (bs ++ [ms] ++ sb).length ≤ bs.length + 61 := by simp only [List.length_append, List.length_cons, List.length_nil]; omega
        have hL2 : (bs ++ [ms] ++ sb).length = bs.length + 1 + sb.length := by simp only [List.length_append, List.length_cons, List.length_nil]
        clear hcs hfz hca2
        generalize hL : (bs ++ [ms] ++ sb).length = L at *
        have HL := Lib.hid hL
        have HL2 := Lib.hid hL2
        clear hL hL2
        have hgrb : g ≠ rb := by
          rintro rfl
          rcases hgr with h | ⟨q, h, hq⟩
          · exact hne h.symm
          · simp [Value.ownBlock] at h; omega
        have hc2 : ∀ X, (wr.setCell ⟨g, bs.length, none⟩ X).cell? ⟨rb, 8, none⟩ = some (.int .u16 r.angle) := fun X => by
          rw [World.cell?_of_block (w := wr) (Below.heap_setCell _ _ _ _ (by simpa using Ne.symm hgrb))]; exact hcell
        have hset : (bs ++ [ms] ++ sb).set bs.length (ms + 64) = bs ++ [ms + 64] ++ sb := by simp
        have ho2 : OwnB (wr.setCell ⟨g, bs.length, none⟩ (.int .u8 (ms + 64))) base (.slice (some ⟨g, 0, none⟩) L c2) (bs ++ [ms + 64] ++ sb) := by
          have h5 := hown
          rw [← HL.out] at h5
          have := OwnB.put h5 bs.length (ms + 64)
          rw [hset, HL.out] at this
          exact this
        have hLb : (bs ++ [ms + 64] ++ sb).length = L := by have := HL2.out; simp only [List.length_append, List.length_cons, List.length_nil]; omega
        have ho3 : (wr.setCell ⟨g, bs.length, none⟩ (.int .u8 (ms + 64))).ownsRow base 5 1 (.slice (some ⟨g, 0, none⟩) L c2) L (nums .u8 (bs ++ [ms + 64] ++ sb)) := by
          have h5 : World.ownsRow _ _ _ _ _ (bs ++ [ms + 64] ++ sb).length _ := ho2
          rw [hLb] at h5
          exact h5
        have hfs : FrV (.slice A bs.length c) w (wr.setCell ⟨g, bs.length, none⟩ (.int .u8 (ms + 64))) := by
          refine hfr.setCell (p := ⟨g, bs.length, none⟩) (fun hp => ?_) _
          rcases hgr with h | ⟨q, h, hq⟩
          · exact h.symm
          · simp [Value.ownBlock] at h; simp at hp; omega
        have HLB := Lib.hid hLb
        clear hset ho2 hgrb hLb
        have hsz := hfr.size
        go_wp2_with (first
          | (go_at_call 85; refine (put_any _ _ hang.1 (by omega)).mono ?_; rintro e w1 ⟨rfl, rfl⟩)
          | (at_builtin; refine app_row base rfl (.tmp 48) (.tmp 54) 30 5 (.int .u8 0) 1 1 rfl Tryz.underlying30 infoB rfl (by decide) (by decide) _ _ L (put r.angle).length (nums .u8 (bs ++ [ms + 64] ++ sb)) _ rfl rfl (ho3.alloc _) (Src.of_block (heap_new (by simp)) (by simp [nums]) ?_) ?_ ?_ ?_; (simp [nums]; intros; rfl); (simp; omega); omega; intro v4 w4 hown4 hg4 hat4))
        go_ret
        refine ⟨_, rfl, ?_, FrV.step (hfs.alloc _) hgr ⟨hg4.os, hg4.tape, hg4.output, hg4.size, fun k hk he => hg4.block k hk (fun e2 => he e2.symm)⟩, hgr.of_app (by simp; omega) hat4⟩
        rw [HF.out]
        show World.ownsRow _ _ _ _ _ (bs ++ [ms + 64] ++ sb ++ put r.angle).length _
        rw [List.length_append, HLB.out, nums_append]
        exact hown4

end Go.Proofs.YtpdckdfnpehliaaGreat
