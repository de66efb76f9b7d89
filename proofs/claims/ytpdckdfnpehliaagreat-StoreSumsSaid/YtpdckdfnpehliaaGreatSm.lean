/- StoreSums: the walk. -/
import Derived.Test.YtpdckdfnpehliaaGreatAv
import Derived.Test.YtpdckdfnpehliaaGreatSumSpec
set_option linter.unusedVariables false
set_option linter.unusedSimpArgs false

namespace Go.Proofs.YtpdckdfnpehliaaGreat
open Go Go.RowKit Go.Deep Go.Shelf
set_option maxHeartbeats 400000

theorem write_len {g : Gram} {b : List Int} (hw : gramWrite g = .ok b) : 4 ≤ b.length ∧ b.length ≤ 4096 := by
  unfold gramWrite at hw
  split at hw
  · cases hw
  · next b2 h2 =>
    split at hw
    · cases hw
    · next h4 =>
      injection hw with hw
      rw [← hw]
      have e : (seal_ b2).length = b2.length + 4 := by simp [seal_, sumBytes]
      rw [e]
      omega
set_option maxRecDepth 100000 in
theorem sums_err (g : Gram) (gv : Value) (F : Nat → Prop) (at0 : Int) (w : World) (hg : g.wf) (hv : Sl Ty.recd w F gv g.recs) (e0 : Int) (hw : gramWrite g = .error e0) :
    Calls Tryz.prog 4 #[g.val gv, .int .i64 at0] w fun e w' => e = .returned (.bool true) ∧ Below w.heap.size w w' := by
  have hb0 : Below w.heap.size w (w.alloc (.cells (g.cells gv) 45)) := below_alloc (Below.refl _ _) (Nat.le_refl _) _
  have hgw := gramWrite_any g gv F _ hg (hv.below hb0)
  rw [hw] at hgw
  unfold Outs at hgw
  simp only at hgw
  have hnew := fun W => storeNew_any 3 (by omega) (by omega) W
  have hal := fun W => alive_any W
  obtain ⟨A, c, rfl, _⟩ := id hv
  clear hw hv
  by_cases h0 : e0 = 0
  · subst h0
    go_enter Tryz.func4, Tryz.ntmps4
    go_wp2_with (first
      | (go_at_call 19; refine hgw.mono ?_; clear hgw; rintro e w1 ⟨rfl, hb1⟩; have hb2 := hb0.trans (hb1.mono hb0.size))
      | (go_at_call 10; refine (hnew _).mono ?_; clear hnew; rintro e w3 ⟨rfl, _, hb3⟩; have hb4 := hb2.trans (hb3.mono hb2.size); have htok : True := trivial)
      | (go_at_call 12; have _t := htok; clear htok _t; refine (hal _).mono ?_; rintro e w5 ⟨rfl, hb5⟩; have hb6 := hb4.trans (hb5.mono hb4.size))
      | (go_at_call 12; refine (hal _).mono ?_; clear hal; rintro e w7 ⟨rfl, hb7⟩; have hb8 := hb6.trans (hb7.mono hb6.size)))
    go_ret
    exact ⟨rfl, hb8⟩
  · have hd : (e0 != 0) = true := by simpa using h0
    go_enter Tryz.func4, Tryz.ntmps4
    go_wp2_with (first
      | (go_at_call 19; refine hgw.mono ?_; clear hgw; rintro e w1 ⟨rfl, hb1⟩; have hb2 := hb0.trans (hb1.mono hb0.size))
      | (go_at_call 10; refine (hnew _).mono ?_; clear hnew; rintro e w3 ⟨rfl, _, hb3⟩; have hb4 := hb2.trans (hb3.mono hb2.size))
      | (go_at_call 12; refine (hal _).mono ?_; clear hal; rintro e w5 ⟨rfl, hb5⟩; have hb6 := hb4.trans (hb5.mono hb4.size)))
    go_ret
    exact ⟨rfl, hb6⟩

theorem idx_ok (at0 : Int) (n : Nat) (h0 : 0 < n) (h1 : n ≤ 4096) : ∃ i : Nat, wrap64 ((IntKind.u64.wrap at0).tmod (8 * (n : Int))) = (i : Int) ∧ i < 8 * n := by
  have hx : 0 ≤ IntKind.u64.wrap at0 := by
    show 0 ≤ at0 % 18446744073709551616
    omega
  have h2 := Int.tmod_nonneg (8 * (n : Int)) hx
  have h3 := Int.tmod_lt_of_pos (IntKind.u64.wrap at0) (show (0 : Int) < 8 * (n : Int) by omega)
  generalize (IntKind.u64.wrap at0).tmod (8 * (n : Int)) = q at *
  refine ⟨q.toNat, ?_, by omega⟩
  unfold wrap64
  omega
/-- A byte with one bit turned. -/
def bitC (x : Int) (k : Nat) : Int := ((x.toNat ^^^ 2 ^ k : Nat) : Int)
theorem bitC_ok {x : Int} {k : Nat} (hx : 0 ≤ x ∧ x < 256) (hk : k < 8) : (0 ≤ bitC x k ∧ bitC x k < 256) ∧ x ≠ bitC x k := by
  have hp : 2 ^ k < 256 := by
    calc 2 ^ k < 2 ^ 8 := Nat.pow_lt_pow_right (by omega) hk
    _ = 256 := rfl
  have h1 := Nat.xor_lt_two_pow (n := 8) (x := x.toNat) (y := 2 ^ k) (by omega) hp
  unfold bitC
  refine ⟨⟨by omega, by omega⟩, fun h => ?_⟩
  have h2 : x.toNat ^^^ 2 ^ k = x.toNat ^^^ 0 := by rw [Nat.xor_zero]; omega
  have h3 := xor_left h2
  have := Nat.two_pow_pos k
  omega

theorem bit_is {x : Int} {k : Nat} (hx : 0 ≤ x ∧ x < 256) (hk : k < 8) : bits BinOp.xor IntKind.u8 x (2 ^ k % 256) = bitC x k := by
  have e : ((2 : Int) ^ k % 256) = ((2 ^ k : Nat) : Int) := by
    rcases (by omega : k = 0 ∨ k = 1 ∨ k = 2 ∨ k = 3 ∨ k = 4 ∨ k = 5 ∨ k = 6 ∨ k = 7) with rfl | rfl | rfl | rfl | rfl | rfl | rfl | rfl <;> rfl
  have hp : 2 ^ k < 256 := by
    calc 2 ^ k < 2 ^ 8 := Nat.pow_lt_pow_right (by omega) hk
    _ = 256 := rfl
  rw [e, u8_xor _ _ hx.1 hx.2 (by omega) (by omega)]
  rfl
theorem snapL_bad {r : Rng} {bs : List Int} {e : Int} (h : (gramRead bs).2 = e) (he : e ≠ 0) : snapL r bs = (⟨0, 0, []⟩, e) := by
  unfold snapL
  rw [if_pos (by rw [h]; exact he), h]
theorem accOut_bad {r : Rng} {bs : List Int} {e : Int} (h : (gramRead bs).2 = e) (he : e ≠ 0) : accOut r bs = (0, e) := by
  unfold accOut
  rw [snapL_bad h he]
  simp [he]
theorem own_cells {W : World} {base : Nat} {v : Value} {xs : List Int} (h : OwnB W base v xs) (h0 : 0 < xs.length) : ∃ g cap cur, v = .slice (some ⟨g, 0, none⟩) xs.length cap ∧ base ≤ g ∧ W.heap[g]? = some (.cells cur 5 (0, 0)) ∧ xs.length ≤ cap ∧ cap ≤ 9223372036854775807 ∧ ∀ j (hj : j < xs.length), cur[j]? = some (.int .u8 xs[j]) := by
  rcases h.2 with ⟨_, h1⟩ | ⟨g, cap, cur, e, hg, hk, hn, hm, hcs, ht⟩
  · omega
  · refine ⟨g, cap, cur, e, hg, hk, hn, by simpa [maxLen] using hm, fun j hj => ?_⟩
    have h1 : (cur.toList.take (xs.length * 1))[j]? = (nums .u8 xs)[j]? := by rw [ht]
    rw [List.getElem?_take_of_lt (by omega), Array.getElem?_toList] at h1
    rw [h1]
    simp [nums, List.getElem?_eq_getElem hj]
def cnA : List Int := [0, 0, 0, 0, 0, 0, 0, 0, 0, 1, 0, 0, 0, 0, 0, 0, 0, 0]
def cnB : List Int := [0, 0, 0, 0, 0, 0, 0, 0, 0, 2, 0, 0, 0, 0, 0, 0, 0, 0]

set_option maxRecDepth 100000 in
set_option maxHeartbeats 4000000 in
theorem sums_ok (g : Gram) (gv : Value) (F : Nat → Prop) (at0 : Int) (w : World) (hg : g.wf) (hv : Sl Ty.recd w F gv g.recs) (hat : i64 at0) (b : List Int) (hw : gramWrite g = .ok b) :
    Calls Tryz.prog 4 #[g.val gv, .int .i64 at0] w fun e w' => e = .returned (.bool true) ∧ Below w.heap.size w w' := by
  have hb0 : Below w.heap.size w (w.alloc (.cells (g.cells gv) 45)) := below_alloc (Below.refl _ _) (Nat.le_refl _) _
  have hgw := gramWrite_any g gv F _ hg (hv.below hb0)
  rw [hw] at hgw
  unfold Outs at hgw
  simp only at hgw
  have hnew := fun W => storeNew_any 3 (by omega) (by omega) W
  have hal := fun W => alive_any W
  obtain ⟨A, c, rfl, _⟩ := id hv
  have hlen : 4 ≤ b.length ∧ b.length ≤ 4096 := by
    exact write_len hw
  have hisB : isB b := alB_isB g hg b hw
  have hd : ((b.length : Int) == 0) = false := by rw [beq_eq_false_iff_ne]; omega
  go_enter Tryz.func4, Tryz.ntmps4
  go_upto_region 5 with (first
    | (go_at_call 19; refine hgw.mono ?_; clear hgw; rintro e w1 ⟨⟨v1, rfl, ho1⟩, hb1⟩; obtain ⟨A1, c1, rfl, _, _⟩ := own_form ho1; have hb2 := hb0.trans (hb1.mono hb0.size))
    | (go_at_call 10; refine (hnew _).mono ?_; clear hnew; rintro e w3 ⟨rfl, hst, hb3⟩; have hb4 := hb2.trans (hb3.mono hb2.size); have ho3 := own_below ho1 hb3)
    | (go_at_call 12; refine (hal _).mono ?_; clear hal; rintro e w5 ⟨rfl, hb5⟩; have hb6 := hb4.trans (hb5.mono hb4.size); have ho5 := own_below ho3 hb5; have hst5 := hst.below hb5))
  have hw1 : IntKind.i64.wrap (8 * (b.length : Int)) = 8 * (b.length : Int) := by rw [IntKind.wrap_i64]; omega
  have hz : ((8 * (b.length : Int)) == 0) = false := by rw [beq_eq_false_iff_ne]; omega
  obtain ⟨i, hi, hib⟩ := idx_ok at0 b.length (by omega) hlen.2
  have s1 := Sl.of_ownI (F := fun _ => True) ho5 (by omega) (fun _ _ => trivial)
  have HS1 := Lib.hid (s1.srcI.alloc (.cells #[] 5))
  have HO1 := Lib.hid (own_new w5 w5.heap.size 5 1 0 [] (Nat.le_refl _) (by omega) rfl)
  clear s1 hst5 ho5
  have hst5 := (hst.below hb5).below ((Below.refl _ _).alloc (Nat.le_refl _) (.cells #[] 5))
  go_upto_region 7 with (at_builtin; refine app_row w5.heap.size rfl (.tmp 54) (.tmp 55) 30 5 (.int .u8 0) 1 1 rfl Tryz.underlying30 infoB rfl (by decide) (by decide) _ _ 0 b.length [] (nums .u8 b) rfl rfl HO1.out HS1.out ?_ ?_ ?_; (simp); omega; intro v2 w6 hown hg hat; simp only [Nat.zero_add, List.nil_append] at hown)
  have hB6 : Below w5.heap.size w5 w6 := ((Below.refl w5.heap.size w5).alloc (Nat.le_refl _) (.cells #[] 5)).grown hg (by simp) (fun k hk => (HO1.out.lt k hk).1)
  have hst6 := (hst.below hb5).below hB6
  clear hst5 HO1 HS1 hg hat
  obtain ⟨gx, cap, cur, rfl, hgx, hk6, hnc, hcm, htake⟩ := own_cells hown (by omega)
  obtain ⟨j, hj⟩ : ∃ j, j = i / 8 := ⟨_, rfl⟩
  obtain ⟨k, hk⟩ : ∃ k, k = i % 8 := ⟨_, rfl⟩
  have htd : (i : Int).tdiv 8 = (j : Int) := by rw [Int.tdiv_eq_ediv_of_nonneg (by omega)]; omega
  have htm : (i : Int).tmod 8 = (k : Int) := by rw [Int.tmod_eq_emod_of_nonneg (by omega)]; omega
  have hjl : j < b.length := by omega
  have hk8 : k < 8 := by omega
  have hj0 : (0 : Int) ≤ (j : Int) := by omega
  have hjl2 : (j : Int) < (b.length : Int) := by omega
  have hk0 : (0 : Int) ≤ (k : Int) := by omega
  have hcell := Proofs.YtpdckdfnpehliaaGreat.blk hk6 j
  rw [htake j hjl] at hcell
  have hfz := blkF hk6 j
  clear hj hk hi hib
  have hbj := hisB b[j] (List.getElem_mem hjl)
  have hbit := bit_is hbj hk8
  have hok := bitC_ok hbj hk8
  generalize bitC b[j] k = y at *
  obtain ⟨x, hx⟩ : ∃ x, gramBody g = .ok x := by
    cases hgb : gramBody g with
    | ok x => exact ⟨x, rfl⟩
    | error e => unfold gramWrite at hw; rw [hgb] at hw; cases hw
  obtain ⟨hop, hrd⟩ := flip_read hw hx (gramBody_isB hg hx) hjl hok.1 hok.2
  have ht : isB (b.set j y) := by
    intro z hz
    rcases List.mem_or_eq_of_mem_set hz with hz | rfl
    · exact hisB z hz
    · exact hok.1
  have hlt : (b.set j y).length = b.length := by simp
  have hB7 := ((hB6.setCell (p := ⟨gx, j, none⟩) hgx (.int .u8 y)).drew)
  have hst7 := (hst.below hb5).below hB7
  have hsz5 : w1.heap.size + 1 < w5.heap.size := heap_lt (hst.below hb5).blk
  have hS : Sl Ty.byte (w6.setCell ⟨gx, j, none⟩ (.int .u8 y)).drew (fun k => k ≠ w1.heap.size + 1 ∧ k ≠ w1.heap.size) (.slice (some ⟨gx, 0, none⟩) b.length cap) (b.set j y) := by
    have := Sl.of_block (q := .u8) (w := (w6.setCell ⟨gx, j, none⟩ (.int .u8 y)).drew) (F := fun k => k ≠ w1.heap.size + 1 ∧ k ≠ w1.heap.size) (g := gx) (xs := b.set j y) (cap := cap) (blk_set hk6 j (.int .u8 y)) (fun a ha => ?_) (by omega) hcm (by omega) ⟨by omega, by omega⟩
    · rw [hlt] at this; exact this
    · rw [hlt] at ha
      rw [Array.getElem?_setIfInBounds]
      have hca := htake a ha
      have hcs : a < cur.size := (Array.getElem?_eq_some_iff.1 hca).1
      by_cases e : j = a
      · subst e; simp [hcs]
      · rw [if_neg e, hca, List.getElem_set_ne e]
  have L0 := LawSt.new hst7
  have hn0 : ∀ c ∈ List.replicate 18 (0 : Int), 0 ≤ c ∧ c ≤ 1000000 := by decide
  have hnA : ∀ c ∈ cnA, 0 ≤ c ∧ c ≤ 1000000 := by decide
  have a1 := al_step L0 hS ht hn0 (accOut_bad hrd (by decide)) (show bump _ (snapL ⟨[], 3, 0, false⟩ (b.set j y)).2.toNat = cnA by rw [snapL_bad hrd (by decide)]; decide)
  have a2 := fun W lv (L : LawSt (w6.setCell ⟨gx, j, none⟩ (.int .u8 y)).drew W w1.heap.size (w1.heap.size + 1) w1.heap.size lv ⟨[], 3, 0, false⟩ cnA) => al_step L (Sl.nil _ _ _) isB.nil hnA (accOut_bad read_nil (by decide)) (show bump cnA (snapL ⟨[], 3, 0, false⟩ []).2.toNat = cnB by rw [snapL_bad read_nil (by decide)]; decide)
  have hne1 : (snapL ⟨[], 3, 0, false⟩ (b.set j y)).2 ≠ 0 := by rw [snapL_bad hrd (by decide)]; decide
  have hne2 : (snapL ⟨[], 3, 0, false⟩ []).2 ≠ 0 := by rw [snapL_bad read_nil (by decide)]; decide
  have hbW := hb6.trans (hB7.mono hb6.size)
  have hz2 := hb2.size
  have HOP := Lib.hid hop
  have hopl : (b.set j y).length ≤ 70368744177664 := by omega
  clear hop hrd hlt hbj hok L0 hst7 hB7 hisB hx hw hg hv hb0 hb1 ho1 hb3 ho3 hb5 hst hst6 hB6 hown
  go_region
  all_goals
    clear hk6 hcell hfz htake hbit
    generalize (w6.setCell ⟨gx, j, none⟩ (.int .u8 y)).drew = W7 at *
    have htok : True := trivial
    go_wp2_with (first
      | (go_at_call 16; have _t := htok; clear htok _t; refine a1.mono ?_; clear a1; rintro e w8 ⟨rfl, r1, lv1, har, L1⟩; obtain rfl := har.no hne1; clear har; have hopn := open_any _ _ w8 _ (L1.sl hS) ht hopl; rw [HOP.out] at hopn; simp only at hopn)
      | (go_at_call 20; refine hopn.mono ?_; clear hopn; rintro e w9 ⟨hb9, rfl⟩; have L2 := L1.below hb9; have a3 := a2 _ _ L2)
      | (go_at_call 16; refine a3.mono ?_; clear a3; rintro e w10 ⟨rfl, r2, lv2, har2, L3⟩; obtain rfl := har2.no hne2; clear har2; have hrf := refused_any 9 _ L3.st (by omega) (by omega); rw [show cnB.getD 9 0 = 2 from by decide] at hrf; have hln := storeLen_any _ L3.st; have htk := taken_any _ L3.st; rw [show cnB.getD 0 0 = 0 from by decide] at htk)
      | (go_at_call 21; refine hrf.mono ?_; clear hrf; rintro e w11 ⟨rfl, rfl⟩)
      | (go_at_call 14; refine hln.mono ?_; clear hln; rintro e w11 ⟨rfl, rfl⟩)
      | (go_at_call 22; refine htk.mono ?_; clear htk; rintro e w11 ⟨rfl, rfl⟩))
    go_ret
    exact ⟨rfl, hbW.trans (L3.fr.to_below hbW.size (fun i hi e => by omega))⟩

theorem sums_walk (g : Gram) (gv : Value) (F : Nat → Prop) (at0 : Int) (w : World) (hg : g.wf) (hv : Sl Ty.recd w F gv g.recs) (hat : i64 at0) :
    Calls Tryz.prog 4 #[g.val gv, .int .i64 at0] w fun e w' => e = .returned (.bool true) ∧ Below w.heap.size w w' := by
  cases hw : gramWrite g with
  | error e0 => exact sums_err g gv F at0 w hg hv e0 hw
  | ok b => exact sums_ok g gv F at0 w hg hv hat b hw

end Go.Proofs.YtpdckdfnpehliaaGreat
