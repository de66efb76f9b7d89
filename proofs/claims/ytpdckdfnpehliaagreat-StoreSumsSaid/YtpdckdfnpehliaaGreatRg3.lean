/- Layer 11 at snapshots: what a ring holds; where a number stands.
   Layer 11 at snapshots: New, place, Len, Floor, Until, At, Get.
   Layer 11 at snapshots: At, Get. -/
import Derived.Test.YtpdckdfnpehliaaGreatOwn
import Derived.Test.YtpdckdfnpehliaaGreatRec
import Derived.Test.YtpdckdfnpehliaaGreatSnapSpec
import Derived.Deep.RegionHeld3
import Derived.Deep.RegionLaw
import Derived.StillTailTactics
import Derived.Test.YtpdckdfnpehliaaGreatSnap
set_option linter.unusedVariables false
set_option linter.unusedSimpArgs false

namespace Go.Proofs.YtpdckdfnpehliaaGreat
open Go Go.RowKit Go.Deep Go.Shelf
set_option maxHeartbeats 400000

/-- A thing at a number: a snapshot, its entities in a slice. -/
structure One where
  key : Int
  s : Snap
  A : Option Addr
  n : Nat
  c : Nat
abbrev One.v (x : One) : Value := .slice x.A x.n x.c
abbrev One.val (x : One) : Value := .agg #[.int .i64 x.key, .int .i64 x.s.tick, .int .i64 x.s.time, .slice x.A x.n x.c]
abbrev One.cells (x : One) : Array Value := #[.int .i64 x.key, .int .i64 x.s.tick, .int .i64 x.s.time, .slice x.A x.n x.c]
def One.enc (x : One) : List Value := [.int .i64 x.key, .int .i64 x.s.tick, .int .i64 x.s.time, .slice x.A x.n x.c]
theorem One.one (x : One) : ∀ u ∈ x.enc, u.oneCell' = true := by
  intro u hu
  simp [One.enc] at hu
  rcases hu with rfl | rfl | rfl | rfl <;> rfl

def posL (k : Int) : List Int → Nat
  | [] => 0
  | x :: l => if x < k then posL k l + 1 else 0
def thereL (k : Int) (l : List Int) : Bool := l.any (· == k)
theorem posL_le (k : Int) (l : List Int) : posL k l ≤ l.length := by
  induction l with
  | nil => simp [posL]
  | cons x l ih => unfold posL; split <;> simp <;> omega
theorem posL_is (k : Int) (l : List Int) : ∀ (i : Nat), i ≤ l.length → (∀ j (hj : j < l.length), j < i → l[j] < k) → (∀ (hj : i < l.length), k ≤ l[i]) → posL k l = i := by
  induction l with
  | nil => intro i h _ _; simp at h; simp [posL, h]
  | cons x l ih =>
    intro i h h1 h2
    unfold posL
    cases i with
    | zero =>
      have := h2 (by simp)
      simp at this
      rw [if_neg (by omega)]
    | succ i =>
      have h0 := h1 0 (by simp) (by omega)
      simp at h0
      rw [if_pos h0, ih i (by simpa using h) (fun j hj hji => by have := h1 (j + 1) (by simpa using hj) (by omega); simpa using this) (fun hj => by have := h2 (by simpa using hj); simpa using this)]
theorem thereL_is (k : Int) (l : List Int) (hs : l.Pairwise (· < ·)) (i : Nat) (hi : i ≤ l.length) (h1 : ∀ j (hj : j < l.length), j < i → l[j] < k) (h2 : ∀ (hj : i < l.length), k ≤ l[i]) :
    thereL k l = (if h : i < l.length then l[i] == k else false) := by
  unfold thereL
  rw [Bool.eq_iff_iff]
  simp only [List.any_eq_true, beq_iff_eq]
  constructor
  · rintro ⟨x, hx, rfl⟩
    obtain ⟨j, hj, hjx⟩ := List.mem_iff_getElem.1 hx
    have hij : ¬ j < i := fun h => by have := h1 j hj h; omega
    have hi' : i < l.length := by omega
    rw [dif_pos hi']
    have h3 := h2 hi'
    rcases Nat.lt_or_ge i j with h | h
    · have := (List.pairwise_iff_getElem.1 hs) i j hi' hj h
      omega
    · have : i = j := by omega
      subst this
      simp [hjx]
  · intro h
    split at h
    · next hi' => exact ⟨l[i], List.getElem_mem hi', by simpa using h⟩
    · cases h

def cmpK (a b : Int) : Int := if a < b then -1 else if b < a then 1 else 0

set_option maxRecDepth 100000 in
theorem place1_any (x : One) (k : Int) (w : World) :
    Calls Tryz.prog 81 #[x.val, .int .i64 k] w fun e w' => e = .returned (.int .i64 (cmpK x.key k)) ∧ Below w.heap.size w w' := by
  have hb : Below w.heap.size w (w.alloc (.cells x.cells 105)) := (Below.refl _ _).alloc (Nat.le_refl _) _
  by_cases h1 : x.key < k
  · have HC : Hid (cmpK x.key k = -1) := by show _ = _; unfold cmpK; rw [if_pos h1]
    go_enter Tryz.func81, Tryz.ntmps81
    go_wp2
    go_ret
    exact ⟨ret_int HC.out.symm, hb⟩
  · by_cases h2 : k < x.key
    · have HC : Hid (cmpK x.key k = 1) := by show _ = _; unfold cmpK; rw [if_neg h1, if_pos h2]
      go_enter Tryz.func81, Tryz.ntmps81
      go_wp2
      go_ret
      exact ⟨ret_int HC.out.symm, hb⟩
    · have HC : Hid (cmpK x.key k = 0) := by show _ = _; unfold cmpK; rw [if_neg h1, if_neg h2]
      go_enter Tryz.func81, Tryz.ntmps81
      go_wp2
      go_ret
      exact ⟨ret_int HC.out.symm, hb⟩

abbrev OwnO (w : World) (base : Nat) (v : Value) (xs : List One) : Prop := w.ownsRow base 105 4 v xs.length (xs.flatMap One.enc)
/-- What is known of the i-th. -/
theorem OwnO.at {w : World} {base : Nat} {A : Option Addr} {n c : Nat} {xs : List One} (h : OwnO w base (.slice A n c) xs) (i : Nat) (hi : i < xs.length) :
    ∃ b, A = some ⟨b, 0, none⟩ ∧ base ≤ b ∧ b < w.heap.size ∧ ∀ j, j < 4 → w.cell? ⟨b, i * 4 + j, none⟩ = xs[i].cells[j]? := by
  rcases h.2 with ⟨e, h0⟩ | ⟨g, cap, cur, e, hb, hg, hnc, hcm, hcs, htake⟩
  · omega
  · injection e with e1 e2 e3
    subst e1
    refine ⟨g, rfl, hb, heap_lt hg, fun j hj => ?_⟩
    rw [blk hg]
    have h1 := flatMap_get One.enc 4 (fun _ => rfl) xs i j hi hj
    rw [← htake, List.getElem?_take] at h1
    split at h1
    · rw [← Array.getElem?_toList, h1]
      show xs[i].enc[j]? = xs[i].enc.toArray[j]?
      simp
    · next hlt =>
      have : (xs.flatMap One.enc).length = xs.length * 4 := flatMap_length One.enc 4 (fun _ => rfl) xs
      have h3 : i * 4 + j < xs.length * 4 := by omega
      omega

def keys (xs : List One) : List Int := xs.map (·.key)

set_option maxRecDepth 100000 in
theorem bsearch_any (base : Nat) (v : Value) (xs : List One) (k : Int) (w : World) (h : OwnO w base v xs) (hs : (keys xs).Pairwise (· < ·)) (hl : xs.length ≤ 1000000) :
    Calls Tryz.prog 80 #[v, .int .i64 k, .func (.func 81) #[] #[]] w fun e w' =>
      e = .returned (.tuple #[.int .i64 (posL k (keys xs)), .bool (thereL k (keys xs))]) ∧ Below w.heap.size w w' := by
  obtain ⟨A, c, rfl, hc1, hc2⟩ := own_form h
  have HK : ∀ j (hj : j < xs.length), (keys xs)[j]'(by simpa [keys] using hj) = xs[j].key := fun j hj => by simp [keys]
  have HL : Hid ((keys xs).length = xs.length) := by show _ = _; simp [keys]
  have HW := Lib.hid HK
  clear HK
  have HS := Lib.hid hs
  clear hs
  go_enter Tryz.func80, Tryz.ntmps80
  go_wp2_with (fail)
  go_loopw [9, 10] (fun t u wr => ∃ lo hi : Nat, lo ≤ hi ∧ hi ≤ xs.length ∧ t = .int .i64 lo ∧ u = .int .i64 hi ∧ Below w.heap.size w wr ∧ Hid ((∀ j (hj : j < xs.length), j < lo → xs[j].key < k) ∧ (∀ j (hj : j < xs.length), hi ≤ j → k ≤ xs[j].key))) (fun t u _ => (intOf u).toNat - (intOf t).toNat)
  case atStart => exact ⟨0, xs.length, by omega, by omega, rfl, rfl, Below.refl _ _, ⟨fun j hj h => by omega, fun j hj h => by omega⟩⟩
  case round =>
    obtain ⟨lo, hi, h1, h2, rfl, rfl, hB, HI⟩ := hrel
    have hown : OwnO wr base (.slice A xs.length c) xs := own_below h hB
    by_cases hlt : lo < hi
    · obtain ⟨m, hm⟩ : ∃ m : Nat, m = (lo + hi) / 2 := ⟨_, rfl⟩
      have hm1 : lo ≤ m := by omega
      have hm2 : m < hi := by omega
      have hml : m < xs.length := by omega
      obtain ⟨b, rfl, hbb, hbl, hcs⟩ := hown.at m hml
      have hx0 := hcs 0 (by omega)
      have hx1 := hcs 1 (by omega)
      have hx2 := hcs 2 (by omega)
      have hx3 := hcs 3 (by omega)
      simp only [List.getElem?_toArray, List.getElem?_cons_succ, List.getElem?_cons_zero, Nat.add_zero] at hx0 hx1 hx2 hx3
      clear hcs
      have hw1 : IntKind.u64.wrap ((lo : Int) + (hi : Int)) = (lo : Int) + (hi : Int) := by rw [IntKind.wrap_u64]; omega
      have hw2 : IntKind.i64.wrap (((lo : Int) + (hi : Int)) / 2) = (m : Int) := by rw [IntKind.wrap_i64]; omega
      have hw3 : ((lo : Int) + (hi : Int)) / 2 = (m : Int) := by omega
      have hpl := fun W => place1_any xs[m] k W
      have HM : Hid (∀ j (hj : j < xs.length), j < m → xs[j].key < xs[m].key) := fun j hj hjm => by
        have := (List.pairwise_iff_getElem.1 HS.out) j m (by rw [HL.out]; exact hj) (by rw [HL.out]; exact hml) hjm
        rw [HW.out j hj, HW.out m hml] at this
        exact this
      have HM2 : Hid (∀ j (hj : j < xs.length), m < j → xs[m].key < xs[j].key) := fun j hj hjm => by
        have := (List.pairwise_iff_getElem.1 HS.out) m j (by rw [HL.out]; exact hml) (by rw [HL.out]; exact hj) hjm
        rw [HW.out j hj, HW.out m hml] at this
        exact this
      clear hm
      obtain ⟨x, hx⟩ : ∃ x, x = xs[m] := ⟨_, rfl⟩
      rw [← hx] at hx0 hx1 hx2 hx3 hpl HM HM2
      have HX := Lib.hid hx.symm
      clear hx
      have hpl2 := hpl wr
      by_cases h3 : x.key < k
      · have HC : cmpK x.key k = -1 := by unfold cmpK; rw [if_pos h3]
        rw [HC] at hpl2
        clear HC hpl
        go_wp2_with (go_at_call 81; refine hpl2.mono ?_; rintro e w1 ⟨rfl, hb1⟩)
        exact ⟨⟨m + 1, hi, by omega, by omega, by go_num, rfl, below_then hB hB.size hb1, ⟨fun j hj hjm => by
          rcases Nat.lt_or_ge j m with h | h
          · have := HM.out j hj h; omega
          · obtain rfl : j = m := by omega
            rw [HX.out]; exact h3, HI.out.2⟩⟩, by simp [intOf]; omega⟩
      · by_cases h4 : k < x.key
        · have HC : cmpK x.key k = 1 := by unfold cmpK; rw [if_neg h3, if_pos h4]
          rw [HC] at hpl2
          clear HC hpl
          go_wp2_with (go_at_call 81; refine hpl2.mono ?_; rintro e w1 ⟨rfl, hb1⟩)
          exact ⟨⟨lo, m, by omega, by omega, rfl, rfl, below_then hB hB.size hb1, ⟨HI.out.1, fun j hj hjm => by
            rcases Nat.lt_or_ge m j with h | h
            · have := HM2.out j hj h; omega
            · obtain rfl : j = m := by omega
              rw [HX.out]; omega⟩⟩, by simp [intOf]; omega⟩
        · have HC : cmpK x.key k = 0 := by unfold cmpK; rw [if_neg h3, if_neg h4]
          rw [HC] at hpl2
          clear HC hpl
          go_wp2_with (go_at_call 81; refine hpl2.mono ?_; rintro e w1 ⟨rfl, hb1⟩)
          exact ⟨⟨lo, m, by omega, by omega, rfl, rfl, below_then hB hB.size hb1, ⟨HI.out.1, fun j hj hjm => by
            rcases Nat.lt_or_ge m j with h | h
            · have := HM2.out j hj h; omega
            · obtain rfl : j = m := by omega
              rw [HX.out]; omega⟩⟩, by simp [intOf]; omega⟩
    · obtain rfl : lo = hi := by omega
      have HP : Hid (posL k (keys xs) = lo) := posL_is k (keys xs) lo (by rw [HL.out]; exact h2) (fun j hj hji => by rw [HW.out j (by rw [← HL.out]; exact hj)]; exact HI.out.1 j _ hji) (fun hj => by rw [HW.out lo (by rw [← HL.out]; exact hj)]; exact HI.out.2 lo _ (Nat.le_refl _))
      have HT : Hid (thereL k (keys xs) = (if h : lo < (keys xs).length then (keys xs)[lo] == k else false)) := thereL_is k (keys xs) HS.out lo (by rw [HL.out]; exact h2) (fun j hj hji => by rw [HW.out j (by rw [← HL.out]; exact hj)]; exact HI.out.1 j _ hji) (fun hj => by rw [HW.out lo (by rw [← HL.out]; exact hj)]; exact HI.out.2 lo _ (Nat.le_refl _))
      by_cases hlt2 : lo < xs.length
      · obtain ⟨b, rfl, hbb, hbl, hcs⟩ := hown.at lo hlt2
        have hx0 := hcs 0 (by omega)
        have hx1 := hcs 1 (by omega)
        have hx2 := hcs 2 (by omega)
        have hx3 := hcs 3 (by omega)
        simp only [List.getElem?_toArray, List.getElem?_cons_succ, List.getElem?_cons_zero, Nat.add_zero] at hx0 hx1 hx2 hx3
        clear hcs
        have HT2 : Hid (thereL k (keys xs) = (xs[lo].key == k)) := by show _ = _; rw [HT.out, dif_pos (by rw [HL.out]; exact hlt2), HW.out lo hlt2]
        have hge : k ≤ xs[lo].key := HI.out.2 lo hlt2 (Nat.le_refl _)
        have hpl2 := place1_any xs[lo] k wr
        generalize xs[lo] = x at *
        by_cases h3 : k < x.key
        · have HC : cmpK x.key k = 1 := by unfold cmpK; rw [if_neg (by omega), if_pos h3]
          rw [HC] at hpl2
          clear HC
          have HT3 : Hid (thereL k (keys xs) = false) := by show _ = _; rw [HT2.out]; simp; omega
          go_wp2_with (go_at_call 81; refine hpl2.mono ?_; rintro e w1 ⟨rfl, hb1⟩)
          go_ret2
          exact ⟨by rw [HP.out, HT3.out]; rfl, below_then hB hB.size hb1⟩
        · have HC : cmpK x.key k = 0 := by unfold cmpK; rw [if_neg (by omega), if_neg h3]
          rw [HC] at hpl2
          clear HC
          have HT3 : Hid (thereL k (keys xs) = true) := by show _ = _; rw [HT2.out]; simp; omega
          go_wp2_with (go_at_call 81; refine hpl2.mono ?_; rintro e w1 ⟨rfl, hb1⟩)
          go_ret2
          exact ⟨by rw [HP.out, HT3.out]; rfl, below_then hB hB.size hb1⟩
      · have HT2 : Hid (thereL k (keys xs) = false) := by show _ = _; rw [HT.out, dif_neg (by rw [HL.out]; exact hlt2)]
        have hd : decide (lo < xs.length) = false := by simpa using hlt2
        go_wp2
        go_ret2
        exact ⟨by rw [HP.out, HT2.out]; rfl, hB⟩

end Go.Proofs.YtpdckdfnpehliaaGreat

namespace Go.Proofs.YtpdckdfnpehliaaGreat
open Go Go.RowKit Go.Deep Go.Shelf
set_option maxHeartbeats 400000

/-- What a ring is. -/
structure Rng where
  xs : List One
  most : Int
  floor : Int
  gone : Bool
/-- A ring in memory: its struct in block rb, its things in the row lv. -/
structure RgSt (w : World) (base rb : Nat) (lv : Value) (r : Rng) : Prop where
  blk : w.heap[rb]? = some (.cells #[lv, .int .i64 r.most, .int .i64 r.floor, .bool r.gone] 103 (0, 0))
  own : OwnO w base lv r.xs
  ne : lv.ownBlock ≠ some rb
  ents : ∀ x ∈ r.xs, Sl Ty.ent w (fun k => k ≠ rb ∧ lv.ownBlock ≠ some k) x.v x.s.ents
  srt : (keys r.xs).Pairwise (· < ·)
  len : r.xs.length ≤ 100
  most0 : 1 ≤ r.most ∧ r.most ≤ 64

theorem RgSt.fr {w w' : World} {base rb : Nat} {lv : Value} {r : Rng} {S : Nat → Prop} (h : RgSt w base rb lv r) (hf : Fr S w w') (h1 : ¬ S rb) (h2 : ∀ k, lv.ownBlock = some k → ¬ S k) (h3 : ∀ k, k < w.heap.size → k ≠ rb → lv.ownBlock ≠ some k → ¬ S k) : RgSt w' base rb lv r :=
  ⟨hf.at h.blk h1, own_fr h.own hf h2, h.ne, fun x hx => (h.ents x hx).keep (fun b hb hl => hf.block b hl (h3 b hl hb.1 hb.2)) (fun _ hb _ => hb), h.srt, h.len, h.most0⟩
theorem RgSt.below {w w' : World} {base rb : Nat} {lv : Value} {r : Rng} (h : RgSt w base rb lv r) (hb : Below w.heap.size w w') : RgSt w' base rb lv r :=
  h.fr (Fr.of_below hb fun _ => False) (fun h => h) (fun _ _ h => h) (fun _ _ _ _ h => h)
theorem RgSt.lt {w : World} {base rb : Nat} {lv : Value} {r : Rng} (h : RgSt w base rb lv r) : rb < w.heap.size := heap_lt h.blk
theorem RgSt.alloc {w : World} {base rb : Nat} {lv : Value} {r : Rng} (h : RgSt w base rb lv r) (o : Obj) : RgSt (w.alloc o) base rb lv r := h.below ((Below.refl _ _).alloc (Nat.le_refl _) _)
theorem RgSt.drew {w : World} {base rb : Nat} {lv : Value} {r : Rng} (h : RgSt w base rb lv r) : RgSt w.drew base rb lv r := h.below (Below.refl _ _).drew

theorem ringNew_no (n : Int) (hn : n < 1 ∨ 64 < n) (w : World) :
    Calls Tryz.prog 29 #[.int .i64 n] w fun e w' => e = .returned (.tuple #[.pointer none, .int .i64 3]) ∧ w = w' := by
  by_cases h1 : n < 1
  · go_enter Tryz.func29, Tryz.ntmps29
    go_wp2
    go_ret2
    exact ⟨rfl, rfl⟩
  · have h2 : 64 < n := by omega
    have h3 : decide (n < 1) = false := by simpa using h1
    go_enter Tryz.func29, Tryz.ntmps29
    go_wp2
    go_ret2
    exact ⟨rfl, rfl⟩
theorem ringNew_any (n : Int) (h1 : 1 ≤ n) (h2 : n ≤ 64) (w : World) :
    Calls Tryz.prog 29 #[.int .i64 n] w fun e w' => e = .returned (.tuple #[.pointer (some ⟨w.heap.size, 0, none⟩), .int .i64 0]) ∧
      w' = w.alloc (.cells #[.slice none 0 0, .int .i64 n, .int .i64 0, .bool false] 103) := by
  have h3 : decide (n < 1) = false := by simp; omega
  have h4 : decide (64 < n) = false := by simp; omega
  go_enter Tryz.func29, Tryz.ntmps29
  go_wp2
  go_ret2
  exact ⟨rfl, rfl⟩

/-- The cells of a ring's struct. -/
theorem RgSt.cells {w : World} {base rb : Nat} {lv : Value} {r : Rng} (h : RgSt w base rb lv r) :
    w.cell? ⟨rb, 0, none⟩ = some lv ∧ w.cell? ⟨rb, 1, none⟩ = some (.int .i64 r.most) ∧ w.cell? ⟨rb, 2, none⟩ = some (.int .i64 r.floor) ∧ w.cell? ⟨rb, 3, none⟩ = some (.bool r.gone) ∧ ∀ i, w.frozen? ⟨rb, i, none⟩ = false :=
  ⟨Proofs.YtpdckdfnpehliaaGreat.blk h.blk 0, Proofs.YtpdckdfnpehliaaGreat.blk h.blk 1, Proofs.YtpdckdfnpehliaaGreat.blk h.blk 2, Proofs.YtpdckdfnpehliaaGreat.blk h.blk 3, blkF h.blk⟩

theorem place_any (base rb : Nat) (lv : Value) (r : Rng) (k : Int) (w : World) (h : RgSt w base rb lv r) :
    Calls Tryz.prog 53 #[.pointer (some ⟨rb, 0, none⟩), .int .i64 k] w fun e w' =>
      e = .returned (.tuple #[.int .i64 (posL k (keys r.xs)), .bool (thereL k (keys r.xs))]) ∧ Below w.heap.size w w' := by
  obtain ⟨hc0, hc1, hc2, hc3, hcf⟩ := h.cells
  have hs := bsearch_any base lv r.xs k w h.own h.srt (by have := h.len; omega)
  obtain ⟨A, c, rfl, _, _⟩ := own_form h.own
  clear hc1 hc2 hc3 hcf
  generalize posL k (keys r.xs) = i at hs ⊢
  generalize thereL k (keys r.xs) = t at hs ⊢
  go_enter Tryz.func53, Tryz.ntmps53
  go_wp2_with (go_at_call 80; refine hs.mono ?_; rintro e w1 ⟨rfl, hb1⟩)
  go_ret2
  exact ⟨rfl, hb1⟩

theorem ringLen_any (base rb : Nat) (lv : Value) (r : Rng) (w : World) (h : RgSt w base rb lv r) :
    Calls Tryz.prog 31 #[.pointer (some ⟨rb, 0, none⟩)] w fun e w' => e = .returned (.int .i64 r.xs.length) ∧ w = w' := by
  obtain ⟨hc0, hc1, hc2, hc3, hcf⟩ := h.cells
  obtain ⟨A, c, rfl, _, _⟩ := own_form h.own
  clear hc1 hc2 hc3 hcf
  go_enter Tryz.func31, Tryz.ntmps31
  go_wp2
  go_ret
  exact ⟨rfl, rfl⟩
theorem floor_any (base rb : Nat) (lv : Value) (r : Rng) (w : World) (h : RgSt w base rb lv r) :
    Calls Tryz.prog 73 #[.pointer (some ⟨rb, 0, none⟩)] w fun e w' => e = .returned (.tuple #[.int .i64 r.floor, .bool r.gone]) ∧ ∃ q, w' = w.drewN q := by
  obtain ⟨hc0, hc1, hc2, hc3, hcf⟩ := h.cells
  clear hc0 hc1 hcf
  go_enter Tryz.func73, Tryz.ntmps73
  go_wp2
  go_quiet (fail)
  go_wp2
  go_ret2
  exact ⟨rfl, _, rfl⟩

/-- How many numbers are no greater. -/
def untilL (k : Int) (l : List Int) : Nat := posL k l + if thereL k l then 1 else 0
theorem until_any (base rb : Nat) (lv : Value) (r : Rng) (k : Int) (w : World) (h : RgSt w base rb lv r) :
    Calls Tryz.prog 74 #[.pointer (some ⟨rb, 0, none⟩), .int .i64 k] w fun e w' => e = .returned (.int .i64 (untilL k (keys r.xs))) ∧ Below w.heap.size w w' := by
  have hp := place_any base rb lv r k w h
  have hpl := posL_le k (keys r.xs)
  have hl := h.len
  have e1 : (keys r.xs).length = r.xs.length := by simp [keys]
  have HU : Hid (untilL k (keys r.xs) = posL k (keys r.xs) + if thereL k (keys r.xs) then 1 else 0) := rfl
  rw [e1] at hpl
  clear e1
  generalize posL k (keys r.xs) = i at hp HU hpl
  cases ht : thereL k (keys r.xs) with
  | false =>
    rw [ht] at hp HU
    clear ht
    go_enter Tryz.func74, Tryz.ntmps74
    go_wp2_with (go_at_call 53; refine hp.mono ?_; rintro e w1 ⟨rfl, hb1⟩)
    go_ret
    exact ⟨ret_int (by rw [HU.out]; simp), hb1⟩
  | true =>
    rw [ht] at hp HU
    clear ht
    go_enter Tryz.func74, Tryz.ntmps74
    go_wp2_with (go_at_call 53; refine hp.mono ?_; rintro e w1 ⟨rfl, hb1⟩)
    go_ret
    exact ⟨ret_int (by rw [HU.out]; simp), hb1⟩

end Go.Proofs.YtpdckdfnpehliaaGreat

namespace Go.Proofs.YtpdckdfnpehliaaGreat
open Go Go.RowKit Go.Deep Go.Shelf
set_option maxHeartbeats 400000

abbrev snap0Cells : Array Value := #[.int .i64 0, .int .i64 0, .slice none 0 0]
def Snap.zero : Snap := ⟨0, 0, []⟩
abbrev snap0 : Value := .agg #[.int .i64 0, .int .i64 0, .slice none 0 0]

theorem at_none (base rb : Nat) (lv : Value) (r : Rng) (i : Int) (w : World) (h : RgSt w base rb lv r) (hi : i < 0 ∨ (r.xs.length : Int) ≤ i) :
    Calls Tryz.prog 32 #[.pointer (some ⟨rb, 0, none⟩), .int .i64 i] w fun e w' => e = .returned (.tuple #[.int .i64 0, snap0, .int .i64 3]) ∧ Below w.heap.size w w' := by
  have h2 := (h.alloc (.cells snap0Cells 35)).alloc (.cells snap0Cells 35)
  obtain ⟨hc0, hc1, hc2, hc3, hcf⟩ := h2.cells
  obtain ⟨A, c, rfl, _, _⟩ := own_form h.own
  clear hc1 hc2 hc3 hcf
  have hb : Below w.heap.size w ((w.alloc (.cells snap0Cells 35)).alloc (.cells snap0Cells 35)) := below_alloc (below_alloc (Below.refl _ _) (Nat.le_refl _) _) (Nat.le_refl _) _
  rcases (by omega : i < 0 ∨ (0 ≤ i ∧ (r.xs.length : Int) ≤ i)) with hi | ⟨hi0, hi⟩
  · go_enter Tryz.func32, Tryz.ntmps32
    go_wp2
    go_region
    go_wp2
    exact bodyPost_ret (v := .tuple #[.int .i64 0, snap0, .int .i64 3]) (by simp [results, Tryz.results32, go_sem]) rfl ⟨rfl, hb.drew⟩
  · have hd : decide (i < 0) = false := by simp; omega
    have hd2 : decide ((r.xs.length : Int) ≤ i) = true := by simp; omega
    go_enter Tryz.func32, Tryz.ntmps32
    go_wp2
    go_region
    go_wp2
    exact bodyPost_ret (v := .tuple #[.int .i64 0, snap0, .int .i64 3]) (by simp [results, Tryz.results32, go_sem]) rfl ⟨rfl, hb.drew⟩

theorem at_some (base rb : Nat) (lv : Value) (r : Rng) (i : Nat) (w : World) (h : RgSt w base rb lv r) (hi : i < r.xs.length) :
    Calls Tryz.prog 32 #[.pointer (some ⟨rb, 0, none⟩), .int .i64 i] w fun e w' => e = .returned (.tuple #[.int .i64 r.xs[i].key, r.xs[i].s.val r.xs[i].v, .int .i64 0]) ∧ Below w.heap.size w w' := by
  have h2 := (h.alloc (.cells snap0Cells 35)).alloc (.cells snap0Cells 35)
  obtain ⟨hc0, hc1, hc2, hc3, hcf⟩ := h2.cells
  have hown := h2.own
  obtain ⟨A, c, rfl, _, _⟩ := own_form h.own
  clear hc1 hc2 hc3 hcf
  have hb : Below w.heap.size w ((w.alloc (.cells snap0Cells 35)).alloc (.cells snap0Cells 35)) := below_alloc (below_alloc (Below.refl _ _) (Nat.le_refl _) _) (Nat.le_refl _) _
  obtain ⟨b, rfl, hbb, hbl, hcs⟩ := hown.at i hi
  have hx0 := hcs 0 (by omega)
  have hx1 := hcs 1 (by omega)
  have hx2 := hcs 2 (by omega)
  have hx3 := hcs 3 (by omega)
  simp only [List.getElem?_toArray, List.getElem?_cons_succ, List.getElem?_cons_zero, Nat.add_zero] at hx0 hx1 hx2 hx3
  clear hcs hown h2
  have hd : decide ((i : Int) < 0) = false := by simp
  have hd2 : decide ((r.xs.length : Int) ≤ i) = false := by simp; omega
  have hi1 : (0 : Int) ≤ (i : Int) := by omega
  have hi2 : (i : Int) < (r.xs.length : Int) := by omega
  generalize r.xs[i] = x at *
  generalize r.xs.length = n at *
  go_enter Tryz.func32, Tryz.ntmps32
  go_wp2
  go_region
  go_wp2
  exact bodyPost_ret (v := .tuple #[.int .i64 x.key, x.s.val x.v, .int .i64 0]) (by simp [results, Tryz.results32, go_sem]) rfl ⟨rfl, (below_alloc (below_alloc (Below.refl _ _) (Nat.le_refl _) _) (Nat.le_refl _) _).drew⟩

theorem posL_spec (k : Int) (l : List Int) : (∀ j (hj : j < l.length), j < posL k l → l[j] < k) ∧ ∀ (hj : posL k l < l.length), k ≤ l[posL k l] := by
  induction l with
  | nil => simp [posL]
  | cons x l ih =>
    unfold posL
    split
    · next h =>
      refine ⟨fun j hj hlt => ?_, fun hj => ?_⟩
      · cases j with
        | zero => simpa using h
        | succ j => simpa using ih.1 j (by simpa using hj) (by omega)
      · simpa using ih.2 (by simpa using hj)
    · next h => exact ⟨fun j hj hlt => by omega, fun hj => by simp; omega⟩
theorem there_at {k : Int} {l : List Int} (hs : l.Pairwise (· < ·)) (h : thereL k l = true) : ∃ hi : posL k l < l.length, l[posL k l] = k := by
  have hp := posL_spec k l
  rw [thereL_is k l hs (posL k l) (posL_le k l) hp.1 hp.2] at h
  split at h
  · next hi => exact ⟨hi, by simpa using h⟩
  · cases h
/-- The one at a number. -/
def getL (k : Int) (xs : List One) : Option One := xs.find? (fun x => x.key == k)
theorem getL_none {k : Int} {xs : List One} (h : thereL k (keys xs) = false) : getL k xs = none := by
  unfold getL
  rw [List.find?_eq_none]
  intro x hx
  have := h
  unfold thereL keys at this
  rw [List.any_map, List.any_eq_false] at this
  simpa using this x hx
theorem getL_some {k : Int} {xs : List One} (hs : (keys xs).Pairwise (· < ·)) (h : thereL k (keys xs) = true) : ∃ hi : posL k (keys xs) < xs.length, getL k xs = some xs[posL k (keys xs)] ∧ xs[posL k (keys xs)].key = k := by
  obtain ⟨hi, hk⟩ := there_at hs h
  have hi' : posL k (keys xs) < xs.length := by simpa [keys] using hi
  have hk' : xs[posL k (keys xs)].key = k := by simpa [keys] using hk
  refine ⟨hi', ?_, hk'⟩
  unfold getL
  refine List.find?_eq_some_iff_getElem.2 ⟨by simpa using hk', _, hi', rfl, fun j hj => ?_⟩
  have := (posL_spec k (keys xs)).1 j (by simp [keys]; omega) hj
  simp [keys] at this
  simp; omega

theorem get_none (base rb : Nat) (lv : Value) (r : Rng) (k : Int) (w : World) (h : RgSt w base rb lv r) (ht : getL k r.xs = none) :
    Calls Tryz.prog 40 #[.pointer (some ⟨rb, 0, none⟩), .int .i64 k] w fun e w' => e = .returned (.tuple #[snap0, .bool false]) ∧ Below w.heap.size w w' := by
  have hth : thereL k (keys r.xs) = false := by
    cases h3 : thereL k (keys r.xs) with
    | false => rfl
    | true => obtain ⟨_, h4, _⟩ := getL_some h.srt h3; rw [ht] at h4; cases h4
  have hp := place_any base rb lv r k _ (h.alloc (.cells snap0Cells 35))
  rw [hth] at hp
  clear hth ht
  have hk0 : (w.alloc (.cells snap0Cells 35)).heap[w.heap.size]? = some (.cells snap0Cells 35 (0, 0)) := heap_new rfl
  generalize posL k (keys r.xs) = i at hp
  go_enter Tryz.func40, Tryz.ntmps40
  go_wp2_with (go_at_call 53; refine hp.mono ?_; rintro e w1 ⟨rfl, hb1⟩; have hk1 := below_at hb1 hk0 (heap_lt hk0); have z0 := blk hk1 0; have z1 := blk hk1 1; have z2 := blk hk1 2; have zf := blkF hk1; simp only [List.getElem?_toArray, List.getElem?_cons_succ, List.getElem?_cons_zero] at z0 z1 z2; have hsz := hb1.size; simp at hsz)
  have hS := setList_fr w.heap.size [.int .i64 0, .int .i64 0, .slice none 0 0] w1 0
  simp only [setList, Nat.reduceAdd] at hS
  have hB := (below_alloc (Below.refl w.heap.size w) (Nat.le_refl _) (.cells snap0Cells 35)).trans (hb1.mono (by simp))
  exact bodyPost_ret (v := .tuple #[snap0, .bool false]) (by simp [results, Tryz.results40, go_sem, z0, z1, z2]) rfl ⟨rfl, hB.trans (hS.to_below (by omega) (fun i hi e => by omega))⟩

theorem get_some (base rb : Nat) (lv : Value) (r : Rng) (k : Int) (w : World) (x : One) (h : RgSt w base rb lv r) (ht : getL k r.xs = some x) :
    Calls Tryz.prog 40 #[.pointer (some ⟨rb, 0, none⟩), .int .i64 k] w fun e w' => e = .returned (.tuple #[x.s.val x.v, .bool true]) ∧ Below w.heap.size w w' := by
  have hth : thereL k (keys r.xs) = true := by
    cases h3 : thereL k (keys r.xs) with
    | false => rw [getL_none h3] at ht; cases ht
    | true => rfl
  obtain ⟨hi, h4, _⟩ := getL_some h.srt hth
  rw [ht] at h4
  injection h4 with h4
  have h2 := h.alloc (.cells snap0Cells 35)
  have hp := place_any base rb lv r k _ h2
  rw [hth] at hp
  clear hth ht
  have hk0 : (w.alloc (.cells snap0Cells 35)).heap[w.heap.size]? = some (.cells snap0Cells 35 (0, 0)) := heap_new rfl
  obtain ⟨A, c, rfl, _, _⟩ := own_form h.own
  have HX := Lib.hid h4
  generalize posL k (keys r.xs) = i at hp hi HX
  have hn := h.len
  have HR : Hid (∀ w1, Below (w.alloc (.cells snap0Cells 35)).heap.size (w.alloc (.cells snap0Cells 35)) w1 → ∃ b, A = some ⟨b, 0, none⟩ ∧ w1.cell? ⟨rb, 0, none⟩ = some (.slice A r.xs.length c) ∧ ∀ j, j < 4 → w1.cell? ⟨b, i * 4 + j, none⟩ = x.cells[j]?) := by
    intro w1 hb
    obtain ⟨b, e1, _, _, hcs⟩ := (h2.below hb).own.at i hi
    exact ⟨b, e1, (h2.below hb).cells.1, fun j hj => by rw [hcs j hj, HX.out]⟩
  clear h2 h4 h
  go_enter Tryz.func40, Tryz.ntmps40
  go_wp2_with (go_at_call 53; refine hp.mono ?_; rintro e w1 ⟨rfl, hb1⟩; have hk1 := below_at hb1 hk0 (heap_lt hk0); have z0 := blk hk1 0; have z1 := blk hk1 1; have z2 := blk hk1 2; have zf := blkF hk1; simp only [List.getElem?_toArray, List.getElem?_cons_succ, List.getElem?_cons_zero] at z0 z1 z2; have hsz := hb1.size; simp at hsz; obtain ⟨b, rfl, hc0, hcs⟩ := HR.out w1 hb1; have hx1 := hcs 1 (by omega); have hx2 := hcs 2 (by omega); have hx3 := hcs 3 (by omega); simp only [List.getElem?_toArray, List.getElem?_cons_succ, List.getElem?_cons_zero] at hx1 hx2 hx3; clear hcs)
  have hk2 := setList_blk w.heap.size 35 [.int .i64 x.s.tick, .int .i64 x.s.time, .slice x.A x.n x.c] w1 [] [.int .i64 0, .int .i64 0, .slice none 0 0] rfl hk1
  have hk3 := setList_blk w.heap.size 35 [.int .i64 x.s.tick, .int .i64 x.s.time, .slice x.A x.n x.c] _ [] [.int .i64 x.s.tick, .int .i64 x.s.time, .slice x.A x.n x.c] rfl hk2
  have hS := (setList_fr w.heap.size [.int .i64 x.s.tick, .int .i64 x.s.time, .slice x.A x.n x.c] w1 0).trans (setList_fr w.heap.size [.int .i64 x.s.tick, .int .i64 x.s.time, .slice x.A x.n x.c] _ 0)
  have hB := (below_alloc (Below.refl w.heap.size w) (Nat.le_refl _) (.cells snap0Cells 35)).trans (hb1.mono (by simp))
  change bodyPost _ _ _ _ _ (setList (setList w1 w.heap.size 0 [.int .i64 x.s.tick, .int .i64 x.s.time, .slice x.A x.n x.c]) w.heap.size 0 [.int .i64 x.s.tick, .int .i64 x.s.time, .slice x.A x.n x.c])
  simp only [List.length_nil] at hk3
  generalize setList (setList w1 w.heap.size 0 [.int .i64 x.s.tick, .int .i64 x.s.time, .slice x.A x.n x.c]) w.heap.size 0 [.int .i64 x.s.tick, .int .i64 x.s.time, .slice x.A x.n x.c] = W2 at hk3 hS ⊢
  have y0 := blk hk3 0
  have y1 := blk hk3 1
  have y2 := blk hk3 2
  simp only [List.nil_append, List.getElem?_toArray, List.getElem?_cons_succ, List.getElem?_cons_zero] at y0 y1 y2
  exact bodyPost_ret (v := .tuple #[x.s.val x.v, .bool true]) (by simp [results, Tryz.results40, go_sem, y0, y1, y2]) rfl ⟨rfl, hB.trans (hS.to_below (by omega) (fun i hi e => by omega))⟩

end Go.Proofs.YtpdckdfnpehliaaGreat
