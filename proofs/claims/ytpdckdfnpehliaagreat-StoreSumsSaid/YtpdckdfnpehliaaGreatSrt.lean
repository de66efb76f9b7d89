/- slices.SortFunc at entities and at records, by their ids; slices.SortedFunc over maps.Values. -/
import Derived.Test.YtpdckdfnpehliaaGreatIt2
import Derived.Test.YtpdckdfnpehliaaGreatGramR
import Derived.Test.YtpdckdfnpehliaaGreatShelf
set_option linter.unusedVariables false
set_option linter.unusedSimpArgs false

namespace Go.Proofs.YtpdckdfnpehliaaGreat
open Go Go.RowKit Go.Deep Go.Shelf Go.Sort
set_option maxHeartbeats 400000

instance : Inhabited Ent := ⟨Ent.zero⟩
instance : Inhabited Rec := ⟨Rec.zero⟩
def cmpI (a b : Int) : Int := if a < b then -1 else if b < a then 1 else 0

theorem isNaN_any (a : Int) (w : World) : Calls Tryz.prog 108 #[.int .i64 a] w fun e w' => e = .returned (.bool false) ∧ w = w' := by
  have h : (a != a) = false := by simp
  go_enter Tryz.func108, Tryz.ntmps108
  go_wp2
  go_ret
  exact ⟨rfl, rfl⟩
theorem compare_any (a b : Int) (w : World) : Calls Tryz.prog 72 #[.int .i64 a, .int .i64 b] w fun e w' => e = .returned (.int .i64 (cmpI a b)) ∧ w = w' := by
  by_cases h1 : a < b
  · have HC : Hid (cmpI a b = -1) := by show _ = _; unfold cmpI; rw [if_pos h1]
    go_enter Tryz.func72, Tryz.ntmps72
    go_wp2_with (go_at_call 108; refine (isNaN_any _ _).mono ?_; rintro e w' ⟨rfl, rfl⟩)
    go_ret
    exact ⟨ret_int HC.out.symm, rfl⟩
  · by_cases h2 : b < a
    · have HC : Hid (cmpI a b = 1) := by show _ = _; unfold cmpI; rw [if_neg h1, if_pos h2]
      go_enter Tryz.func72, Tryz.ntmps72
      go_wp2_with (go_at_call 108; refine (isNaN_any _ _).mono ?_; rintro e w' ⟨rfl, rfl⟩)
      go_ret
      exact ⟨ret_int HC.out.symm, rfl⟩
    · have HC : Hid (cmpI a b = 0) := by show _ = _; unfold cmpI; rw [if_neg h1, if_neg h2]
      go_enter Tryz.func72, Tryz.ntmps72
      go_wp2_with (go_at_call 108; refine (isNaN_any _ _).mono ?_; rintro e w' ⟨rfl, rfl⟩)
      go_ret
      exact ⟨ret_int HC.out.symm, rfl⟩

theorem closE (x y : Ent) (w : World) : Calls Tryz.prog 79 #[x.val, y.val] w fun e w' => e = .returned (.int .i64 (cmpI x.id y.id)) ∧ ∃ q os', w' = grow (w.drewN q) os' := by
  have hcon := fun W => compare_any x.id y.id W
  generalize cmpI x.id y.id = r at hcon ⊢
  go_enter Tryz.func79, Tryz.ntmps79
  go_wp2_with (go_at_call 72; refine (hcon _).mono ?_; rintro e w' ⟨rfl, rfl⟩)
  go_ret
  exact ⟨rfl, 0, _, by rw [alloc_eq_grow, alloc_eq_grow, grow_grow]; rfl⟩
theorem closR (x y : Rec) (w : World) : Calls Tryz.prog 71 #[x.val, y.val] w fun e w' => e = .returned (.int .i64 (cmpI x.id y.id)) ∧ ∃ q os', w' = grow (w.drewN q) os' := by
  have hcon := fun W => compare_any x.id y.id W
  generalize cmpI x.id y.id = r at hcon ⊢
  go_enter Tryz.func71, Tryz.ntmps71
  go_wp2_with (go_at_call 72; refine (hcon _).mono ?_; rintro e w' ⟨rfl, rfl⟩)
  go_ret
  exact ⟨rfl, 0, _, by rw [alloc_eq_grow, alloc_eq_grow, grow_grow]; rfl⟩

theorem ltOf_cmpI {α : Type} (f : α → Int) (x y : α) : ltOf (fun x y => cmpI (f x) (f y)) x y = decide (f x < f y) := by
  unfold ltOf cmpI
  by_cases h1 : f x < f y
  · simp [h1]
  · by_cases h2 : f y < f x <;> simp [h1, h2]
theorem swo_cmpI {α : Type} (f : α → Int) : SWO (ltOf fun x y : α => cmpI (f x) (f y)) where
  irrefl x := by rw [ltOf_cmpI]; simp
  trans x y z h1 h2 := by rw [ltOf_cmpI] at *; simp at *; omega
  ntrans x y z h1 h2 := by rw [ltOf_cmpI] at *; simp at *; omega

theorem flatK_get {α : Type} [Inhabited α] (enc : α → List Value) (k : Nat) (hk : ∀ x, (enc x).length = k) (xs : List α) (t : Nat) (ht : t < xs.length * k) : (flatK enc k xs.toArray)[t]? = (xs.flatMap enc)[t]? := by
  have hk0 : 0 < k := by
    rcases Nat.eq_zero_or_pos k with h | h
    · subst h; simp at ht
    · exact h
  have hd : t / k < xs.length := by rw [Nat.div_lt_iff_lt_mul hk0]; exact ht
  have hm : t % k < k := Nat.mod_lt _ hk0
  have he : t / k * k + t % k = t := by rw [Nat.mul_comm]; exact Nat.div_add_mod t k
  have h5 := flatMap_get enc k hk xs (t / k) (t % k) hd hm
  rw [he] at h5
  rw [h5]
  have hs : t < (flatK enc k xs.toArray).size := by simpa using ht
  rw [Array.getElem?_eq_getElem hs, ← getElem!_pos (flatK enc k xs.toArray) t hs, get_flatK _ _ _ _ (by simpa using ht)]
  rw [getElem!_pos xs.toArray (t / k) (by simpa using hd)]
  rw [List.getElem?_eq_getElem (by rw [hk]; exact hm), getElem!_pos _ _ (by simp [hk]; exact hm)]
  simp

/-- An owned row, in the words of the sort's contract. -/
theorem own_holds {α : Type} [Inhabited α] {enc : α → List Value} {k : Nat} (hk : ∀ x, (enc x).length = k) {w : World} {base e g cap : Nat} {xs : List α} (h : w.ownsRow base e k (.slice (some ⟨g, 0, none⟩) xs.length cap) xs.length (xs.flatMap enc)) :
    HoldsK enc k w g 0 xs.toArray ∧ g < w.heap.size := by
  rcases h.2 with ⟨h0, _⟩ | ⟨g', cap', cur, e1, hb, hg, hnc, hcm, hcs, htake⟩
  · cases h0
  · injection e1 with e1 _ _
    injection e1 with e1
    injection e1 with e1
    subst e1
    refine ⟨fun t ht => ?_, heap_lt hg⟩
    have ht' : t < xs.length * k := by simpa using ht
    have h2 := flatK_get enc k hk xs t ht'
    rw [← htake, List.getElem?_take, if_pos ht', Array.getElem?_eq_getElem ht] at h2
    rw [Nat.zero_add, blk hg, blkF hg, getElem!_pos (flatK enc k xs.toArray) t ht]
    refine ⟨?_, rfl⟩
    rw [← Array.getElem?_toList]
    exact h2.symm

/-- An owned row behind the sort. -/
theorem own_sorted {α : Type} [Inhabited α] {enc : α → List Value} {k : Nat} (hk : ∀ x, (enc x).length = k) {w : World} {base e g cap : Nat} {xs : List α} (h : w.ownsRow base e k (.slice (some ⟨g, 0, none⟩) xs.length cap) xs.length (xs.flatMap enc))
    (ys : List α) (hl : ys.length = xs.length) (n : Nat) (os : Array Obj) :
    (sortWorldK enc k w g 0 n ys.toArray os).ownsRow base e k (.slice (some ⟨g, 0, none⟩) ys.length cap) ys.length (ys.flatMap enc) ∧ Fr (fun b => b = g) w (sortWorldK enc k w g 0 n ys.toArray os) := by
  rcases h.2 with ⟨h0, _⟩ | ⟨g', cap', cur, e1, hb, hg, hnc, hcm, hcs, htake⟩
  · cases h0
  · injection e1 with e1 e2 e3
    injection e1 with e1
    injection e1 with e1
    subst e1 e3
    have hgl := heap_lt hg
    have hblk : (sortWorldK enc k w g 0 n ys.toArray os).heap[g]? = some (.cells (putCells id 0 (flatK enc k ys.toArray) cur) e (0, 0)) := by
      simp only [sortWorldK, grow, putRowK, Go.Sort.putRow, Go.Sort.mapBlock, Go.Sort.ahead]
      rw [Array.getElem?_append_left (by simpa using hgl), Array.getElem?_modify]
      simp [hg, onCells]
    refine ⟨⟨flatMap_length enc k hk ys, .inr ⟨g, cap, _, rfl, hb, hblk, by omega, hcm, by simp [putCells, hcs], ?_⟩⟩, ?_⟩
    · apply List.ext_getElem?
      intro t
      rw [List.getElem?_take]
      split
      · next ht =>
        rw [← flatK_get enc k hk ys t ht, Array.getElem?_toList, putCells, Array.getElem?_mapIdx]
        have hcur : t < cur.size := by
          rw [hcs]
          exact Nat.lt_of_lt_of_le ht (Nat.mul_le_mul_right k (by omega))
        have hs : t < (flatK enc k ys.toArray).size := by simpa using ht
        rw [Array.getElem?_eq_getElem hcur, Array.getElem?_eq_getElem hs]
        simp [ht, getElem!_pos, hs]
      · next ht =>
        rw [List.getElem?_eq_none]
        rw [flatMap_length enc k hk ys]
        omega
    · refine ⟨rfl, rfl, rfl, ?_, fun i hi hs => ?_⟩
      · simp [sortWorldK, grow, putRowK, Go.Sort.putRow, Go.Sort.mapBlock, Go.Sort.ahead]
      · simp only [sortWorldK, grow, putRowK, Go.Sort.putRow, Go.Sort.mapBlock, Go.Sort.ahead]
        rw [Array.getElem?_append_left (by simpa using hi), Array.getElem?_modify, if_neg (fun e => hs e.symm)]

theorem perm_sorted {α : Type} [Inhabited α] (f : α → Int) (xs : List α) (d' : Array α) (hp : PermIn 0 xs.toArray.size xs.toArray d') (hs : SortedIn (ltOf fun x y : α => cmpI (f x) (f y)) 0 xs.toArray.size d') :
    d'.toList.Perm xs ∧ d'.toList.Pairwise (fun a b => f a ≤ f b) := by
  obtain ⟨h1, h2, h3⟩ := hp
  have e1 : d'.extract 0 xs.toArray.size = d' := by rw [← h1]; simp
  rw [e1] at h3
  refine ⟨by simpa using h3, ?_⟩
  rw [List.pairwise_iff_getElem]
  intro i j hi hj hij
  have hj' : j < d'.size := by simpa using hj
  have := hs i j (Nat.zero_le _) hij (by omega)
  rw [ltOf_cmpI, getElem!_pos d' j hj', getElem!_pos d' i (by omega)] at this
  simp at this
  simpa using this

theorem sortEnt_any (base : Nat) (v : Value) (xs : List Ent) (w : World) (h : OwnE w base v xs) (hl : xs.length ≤ 1000000) :
    Calls Tryz.prog 110 #[v, .func (.func 79) #[] #[]] w fun e w' =>
      e = .returned (.tuple #[]) ∧ ∃ ys : List Ent, ys.Perm xs ∧ ys.Pairwise (fun a b => a.id ≤ b.id) ∧ OwnE w' base v ys ∧ Fr (fun b => v.ownBlock = some b) w w' := by
  rcases h.2 with ⟨rfl, h0⟩ | ⟨g, cap, cur, rfl, _⟩
  · obtain rfl : xs = [] := List.eq_nil_of_length_eq_zero h0
    have hn := AnyF.slices_SortFunc_none Tryz.sortEnt none 0 (.func (.func 79) #[] #[]) w
    exact hn.mono fun e w' ⟨he, hw⟩ => ⟨he, [], List.Perm.refl _, List.Pairwise.nil, by rw [hw]; exact h, by rw [hw]; exact Fr.refl _ _⟩
  · obtain ⟨hH, hb⟩ := own_holds (enc := Ent.enc) (k := 9) (fun _ => rfl) h
    have eg : ∀ args w, (callFunc 79 args).run Tryz.prog w = .ok (.enter 79 args) w := enters_of Tryz.func79 (by kernel_rfl) rfl
    have hc := AnyQ.slices_SortFunc Tryz.sortEnt 9 (fun _ => by kernel_rfl) (fun _ => by kernel_rfl) Ent.enc (fun _ => rfl) ent_one (fun x y : Ent => cmpI x.id y.id) (swo_cmpI Ent.id) 79 #[] g 0 cap xs.toArray w eg (fun _ _ _ _ x y => closE x y _) hH hb (by simp; omega)
    refine hc.mono ?_
    rintro e w' ⟨he, d', n, os, hp, hs, rfl⟩
    obtain ⟨hp2, hs2⟩ := perm_sorted Ent.id xs d' hp hs
    have hlen := hp2.length_eq
    obtain ⟨ho, hf⟩ := own_sorted (enc := Ent.enc) (k := 9) (fun _ => rfl) h d'.toList hlen n os
    refine ⟨he, d'.toList, hp2, hs2, ?_, hf.mono fun b _ e => by subst e; rfl⟩
    rw [hlen] at ho
    unfold OwnE
    rw [hlen]
    exact ho

theorem rec_one (x : Rec) : ∀ u ∈ x.enc, u.oneCell' = true := by
  intro u hu
  simp [Rec.enc] at hu
  rcases hu with rfl | rfl | rfl | rfl | rfl | rfl | rfl | rfl | rfl <;> rfl
theorem sortRec_any (base : Nat) (v : Value) (xs : List Rec) (w : World) (h : OwnR w base v xs) (hl : xs.length ≤ 1000000) :
    Calls Tryz.prog 70 #[v, .func (.func 71) #[] #[]] w fun e w' =>
      e = .returned (.tuple #[]) ∧ ∃ ys : List Rec, ys.Perm xs ∧ ys.Pairwise (fun a b => a.id ≤ b.id) ∧ OwnR w' base v ys ∧ Fr (fun b => v.ownBlock = some b) w w' := by
  rcases h.2 with ⟨rfl, h0⟩ | ⟨g, cap, cur, rfl, _⟩
  · obtain rfl : xs = [] := List.eq_nil_of_length_eq_zero h0
    have hn := AnyF.slices_SortFunc_none Tryz.sortRec none 0 (.func (.func 71) #[] #[]) w
    exact hn.mono fun e w' ⟨he, hw⟩ => ⟨he, [], List.Perm.refl _, List.Pairwise.nil, by rw [hw]; exact h, by rw [hw]; exact Fr.refl _ _⟩
  · obtain ⟨hH, hb⟩ := own_holds (enc := Rec.enc) (k := 9) (fun _ => rfl) h
    have eg : ∀ args w, (callFunc 71 args).run Tryz.prog w = .ok (.enter 71 args) w := enters_of Tryz.func71 (by kernel_rfl) rfl
    have hc := AnyQ.slices_SortFunc Tryz.sortRec 9 (fun _ => by kernel_rfl) (fun _ => by kernel_rfl) Rec.enc (fun _ => rfl) rec_one (fun x y : Rec => cmpI x.id y.id) (swo_cmpI Rec.id) 71 #[] g 0 cap xs.toArray w eg (fun _ _ _ _ x y => closR x y _) hH hb (by simp; omega)
    refine hc.mono ?_
    rintro e w' ⟨he, d', n, os, hp, hs, rfl⟩
    obtain ⟨hp2, hs2⟩ := perm_sorted Rec.id xs d' hp hs
    have hlen := hp2.length_eq
    obtain ⟨ho, hf⟩ := own_sorted (enc := Rec.enc) (k := 9) (fun _ => rfl) h d'.toList hlen n os
    refine ⟨he, d'.toList, hp2, hs2, ?_, hf.mono fun b _ e => by subst e; rfl⟩
    rw [hlen] at ho
    unfold OwnR
    rw [hlen]
    exact ho

end Go.Proofs.YtpdckdfnpehliaaGreat
