/- slices.Insert at a ring's things.
   slices.Insert, slices.Delete at a ring's things: in the words of owned rows. -/
import Derived.Test.YtpdckdfnpehliaaGreatRg3
import Derived.Lib.Overlaps
import Derived.Lib.AppendZerosOnto
import Derived.Lib.AppendZeros
import Derived.Shelf.Spec.SlicesInsert
import Derived.Deep.RegionLaw
set_option linter.unusedVariables false
set_option linter.unusedSimpArgs false

namespace Go.Proofs.YtpdckdfnpehliaaGreat
open Go Go.RowKit Go.Deep Go.Shelf
set_option maxHeartbeats 400000

theorem setCells_fr (b : Nat) (l : List Value) : ∀ (W : World) (o : Nat), Fr (fun k => k = b) W (W.setCells b o l) := by
  induction l with
  | nil => intro W o; exact Fr.refl _ _
  | cons v l ih => intro W o; exact (fr_set v).trans (ih _ _)
theorem setCells_blk (b : Nat) (t : TypeId) (rest : List Value) (l : List Value) : ∀ (W : World) (pre post : List Value), post.length = l.length → W.heap[b]? = some (.cells (pre ++ post ++ rest).toArray t (0, 0)) →
    (W.setCells b pre.length l).heap[b]? = some (.cells (pre ++ l ++ rest).toArray t (0, 0)) := by
  induction l with
  | nil =>
    intro W pre post hp h
    obtain rfl : post = [] := List.eq_nil_of_length_eq_zero hp
    exact h
  | cons v l ih =>
    intro W pre post hp h
    cases post with
    | nil => simp at hp
    | cons p post =>
      have h2 := blk_set h pre.length v
      have e : (pre ++ p :: post ++ rest).toArray.setIfInBounds pre.length v = ((pre ++ [v]) ++ post ++ rest).toArray := by
        simp
      rw [e] at h2
      have := ih _ (pre ++ [v]) post (by simpa using hp) h2
      rw [show (pre ++ [v]) ++ l = pre ++ v :: l by simp] at this
      rw [List.length_append] at this
      exact this

theorem run_copyK {P : Program} (w : World) (dT sT ty elem : TypeId) (k : Nat) (b o dLen dCap : Nat) (a : Addr) (sLen sCap : Nat) (cs : List Value)
    (hu : P.underlying dT = some (.slice elem)) (hs : (P.info? elem).map (·.size) = some k) (hn : cs.length = Nat.min sLen dLen * k)
    (hsrc : ∀ j v, cs[j]? = some v → w.cell? (a.add j) = some v) (hc : ∀ j, j < cs.length → (w.cell? ⟨b, o + j, none⟩).isSome = true) (hf : ∀ j, j < cs.length → w.frozen? ⟨b, o + j, none⟩ = false) (h1 : ∀ v ∈ cs, v.oneCell' = true) :
    (Builtin.copy_ #[dT, sT] ty #[.slice (some ⟨b, o, none⟩) dLen dCap, .slice (some a) sLen sCap]).run P w = .ok (goInt (Nat.min sLen dLen)) (w.setCells b o cs) := by
  have hl := run_loadCells_list (P := P) w a cs hsrc
  have hst := run_storeCells_cells (P := P) b o cs 0 w (by simpa using hc) (by simpa using hf) h1
  cases hq : P.info? elem with
  | none => simp [hq] at hs
  | some i =>
    have hi : i.size = k := by simpa [hq] using hs
    simp [Builtin.copy_, run_underlying hu, Builtin.lenOf, Builtin.firstCells, sizeOf, typeInfo, hq, hi, ← hn, hl, hst]

abbrev one0 : Value := .agg #[.int .i64 0, .int .i64 0, .int .i64 0, .slice none 0 0]
theorem infoO : (Tryz.prog.info? 105).map (fun i => (i.zero, i.size, i.bytes)) = some (some one0, 4, 48) := by kernel_rfl
theorem sizeO : (Tryz.prog.info? 105).map (·.size) = some 4 := by kernel_rfl

theorem encs_length (xs : List One) : (xs.flatMap One.enc).length = xs.length * 4 := flatMap_length One.enc 4 (fun _ => rfl) xs
theorem encs_one (xs : List One) : ∀ u ∈ xs.flatMap One.enc, u.oneCell' = true := fun u hu => by
  obtain ⟨x, _, hu⟩ := List.mem_flatMap.1 hu
  exact x.one u hu
theorem encs_split (xs : List One) (i : Nat) : xs.flatMap One.enc = (xs.take i).flatMap One.enc ++ (xs.drop i).flatMap One.enc := by
  rw [← List.flatMap_append, List.take_append_drop]

/-- An owned row, its block known whole. -/
theorem own_row {w : World} {base : Nat} {A : Option Addr} {n c : Nat} {xs : List One} (h : OwnO w base (.slice A n c) xs) (h0 : 0 < xs.length) :
    ∃ g rest, A = some ⟨g, 0, none⟩ ∧ n = xs.length ∧ base ≤ g ∧ w.heap[g]? = some (.cells (xs.flatMap One.enc ++ rest).toArray 105 (0, 0)) ∧ rest.length = (c - xs.length) * 4 ∧ xs.length ≤ c ∧ c ≤ 9223372036854775807 := by
  rcases h.2 with ⟨_, h1⟩ | ⟨g, cap, cur, e, hb, hg, hnc, hcm, hcs, htake⟩
  · omega
  · injection e with e1 e2 e3
    subst e1 e2 e3
    refine ⟨g, cur.toList.drop (xs.length * 4), rfl, rfl, hb, ?_, ?_, hnc, by simpa [maxLen] using hcm⟩
    · rw [← htake, List.take_append_drop]; simpa using hg
    · rw [List.length_drop, Array.length_toList, hcs, Nat.sub_mul]
theorem row_own {w : World} {base g c : Nat} {xs : List One} {rest : List Value} (hg : w.heap[g]? = some (.cells (xs.flatMap One.enc ++ rest).toArray 105 (0, 0))) (hr : rest.length = (c - xs.length) * 4) (hn : xs.length ≤ c) (hc : c ≤ 9223372036854775807) (hb : base ≤ g) :
    OwnO w base (.slice (some ⟨g, 0, none⟩) xs.length c) xs := by
  refine ⟨encs_length xs, .inr ⟨g, c, _, rfl, hb, hg, hn, by simpa [maxLen] using hc, ?_, ?_⟩⟩
  · simp only [List.size_toArray, List.length_append, encs_length, hr]
    rw [← Nat.add_mul]; congr 1; omega
  · rw [← encs_length xs]; simp

/-- The list with one more. -/
def insL (xs : List One) (i : Nat) (y : One) : List One := xs.take i ++ [y] ++ xs.drop i

theorem Src.one {w : World} {vb : Nat} {y : One} (hv : w.heap[vb]? = some (.cells y.cells 105 (0, 0))) : Src w (.slice (some ⟨vb, 0, none⟩) 1 1) 1 4 y.enc :=
  Src.of_block (cs := y.cells) hv rfl y.one

theorem OwnO.snoc {w : World} {base : Nat} {v : Value} {xs : List One} {y : One} (h : w.ownsRow base 105 4 v (xs.length + 1) (xs.flatMap One.enc ++ y.enc)) : OwnO w base v (xs ++ [y]) := by
  unfold OwnO
  rw [List.length_append, List.flatMap_append]
  simpa using h
theorem grow_of_hat {w : World} {v v1 : Value} (hat : v1.ownBlock = v.ownBlock ∨ v1.ownBlock = some w.heap.size) : Grow w v v1 := by
  rcases hat with h | h
  · exact .inl h
  · exact .inr ⟨_, h, Nat.le_refl _⟩
theorem frv_grown {w w1 : World} {v : Value} (hg : w.grownBy w1 v.ownBlock) : FrV v w w1 :=
  ⟨hg.os, hg.tape, hg.output, hg.size, fun i hi e => hg.block i hi (fun e2 => e e2.symm)⟩

theorem insert_end (base : Nat) (lv : Value) (xs : List One) (y : One) (vb : Nat) (w : World) (h : OwnO w base lv xs) (hl : xs.length ≤ 100) (hbase : base ≤ w.heap.size) (hv : w.heap[vb]? = some (.cells y.cells 105 (0, 0))) :
    Calls Tryz.prog 54 #[lv, .int .i64 (xs.length : Nat), .slice (some ⟨vb, 0, none⟩) 1 1] w fun e w' =>
      ∃ lv', e = .returned lv' ∧ OwnO w' base lv' (xs ++ [y]) ∧ FrV lv w w' ∧ Grow w lv lv' := by
  obtain ⟨A, c, rfl, hc1, hc2⟩ := own_form h
  have hx := Src.one hv
  by_cases hcn : c = xs.length
  · subst hcn
    go_enter Tryz.func54, Tryz.ntmps54
    go_wp2_with (at_builtin; refine app_row base rfl (.tmp 23) (.tmp 24) 101 105 _ 4 48 rfl Tryz.underlying101 infoO rfl (by decide) (by decide) _ _ xs.length 1 _ y.enc rfl rfl h hx hbase (by omega) ?_; intro v1 w1 ho hg hat; obtain ⟨A1, c1, rfl, _, _⟩ := own_form ho)
    go_ret
    exact ⟨_, rfl, OwnO.snoc ho, frv_grown hg, grow_of_hat hat⟩
  · go_enter Tryz.func54, Tryz.ntmps54
    go_wp2_with (at_builtin; refine app_row base rfl (.tmp 23) (.tmp 24) 101 105 _ 4 48 rfl Tryz.underlying101 infoO rfl (by decide) (by decide) _ _ xs.length 1 _ y.enc rfl rfl h hx hbase (by omega) ?_; intro v1 w1 ho hg hat; obtain ⟨A1, c1, rfl, _, _⟩ := own_form ho)
    go_ret
    exact ⟨_, rfl, OwnO.snoc ho, frv_grown hg, grow_of_hat hat⟩

set_option maxRecDepth 100000 in
theorem insert_shift (xs : List One) (i : Nat) (y : One) (vb : Nat) (w : World) (g c : Nat) (rest : List Value) (hi : i < xs.length) (hl : xs.length ≤ 100) (hroom : xs.length + 1 ≤ c)
    (hg : w.heap[g]? = some (.cells (xs.flatMap One.enc ++ rest).toArray 105 (0, 0))) (hr : rest.length = (c - xs.length) * 4) (hne : vb ≠ g) (hv : w.heap[vb]? = some (.cells y.cells 105 (0, 0))) :
    Calls Tryz.prog 54 #[.slice (some ⟨g, 0, none⟩) xs.length c, .int .i64 i, .slice (some ⟨vb, 0, none⟩) 1 1] w fun e w' =>
      e = .returned (.slice (some ⟨g, 0, none⟩) (xs.length + 1) c) ∧ w' = (w.drew.setCells g ((i + 1) * 4) ((xs.drop i).flatMap One.enc)).setCells g (i * 4) y.enc := by
  have hov : ∀ lb cb, (callFunc 82 #[.slice (some ⟨vb, 0, none⟩) 1 1, .slice (some ⟨g, (i + 1) * 4, none⟩) lb cb]).run Tryz.prog w = .ok (.value (.bool false)) w := fun lb cb => by
    have hsa : w.shape? vb = some (105, 4) := by simp [World.shape?, hv]
    have hsb : w.shape? g = some (105, (xs.flatMap One.enc ++ rest).length) := by simp [World.shape?, hg]
    have hlen : (xs.flatMap One.enc ++ rest).length ≠ 0 := by rw [List.length_append, encs_length]; omega
    rw [run_callFunc_extern Tryz.func82 (by kernel_rfl) (by kernel_rfl) (by kernel_rfl) (e := Extern.SlicesOverlaps.overlaps #[101, 101] #[4]) (by kernel_rfl),
      Lib.run_overlaps_apart w 101 4 105 Tryz.underlying101 4 (fun _ => by kernel_rfl) ⟨vb, 0, none⟩ ⟨g, (i + 1) * 4, none⟩ 1 1 lb cb hne _ _ _ _ hsa hsb hlen (blkF hv 0) (blkF hv 4)]
    rfl
  have hz2 : ((i : Int) == (xs.length : Int)) = false := by simp; omega
  have hw1 : IntKind.i64.wrap ((i : Int) + 1) = (i : Int) + 1 := by rw [IntKind.wrap_i64]; omega
  have hb1 : (0 : Int) ≤ (i : Int) + 1 := by omega
  have htn : ((i : Int) + 1).toNat = i + 1 := by omega
  have hb2 : ¬ (c = i + 1) := by omega
  have hb3 : (i : Int) ≤ (xs.length : Int) + 1 := by omega
  have hb5 : i ≤ xs.length := by omega
  have hb4 : ¬ (c = i) := by omega
  have hsp := encs_split xs i
  have e1 : (xs.take i).length = i := by rw [List.length_take]; omega
  have ey : y.enc.length = 4 := rfl
  have hxl := encs_length xs
  have htl := encs_length (xs.take i)
  have hdl := encs_length (xs.drop i)
  rw [e1] at htl
  rw [List.length_drop] at hdl
  have hcell : ∀ k, k < (xs.length + 1) * 4 → (w.cell? ⟨g, k, none⟩).isSome = true := fun k hk => by
    rw [blk hg, List.getElem?_toArray, List.getElem?_eq_getElem (by rw [List.length_append, hxl, hr]; omega)]; rfl
  have hsrc : ∀ j v, ((xs.drop i).flatMap One.enc)[j]? = some v → w.cell? ⟨g, i * 4 + j, none⟩ = some v := fun j v hj => by
    have hj2 : j < ((xs.drop i).flatMap One.enc).length := (List.getElem?_eq_some_iff.1 hj).1
    rw [blk hg, List.getElem?_toArray, hsp, List.append_assoc, ← htl, List.getElem?_append_right (by omega), Nat.add_sub_cancel_left, List.getElem?_append_left hj2]
    exact hj
  have hcp1 : ∀ ty D dc S sc, D = xs.length - i → S = xs.length + 1 - i → (Builtin.copy_ #[101, 101] ty #[.slice (some ⟨g, (i + 1) * 4, none⟩) D dc, .slice (some ⟨g, i * 4, none⟩) S sc]).run Tryz.prog w.drew = .ok (goInt (Nat.min S D)) (w.drew.setCells g ((i + 1) * 4) ((xs.drop i).flatMap One.enc)) := fun ty D dc S sc hD hS =>
    run_copyK w.drew _ _ ty 105 4 g ((i + 1) * 4) D dc ⟨g, i * 4, none⟩ S sc _ Tryz.underlying101 sizeO (by rw [hdl, hD, hS]; congr 1; simp only [Nat.min_def]; split <;> omega)
      (fun j v hj => by rw [add_none]; exact hsrc j v hj) (fun j hj => hcell _ (by rw [hdl] at hj; omega)) (fun j _ => blkF hg _) (encs_one _)
  obtain ⟨W1, hW1⟩ : ∃ W1, W1 = w.drew.setCells g ((i + 1) * 4) ((xs.drop i).flatMap One.enc) := ⟨_, rfl⟩
  have hF1 : Fr (fun k => k = g) w W1 := by rw [hW1]; exact fr_undrew (setCells_fr g _ w.drew _)
  have hv1 : W1.heap[vb]? = some (.cells y.cells 105 (0, 0)) := hF1.at hv hne
  have hc1 : ∀ k, k < (xs.length + 1) * 4 → (W1.cell? ⟨g, k, none⟩).isSome = true := fun k hk => by
    rw [hW1]; exact isSome_setCells g ((xs.drop i).flatMap One.enc) ((i + 1) * 4) w.drew (fun j hj => hcell _ (by rw [hdl] at hj; omega)) k (hcell k hk)
  have hf1 : ∀ k, W1.frozen? ⟨g, k, none⟩ = false := fun k => by rw [hW1, World.frozen?_setCells]; exact blkF hg k
  have hcp2 : ∀ (W : World), (∀ x, W.cell? x = W1.cell? x) → (∀ x, W.frozen? x = W1.frozen? x) → ∀ ty D dc, 1 ≤ D → (Builtin.copy_ #[101, 101] ty #[.slice (some ⟨g, i * 4, none⟩) D dc, .slice (some ⟨vb, 0, none⟩) 1 1]).run Tryz.prog W = .ok (goInt (Nat.min 1 D)) (W.setCells g (i * 4) y.enc) := fun W hWc hWf ty D dc hD =>
    run_copyK W _ _ ty 105 4 g (i * 4) D dc ⟨vb, 0, none⟩ 1 1 y.enc Tryz.underlying101 sizeO (by rw [ey]; simp only [Nat.min_def]; split <;> omega)
      (fun j v hj => by rw [add_none, hWc, Nat.zero_add, blk hv1]; rw [← hj]; show y.enc.toArray[j]? = _; exact List.getElem?_toArray)
      (fun j hj => by rw [hWc]; exact hc1 _ (by rw [ey] at hj; omega)) (fun j _ => by rw [hWf]; exact hf1 _) y.one
  have HW1 := Lib.hid hW1
  rw [← hW1] at hcp1
  clear hW1 hsp e1 ey hxl htl hdl hcell hsrc hF1 hv1 hc1 hf1 hg hv hr
  go_enter Tryz.func54, Tryz.ntmps54
  go_wp2_with (simp only [hov])
  go_region_law (refine step_copy_runI rfl _ _ 101 101 rfl _ _ (by simp [Act.eval, Act.put]) (by simp [Act.eval, Act.put]) (hcp1 _ _ _ _ _ (by omega) (by omega)) ?_)
  go_wp2_with (refine wpList_copy_runI _ rfl _ _ 101 101 rfl _ _ rfl rfl (hcp2 _ (fun _ => rfl) (fun _ => rfl) _ _ _ (by omega)) ?_)
  go_ret
  exact ⟨rfl, by rw [HW1.out]⟩

/-- A run of stores into a block known whole. -/
theorem setCells_at {W : World} {b : Nat} {t : TypeId} {L : List Value} (h : W.heap[b]? = some (.cells L.toArray t (0, 0))) (o : Nat) (l : List Value) (hl : o + l.length ≤ L.length) :
    (W.setCells b o l).heap[b]? = some (.cells (L.take o ++ l ++ L.drop (o + l.length)).toArray t (0, 0)) := by
  have e : L = L.take o ++ (L.drop o).take l.length ++ L.drop (o + l.length) := by
    rw [← List.drop_drop, List.append_assoc, List.take_append_drop, List.take_append_drop]
  rw [e] at h
  have := setCells_blk b t (L.drop (o + l.length)) l W (L.take o) ((L.drop o).take l.length) (by simp; omega) h
  rwa [show (L.take o).length = o by simp; omega] at this

set_option maxRecDepth 100000 in
set_option maxHeartbeats 4000000 in
theorem insert_grow (xs : List One) (i : Nat) (y : One) (vb : Nat) (w : World) (g : Nat) (rest : List Value) (hi : i < xs.length) (hl : xs.length ≤ 100)
    (hg : w.heap[g]? = some (.cells (xs.flatMap One.enc ++ rest).toArray 105 (0, 0))) (hv : w.heap[vb]? = some (.cells y.cells 105 (0, 0))) :
    Calls Tryz.prog 54 #[.slice (some ⟨g, 0, none⟩) xs.length xs.length, .int .i64 i, .slice (some ⟨vb, 0, none⟩) 1 1] w fun e w' =>
      ∃ G Z, e = .returned (.slice (some ⟨w.heap.size, 0, none⟩) (xs.length + 1) G) ∧ xs.length + 1 ≤ G ∧ G ≤ 9223372036854775807 ∧ Z.length = (G - i) * 4 ∧
        w' = ((w.alloc (.cells ((xs.take i).flatMap One.enc ++ Z).toArray 105)).drew.setCells w.heap.size (i * 4) y.enc).drew.setCells w.heap.size ((i + 1) * 4) ((xs.drop i).flatMap One.enc) := by
  obtain ⟨i0, hi0, hz0, hzs, hzb⟩ : ∃ i0, Tryz.prog.info? 105 = some i0 ∧ i0.zero = some one0 ∧ i0.size = 4 ∧ i0.bytes = 48 := by
    obtain ⟨i0, h1, h2⟩ := Option.map_eq_some_iff.1 infoO
    simp only [Prod.mk.injEq] at h2
    exact ⟨i0, h1, h2.1, h2.2.1, h2.2.2⟩
  have hsp := encs_split xs i
  have e1 : (xs.take i).length = i := by rw [List.length_take]; omega
  have ey : y.enc.length = 4 := rfl
  have hxl := encs_length xs
  have htl := encs_length (xs.take i)
  have hdl := encs_length (xs.drop i)
  rw [e1] at htl
  rw [List.length_drop] at hdl
  have hgl := heap_lt hg
  have hvl := heap_lt hv
  have hkk : (xs.length : Int) + 1 - (i : Int) = ((xs.length + 1 - i : Nat) : Int) := by omega
  have hik : i + (xs.length + 1 - i) = xs.length + 1 := by omega
  have hold : (Builtin.firstCells i0.size i (.slice (some ⟨g, 0, none⟩) i xs.length)).run Tryz.prog w.drew = .ok ((xs.take i).flatMap One.enc).toArray w.drew := by
    rw [hzs]
    exact run_firstCells_some w.drew 4 i ⟨g, 0, none⟩ i xs.length ((xs.take i).flatMap One.enc) (by rw [htl]) (fun j v hj => by
      have hj2 : j < ((xs.take i).flatMap One.enc).length := (List.getElem?_eq_some_iff.1 hj).1
      rw [add_none]
      show w.cell? ⟨g, 0 + j, none⟩ = some v
      rw [Nat.zero_add, blk hg, List.getElem?_toArray, hsp, List.append_assoc, List.getElem?_append_left hj2]
      exact hj)
  have hrz : ∀ ty, (Builtin.append_ #[101, 3] ty #[.slice (some ⟨g, 0, none⟩) i xs.length, .int .i64 ((xs.length : Int) + 1 - (i : Int))]).run Tryz.prog w =
      .ok (.slice (some ⟨w.heap.size, 0, none⟩) (xs.length + 1) (grownCap w (xs.length + 1) xs.length 105)) (w.drew.alloc (.cells (((xs.take i).flatMap One.enc).toArray ++ Builtin.zeroCells one0.cells (xs.length + 1 - i) ++ Builtin.zeroCells one0.cells (grownCap w (xs.length + 1) xs.length 105 - (xs.length + 1))) 105)) := fun ty => by
    have h := Lib.run_append_grow_zeros w 101 3 ty 105 i0 _ .i64 .i64 Tryz.underlying101 Tryz.underlying3 hi0 hz0 (some ⟨g, 0, none⟩) i xs.length _ hold (xs.length + 1 - i) (by omega) (by omega) (by omega) (by omega) (by rw [hzb]; omega) (by rw [hzb, hik]; exact growslice_fits (by omega) (by omega))
    rw [hik] at h
    rw [hkk]
    exact h
  obtain ⟨G, hG⟩ : ∃ G, G = grownCap w (xs.length + 1) xs.length 105 := ⟨_, rfl⟩
  have hGn : xs.length + 1 ≤ G := by rw [hG]; exact grownCap_ge w _ _ _
  have hG63 : G ≤ 9223372036854775807 := by
    have := grownCap_le_maxLen w (xs.length + 1) xs.length 105 (by unfold maxLen; omega)
    rw [← hG] at this
    simpa [maxLen] using this
  rw [← hG] at hrz
  obtain ⟨Z, hZ⟩ : ∃ Z : List Value, Z = (Builtin.zeroCells one0.cells (xs.length + 1 - i) ++ Builtin.zeroCells one0.cells (G - (xs.length + 1))).toList := ⟨_, rfl⟩
  have hZl : Z.length = (G - i) * 4 := by
    rw [hZ]
    simp [Builtin.zeroCells, Value.cells]
    omega
  have hROW : (((xs.take i).flatMap One.enc).toArray ++ Builtin.zeroCells one0.cells (xs.length + 1 - i) ++ Builtin.zeroCells one0.cells (G - (xs.length + 1))) = ((xs.take i).flatMap One.enc ++ Z).toArray := by
    rw [hZ]; simp
  rw [hROW] at hrz
  obtain ⟨W1, hW1⟩ : ∃ W1, W1 = w.drew.alloc (.cells ((xs.take i).flatMap One.enc ++ Z).toArray 105) := ⟨_, rfl⟩
  have hN : W1.heap[w.heap.size]? = some (.cells ((xs.take i).flatMap One.enc ++ Z).toArray 105 (0, 0)) := by rw [hW1]; exact heap_new rfl
  have hB1 : Below w.heap.size w W1 := by rw [hW1]; exact (Below.refl w.heap.size w).drew.alloc (Nat.le_refl _) _
  have hg1 := below_at hB1 hg hgl
  have hv1 := below_at hB1 hv hvl
  have hNc : ∀ k, k < G * 4 → (W1.cell? ⟨w.heap.size, k, none⟩).isSome = true := fun k hk => by
    rw [blk hN, List.getElem?_toArray, List.getElem?_eq_getElem (by rw [List.length_append, htl, hZl]; omega)]; rfl
  have hcpA : ∀ (W : World), (∀ x, W.cell? x = W1.cell? x) → (∀ x, W.frozen? x = W1.frozen? x) → ∀ ty D dc, 1 ≤ D → (Builtin.copy_ #[101, 101] ty #[.slice (some ⟨w.heap.size, i * 4, none⟩) D dc, .slice (some ⟨vb, 0, none⟩) 1 1]).run Tryz.prog W = .ok (goInt (Nat.min 1 D)) (W.setCells w.heap.size (i * 4) y.enc) := fun W hWc hWf ty D dc hD =>
    run_copyK W _ _ ty 105 4 w.heap.size (i * 4) D dc ⟨vb, 0, none⟩ 1 1 y.enc Tryz.underlying101 sizeO (by rw [ey]; simp only [Nat.min_def]; split <;> omega)
      (fun j v hj => by rw [add_none, hWc, Nat.zero_add, blk hv1]; rw [← hj]; show y.enc.toArray[j]? = _; exact List.getElem?_toArray)
      (fun j hj => by rw [hWc]; exact hNc _ (by rw [ey] at hj; omega)) (fun j _ => by rw [hWf]; exact blkF hN _) y.one
  obtain ⟨W2, hW2⟩ : ∃ W2, W2 = W1.setCells w.heap.size (i * 4) y.enc := ⟨_, rfl⟩
  have hF2 : Fr (fun k => k = w.heap.size) W1 W2 := by rw [hW2]; exact setCells_fr _ _ _ _
  have hg2 := hF2.at hg1 (by omega)
  have hNc2 : ∀ k, k < G * 4 → (W2.cell? ⟨w.heap.size, k, none⟩).isSome = true := fun k hk => by
    rw [hW2]; exact isSome_setCells w.heap.size y.enc (i * 4) W1 (fun j hj => hNc _ (by rw [ey] at hj; omega)) k (hNc k hk)
  have hf2 : ∀ k, W2.frozen? ⟨w.heap.size, k, none⟩ = false := fun k => by rw [hW2, World.frozen?_setCells]; exact blkF hN k
  have hcpB : ∀ (W : World), (∀ x, W.cell? x = W2.cell? x) → (∀ x, W.frozen? x = W2.frozen? x) → ∀ ty D dc S sc, D = xs.length - i → S = xs.length - i → (Builtin.copy_ #[101, 101] ty #[.slice (some ⟨w.heap.size, (i + 1) * 4, none⟩) D dc, .slice (some ⟨g, i * 4, none⟩) S sc]).run Tryz.prog W = .ok (goInt (Nat.min S D)) (W.setCells w.heap.size ((i + 1) * 4) ((xs.drop i).flatMap One.enc)) := fun W hWc hWf ty D dc S sc hD hS =>
    run_copyK W _ _ ty 105 4 w.heap.size ((i + 1) * 4) D dc ⟨g, i * 4, none⟩ S sc _ Tryz.underlying101 sizeO (by rw [hdl, hD, hS]; congr 1; simp only [Nat.min_def]; split <;> omega)
      (fun j v hj => by
        have hj2 : j < ((xs.drop i).flatMap One.enc).length := (List.getElem?_eq_some_iff.1 hj).1
        rw [add_none, hWc, blk hg2, List.getElem?_toArray, hsp, List.append_assoc, ← htl, List.getElem?_append_right (by omega), Nat.add_sub_cancel_left, List.getElem?_append_left hj2]
        exact hj)
      (fun j hj => by rw [hWc]; exact hNc2 _ (by rw [hdl] at hj; omega)) (fun j _ => by rw [hWf]; exact hf2 _) (encs_one _)
  subst hW1
  have hE1 : ∀ x, ((w.alloc (.cells ((xs.take i).flatMap One.enc ++ Z).toArray 105)).drew).cell? x = (w.drew.alloc (.cells ((xs.take i).flatMap One.enc ++ Z).toArray 105)).cell? x := fun x => rfl
  have hE2 : ∀ x, ((w.alloc (.cells ((xs.take i).flatMap One.enc ++ Z).toArray 105)).drew).frozen? x = (w.drew.alloc (.cells ((xs.take i).flatMap One.enc ++ Z).toArray 105)).frozen? x := fun x => rfl
  subst hW2
  have hF1 : ∀ x, (((w.alloc (.cells ((xs.take i).flatMap One.enc ++ Z).toArray 105)).drew.setCells w.heap.size (i * 4) y.enc).drew).cell? x = ((w.drew.alloc (.cells ((xs.take i).flatMap One.enc ++ Z).toArray 105)).setCells w.heap.size (i * 4) y.enc).cell? x := fun x => rfl
  have hF3 : ∀ x, (((w.alloc (.cells ((xs.take i).flatMap One.enc ++ Z).toArray 105)).drew.setCells w.heap.size (i * 4) y.enc).drew).frozen? x = ((w.drew.alloc (.cells ((xs.take i).flatMap One.enc ++ Z).toArray 105)).setCells w.heap.size (i * 4) y.enc).frozen? x := fun x => rfl
  have hz2 : ((i : Int) == (xs.length : Int)) = false := by simp; omega
  have hw1 : IntKind.i64.wrap ((i : Int) + 1) = (i : Int) + 1 := by rw [IntKind.wrap_i64]; omega
  have hb1 : (0 : Int) ≤ (i : Int) + 1 := by omega
  have htn : ((i : Int) + 1).toNat = i + 1 := by omega
  have hb3 : (i : Int) ≤ (xs.length : Int) + 1 := by omega
  have hb6 : (i : Int) + 1 ≤ (xs.length : Int) + 1 := by omega
  have hb7 : (i : Int) ≤ (xs.length : Int) := by omega
  have hb5 : i ≤ xs.length := by omega
  have hb4 : ¬ (xs.length = i) := by omega
  have hGi : ¬ (G = i) := by omega
  have hGi1 : ¬ (G = i + 1) := by omega
  clear hsp e1 ey hxl htl hdl hkk hik hold hG hZ hROW hN hB1 hg1 hv1 hNc hF2 hg2 hNc2 hf2 hg hv hi0 hz0 hzs hzb
  go_enter Tryz.func54, Tryz.ntmps54
  go_wp2_with (first
    | (at_builtin; refine Lib.wpList_append_run _ rfl _ _ 101 3 rfl _ _ rfl rfl _ _ (hrz _) ?_)
    | (refine wpList_copy_runI _ rfl _ _ 101 101 rfl _ _ rfl rfl (hcpA _ hE1 hE2 _ _ _ (by omega)) ?_))
  go_frame
  go_region_law (refine step_copy_runI rfl _ _ 101 101 rfl (.slice (some ⟨w.heap.size, (i + 1) * 4, none⟩) (xs.length - i) (G - (i + 1))) (.slice (some ⟨g, i * 4, none⟩) (xs.length - i) (xs.length - i)) (by simp [Act.eval, Act.put]) (by simp [Act.eval, Act.put]) (hcpB _ hF1 hF3 _ _ _ _ _ (by omega) (by omega)) ?_)
  go_wp2
  go_ret
  exact ⟨G, Z, rfl, hGn, hG63, hZl, rfl⟩

end Go.Proofs.YtpdckdfnpehliaaGreat

namespace Go.Proofs.YtpdckdfnpehliaaGreat
open Go Go.RowKit Go.Deep Go.Shelf
set_option maxHeartbeats 400000

theorem insL_enc (xs : List One) (i : Nat) (y : One) : (insL xs i y).flatMap One.enc = (xs.take i).flatMap One.enc ++ y.enc ++ (xs.drop i).flatMap One.enc := by
  unfold insL; simp
theorem insL_length (xs : List One) (i : Nat) (y : One) (hi : i ≤ xs.length) : (insL xs i y).length = xs.length + 1 := by
  unfold insL; simp; omega

theorem take_pre {α : Type} (A B : List α) (n : Nat) (h : A.length = n) : (A ++ B).take n = A := by subst h; exact List.take_left
theorem drop_pre {α : Type} (A B : List α) (n : Nat) (h : A.length = n) : (A ++ B).drop n = B := by subst h; exact List.drop_left
theorem drop_pre' {α : Type} (A B : List α) (n m : Nat) (h : A.length = n) : (A ++ B).drop (n + m) = B.drop m := by subst h; rw [← List.drop_drop, List.drop_left]
theorem ins_list {α : Type} (T D R y : List α) (i : Nat) (hT : T.length = i * 4) (hy : y.length = 4) (hD : 4 ≤ D.length) :
    (((T ++ D ++ R).take ((i + 1) * 4) ++ D ++ (T ++ D ++ R).drop ((i + 1) * 4 + D.length)).take (i * 4) ++ y ++
      ((T ++ D ++ R).take ((i + 1) * 4) ++ D ++ (T ++ D ++ R).drop ((i + 1) * 4 + D.length)).drop (i * 4 + y.length)) = T ++ y ++ D ++ R.drop 4 := by
  have e1 : (i + 1) * 4 = i * 4 + 4 := by omega
  have e2 : (T ++ D ++ R).take ((i + 1) * 4) = T ++ D.take 4 := by
    rw [List.append_assoc, List.take_append, List.take_of_length_le (by omega), e1, hT, Nat.add_sub_cancel_left, List.take_append_of_le_length hD]
  have e3 : (T ++ D ++ R).drop ((i + 1) * 4 + D.length) = R.drop 4 := by
    rw [show (i + 1) * 4 + D.length = (i * 4 + D.length) + 4 by omega, drop_pre' (T ++ D) R (i * 4 + D.length) 4 (by rw [List.length_append, hT])]
  rw [e2, e3, hy]
  have e4 : (D.take 4).length = 4 := by rw [List.length_take]; omega
  simp only [List.append_assoc]
  rw [take_pre T _ _ hT, drop_pre' T _ _ 4 hT, drop_pre (D.take 4) _ 4 e4]
theorem ins_list2 {α : Type} (T Z D y : List α) (i : Nat) (hT : T.length = i * 4) (hy : y.length = 4) :
    (((T ++ Z).take (i * 4) ++ y ++ (T ++ Z).drop (i * 4 + y.length)).take ((i + 1) * 4) ++ D ++ ((T ++ Z).take (i * 4) ++ y ++ (T ++ Z).drop (i * 4 + y.length)).drop ((i + 1) * 4 + D.length)) = T ++ y ++ D ++ (Z.drop 4).drop D.length := by
  have e1 : (T ++ y).length = (i + 1) * 4 := by rw [List.length_append, hy]; omega
  rw [take_pre T Z _ hT, hy, drop_pre' T Z _ 4 hT, take_pre (T ++ y) _ _ e1, drop_pre' (T ++ y) _ _ _ e1]

theorem fr_two {w W1 W2 : World} {g : Nat} (h1 : Fr (fun k => k = g) w W1) (h2 : Fr (fun k => k = g) W1 W2) : Fr (fun k => k = g) w W2 := h1.trans h2

theorem insert_in (base : Nat) (xs : List One) (i : Nat) (y : One) (vb : Nat) (w : World) (g c : Nat) (rest : List Value) (hlt : i < xs.length) (hl : xs.length ≤ 100) (hroom : xs.length < c) (hc2 : c ≤ 9223372036854775807) (hb : base ≤ g)
    (hg : w.heap[g]? = some (.cells (xs.flatMap One.enc ++ rest).toArray 105 (0, 0))) (hr : rest.length = (c - xs.length) * 4) (hne : vb ≠ g) (hv : w.heap[vb]? = some (.cells y.cells 105 (0, 0))) :
    Calls Tryz.prog 54 #[.slice (some ⟨g, 0, none⟩) xs.length c, .int .i64 i, .slice (some ⟨vb, 0, none⟩) 1 1] w fun e w' =>
      e = .returned (.slice (some ⟨g, 0, none⟩) (xs.length + 1) c) ∧ OwnO w' base (.slice (some ⟨g, 0, none⟩) (xs.length + 1) c) (insL xs i y) ∧ Fr (fun k => k = g) w w' := by
  refine (insert_shift xs i y vb w g c rest hlt hl (by omega) hg hr hne hv).mono ?_
  rintro e w' ⟨rfl, rfl⟩
  have e1 : (xs.take i).length = i := by rw [List.length_take]; omega
  have ey : y.enc.length = 4 := rfl
  have hxl := encs_length xs
  have htl := encs_length (xs.take i)
  have hdl := encs_length (xs.drop i)
  rw [e1] at htl
  rw [List.length_drop] at hdl
  have hE := insL_enc xs i y
  have hS := encs_split xs i
  have hlen := insL_length xs i y (by omega)
  have hg' : w.drew.heap[g]? = some (.cells (xs.flatMap One.enc ++ rest).toArray 105 (0, 0)) := hg
  rw [hS] at hg' hxl
  generalize (xs.drop i).flatMap One.enc = D at *
  generalize (xs.take i).flatMap One.enc = T at *
  have h1 := setCells_at hg' ((i + 1) * 4) D (by rw [List.length_append, hxl, hdl, hr]; omega)
  have h2 := setCells_at h1 (i * 4) y.enc (by simp only [List.length_append, List.length_take, List.length_drop, htl, hdl, hr, ey]; omega)
  rw [ins_list T D rest y.enc i htl ey (by rw [hdl]; omega), ← hE] at h2
  refine ⟨rfl, ?_, fr_undrew ((setCells_fr g _ w.drew _).trans (setCells_fr g _ _ _))⟩
  have := row_own (c := c) (base := base) h2 (by rw [List.length_drop, hr, hlen]; omega) (by rw [hlen]; omega) hc2 hb
  rwa [hlen] at this

theorem insert_out (base : Nat) (xs : List One) (i : Nat) (y : One) (vb : Nat) (w : World) (g : Nat) (rest : List Value) (hlt : i < xs.length) (hl : xs.length ≤ 100) (hbase : base ≤ w.heap.size)
    (hg : w.heap[g]? = some (.cells (xs.flatMap One.enc ++ rest).toArray 105 (0, 0))) (hv : w.heap[vb]? = some (.cells y.cells 105 (0, 0))) :
    Calls Tryz.prog 54 #[.slice (some ⟨g, 0, none⟩) xs.length xs.length, .int .i64 i, .slice (some ⟨vb, 0, none⟩) 1 1] w fun e w' =>
      ∃ G, e = .returned (.slice (some ⟨w.heap.size, 0, none⟩) (xs.length + 1) G) ∧ OwnO w' base (.slice (some ⟨w.heap.size, 0, none⟩) (xs.length + 1) G) (insL xs i y) ∧ Below w.heap.size w w' := by
  refine (insert_grow xs i y vb w g rest hlt hl hg hv).mono ?_
  rintro e w' ⟨G, Z, rfl, hG1, hG2, hZ, rfl⟩
  have e1 : (xs.take i).length = i := by rw [List.length_take]; omega
  have ey : y.enc.length = 4 := rfl
  have htl := encs_length (xs.take i)
  have hdl := encs_length (xs.drop i)
  rw [e1] at htl
  rw [List.length_drop] at hdl
  have hE := insL_enc xs i y
  have hlen := insL_length xs i y (by omega)
  generalize (xs.drop i).flatMap One.enc = D at *
  generalize (xs.take i).flatMap One.enc = T at *
  have h0 : ((w.alloc (.cells (T ++ Z).toArray 105)).drew).heap[w.heap.size]? = some (.cells (T ++ Z).toArray 105 (0, 0)) := heap_newD rfl
  have hB : Below w.heap.size w (w.alloc (.cells (T ++ Z).toArray 105)).drew := ((Below.refl w.heap.size w).alloc (Nat.le_refl _) _).drew
  generalize (w.alloc (.cells (T ++ Z).toArray 105)).drew = W1 at *
  have h1 := setCells_at h0 (i * 4) y.enc (by rw [List.length_append, htl, hZ, ey]; omega)
  have hB2 := (hB.trans ((setCells_fr w.heap.size y.enc W1 (i * 4)).to_below hB.size (fun k hk e => by omega))).drew
  have h1' : (W1.setCells w.heap.size (i * 4) y.enc).drew.heap[w.heap.size]? = some (.cells ((T ++ Z).take (i * 4) ++ y.enc ++ (T ++ Z).drop (i * 4 + y.enc.length)).toArray 105 (0, 0)) := h1
  generalize (W1.setCells w.heap.size (i * 4) y.enc).drew = W2 at *
  have h2 := setCells_at h1' ((i + 1) * 4) D (by simp only [List.length_append, List.length_take, List.length_drop, htl, hZ, ey, hdl]; omega)
  rw [ins_list2 T Z D y.enc i htl ey, ← hE] at h2
  refine ⟨G, rfl, ?_, hB2.trans ((setCells_fr w.heap.size D W2 _).to_below hB2.size (fun k hk e => by omega))⟩
  have := row_own (c := G) (base := base) h2 (by rw [List.length_drop, List.length_drop, hZ, hlen, hdl]; omega) (by rw [hlen]; omega) hG2 hbase
  rwa [hlen] at this

theorem insert_any (base : Nat) (lv : Value) (xs : List One) (i : Nat) (y : One) (vb : Nat) (w : World) (h : OwnO w base lv xs) (hi : i ≤ xs.length) (hl : xs.length ≤ 100) (hbase : base ≤ w.heap.size) (hne : lv.ownBlock ≠ some vb) (hv : w.heap[vb]? = some (.cells y.cells 105 (0, 0))) :
    Calls Tryz.prog 54 #[lv, .int .i64 i, .slice (some ⟨vb, 0, none⟩) 1 1] w fun e w' =>
      ∃ lv', e = .returned lv' ∧ OwnO w' base lv' (insL xs i y) ∧ FrV lv w w' ∧ Grow w lv lv' := by
  rcases Nat.lt_or_ge i xs.length with hlt | hge
  · obtain ⟨A, c, rfl, hc1, hc2⟩ := own_form h
    obtain ⟨g, rest, rfl, _, hb, hg, hr, _, _⟩ := own_row h (by omega)
    rcases Nat.lt_or_ge xs.length c with hroom | hfull
    · refine (insert_in base xs i y vb w g c rest hlt hl hroom hc2 hb hg hr (fun e => hne (by rw [e]; rfl)) hv).mono ?_
      rintro e w' ⟨rfl, ho, hf⟩
      exact ⟨_, rfl, ho, hf.mono fun k _ e => by subst e; rfl, .inl rfl⟩
    · have hcn : c = xs.length := by omega
      subst hcn
      refine (insert_out base xs i y vb w g rest hlt hl hbase hg hv).mono ?_
      rintro e w' ⟨G, rfl, ho, hB⟩
      exact ⟨_, rfl, ho, Fr.of_below hB _, .inr ⟨_, rfl, Nat.le_refl _⟩⟩
  · have he : i = xs.length := by omega
    subst he
    have e1 : insL xs xs.length y = xs ++ [y] := by unfold insL; simp
    rw [e1]
    exact insert_end base lv xs y vb w h hl hbase hv

theorem run_clearO (w : World) (b o c : Nat) (ty : TypeId) (hc : ∀ j, j < 4 → (w.cell? ⟨b, o + j, none⟩).isSome = true) (hf : ∀ j, w.frozen? ⟨b, o + j, none⟩ = false) :
    (Builtin.clear_ #[101] ty #[.slice (some ⟨b, o, none⟩) 1 c]).run Tryz.prog w = .ok (.tuple #[]) (w.setCells b o [.int .i64 0, .int .i64 0, .int .i64 0, .slice none 0 0]) := by
  have hst := run_storeCells_cells (P := Tryz.prog) b o [.int .i64 0, .int .i64 0, .int .i64 0, .slice none 0 0] 0 w (by simpa using hc) (by simpa using fun j _ => hf j) (by intro v hv; simp at hv; rcases hv with rfl | rfl <;> rfl)
  have hz : (Builtin.zeroCells one0.cells 1).toList = [.int .i64 0, .int .i64 0, .int .i64 0, .slice none 0 0] := by kernel_rfl
  have hv : (zeroValue 105).run Tryz.prog w = .ok one0 w := by kernel_rfl
  simp [Builtin.clear_, run_underlying Tryz.underlying101, hv, hz, hst, Result.andThen]

set_option maxRecDepth 100000 in
/-- slices.Delete(l, 0, 1). -/
theorem delete_any (base : Nat) (lv : Value) (xs : List One) (w : World) (h : OwnO w base lv xs) (h2 : 2 ≤ xs.length) (hl : xs.length ≤ 100) :
    Calls Tryz.prog 55 #[lv, .int .i64 0, .int .i64 1] w fun e w' =>
      ∃ lv', e = .returned lv' ∧ OwnO w' base lv' (xs.drop 1) ∧ FrV lv w w' ∧ lv'.ownBlock = lv.ownBlock := by
  obtain ⟨A, c, rfl, hc1, hc2⟩ := own_form h
  obtain ⟨g, rest, rfl, _, hb, hg, hr, _, _⟩ := own_row h (by omega)
  have hxl := encs_length xs
  have hdl := encs_length (xs.drop 1)
  have htl := encs_length (xs.take 1)
  have e1 : (xs.take 1).length = 1 := by rw [List.length_take]; omega
  rw [e1] at htl
  rw [List.length_drop] at hdl
  have hS := encs_split xs 1
  obtain ⟨i0, hi0, hzs⟩ : ∃ i0, Tryz.prog.info? 105 = some i0 ∧ i0.size = 4 := by
    obtain ⟨i0, h1, h2⟩ := Option.map_eq_some_iff.1 infoO
    simp only [Prod.mk.injEq] at h2
    exact ⟨i0, h1, h2.2.1⟩
  have hH1 := encs_one (xs.drop 1)
  obtain ⟨D, hD⟩ : ∃ D, D = (xs.drop 1).flatMap One.enc := ⟨_, rfl⟩
  have HD := Lib.hid hD
  rw [← hD] at hdl hH1 hS
  have s1 : Hid (D.length = (xs.length - 1) * 4) := hdl
  have s2 : Hid (∀ u ∈ D, u.oneCell' = true) := hH1
  have s3 : Hid (∀ j u, D[j]? = some u → w.drew.cell? ((⟨g, 4, none⟩ : Addr).add j) = some u) := by
    intro j u hj
    have hj2 : j < D.length := (List.getElem?_eq_some_iff.1 hj).1
    rw [add_none]
    show w.cell? ⟨g, 4 + j, none⟩ = some u
    rw [blk hg, List.getElem?_toArray, hS, List.append_assoc, List.getElem?_append_right (by omega), htl, show 4 + j - 1 * 4 = j by omega, List.getElem?_append_left hj2]
    exact hj
  have s4 : Hid (∀ j, j < D.length → (w.drew.cell? ⟨g, 0 + 0 * 4 + j, none⟩).isSome = true ∧ w.drew.frozen? ⟨g, 0 + 0 * 4 + j, none⟩ = false) := by
    intro j hj
    refine ⟨?_, blkF hg _⟩
    show (w.cell? _).isSome = true
    rw [blk hg, List.getElem?_toArray, List.getElem?_eq_getElem (by rw [List.length_append, hxl]; omega)]; rfl
  have s5 : Hid (∀ k, k < xs.length * 4 → (w.cell? ⟨g, k, none⟩).isSome = true) := by
    intro k hk
    rw [blk hg, List.getElem?_toArray, List.getElem?_eq_getElem (by rw [List.length_append, hxl]; omega)]; rfl
  obtain ⟨W1, hW1⟩ : ∃ W1, W1 = w.drew.setCells g (0 + 0 * 4) D := ⟨_, rfl⟩
  have HW : Hid (W1 = w.drew.setCells g (0 + 0 * 4) D) := hW1
  have hcl : ∀ ty cc, (Builtin.clear_ #[101] ty #[.slice (some ⟨g, (xs.length - 1) * 4, none⟩) 1 cc]).run Tryz.prog W1 = .ok (.tuple #[]) (W1.setCells g ((xs.length - 1) * 4) [.int .i64 0, .int .i64 0, .int .i64 0, .slice none 0 0]) := fun ty cc =>
    run_clearO W1 g ((xs.length - 1) * 4) cc ty (fun j hj => by rw [hW1]; exact isSome_setCells g D (0 + 0 * 4) w.drew (fun j hj => (s4.out j hj).1) _ (s5.out _ (by omega))) (fun j => by rw [hW1, World.frozen?_setCells]; exact blkF hg _)
  have hlen1 : xs.length - (xs.length - 1) = 1 := by omega
  have hcc : ¬ (c = 1) := by omega
  have hx1 : (1 : Int) ≤ (xs.length : Int) := by omega
  have hx2 : 1 ≤ xs.length := by omega
  have hx3 : (0 : Int) ≤ (xs.length : Int) := by omega
  have hcn : ¬ (c = xs.length - 1) := by omega
  have hHg := Lib.hid hg
  clear hW1 hg hS hdl hH1 hD hxl htl e1
  go_enter Tryz.func55, Tryz.ntmps55
  go_wp2_with (fail)
  go_region_law (refine step_append_room rfl (.tmp 22) (.tmp 25) 101 rfl 105 i0 4 Tryz.underlying101 hi0 hzs g 0 0 c (by simp [Act.eval, Act.put]) ⟨g, 4, none⟩ (xs.length - 1) (c - 1) D (by simp [Act.eval, Act.put]) s1.out s3.out s2.out (by omega) s4.out ?_; rw [← HW.out])
  go_wp2
  go_ret
  have hg' : w.drew.heap[g]? = some (.cells (xs.flatMap One.enc ++ rest).toArray 105 (0, 0)) := hHg.out
  have hxl := encs_length xs
  have h1 := setCells_at hg' (0 + 0 * 4) D (by rw [List.length_append, hxl, s1.out]; omega)
  rw [← HW.out] at h1
  have hd1 : D.length = (xs.length - 1) * 4 := s1.out
  simp only [Nat.zero_mul, Nat.add_zero, List.take_zero, List.nil_append, Nat.zero_add] at h1
  have h3 := setCells_at h1 ((xs.length - 1) * 4) [.int .i64 0, .int .i64 0, .int .i64 0, .slice none 0 0] (by simp only [List.length_append, List.length_drop, hxl, hr, hd1, List.length_cons, List.length_nil]; omega)
  rw [take_pre D _ _ hd1, List.append_assoc, HD.out] at h3
  have hlen : (xs.drop 1).length = xs.length - 1 := by rw [List.length_drop]
  have hF : Fr (fun k => k = g) w (W1.setCells g ((xs.length - 1) * 4) [.int .i64 0, .int .i64 0, .int .i64 0, .slice none 0 0]) := by
    rw [HW.out]; exact fr_undrew ((setCells_fr g _ w.drew _).trans (setCells_fr g _ _ _))
  refine ⟨_, rfl, ?_, hF.mono fun k _ e => by subst e; rfl, rfl⟩
  have := row_own (c := c) (base := base) h3 (by simp only [List.length_append, List.length_drop, hxl, hr, hd1, ← HD.out, List.length_cons, List.length_nil]; omega) (by rw [hlen]; omega) hc2 hb
  rwa [hlen] at this

end Go.Proofs.YtpdckdfnpehliaaGreat
