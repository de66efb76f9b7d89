/- append of whatever reads as cells, onto a row of one's own; kinds of things that lead nowhere. -/
import Derived.Test.YtpdckdfnpehliaaGreatLib
import Derived.Maps.AppendAt
set_option linter.unusedVariables false
set_option linter.unusedSimpArgs false

namespace Go.Proofs.YtpdckdfnpehliaaGreat
open Go Go.RowKit Go.Deep
set_option maxHeartbeats 400000

/-- A slice of m things of k cells each that reads as these cells. -/
def Src (W : World) (v : Value) (m k : Nat) (cy : List Value) : Prop :=
  ∃ A c, v = .slice A m c ∧ cy.length = m * k ∧ (∀ u ∈ cy, u.oneCell' = true) ∧ (0 < m → ∃ b off, A = some ⟨b, off, none⟩ ∧ ∀ j u, cy[j]? = some u → W.cell? ⟨b, off + j, none⟩ = some u)

theorem add_none (b off j : Nat) : (⟨b, off, none⟩ : Addr).add j = ⟨b, off + j, none⟩ := by unfold Addr.add; split <;> simp_all

section
variable {P : Program} {ops : Array Oper} {rest : List Oper} {o : Oper} {a : Act} {Q : Exit → Act → World → Prop}

theorem app_run {W : World} (base : Nat) (t ty e : TypeId) (z : Value) (k bytes : Nat) (ht : P.underlying t = some (.slice e))
    (hinfo : (P.info? e).map (fun i => (i.zero, i.size, i.bytes)) = some (some z, k, bytes)) (hz : z.cells.size = k) (hk : 0 < k) (hb0 : 0 < bytes)
    (v sv : Value) (n m : Nat) (cx cy : List Value) (HO : W.ownsRow base e k v n cx) (HS : Src W sv m k cy) (hbase : base ≤ W.heap.size) (hl : (n + m) * bytes ≤ 140737488355328) :
    ∃ v1 w1, (Builtin.append_ #[t, t] ty #[v, sv]).run P W = .ok v1 w1 ∧ w1.ownsRow base e k v1 (n + m) (cx ++ cy) ∧ W.grownBy w1 v.ownBlock ∧ (v1.ownBlock = v.ownBlock ∨ v1.ownBlock = some W.heap.size) := by
  obtain ⟨i0, hi, hzz⟩ := Option.map_eq_some_iff.1 hinfo
  simp only [Prod.mk.injEq] at hzz
  obtain ⟨hz0, hz1, hz2⟩ := hzz
  obtain ⟨A, c, rfl, hlen, h1, hc⟩ := HS
  have hmm : n + m ≤ 140737488355328 := Nat.le_trans (Nat.le_mul_of_pos_right _ hb0) hl
  rcases A with _ | ad
  · have h0 : m = 0 := by
      rcases Nat.eq_zero_or_pos m with h0 | h0
      · exact h0
      · obtain ⟨b, off, h, _⟩ := hc h0
        cases h
    subst h0
    obtain rfl : cy = [] := List.eq_nil_of_length_eq_zero (by simpa using hlen)
    refine ⟨v, W, ?_, by simpa using HO, World.grownBy.refl W _, .inl rfl⟩
    rcases HO.2 with ⟨rfl, hn⟩ | ⟨g, cap, cur, rfl, _, _, hnc, _⟩
    · simp [Builtin.append_, run_underlying ht, sizeOf, typeInfo, hi, Builtin.lenOf, Builtin.firstCells]
    · simp [Builtin.append_, run_underlying ht, sizeOf, typeInfo, hi, Builtin.lenOf, Builtin.firstCells, hnc, storeCells]
  · have hcells : ∀ j u, cy[j]? = some u → W.cell? (ad.add j) = some u := by
      intro j u hu
      have hj : j < cy.length := by
        rcases Nat.lt_or_ge j cy.length with h | h
        · exact h
        · simp [List.getElem?_eq_none h] at hu
      have hm0 : 0 < m := by
        rcases Nat.eq_zero_or_pos m with h0 | h0
        · subst h0; simp at hlen; subst hlen; simp at hj
        · exact h0
      obtain ⟨b, off, h', hcc⟩ := hc hm0
      injection h' with h'
      subst h'
      rw [add_none]
      exact hcc j u hu
    obtain ⟨v1, w1, hr, h2, h3, _, h5⟩ := run_append_own_at (P := P) W base t ty e i0 z k bytes ht hi hz0 hz1 hz2 hz hk v n cx HO ad m c cy hlen hcells h1 (by simp only [maxLen]; omega) hl hbase
    exact ⟨v1, w1, hr, h2, h3, h5⟩

/-- 'append(v, ys...)'. -/
theorem app_row {W : World} (base : Nat) (hgd : o.guard = none) (s x : Operand) (t e : TypeId) (z : Value) (k bytes : Nat)
    (ho : o.op = .call { callee := .builtin .append, args := #[s, x], argTypes := #[t, t] }) (ht : P.underlying t = some (.slice e))
    (hinfo : (P.info? e).map (fun i => (i.zero, i.size, i.bytes)) = some (some z, k, bytes)) (hz : z.cells.size = k) (hk : 0 < k) (hb0 : 0 < bytes)
    (v sv : Value) (n m : Nat) (cx cy : List Value) (hs : a.eval s = v) (hx : a.eval x = sv)
    (HO : W.ownsRow base e k v n cx) (HS : Src W sv m k cy) (hbase : base ≤ W.heap.size) (hl : (n + m) * bytes ≤ 140737488355328)
    (h : ∀ v1 w1, w1.ownsRow base e k v1 (n + m) (cx ++ cy) → W.grownBy w1 v.ownBlock → (v1.ownBlock = v.ownBlock ∨ v1.ownBlock = some W.heap.size) → wpList P ops Q rest (a.put o.dst v1) w1) :
    wpList P ops Q (o :: rest) a W := by
  obtain ⟨v1, w1, hr, hown, hg, hat⟩ := app_run (P := P) base t o.type e z k bytes ht hinfo hz hk hb0 v sv n m cx cy HO HS hbase hl
  refine wpList_plain hgd fun K hK => ?_
  unfold Oper.wp execOp
  simp only [ho, resolve, invoke, builtin, Sem.run_bind, Sem.run_pure, Result.andThen_ok, List.map_toArray, List.map_cons, List.map_nil, hs, hx, hr]
  exact hK _ _ (h v1 w1 hown hg hat)
end

theorem flatMap_length {α : Type} (enc : α → List Value) (k : Nat) (h : ∀ x, (enc x).length = k) (xs : List α) : (xs.flatMap enc).length = xs.length * k := by
  induction xs with
  | nil => simp
  | cons x xs ih => rw [List.flatMap_cons, List.length_append, ih, h, List.length_cons, Nat.succ_mul]; omega

theorem flatMap_get {α : Type} (enc : α → List Value) (k : Nat) (hk : ∀ x, (enc x).length = k) (ys : List α) : ∀ (j i : Nat) (hj : j < ys.length), i < k → (ys.flatMap enc)[j * k + i]? = (enc ys[j])[i]? := by
  induction ys with
  | nil => intro j i hj; simp at hj
  | cons y ys ih =>
    intro j i hj hi
    rw [List.flatMap_cons]
    cases j with
    | zero => simp [List.getElem?_append, hk, hi]
    | succ j =>
      rw [List.getElem?_append_right (by rw [hk, Nat.succ_mul]; omega)]
      have := ih j i (by simpa using hj) hi
      rw [hk]
      have e2 : (j + 1) * k + i - k = j * k + i := by rw [Nat.succ_mul]; omega
      rw [e2]
      simpa using this

/-- What reads as a list of flat things reads as their cells. -/
theorem Sl.src {α : Type} {k : Nat} {enc : α → List Value} {hk : ∀ x, (enc x).length = k} (h1 : ∀ x, ∀ u ∈ enc x, u.oneCell' = true) {w : World} {F : Nat → Prop} {v : Value} {xs : List α}
    (h : Sl (Ty.flat k enc hk) w F v xs) : Src w v xs.length k (xs.flatMap enc) := by
  obtain ⟨A, c, e, g1, g2, g3, g4⟩ := h
  refine ⟨A, c, e, flatMap_length enc k hk xs, fun u hu => by obtain ⟨x, _, hu⟩ := List.mem_flatMap.1 hu; exact h1 x u hu, fun h0 => ?_⟩
  obtain ⟨b, off, ea, hb, hl, hc⟩ := g4 h0
  refine ⟨b, off, ea, fun j u hu => ?_⟩
  have hj : j < xs.length * k := by
    rcases Nat.lt_or_ge j (xs.flatMap enc).length with h | h
    · rwa [flatMap_length enc k hk] at h
    · simp [List.getElem?_eq_none h] at hu
  have hk0 : 0 < k := by
    rcases Nat.eq_zero_or_pos k with h | h
    · subst h; simp at hj
    · exact h
  have hd : j / k < xs.length := by rw [Nat.div_lt_iff_lt_mul hk0]; exact hj
  have hm : j % k < k := Nat.mod_lt _ hk0
  have he : j / k * k + j % k = j := by rw [Nat.mul_comm]; exact Nat.div_add_mod j k
  obtain ⟨cs, hR, hcs⟩ := hc (j / k) hd
  obtain rfl : cs = enc xs[j / k] := hR
  have h5 := flatMap_get enc k hk xs (j / k) (j % k) hd hm
  rw [he, hu] at h5
  have h6 := hcs (j % k) (by rw [hk]; exact hm)
  rw [List.getElem?_eq_getElem (by rw [hk]; exact hm)] at h5
  injection h5 with h5
  rw [h5]
  have h7 : off + j / k * (Ty.flat k enc hk).k + j % k = off + j := by show off + j / k * k + j % k = _; omega
  rw [← h7]; exact h6
theorem Sl.srcI {q : IntKind} {w : World} {F : Nat → Prop} {v : Value} {xs : List Int} (h : Sl (Ty.int q) w F v xs) : Src w v xs.length 1 (nums q xs) := by
  have := Sl.src (fun x u hu => by simp at hu; subst hu; rfl) h
  rwa [nums_flat] at this

/-- A block's cells. -/
theorem Src.of_block {w : World} {g m k cap : Nat} {cs : Array Value} {t : TypeId} (h : w.heap[g]? = some (.cells cs t (0, 0))) (hl : cs.size = m * k) (h1 : ∀ u ∈ cs.toList, u.oneCell' = true) :
    Src w (.slice (some ⟨g, 0, none⟩) m cap) m k cs.toList :=
  ⟨_, _, rfl, by simpa using hl, h1, fun _ => ⟨g, 0, rfl, fun j u hu => by rw [Nat.zero_add, blk h]; simpa using hu⟩⟩
theorem Src.keep {w w' : World} {v : Value} {m k : Nat} {cy : List Value} (h : Src w v m k cy) (hw : ∀ b, v.ownBlock = some b → b < w.heap.size → w'.heap[b]? = w.heap[b]?) : Src w' v m k cy := by
  obtain ⟨A, c, rfl, h1, h2, h3⟩ := h
  refine ⟨A, c, rfl, h1, h2, fun h0 => ?_⟩
  obtain ⟨b, off, rfl, hc⟩ := h3 h0
  refine ⟨b, off, rfl, fun j u hu => ?_⟩
  have := hc j u hu
  rw [World.cell?_of_block (w := w) (hw b rfl (World.block_lt_of_cell? w _ this))]
  exact this
theorem Src.alloc {w : World} {v : Value} {m k : Nat} {cy : List Value} (h : Src w v m k cy) (o : Obj) : Src (w.alloc o) v m k cy := h.keep fun b _ hb => Below.heap_alloc w o b hb

/-- An owned row of whole numbers reads as a slice. -/
theorem Sl.of_ownI {q : IntKind} {w : World} {base e : Nat} {v : Value} {xs : List Int} {F : Nat → Prop} (h : w.ownsRow base e 1 v xs.length (nums q xs)) (hl : xs.length ≤ 140737488355328) (hF : ∀ b, v.ownBlock = some b → F b) :
    Sl (Ty.int q) w F v xs := by
  rw [← nums_flat] at h
  exact Sl.of_own (k := 1) (enc := fun x => [Value.int q x]) (hk := fun _ => rfl) h hl hF
/-- A new block is an owned row. -/
theorem own_new (W : World) (base : Nat) (e : TypeId) (k n : Nat) (cs : List Value) (hb : base ≤ W.heap.size) (hn : n ≤ 9223372036854775807) (hl : cs.length = n * k) :
    (W.alloc (.cells cs.toArray e)).ownsRow base e k (.slice (some ⟨W.heap.size, 0, none⟩) n n) n cs :=
  ⟨hl, .inr ⟨W.heap.size, n, cs.toArray, rfl, hb, heap_alloc_new W _, Nat.le_refl _, by simpa [maxLen] using hn, by simpa using hl, by rw [← hl]; simp⟩⟩
theorem own_lt {w : World} {base e k n : Nat} {v : Value} {xs : List Value} (h : w.ownsRow base e k v n xs) (b : Nat) (hb : v.ownBlock = some b) : base ≤ b ∧ b < w.heap.size := h.lt b hb
theorem own_form {w : World} {base e k n : Nat} {v : Value} {xs : List Value} (h : w.ownsRow base e k v n xs) : ∃ A c, v = .slice A n c ∧ n ≤ c ∧ c ≤ 9223372036854775807 := by
  rcases h.2 with ⟨rfl, rfl⟩ | ⟨g, cap, cur, rfl, _, _, hc, hm, _⟩
  · exact ⟨none, 0, rfl, by simp, by simp⟩
  · exact ⟨_, cap, rfl, hc, by simpa [maxLen] using hm⟩

end Go.Proofs.YtpdckdfnpehliaaGreat
