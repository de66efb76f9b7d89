/- Maps from whole numbers to entities: ranging over one. -/
import Derived.Test.YtpdckdfnpehliaaGreatMp2
import Derived.Maps.RangeWalk
set_option linter.unusedVariables false
set_option linter.unusedSimpArgs false

namespace Go.Proofs.YtpdckdfnpehliaaGreat
open Go Go.RowKit Go.Deep Go.Shelf
open Go.ChangeMaps (setBlock)
set_option maxHeartbeats 400000

def deKV (p : Value × Value) : Int × Ent :=
  (intOf p.1, match p.2 with
    | .agg ⟨[.int _ a, .int _ b, .int _ c, .int _ d, .int _ e, .int _ f, .int _ g, .int _ h, .int _ i]⟩ => ⟨a, b, c, d, e, f, g, h, i⟩
    | _ => Ent.zero)
theorem deKV_ent (x : Int × Ent) : deKV (entKV x) = x := rfl
theorem perm_of_ents {a b : List (Int × Ent)} (h : (a.map entKV).Perm (b.map entKV)) : a.Perm b := by
  have := h.map deKV
  rw [List.map_map, List.map_map] at this
  have e : deKV ∘ entKV = id := rfl
  rw [e, List.map_id, List.map_id] at this
  exact this

theorem nodup_len {α : Type} : ∀ (a b : List α), a.Nodup → (∀ x ∈ a, x ∈ b) → a.length ≤ b.length
  | [], _, _, _ => by simp
  | x :: a, b, hn, hs => by
    obtain ⟨s, t, rfl⟩ := List.append_of_mem (hs x (by simp))
    have h1 := List.nodup_cons.1 hn
    have := nodup_len a (s ++ t) h1.2 (fun y hy => by
      have h2 := hs y (by simp [hy])
      simp only [List.mem_append, List.mem_cons] at h2 ⊢
      rcases h2 with h | rfl | h
      · exact .inl h
      · exact absurd hy h1.1
      · exact .inr h)
    simp only [List.length_append, List.length_cons] at this ⊢
    omega

/-- A range over a map: the map in block b, the iterator in block r; what it has told. -/
def RgE (w : World) (r b : Nat) (l told : List (Int × Ent)) : Prop :=
  ∃ (es : Array MapEntry) (clock : Nat) (seen : Array Nat) (ts : List MapEntry), w.heap[b]? = some (.map es clock) ∧ es.toList.map (fun e => (e.key, e.val)) = l.map entKV ∧ (es.toList.map (·.born)).Pairwise (· < ·) ∧ (∀ n ∈ es.toList.map (·.born), n < clock) ∧
    w.heap[r]? = some (.mapIter (some b) clock seen clock) ∧ seen.toList = ts.map (·.born) ∧ (∀ e ∈ ts, e ∈ es.toList) ∧ (ts.map (·.born)).Nodup ∧ ts.map (fun e => (e.key, e.val)) = told.map entKV

theorem RgE.map {w : World} {r b : Nat} {l told : List (Int × Ent)} (h : RgE w r b l told) : MapE w b l := by
  obtain ⟨es, clock, seen, ts, h1, h2, h3, h4, _⟩ := h
  exact ⟨es, clock, h1, h2, h3, h4⟩
theorem RgE.fr {w w' : World} {r b : Nat} {l told : List (Int × Ent)} {S : Nat → Prop} (h : RgE w r b l told) (hf : Fr S w w') (hb : ¬ S b) (hr : ¬ S r) : RgE w' r b l told := by
  obtain ⟨es, clock, seen, ts, h1, h2, h3, h4, h5, h6⟩ := h
  exact ⟨es, clock, seen, ts, hf.at h1 hb, h2, h3, h4, hf.at h5 hr, h6⟩
theorem RgE.le {w : World} {r b : Nat} {l told : List (Int × Ent)} (h : RgE w r b l told) : told.length ≤ l.length := by
  obtain ⟨es, clock, seen, ts, h1, h2, h3, h4, h5, h6, h7, h8, h9⟩ := h
  have e1 : told.length = ts.length := by have := congrArg List.length h9; simpa using this.symm
  have e2 : l.length = es.toList.length := by have := congrArg List.length h2; simpa using this.symm
  have n2 : ts.Nodup := by
    unfold List.Nodup at *
    rw [List.pairwise_map] at h8
    exact h8.imp fun hab e => hab (by rw [e])
  rw [e1, e2]
  exact nodup_len _ _ n2 h7

theorem run_rangeE {w : World} {b : Nat} {l : List (Int × Ent)} (h : MapE w b l) :
    ∃ o, (Instr.range 99 (.map (some b))).run Tryz.prog w = .ok (.pointer (some ⟨w.heap.size, 0, none⟩)) (w.alloc o) ∧ RgE (w.alloc o) w.heap.size b l [] := by
  obtain ⟨es, clock, h1, h2, h3, h4⟩ := h
  refine ⟨.mapIter (some b) clock #[] clock, ?_, ⟨es, clock, #[], [], heap_old h1, h2, h3, h4, heap_new rfl, rfl, by simp, by simp, rfl⟩⟩
  simp [Instr.range, run_underlying map_under, MapKept.run_getObj_map h1, Result.andThen, newObj, Sem.run]

theorem nodup_of_lt {l : List Nat} (h : l.Pairwise (· < ·)) : l.Nodup := h.imp fun h => by omega

theorem run_nextE {w : World} {r b : Nat} {l told : List (Int × Ent)} (h : RgE w r b l told) (hrb : r ≠ b) (ty : TypeId) :
    (told.Perm l ∧ (Instr.next (.pointer (some ⟨r, 0, none⟩)) false ty).run Tryz.prog w = .ok (.tuple #[.bool false]) w) ∨
    ∃ (x : Int × Ent) (w1 : World), x ∈ l ∧ (Instr.next (.pointer (some ⟨r, 0, none⟩)) false ty).run Tryz.prog w = .ok (.tuple #[.bool true, .int .i64 x.1, x.2.val]) w1 ∧ RgE w1 r b l (told ++ [x]) ∧ Fr (fun i => i = r) w w1 ∧ w1.heap.size = w.heap.size ∧
      (Instr.entry (.pointer (some ⟨r, 0, none⟩))).run Tryz.prog w1 = .ok (.tuple #[.int .i64 x.1, x.2.val]) w1 := by
  obtain ⟨es, clock, seen, ts, h1, h2, h3, h4, h5, h6, h7, h8, h9⟩ := h
  rcases run_next_at (P := Tryz.prog) w ty r b clock clock seen es clock h5 h1 (fun x hx => h4 _ (List.mem_map_of_mem hx)) (Nat.le_refl _) with ⟨h0, hr⟩ | ⟨e, he, w1, hw, hr⟩
  · left
    refine ⟨?_, hr⟩
    have n1 : es.toList.Nodup := by
      have := nodup_of_lt h3
      unfold List.Nodup at *
      rw [List.pairwise_map] at this
      exact this.imp fun hab e => hab (by rw [e])
    have n2 : ts.Nodup := by
      unfold List.Nodup at *
      rw [List.pairwise_map] at h8
      exact h8.imp fun hab e => hab (by rw [e])
    have hp : ts.Perm es.toList := by
      refine (List.perm_ext_iff_of_nodup n2 n1).2 fun x => ⟨h7 x, fun hx => ?_⟩
      have := all_seen es seen h0 x hx
      have hb : x.born ∈ seen.toList := by simpa using this
      rw [h6] at hb
      obtain ⟨y, hy, hyx⟩ := List.mem_map.1 hb
      have : y = x := born_inj (nodup_of_lt h3) (h7 y hy) hx hyx
      exact this ▸ hy
    refine perm_of_ents ?_
    rw [← h9, ← h2]
    exact hp.map _
  · right
    obtain ⟨hem, hes⟩ := mem_left he
    have hx : ∃ x ∈ l, entKV x = (e.key, e.val) := by
      have : (e.key, e.val) ∈ l.map entKV := by rw [← h2]; exact List.mem_map.2 ⟨e, hem, rfl⟩
      obtain ⟨x, hx, hxe⟩ := List.mem_map.1 this
      exact ⟨x, hx, hxe⟩
    obtain ⟨x, hxl, hxe⟩ := hx
    have hk : e.key = .int .i64 x.1 := (congrArg Prod.fst hxe).symm
    have hv : e.val = x.2.val := (congrArg Prod.snd hxe).symm
    have hr1 : w1.heap[r]? = some (.mapIter (some b) clock seen clock) := by rcases hw with rfl | rfl <;> exact h5
    have hb1 : w1.heap[b]? = some (.map es clock) := by rcases hw with rfl | rfl <;> exact h1
    have hrl := heap_lt hr1
    have hset : (setBlock w1 r (.mapIter (some b) clock (seen.push e.born) clock)).heap[r]? = some (.mapIter (some b) clock (seen.push e.born) clock) := by simp [setBlock, hrl]
    have hother : ∀ i, i ≠ r → (setBlock w1 r (.mapIter (some b) clock (seen.push e.born) clock)).heap[i]? = w1.heap[i]? := fun i hi => by simp [setBlock, Array.getElem?_setIfInBounds, Ne.symm hi]
    refine ⟨x, _, hxl, by rw [← hk, ← hv]; exact hr, ⟨es, clock, seen.push e.born, ts ++ [e], (hother b (Ne.symm hrb)).trans hb1, h2, h3, h4, hset, by simp [h6], ?_, ?_, by simp [h9, hxe]⟩, ?_, by rcases hw with rfl | rfl <;> simp [setBlock], ?_⟩
    · intro y hy
      rcases List.mem_append.1 hy with hy | hy
      · exact h7 y hy
      · simp at hy; subst hy; exact hem
    · rw [List.map_append, List.nodup_append]
      refine ⟨h8, by simp, fun a ha b hb hab => ?_⟩
      simp at hb
      subst hb
      subst hab
      have : e.born ∈ seen.toList := by rw [h6]; exact ha
      have h2 : seen.contains e.born = true := by simpa using this
      rw [hes] at h2
      cases h2
    · refine ⟨by rcases hw with rfl | rfl <;> rfl, by rcases hw with rfl | rfl <;> rfl, by rcases hw with rfl | rfl <;> rfl, by rcases hw with rfl | rfl <;> simp [setBlock], fun i _ hi => ?_⟩
      rw [hother i hi]
      rcases hw with rfl | rfl <;> rfl
    · rw [← hk, ← hv]
      exact run_entry_at (P := Tryz.prog) _ r b clock seen es clock e hset ((hother b (Ne.symm hrb)).trans hb1) hem (nodup_of_lt h3)

end Go.Proofs.YtpdckdfnpehliaaGreat
