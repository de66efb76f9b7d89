/- Layer 10 in plain terms: a datagram, applied to a snapshot. -/
import Derived.Test.YtpdckdfnpehliaaGreatMp2
import Derived.Test.YtpdckdfnpehliaaGreatGram3
set_option linter.unusedVariables false
set_option linter.unusedSimpArgs false

namespace Go.Proofs.YtpdckdfnpehliaaGreat
open Go Go.RowKit Go.Deep

def putEnt (r : Rec) : Ent := ⟨r.id, r.p0, r.p1, r.p2, r.v0, r.v1, r.v2, r.angle, 0⟩
def applyStep (m : List (Int × Ent)) (r : Rec) : Option (List (Int × Ent)) :=
  match findL r.id m with
  | none => if r.kind = 0 then some (putL r.id (putEnt r) m) else none
  | some x => if r.kind = 0 then none else if r.kind = 2 then some (delL r.id m) else some (putL r.id (recApply x r).1 m)
def applyRecs : List (Int × Ent) → List Rec → Option (List (Int × Ent))
  | m, [] => some m
  | m, r :: l => match applyStep m r with | none => none | some m2 => applyRecs m2 l
def sortE (l : List Ent) : List Ent := l.mergeSort fun a b => decide (a.id ≤ b.id)
def snapApply (a : Snap) (g : Gram) : Snap × Int :=
  if gramCheck g ≠ 0 then (⟨0, 0, []⟩, gramCheck g)
  else if g.base ≥ 0 ∧ snapCheck a ≠ 0 then (⟨0, 0, []⟩, snapCheck a)
  else if g.base ≥ 0 ∧ a.tick ≠ g.base then (⟨0, 0, []⟩, 14)
  else match applyRecs (if g.base ≥ 0 then byIdL a.ents else []) g.recs with
    | none => (⟨0, 0, []⟩, 15)
    | some m => if m.length > 64 then (⟨0, 0, []⟩, 4) else (⟨g.tick, g.time, sortE (m.map (·.2))⟩, 0)

/-- Keys are told once, and are their things' ids. -/
def MapOk (m : List (Int × Ent)) : Prop := (m.map (·.1)).Nodup ∧ ∀ p ∈ m, p.1 = p.2.id

theorem findIdx_key {k : Int} {m : List (Int × Ent)} {j : Nat} (h : m.findIdx? (fun y => k == y.1) = some j) : ∃ hj : j < m.length, m[j].1 = k := by
  obtain ⟨hj, h2⟩ := List.findIdx?_eq_some_iff_findIdx_eq.1 h
  subst h2
  have h3 : (k == (m[m.findIdx (fun y => k == y.1)]'hj).1) = true := List.findIdx_getElem (w := hj)
  exact ⟨hj, (beq_iff_eq.1 h3).symm⟩
theorem putL_keys (k : Int) (x : Ent) (m : List (Int × Ent)) : (putL k x m).map (·.1) = if k ∈ m.map (·.1) then m.map (·.1) else m.map (·.1) ++ [k] := by
  unfold putL
  cases h : m.findIdx? (fun y => k == y.1) with
  | none =>
    rw [List.findIdx?_eq_none_iff] at h
    rw [if_neg]
    · simp
    · intro hk
      obtain ⟨p, hp, rfl⟩ := List.mem_map.1 hk
      have := h p hp
      simp at this
  | some j =>
    obtain ⟨hj, hk⟩ := findIdx_key h
    rw [if_pos (List.mem_map.2 ⟨m[j], List.getElem_mem hj, hk⟩)]
    simp only [List.map_set]
    apply List.ext_getElem?
    intro i
    rw [List.getElem?_set]
    split
    · next e =>
      subst e
      simp [hj, hk]
    · rfl
theorem putL_length (k : Int) (x : Ent) (m : List (Int × Ent)) : (putL k x m).length ≤ m.length + 1 := by
  have := congrArg List.length (putL_keys k x m)
  simp only [List.length_map] at this
  split at this <;> simp at this <;> omega
theorem MapOk.put {m : List (Int × Ent)} (h : MapOk m) {k : Int} {x : Ent} (hx : x.id = k) : MapOk (putL k x m) := by
  refine ⟨?_, fun p hp => ?_⟩
  · rw [putL_keys]
    split
    · exact h.1
    · next hk =>
      rw [List.nodup_append]
      exact ⟨h.1, by simp, fun a ha b hb hab => by simp at hb; subst hb; subst hab; exact hk ha⟩
  · unfold putL at hp
    split at hp
    · rcases List.mem_or_eq_of_mem_set hp with hp | rfl
      · exact h.2 p hp
      · exact hx.symm
    · rcases List.mem_append.1 hp with hp | hp
      · exact h.2 p hp
      · simp at hp; subst hp; exact hx.symm
theorem delL_sub (k : Int) (m : List (Int × Ent)) : (delL k m).Sublist m := by
  unfold delL
  split
  · exact List.eraseIdx_sublist _ _
  · exact List.Sublist.refl _
theorem MapOk.del {m : List (Int × Ent)} (h : MapOk m) (k : Int) : MapOk (delL k m) :=
  ⟨h.1.sublist ((delL_sub k m).map _), fun p hp => h.2 p ((delL_sub k m).subset hp)⟩
theorem MapOk.nil : MapOk [] := ⟨List.Pairwise.nil, by simp⟩
theorem MapOk.byId (l : List Ent) : MapOk (byIdL l) := by
  unfold byIdL
  suffices h : ∀ m, MapOk m → MapOk (l.foldl (fun m x => putL x.id x m) m) from h [] MapOk.nil
  induction l with
  | nil => intro m h; exact h
  | cons x l ih => intro m h; exact ih _ (h.put rfl)
theorem byIdL_length (l : List Ent) : (byIdL l).length ≤ l.length := by
  unfold byIdL
  suffices h : ∀ m : List (Int × Ent), (l.foldl (fun m x => putL x.id x m) m).length ≤ m.length + l.length by simpa using h []
  induction l with
  | nil => intro m; simp
  | cons x l ih =>
    intro m
    have h1 := ih (putL x.id x m)
    have h2 := putL_length x.id x m
    simp only [List.foldl_cons, List.length_cons]
    omega
theorem findL_mem {k : Int} {m : List (Int × Ent)} {x : Ent} (h : findL k m = some x) : (k, x) ∈ m := by
  unfold findL at h
  obtain ⟨p, hp, rfl⟩ := Option.map_eq_some_iff.1 h
  have h1 := List.mem_of_find?_eq_some hp
  have h2 := List.find?_some hp
  have : k = p.1 := by simpa using h2
  rw [this]
  exact h1
theorem recApply_id {x : Ent} {r : Rec} (h1 : recCheck r = 0) (h2 : r.kind ≠ 0) (h3 : r.kind ≠ 2) (h4 : r.id = x.id) : (recApply x r).1.id = x.id := by
  unfold recApply
  rw [if_neg (by simpa using h1), if_neg (by simp [h2, h3, h4])]
  split <;> rfl
theorem applyStep_ok {m m2 : List (Int × Ent)} {r : Rec} (h : MapOk m) (hr : recCheck r = 0) (hs : applyStep m r = some m2) : MapOk m2 ∧ m2.length ≤ m.length + 1 := by
  unfold applyStep at hs
  split at hs
  · split at hs
    · injection hs with hs; subst hs; exact ⟨h.put rfl, putL_length _ _ _⟩
    · cases hs
  · next x hx =>
    split at hs
    · cases hs
    · split at hs
      · injection hs with hs; subst hs; exact ⟨h.del _, by have := (delL_sub r.id m).length_le; omega⟩
      · injection hs with hs
        subst hs
        have hid : r.id = x.id := h.2 _ (findL_mem hx)
        exact ⟨h.put (by rw [recApply_id hr (by assumption) (by assumption) hid]; exact hid.symm), putL_length _ _ _⟩
theorem applyRecs_ok {l : List Rec} : ∀ {m m2 : List (Int × Ent)}, MapOk m → (∀ r ∈ l, recCheck r = 0) → applyRecs m l = some m2 → MapOk m2 ∧ m2.length ≤ m.length + l.length := by
  induction l with
  | nil => intro m m2 h _ hs; injection hs with hs; subst hs; exact ⟨h, by simp⟩
  | cons r l ih =>
    intro m m2 h hr hs
    unfold applyRecs at hs
    cases h1 : applyStep m r with
    | none => rw [h1] at hs; cases hs
    | some m1 =>
      rw [h1] at hs
      obtain ⟨h2, h3⟩ := applyStep_ok h (hr r (by simp)) h1
      obtain ⟨h4, h5⟩ := ih h2 (fun x hx => hr x (by simp [hx])) hs
      exact ⟨h4, by simp; omega⟩

theorem pairwise_unique {l1 l2 : List Ent} (hp : l1.Perm l2) (h1 : l1.Pairwise (fun a b => a.id ≤ b.id)) (h2 : l2.Pairwise (fun a b => a.id ≤ b.id)) (hn : (l2.map (·.id)).Nodup) : l1 = l2 := by
  induction l1 generalizing l2 with
  | nil => exact (List.Perm.nil_eq hp)
  | cons a l1 ih =>
    cases l2 with
    | nil => exact absurd hp.symm.nil_eq (by simp)
    | cons b l2 =>
      have ha : a ∈ b :: l2 := hp.subset (by simp)
      have hb : b ∈ a :: l1 := hp.symm.subset (by simp)
      have h1' := List.pairwise_cons.1 h1
      have h2' := List.pairwise_cons.1 h2
      rw [List.map_cons, List.nodup_cons] at hn
      have hab : a = b := by
        rcases List.mem_cons.1 ha with e | ha
        · exact e
        · rcases List.mem_cons.1 hb with e | hb
          · exact e.symm
          · have e1 := h1'.1 b hb
            have e2 := h2'.1 a ha
            have : a.id = b.id := by omega
            exact absurd (List.mem_map.2 ⟨a, ha, this⟩) hn.1
      subst hab
      rw [ih ((List.perm_cons a).1 hp) h1'.2 h2'.2 hn.2]
theorem sortE_unique {m : List (Int × Ent)} (h : MapOk m) {ys : List Ent} (hp : ys.Perm (m.map (·.2))) (hs : ys.Pairwise (fun a b => a.id ≤ b.id)) : ys = sortE (m.map (·.2)) := by
  have hp2 : (sortE (m.map (·.2))).Perm (m.map (·.2)) := List.mergeSort_perm _ _
  have hs2 : (sortE (m.map (·.2))).Pairwise (fun a b => a.id ≤ b.id) := by
    have := List.pairwise_mergeSort (le := fun a b : Ent => decide (a.id ≤ b.id)) (fun a b c h1 h2 => by simp at *; omega) (fun a b => by simp; omega) (m.map (·.2))
    exact this.imp fun h => by simpa using h
  refine pairwise_unique (hp.trans hp2.symm) hs hs2 ?_
  have e1 : ((m.map (·.2)).map (·.id)) = m.map (·.1) := by
    rw [List.map_map]
    exact List.map_congr_left fun p hp => (h.2 p hp).symm
  exact (hp2.map (·.id)).nodup_iff.2 (by rw [e1]; exact h.1)

theorem recsWrite_ok {l : List Rec} : ∀ {last : Int} {b : List Int}, recsWrite last l = .ok b → ∀ r ∈ l, recCheck r = 0 := by
  induction l with
  | nil => intro last b _ r hr; cases hr
  | cons r l ih =>
    intro last b h x hx
    unfold recsWrite at h
    cases h1 : recWrite r last with
    | error e => rw [h1] at h; cases h
    | ok b1 =>
      rw [h1] at h
      simp only at h
      cases h2 : recsWrite r.id l with
      | error e => rw [h2] at h; cases h
      | ok c =>
        rcases List.mem_cons.1 hx with rfl | hx
        · unfold recWrite at h1
          split at h1
          · cases h1
          · next h3 => simpa using h3
        · exact ih h2 x hx
theorem gramCheck_ok {g : Gram} (h : gramCheck g = 0) : (∃ b, gramBody g = .ok b) ∧ (∀ r ∈ g.recs, recCheck r = 0) ∧ g.recs.length ≤ 128 := by
  unfold gramCheck at h
  cases hb : gramBody g with
  | error e => rw [hb] at h; exact absurd h (gramBody_err hb)
  | ok b =>
    refine ⟨⟨b, rfl⟩, ?_⟩
    unfold gramBody at hb
    cases h0 : gramHead g with
    | error e => rw [h0] at hb; cases hb
    | ok hd =>
      rw [h0] at hb
      simp only at hb
      cases h1 : recsWrite (-1) g.recs with
      | error e => rw [h1] at hb; cases hb
      | ok b1 => exact ⟨recsWrite_ok h1, by have := (gramHead_ok h0).1; omega⟩
end Go.Proofs.YtpdckdfnpehliaaGreat
