/- Maps from whole numbers to entities. -/
import Derived.Test.YtpdckdfnpehliaaGreatSnap
import Derived.WideMake
import Derived.Maps.Own
set_option linter.unusedVariables false
set_option linter.unusedSimpArgs false

namespace Go.Proofs.YtpdckdfnpehliaaGreat
open Go Go.RowKit Go.Deep Go.Shelf
set_option maxHeartbeats 400000

/-- A map's entries read as entities, keyed by their ids. -/
def entKV (x : Int × Ent) : Value × Value := (.int .i64 x.1, x.2.val)
def MapE (w : World) (b : Nat) (l : List (Int × Ent)) : Prop :=
  ∃ es clock, w.heap[b]? = some (.map es clock) ∧ es.toList.map (fun e => (e.key, e.val)) = l.map entKV ∧ (es.toList.map (·.born)).Pairwise (· < ·) ∧ ∀ n ∈ es.toList.map (·.born), n < clock

theorem findNow_ent (k : Int) : ∀ (es : List MapEntry) (l : List (Int × Ent)) (i : Nat), es.map (fun e => (e.key, e.val)) = l.map entKV →
    Instr.findNow (.int .i64) (.int .i64 k) es i = some ((l.findIdx? (fun x => k == x.1)).map fun j => (i + j, (l[j]?.map (fun x => x.2.val)).getD .nilFunc)) := by
  intro es
  induction es with
  | nil =>
    intro l i h
    cases l with
    | nil => rfl
    | cons x l => cases h
  | cons e es ih =>
    intro l i h
    cases l with
    | nil => cases h
    | cons x l =>
      simp only [List.map_cons, List.cons.injEq] at h
      obtain ⟨h1, h2⟩ := h
      have hk : e.key = .int .i64 x.1 := congrArg Prod.fst h1
      have hv : e.val = x.2.val := congrArg Prod.snd h1
      have hs : Instr.sameNow (.int .i64) (.int .i64 k) e.key = some (k == x.1) := by rw [hk]; rfl
      show (match Instr.sameNow (.int .i64) (.int .i64 k) e.key with
        | some true => some (some (i, e.val))
        | some false => Instr.findNow (.int .i64) (.int .i64 k) es (i + 1)
        | none => none) = _
      rw [hs]
      by_cases hx : k = x.1
      · have : (k == x.1) = true := by simpa using hx
        rw [List.findIdx?_cons]
        simp [this, hv]
      · have : (k == x.1) = false := by simpa using hx
        rw [List.findIdx?_cons]
        simp only [this]
        rw [ih l (i + 1) h2]
        cases l.findIdx? (fun x => k == x.1) with
        | none => rfl
        | some j => simp; omega

def putL (k : Int) (x : Ent) (l : List (Int × Ent)) : List (Int × Ent) :=
  match l.findIdx? (fun y => k == y.1) with
  | some j => l.set j (k, x)
  | none => l ++ [(k, x)]

theorem map_under : Tryz.prog.underlying 99 = some (.map 3 69) := by kernel_rfl
theorem int_under : Tryz.prog.underlying 3 = some (.int .i64) := by kernel_rfl

theorem run_putL {w : World} {b : Nat} {l : List (Int × Ent)} (h : MapE w b l) (k : Int) (x : Ent) :
    ∃ w', (Instr.mapUpdate 99 (.map (some b)) (.int .i64 k) x.val).run Tryz.prog w = .ok () w' ∧ MapE w' b (putL k x l) ∧ Fr (fun i => i = b) w w' := by
  obtain ⟨es, clock, hb, hl, hp, hlc⟩ := h
  have hf := findNow_ent k es.toList l 0 hl
  have hc : (Instr.checkKey false 10000 3 (.int .i64 k)).run Tryz.prog w = .ok () w := MapKept.run_checkKey (k := .int .i64 k) int_under (by simp [MapKept.IsKey]) false 9999
  have hlt := heap_lt hb
  cases hfi : l.findIdx? (fun y => k == y.1) with
  | none =>
    rw [hfi] at hf
    refine ⟨{ w with heap := w.heap.setIfInBounds b (.map (es.push { key := .int .i64 k, val := x.val, born := clock }) (clock + 1)) }, ?_, ?_, ?_⟩
    · simp [Instr.mapUpdate, run_underlying map_under, MapKept.run_getObj_map hb, hc, MapKept.run_findKey int_under hf, MapKept.run_setObj_map _ hb, Result.andThen]
    · refine ⟨es.push { key := .int .i64 k, val := x.val, born := clock }, clock + 1, by simp [hlt], ?_, ?_, ?_⟩
      · have : putL k x l = l ++ [(k, x)] := by unfold putL; rw [hfi]
        rw [this]
        simp [hl, entKV]
      · rw [Array.toList_push, List.map_append, List.pairwise_append]
        exact ⟨hp, by simp, fun a ha b hb => by simp at hb; subst hb; exact hlc a ha⟩
      · rw [Array.toList_push, List.map_append]
        intro n hn
        rcases List.mem_append.1 hn with hn | hn
        · have := hlc n hn; omega
        · simp at hn; omega
    · exact ⟨rfl, rfl, rfl, by simp, fun i hi hs => by simp [Array.getElem?_setIfInBounds, Ne.symm hs]⟩
  | some j =>
    rw [hfi] at hf
    have hj : ∃ hj : j < l.length, (k == l[j].1) = true := by
      have := List.findIdx?_eq_some_iff_findIdx_eq.1 hfi
      obtain ⟨h1, h2⟩ := this
      subst h2
      exact ⟨h1, List.findIdx_getElem (w := h1)⟩
    obtain ⟨hj, hkj⟩ := hj
    have hlen : es.size = l.length := by have := congrArg List.length hl; simpa using this
    have hej : es[j]? = some (es[j]'(by omega)) := Array.getElem?_eq_getElem (by omega)
    have hkey : (es[j]'(by omega)).key = .int .i64 k := by
      have h2 : (es.toList.map (fun e => (e.key, e.val)))[j]? = (l.map entKV)[j]? := by rw [hl]
      rw [List.getElem?_map, List.getElem?_map, List.getElem?_eq_getElem hj, Array.getElem?_toList, hej] at h2
      simp only [Option.map_some, Option.some.injEq, entKV, Prod.mk.injEq] at h2
      rw [h2.1]
      have : k = l[j].1 := by simpa using hkj
      rw [← this]
    have hbm : (es.modify j fun e => { e with key := .int .i64 k, val := x.val }).toList.map (·.born) = es.toList.map (·.born) := by
      apply List.ext_getElem?
      intro i
      simp only [List.getElem?_map, Array.getElem?_toList, Array.getElem?_modify]
      by_cases hij : j = i
      · simp only [hij, if_true, Option.map_map]; rfl
      · simp [hij]
    refine ⟨{ w with heap := w.heap.setIfInBounds b (.map (es.modify j fun e => { e with key := .int .i64 k, val := x.val }) clock) }, ?_, ?_, ?_⟩
    · have hst : (Instr.keyThatStays (((es[j]?).map (·.key)).getD (.int .i64 k)) (.int .i64 k)).run Tryz.prog w = .ok (.int .i64 k) w := by
        rw [hej]
        simp only [Option.map_some, Option.getD_some, hkey]
        simp [Instr.keyThatStays, Instr.sameBits]
      simp [Instr.mapUpdate, run_underlying map_under, MapKept.run_getObj_map hb, hc, MapKept.run_findKey int_under hf, MapKept.run_setObj_map _ hb, Result.andThen, hst]
    · refine ⟨es.modify j fun e => { e with key := .int .i64 k, val := x.val }, clock, by simp [hlt], ?_, by rw [hbm]; exact hp, by rw [hbm]; exact hlc⟩
      have : putL k x l = l.set j (k, x) := by unfold putL; rw [hfi]
      rw [this]
      apply List.ext_getElem?
      intro i
      have h2 : (es.toList.map (fun e => (e.key, e.val)))[i]? = (l.map entKV)[i]? := by rw [hl]
      simp only [List.getElem?_map, Array.getElem?_toList, Array.getElem?_modify, List.getElem?_set] at h2 ⊢
      by_cases hij : j = i
      · subst hij
        simp [hj, hej, entKV]
      · simp [hij, h2]
    · exact ⟨rfl, rfl, rfl, by simp, fun i hi hs => by simp [Array.getElem?_setIfInBounds, Ne.symm hs]⟩

def findL (k : Int) (l : List (Int × Ent)) : Option Ent := (l.find? (fun y => k == y.1)).map (·.2)
theorem infoE : (Tryz.prog.info? 69).map (fun i => (i.zero, i.size, i.bytes)) = some (some (.agg ent0Cells), 9, 64) := by kernel_rfl
theorem zeroE (w : World) : (zeroValue 69).run Tryz.prog w = .ok Ent.zero.val w := by kernel_rfl

theorem run_findL {w : World} {b : Nat} {l : List (Int × Ent)} (h : MapE w b l) (k : Int) :
    (Instr.lookup 99 (.map (some b)) (.int .i64 k) true).run Tryz.prog w = .ok (.tuple #[((findL k l).getD Ent.zero).val, .bool (findL k l).isSome]) w := by
  obtain ⟨es, clock, hb, hl, hp, hlc⟩ := h
  have hf := findNow_ent k es.toList l 0 hl
  have hc : (Instr.checkKey es.isEmpty 10000 3 (.int .i64 k)).run Tryz.prog w = .ok () w := MapKept.run_checkKey (k := .int .i64 k) int_under (by simp [MapKept.IsKey]) es.isEmpty 9999
  cases hfi : l.findIdx? (fun y => k == y.1) with
  | none =>
    rw [hfi] at hf
    have : findL k l = none := by
      unfold findL
      rw [List.findIdx?_eq_none_iff] at hfi
      simp only [Option.map_eq_none_iff, List.find?_eq_none]
      intro y hy; have := hfi y hy; simpa using this
    rw [this]
    simp [Instr.lookup, run_underlying map_under, MapKept.run_getObj_map hb, hc, MapKept.run_findKey int_under hf, Result.andThen, zeroE, Ent.zero]
  | some j =>
    rw [hfi] at hf
    have hj := List.findIdx?_eq_some_iff_findIdx_eq.1 hfi
    obtain ⟨hj, hj2⟩ := hj
    have : findL k l = some l[j].2 := by
      unfold findL
      have h2 : l.find? (fun y => k == y.1) = some l[j] := by
        subst hj2
        exact List.find?_eq_some_iff_getElem.2 ⟨List.findIdx_getElem (w := hj), _, hj, rfl, fun i hi => by simpa using List.not_of_lt_findIdx hi⟩
      rw [h2]; rfl
    rw [this]
    have hf2 : Instr.findNow (.int .i64) (.int .i64 k) es.toList 0 = some (some (j, l[j].2.val)) := by rw [hf]; simp [List.getElem?_eq_getElem hj]
    simp [Instr.lookup, run_underlying map_under, MapKept.run_getObj_map hb, hc, MapKept.run_findKey int_under hf2, Result.andThen]

theorem map_erase {α β : Type} (f : α → β) : ∀ (l : List α) (j : Nat), (l.eraseIdx j).map f = (l.map f).eraseIdx j
  | [], _ => by simp
  | _ :: _, 0 => by simp
  | a :: r, j + 1 => by simp [map_erase f r j]

def delL (k : Int) (l : List (Int × Ent)) : List (Int × Ent) :=
  match l.findIdx? (fun y => k == y.1) with
  | some j => l.eraseIdx j
  | none => l

theorem run_delL {w : World} {b : Nat} {l : List (Int × Ent)} (h : MapE w b l) (k : Int) (ty : TypeId) :
    ∃ w', (Builtin.delete_ #[99, 3] ty #[.map (some b), .int .i64 k]).run Tryz.prog w = .ok (.tuple #[]) w' ∧ MapE w' b (delL k l) ∧ Fr (fun i => i = b) w w' := by
  obtain ⟨es, clock, hb, hl, hp, hlc⟩ := h
  have hf := findNow_ent k es.toList l 0 hl
  have hc : ∀ e, (Instr.checkKey e 10000 3 (.int .i64 k)).run Tryz.prog w = .ok () w := fun e => MapKept.run_checkKey (k := .int .i64 k) int_under (by simp [MapKept.IsKey]) e 9999
  have hlt := heap_lt hb
  cases hfi : l.findIdx? (fun y => k == y.1) with
  | none =>
    rw [hfi] at hf
    have hd : delL k l = l := by unfold delL; rw [hfi]
    rw [hd]
    refine ⟨{ w with heap := w.heap.setIfInBounds b (.map es clock) }, ?_, ⟨es, clock, by simp [hlt], hl, hp, hlc⟩, ⟨rfl, rfl, rfl, by simp, fun i hi hs => by simp [Array.getElem?_setIfInBounds, Ne.symm hs]⟩⟩
    simp [Builtin.delete_, run_underlying map_under, MapKept.run_getObj_map hb, hc, MapKept.run_findKey int_under hf, MapKept.run_setObj_map _ hb, Result.andThen]
  | some j =>
    rw [hfi] at hf
    have hd : delL k l = l.eraseIdx j := by unfold delL; rw [hfi]
    rw [hd]
    refine ⟨{ w with heap := w.heap.setIfInBounds b (.map (es.eraseIdxIfInBounds j) clock) }, ?_, ⟨es.eraseIdxIfInBounds j, clock, by simp [hlt], ?_, ?_, ?_⟩, ⟨rfl, rfl, rfl, by simp, fun i hi hs => by simp [Array.getElem?_setIfInBounds, Ne.symm hs]⟩⟩
    · simp [Builtin.delete_, run_underlying map_under, MapKept.run_getObj_map hb, hc, MapKept.run_findKey int_under hf, MapKept.run_setObj_map _ hb, Result.andThen]
    · have e1 : (es.eraseIdxIfInBounds j).toList = es.toList.eraseIdx j := by simp
      rw [e1, map_erase, hl, ← map_erase]
    · have e1 : (es.eraseIdxIfInBounds j).toList = es.toList.eraseIdx j := by simp
      rw [e1, map_erase]
      exact hp.sublist (List.eraseIdx_sublist _ _)
    · have e1 : (es.eraseIdxIfInBounds j).toList = es.toList.eraseIdx j := by simp
      rw [e1, map_erase]
      exact fun n hn => hlc n ((List.eraseIdx_sublist _ _).subset hn)

section
variable {ops rest : List Oper} {opsA : Array Oper} {o : Oper} {a : Act} {Q : Exit → Act → World → Prop}
/-- 'm[k] = y' in a walk. -/
theorem put_row {W : World} (hgd : o.guard = none) (m x v : Operand) (ho : o.op = Op.mapUpdate 99 m x v) (b : Nat) (l : List (Int × Ent)) (k : Int) (y : Ent)
    (hm : a.eval m = .map (some b)) (hx : a.eval x = .int .i64 k) (hv : a.eval v = y.val) (h0 : MapE W b l)
    (h : ∀ w1, MapE w1 b (putL k y l) → Fr (fun i => i = b) W w1 → wpList Tryz.prog opsA Q rest (a.put o.dst undef) w1) : wpList Tryz.prog opsA Q (o :: rest) a W := by
  obtain ⟨w1, hr, h1, h2⟩ := run_putL h0 k y
  refine wpList_plain hgd fun K hK => ?_
  unfold Oper.wp execOp
  simp only [ho, hm, hx, hv, Sem.run_bind, Sem.run_pure, Result.andThen_ok, hr]
  exact hK _ _ (h w1 h1 h2)
/-- 'y, ok := m[k]' in a walk. -/
theorem find_row {W : World} (hgd : o.guard = none) (m x : Operand) (ho : o.op = Op.lookup 99 m x true) (b : Nat) (l : List (Int × Ent)) (k : Int)
    (hm : a.eval m = .map (some b)) (hx : a.eval x = .int .i64 k) (h0 : MapE W b l)
    (h : wpList Tryz.prog opsA Q rest (a.put o.dst (.tuple #[((findL k l).getD Ent.zero).val, .bool (findL k l).isSome])) W) : wpList Tryz.prog opsA Q (o :: rest) a W := by
  refine wpList_plain hgd fun K hK => ?_
  unfold Oper.wp execOp
  simp only [ho, hm, hx, Sem.run_bind, Sem.run_pure, Result.andThen_ok, run_findL h0 k]
  exact hK _ _ h
/-- 'delete(m, k)' in a walk. -/
theorem del_row {W : World} (hgd : o.guard = none) (m x : Operand) (ho : o.op = .call { callee := .builtin .delete, args := #[m, x], argTypes := #[99, 3] }) (b : Nat) (l : List (Int × Ent)) (k : Int)
    (hm : a.eval m = .map (some b)) (hx : a.eval x = .int .i64 k) (h0 : MapE W b l)
    (h : ∀ w1, MapE w1 b (delL k l) → Fr (fun i => i = b) W w1 → wpList Tryz.prog opsA Q rest (a.put o.dst (.tuple #[])) w1) : wpList Tryz.prog opsA Q (o :: rest) a W := by
  obtain ⟨w1, hr, h1, h2⟩ := run_delL h0 k o.type
  refine wpList_plain hgd fun K hK => ?_
  unfold Oper.wp execOp
  simp only [ho, resolve, invoke, builtin, Sem.run_bind, Sem.run_pure, Result.andThen_ok, List.map_toArray, List.map_cons, List.map_nil, hm, hx, hr]
  exact hK _ _ (h w1 h1 h2)
end

end Go.Proofs.YtpdckdfnpehliaaGreat
