/- maps.Values at entities; slices.AppendSeq, Collect over it. -/
import Derived.Test.YtpdckdfnpehliaaGreatMp3
import Derived.RangeFuncNested
import Derived.RangeFuncBound
import Derived.RangeFuncCalls
import Derived.RangeFuncLeaves
import Derived.RangeFuncBox
import Derived.Shelf.Abstract
import Derived.Shelf.RegionOpen
import Derived.OwnWalkIn
import Derived.TacticsInMore
import Derived.LoopNIn
import Derived.LoopIn
import Derived.Sort.MapsRangeIn
set_option linter.unusedVariables false
set_option linter.unusedSimpArgs false

namespace Go.Proofs.YtpdckdfnpehliaaGreat
open Go Go.RowKit Go.Deep Go.Shelf
attribute [local go_sem] Oper.semAt_some
set_option maxHeartbeats 400000

theorem RgE.walks {w w' : World} {r b : Nat} {l told : List (Int × Ent)} (h : RgE w r b l told) (hk : KeepsWalks w w') : RgE w' r b l told := by
  obtain ⟨es, clock, seen, ts, h1, h2, h3, h4, h5, h6⟩ := h
  exact ⟨es, clock, seen, ts, hk.same _ _ h1 rfl, h2, h3, h4, hk.same _ _ h5 rfl, h6⟩
theorem MapE.walks {w w' : World} {b : Nat} {l : List (Int × Ent)} (h : MapE w b l) (hk : KeepsWalks w w') : MapE w' b l := by
  obtain ⟨es, clock, h1, h2⟩ := h
  exact ⟨es, clock, hk.same _ _ h1 rfl, h2⟩
def rgLeft (n r : Nat) (w : World) : Nat := match w.heap[r]? with | some (.mapIter _ _ seen _) => n - seen.size | _ => 0
theorem RgE.left {w : World} {r b : Nat} {l told : List (Int × Ent)} (h : RgE w r b l told) (n : Nat) : rgLeft n r w = n - told.length := by
  obtain ⟨es, clock, seen, ts, h1, h2, h3, h4, h5, h6, h7, h8, h9⟩ := h
  have e1 : told.length = ts.length := by have := congrArg List.length h9; simpa using this.symm
  have e2 : seen.size = ts.length := by have := congrArg List.length h6; simpa using this
  unfold rgLeft
  rw [h5, e1, ← e2]
theorem RgE.iter_walk {w : World} {r b : Nat} {l told : List (Int × Ent)} (h : RgE w r b l told) : ∃ o : Obj, w.heap[r]? = some o ∧ o.isWalk = true := by
  obtain ⟨es, clock, seen, ts, h1, h2, h3, h4, h5, _⟩ := h
  exact ⟨_, h5, rfl⟩
theorem grown_of_fr {w w' : World} {r : Nat} (h : Fr (fun i => i = r) w w') : w.grownBy w' (some r) :=
  ⟨h.os, h.tape, h.output, h.size, fun i hi e => h.block i hi (fun e2 => e (by rw [e2]))⟩

section
variable {F : Fence} {nF : Nat} {ops rest : List Oper} {opsA : Array Oper} {o : Oper} {a : Act} {Q : Exit → Act → World → Prop}
theorem rangeIn_row {W : World} (hgd : o.guard = none) (m : Operand) (hop : o.op = Op.range 99 m) (b : Nat) (l : List (Int × Ent)) (hm : a.eval m = .map (some b)) (h0 : MapE W b l)
    (h : ∀ o', RgE (W.alloc o') W.heap.size b l [] → wpListIn F nF Tryz.prog opsA Q rest (a.put o.dst (.pointer (some ⟨W.heap.size, 0, none⟩))) (W.alloc o')) : wpListIn F nF Tryz.prog opsA Q (o :: rest) a W := by
  obtain ⟨o', hr, h1⟩ := run_rangeE h0
  refine wpListIn_plain hgd fun K hK => ?_
  unfold Oper.wpIn
  refine ⟨by simp [Oper.about, hop], ?_⟩
  rw [Oper.semAt_plain F _ _ (by rw [hop]; intro c hc'; cases hc')]
  simp [execOp, hop, hm, hr, Result.andThen]
  exact hK _ _ (h o' h1)
theorem nextIn_row {W : World} (hgd : o.guard = none) (it : Operand) (hop : o.op = Op.next it false) (r b : Nat) (l told : List (Int × Ent)) (hit : a.eval it = .pointer (some ⟨r, 0, none⟩)) (h0 : RgE W r b l told) (hrb : r ≠ b)
    (hDone : told.Perm l → wpListIn F nF Tryz.prog opsA Q rest (a.put o.dst (.tuple #[.bool false])) W)
    (hMore : ∀ (x : Int × Ent) (w1 : World), x ∈ l → RgE w1 r b l (told ++ [x]) → Fr (fun i => i = r) W w1 → w1.heap.size = W.heap.size → (Instr.entry (.pointer (some ⟨r, 0, none⟩))).run Tryz.prog w1 = .ok (.tuple #[.int .i64 x.1, x.2.val]) w1 →
      wpListIn F nF Tryz.prog opsA Q rest (a.put o.dst (.tuple #[.bool true, .int .i64 x.1, x.2.val])) w1) : wpListIn F nF Tryz.prog opsA Q (o :: rest) a W := by
  refine wpListIn_plain hgd fun K hK => ?_
  unfold Oper.wpIn
  refine ⟨by simp [Oper.about, hop], ?_⟩
  rw [Oper.semAt_plain F _ _ (by rw [hop]; intro c hc'; cases hc')]
  rcases run_nextE h0 hrb o.type with ⟨hp, hr⟩ | ⟨x, w1, hx, hr, h1, h2, h4, h3⟩
  · simp [execOp, hop, hit, hr, Result.andThen]
    exact hK _ _ (hDone hp)
  · simp [execOp, hop, hit, hr, Result.andThen]
    exact hK _ _ (hMore x w1 hx h1 h2 h4 h3)
theorem appIn_row {W : World} {P : Program} (base : Nat) (hgd : o.guard = none) (s x : Operand) (t e : TypeId) (z : Value) (k bytes : Nat)
    (hop : o.op = .call { callee := .builtin .append, args := #[s, x], argTypes := #[t, t] }) (ht : P.underlying t = some (.slice e))
    (hinfo : (P.info? e).map (fun i => (i.zero, i.size, i.bytes)) = some (some z, k, bytes)) (hz : z.cells.size = k) (hk : 0 < k) (hb0 : 0 < bytes)
    (v sv : Value) (n m : Nat) (cx cy : List Value) (hs : a.eval s = v) (hx : a.eval x = sv)
    (HO : W.ownsRow base e k v n cx) (HS : Src W sv m k cy) (hbase : base ≤ W.heap.size) (hl : (n + m) * bytes ≤ 140737488355328)
    (h : ∀ v1 w1, w1.ownsRow base e k v1 (n + m) (cx ++ cy) → W.grownBy w1 v.ownBlock → (v1.ownBlock = v.ownBlock ∨ v1.ownBlock = some W.heap.size) → wpListIn F nF P opsA Q rest (a.put o.dst v1) w1) :
    wpListIn F nF P opsA Q (o :: rest) a W := by
  obtain ⟨v1, w1, hr, hown, hg, hat⟩ := app_run (P := P) base t o.type e z k bytes ht hinfo hz hk hb0 v sv n m cx cy HO HS hbase hl
  refine wpListIn_plain hgd fun K hK => ?_
  unfold Oper.wpIn
  refine ⟨?_, ?_⟩
  · simp [Oper.about, hop, resolve, Target.leads, Sem.run_pure]
  · rw [Oper.semAt_plain F _ _ (by rw [hop]; intro c hc'; cases hc')]
    simp [execOp, hop, resolve, invoke, builtin, hs, hx, hr, Result.andThen]
    exact hK _ _ (h v1 w1 hown hg hat)
end

theorem values_any (b : Option Nat) (w : World) :
    Calls Tryz.prog 78 #[.map b] w fun e w' =>
      e = .returned (.func (.func 111) #[] #[.pointer (some ⟨w.heap.size, 0, none⟩)]) ∧ w' = w.alloc (.cells #[.map b] 99) := by
  go_enter Tryz.func78, Tryz.ntmps78
  go_wp2
  go_ret
  exact ⟨rfl, rfl⟩

set_option maxRecDepth 100000 in
set_option maxHeartbeats 1000000 in
theorem values1_in (F : Fence) (n : Nat) (h8 : F.fn 111) (hro : F.round = none) (hn : 1 ≤ n) (l Bm b : Nat) (L : List (Int × Ent)) (J Jx : List Ent → World → Prop)
    (hY : ∀ pre x W, J pre W → pre.length < L.length → YieldAt F (n - 1) Tryz.prog l #[Ent.val x] W fun e W' =>
      (e = .returned (.bool true) ∧ J (pre ++ [x]) W' ∧ KeepsWalks W W') ∨ (e = .returned (.bool false) ∧ Jx (pre ++ [x]) W'))
    (W : World) (hJ : AbidesFrom W.heap.size J) (hm : W.cell? ⟨Bm, 0, none⟩ = some (.map (some b))) (hM : MapE W b L) (h0 : J [] W) :
    CallsIn F n Tryz.prog 111 #[.func (.yield l) #[] #[], .pointer (some ⟨Bm, 0, none⟩)] W fun e W' => (∃ v, e = .returned v) ∧
      ((∃ xs, (∃ ps : List (Int × Ent), ps.Perm L ∧ xs = ps.map (·.2)) ∧ J xs W') ∨ (∃ pre, True ∧ Jx pre W')) := by
  have hbl := hM.lt
  refine callsIn_of_wp Tryz.func111 rfl h8 ?_ hro
  simp only [Tryz.ntmps111, List.size_toArray, List.length_cons, List.length_nil, Nat.reduceAdd, Nat.reduceSub, Array.replicate_succ, Array.replicate_zero, List.push_toArray, List.append_toArray, List.nil_append, List.cons_append]
  gi_wp2_with (first
    | (gi_at_range; refine rangeIn_row rfl _ rfl b L rfl hM ?_; intro o' hrg0)
    | gi_in)
  go_frame
  gi_loopw [4] (fun _ wr => ∃ ps : List (Int × Ent), RgE wr W.heap.size b L ps ∧ J (ps.map (·.2)) wr ∧ W.heap.size < wr.heap.size)
    (fun _ wr => rgLeft L.length W.heap.size wr)
  case atStart =>
    exact ⟨[], hrg0, hJ [] W _ none h0 (World.grownBy_alloc W _ none) (fun r e => by cases e), by simp⟩
  case round =>
    obtain ⟨ps, hrg, hJs, hsz⟩ := hrel
    gi_wp2_with (first
      | (gi_at_next; refine nextIn_row rfl _ rfl W.heap.size b L ps rfl hrg (by omega) ?_ ?_)
      | gi_in)
    · intro hp
      gi_wp2
      go_end0
      exact ⟨⟨_, rfl⟩, .inl ⟨_, ⟨ps, hp, rfl⟩, hJs⟩⟩
    · intro k x w2 hx hrg2 hF2 hs2 hen
      have hJ2 : J (ps.map (·.2)) w2 := hJ _ wr w2 (some W.heap.size) hJs (grown_of_fr hF2) (fun r e => by cases e; exact ⟨Nat.le_refl _, hrg.iter_walk⟩)
      have hle := hrg2.le
      simp only [List.length_append, List.length_cons, List.length_nil] at hle
      have hrg3 := hrg2.walks (KeepsWalks.alloc w2 (.cells x.cells 69))
      have hJ3 : J (ps.map (·.2)) (w2.alloc (.cells x.cells 69)) := hJ _ _ _ none hJ2 (World.grownBy_alloc _ _ none) (fun r e => by cases e)
      obtain ⟨fn, tmps, assign, body, hy, hR⟩ := hY (ps.map (·.2)) x _ hJ3 (by simp; omega)
      have hsz2 : W.heap.size < w2.heap.size := by omega
      clear hs2 hJ3 hJ2
      gi_wp2
      refine hR.mono ?_
      rintro e W3 (⟨rfl, hJ4, hk3⟩ | ⟨rfl, hJx3⟩)
      · have hrg4 := hrg3.walks hk3
        have hsz3 := hk3.size
        simp at hsz3
        gi_wp2
        go_roundw
        case rel => exact ⟨ps ++ [(k, x)], hrg4, by simpa using hJ4, by omega⟩
        case measure => rw [hrg4.left, hrg.left]; simp; omega
      · gi_wp2
        refine bodyPost_ret (results_none rfl _ _ _) rfl ?_
        exact ⟨⟨_, rfl⟩, .inr ⟨ps.map (·.2) ++ [x], trivial, hJx3⟩⟩

theorem values_stops (F : Fence) (n : Nat) (h7 : F.fn 111) (hro : F.round = none) (hn : 1 ≤ n) (Bm b : Nat) (L : List (Int × Ent)) (w : World) (hBm : Bm < w.heap.size)
    (hm : w.cell? ⟨Bm, 0, none⟩ = some (.map (some b))) (hM : MapE w b L) :
    SeqStopsK F n Tryz.prog 111 #[.pointer (some ⟨Bm, 0, none⟩)] (fun x : Ent => #[Ent.val x]) KeepsWalks (fun xs => ∃ ps : List (Int × Ent), ps.Perm L ∧ xs = ps.map (·.2)) (fun _ => True) L.length w := fun l J Jx W hW hJ _ hY h0 =>
  values1_in F n h7 hro hn l Bm b L J Jx hY W hJ ((hW.cell (p := ⟨Bm, 0, none⟩) hBm).trans hm) (hM.fr (Fr.of_below hW fun _ => False) (fun h => h)) h0

end Go.Proofs.YtpdckdfnpehliaaGreat
