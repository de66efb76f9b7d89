/- Rows of one's own that grow: what has turned, what is new. -/
import Derived.Test.YtpdckdfnpehliaaGreatApp
import Derived.Test.YtpdckdfnpehliaaGreatVarSpec
set_option linter.unusedVariables false
set_option linter.unusedSimpArgs false

namespace Go.Proofs.YtpdckdfnpehliaaGreat
open Go Go.RowKit Go.Deep
set_option maxHeartbeats 400000

/-- The row behind v1 is that behind v, or new since w. -/
def Grow (w : World) (v v1 : Value) : Prop := v1.ownBlock = v.ownBlock ∨ ∃ g, v1.ownBlock = some g ∧ w.heap.size ≤ g
/-- Of what was there nothing has turned but the row behind v. -/
abbrev FrV (v : Value) (w w' : World) : Prop := Fr (fun k => v.ownBlock = some k) w w'

theorem Grow.refl (w : World) (v : Value) : Grow w v v := .inl rfl
theorem Grow.trans {w w1 : World} {v v1 v2 : Value} (h : Grow w v v1) (h2 : Grow w1 v1 v2) (hs : w.heap.size ≤ w1.heap.size) : Grow w v v2 := by
  rcases h2 with h2 | ⟨g, h2, hg⟩
  · rcases h with h | ⟨g, h, hg⟩
    · exact .inl (h2.trans h)
    · exact .inr ⟨g, h2.trans h, hg⟩
  · exact .inr ⟨g, h2, Nat.le_trans hs hg⟩
theorem Grow.mono {w w1 : World} {v v1 : Value} (h : Grow w1 v v1) (hs : w.heap.size ≤ w1.heap.size) : Grow w v v1 := by
  rcases h with h | ⟨g, h, hg⟩
  · exact .inl h
  · exact .inr ⟨g, h, Nat.le_trans hs hg⟩
theorem FrV.step {w w1 w2 : World} {v v1 : Value} (h : FrV v w w1) (hg : Grow w v v1) (h2 : FrV v1 w1 w2) : FrV v w w2 :=
  h.trans' h2 fun i hi e => by
    rcases hg with hg | ⟨g, hg, hgs⟩
    · show v.ownBlock = some i; rw [← hg]; exact e
    · exfalso
      have : v1.ownBlock = some i := e
      rw [hg] at this
      injection this with this
      omega
theorem FrV.grown {w w1 w2 : World} {v v1 : Value} (h : FrV v w w1) (hg : Grow w v v1) (h2 : w1.grownBy w2 v1.ownBlock) : FrV v w w2 :=
  h.step hg ⟨h2.os, h2.tape, h2.output, h2.size, fun i hi e => h2.block i hi (fun e2 => e e2.symm)⟩
theorem FrV.below {w w' : World} {v : Value} (h : FrV v w w') {base : Nat} (hv : ∀ k, v.ownBlock = some k → base ≤ k) (hb : base ≤ w.heap.size) : Below base w w' :=
  h.to_below hb fun i hi e => by have := hv i e; omega
/-- Behind an append: 'hat' of the append's law. -/
theorem Grow.of_app {w w1 : World} {v v1 v2 : Value} (h : Grow w v v1) (hs : w.heap.size ≤ w1.heap.size) (hat : v2.ownBlock = v1.ownBlock ∨ v2.ownBlock = some w1.heap.size) : Grow w v v2 := by
  rcases hat with hat | hat
  · exact h.trans (.inl hat) (Nat.le_refl _)
  · exact .inr ⟨_, hat, hs⟩

/-- An owned row of bytes. -/
abbrev OwnB (w : World) (base : Nat) (v : Value) (bs : List Int) : Prop := w.ownsRow base 5 1 v bs.length (nums .u8 bs)
theorem OwnB.fr {w w' : World} {base : Nat} {v : Value} {bs : List Int} {S : Nat → Prop} (h : OwnB w base v bs) (hf : Fr S w w') (hv : ∀ k, v.ownBlock = some k → ¬ S k) : OwnB w' base v bs := by
  refine ⟨h.1, ?_⟩
  rcases h.2 with hn | ⟨g, cap, cur, rfl, hb, hg, rest⟩
  · exact .inl hn
  · exact .inr ⟨g, cap, cur, rfl, hb, hf.at hg (hv g rfl), rest⟩
theorem own_fr {w w' : World} {base e k n : Nat} {v : Value} {cs : List Value} {S : Nat → Prop} (h : w.ownsRow base e k v n cs) (hf : Fr S w w') (hv : ∀ k, v.ownBlock = some k → ¬ S k) : w'.ownsRow base e k v n cs := by
  refine ⟨h.1, ?_⟩
  rcases h.2 with hn | ⟨g, cap, cur, rfl, hb, hg, rest⟩
  · exact .inl hn
  · exact .inr ⟨g, cap, cur, rfl, hb, hf.at hg (hv g rfl), rest⟩
theorem own_below {w w' : World} {base e k n : Nat} {v : Value} {cs : List Value} (h : w.ownsRow base e k v n cs) (hf : Below w.heap.size w w') : w'.ownsRow base e k v n cs :=
  own_fr h (Fr.of_below hf fun _ => False) fun _ _ h => h
theorem own_base {w : World} {base base' e k n : Nat} {v : Value} {cs : List Value} (h : w.ownsRow base e k v n cs) (hb : base' ≤ base) : w.ownsRow base' e k v n cs := by
  refine ⟨h.1, ?_⟩
  rcases h.2 with hn | ⟨g, cap, cur, rfl, hbb, hg, rest⟩
  · exact .inl hn
  · exact .inr ⟨g, cap, cur, rfl, Nat.le_trans hb hbb, hg, rest⟩

/-- An append within a region that draws its order. -/
theorem step_app {P : Program} {ops : Array Oper} {o : Oper} {a : Act} {K : Act → World → Prop} {Q : Exit → Act → World → Prop} {E : Prop} {W : World} (base : Nat) (hgd : o.guard = none) (s x : Operand) (t e : TypeId) (z : Value) (k bytes : Nat)
    (ho : o.op = .call { callee := .builtin .append, args := #[s, x], argTypes := #[t, t] }) (ht : P.underlying t = some (.slice e))
    (hinfo : (P.info? e).map (fun i => (i.zero, i.size, i.bytes)) = some (some z, k, bytes)) (hz : z.cells.size = k) (hk : 0 < k) (hb0 : 0 < bytes)
    (v sv : Value) (n m : Nat) (cx cy : List Value) (hs : a.eval s = v) (hx : a.eval x = sv)
    (HO : W.ownsRow base e k v n cx) (HS : Src W sv m k cy) (hbase : base ≤ W.heap.size) (hl : (n + m) * bytes ≤ 140737488355328)
    (h : ∀ v1 w1, w1.ownsRow base e k v1 (n + m) (cx ++ cy) → W.grownBy w1 v.ownBlock → (v1.ownBlock = v.ownBlock ∨ v1.ownBlock = some W.heap.size) →
      (∀ w0, Below base w0 W → Below base w0 w1) → K (a.put o.dst v1) w1) :
    if Region.wanted o (yielded ops a.tmps) = true then Oper.wp P o a W K Q else E := by
  have hw : Region.wanted o (yielded ops a.tmps) = true := by simp [Region.wanted, hgd]
  rw [if_pos hw]
  obtain ⟨v1, w1, hr, hown, hg, hat⟩ := app_run (P := P) base t o.type e z k bytes ht hinfo hz hk hb0 v sv n m cx cy HO HS hbase hl
  unfold Oper.wp execOp
  simp only [ho, resolve, invoke, builtin, Sem.run_bind, Sem.run_pure, Result.andThen_ok, List.map_toArray, List.map_cons, List.map_nil, hs, hx, hr]
  exact h v1 w1 hown hg hat fun w0 hb => hb.grown hg hbase fun k hk => (HO.lt k hk).1

theorem heap_new {w : World} {o : Obj} {n : Nat} (h : n = w.heap.size) : (w.alloc o).heap[n]? = some o := by subst h; exact heap_alloc_new w o

theorem heap_newD {w : World} {o : Obj} {n : Nat} (h : n = w.heap.size) : (w.alloc o).drew.heap[n]? = some o := heap_new h
theorem heap_old {w : World} {o o' : Obj} {n : Nat} (h : w.heap[n]? = some o) : (w.alloc o').heap[n]? = some o := (Below.heap_alloc w o' n (heap_lt h)).trans h
theorem heap_oldD {w : World} {o o' : Obj} {n : Nat} (h : w.heap[n]? = some o) : (w.alloc o').drew.heap[n]? = some o := heap_old h
/-- A block known whole is an owned row. -/
theorem own_blk {w : World} {base g e k n : Nat} {cs : List Value} (h : w.heap[g]? = some (.cells cs.toArray e (0, 0))) (hb : base ≤ g) (hn : n ≤ 9223372036854775807) (hl : cs.length = n * k) :
    w.ownsRow base e k (.slice (some ⟨g, 0, none⟩) n n) n cs :=
  ⟨hl, .inr ⟨g, n, cs.toArray, rfl, hb, h, Nat.le_refl _, by simpa [maxLen] using hn, by simpa using hl, by rw [← hl]; simp⟩⟩

theorem below_undrew {B : Nat} {w w' : World} (h : Below B w.drew w') : Below B w w' := ⟨h.os, h.tape, h.output, h.size, h.block⟩
theorem below_undrewN {B : Nat} {w w' : World} {n : Nat} (h : Below B (w.drewN n) w') : Below B w w' := ⟨h.os, h.tape, h.output, h.size, h.block⟩
theorem below_drewN {B : Nat} {a w : World} (h : Below B a w) (n : Nat) : Below B a (w.drewN n) := ⟨h.os, h.tape, h.output, h.size, h.block⟩
theorem fr_undrew {S : Nat → Prop} {w w' : World} (h : Fr S w.drew w') : Fr S w w' := ⟨h.os, h.tape, h.output, h.size, h.block⟩
theorem fr_undrewN {S : Nat → Prop} {w w' : World} {n : Nat} (h : Fr S (w.drewN n) w') : Fr S w w' := ⟨h.os, h.tape, h.output, h.size, h.block⟩

end Go.Proofs.YtpdckdfnpehliaaGreat
