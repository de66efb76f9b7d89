/- What is read off bytes is of the machine's kinds: the plain law.
   Layer 12: the closure of snap.
   Layer 12: what stands while a store looks at bytes. -/
import Derived.Test.YtpdckdfnpehliaaGreatGramRSpec
import Derived.Test.YtpdckdfnpehliaaGreatApSpec
import Derived.Test.YtpdckdfnpehliaaGreatSt3
set_option linter.unusedVariables false
set_option linter.unusedSimpArgs false

namespace Go.Proofs.YtpdckdfnpehliaaGreat

structure RdS.Ok (s : RdS) : Prop where
  b : isB s.rest
  e : 0 ≤ s.err ∧ s.err ≤ 17
theorem RdS.Ok.fail {s : RdS} (h : s.Ok) {e : Int} (h0 : 0 ≤ e ∧ e ≤ 17) : (s.fail e).Ok := by
  unfold RdS.fail; split
  · exact ⟨h.b, h0⟩
  · exact h
theorem RdS.Ok.byte {s : RdS} (h : s.Ok) : (rdByte s).2.Ok := by
  unfold rdByte
  split
  · exact h
  · split
    · exact ⟨h.b, by simp⟩
    · rename_i c r e
      exact ⟨fun x hx => h.b x (by rw [e]; simp [hx]), h.e⟩
theorem RdS.Ok.uint {s : RdS} (h : s.Ok) (most : Int) : (rdUint most s).2.Ok := by
  have hg := get_ok s.rest h.b
  unfold rdUint
  split
  · exact h
  · split
    · exact ⟨h.b, by simp⟩
    · split
      · exact ⟨h.b, by simp only; omega⟩
      · split
        · exact ⟨h.b, by simp⟩
        · exact ⟨h.b.drop _, h.e⟩
theorem RdS.Ok.int {s : RdS} (h : s.Ok) : (rdInt s).2.Ok := h.uint _
theorem rdInt_i64 {s : RdS} (h : s.Ok) : i64 (rdInt s).1 := by
  have := rdUint_range 18446744073709551615 s h.b (by omega)
  exact zag_range _ this.1 this.2.2
theorem RdS.Ok.vec {s : RdS} (h : s.Ok) : (rdVec s).2.Ok := h.int.int.int
theorem rdVec_i64 {s : RdS} (h : s.Ok) : i64 (rdVec s).1.1 ∧ i64 (rdVec s).1.2.1 ∧ i64 (rdVec s).1.2.2 := ⟨rdInt_i64 h, rdInt_i64 h.int, rdInt_i64 h.int.int⟩
theorem rdAll_ok {r : Rec} {s : RdS} (hr : r.wf) (h : s.Ok) : (rdAll r s).1.wf ∧ (rdAll r s).2.Ok := by
  obtain ⟨a1, a2, a3⟩ := rdVec_i64 h
  obtain ⟨b1, b2, b3⟩ := rdVec_i64 h.vec
  have := rdUint_range 65535 (rdVec (rdVec s).2).2 h.vec.vec.b (by omega)
  exact ⟨⟨hr.kind, hr.id, a1, a2, a3, b1, b2, b3, this.1, this.2.1⟩, h.vec.vec.uint _⟩
theorem rdOne_ok {t : Bool} {old : Int} {s : RdS} (hr : i64 old) (h : s.Ok) : i64 (rdOne t old s).1 ∧ (rdOne t old s).2.Ok := by
  unfold rdOne
  cases t
  · exact ⟨hr, h⟩
  · refine ⟨rdInt_i64 h, ?_⟩
    simp only [if_true]
    split
    · exact h.int.fail (by omega)
    · exact h.int
theorem rdSome_ok {r : Rec} {s : RdS} (hr : r.wf) (h : s.Ok) : (rdSome r s).1.wf ∧ (rdSome r s).2.Ok := by
  unfold rdSome
  simp only
  split
  · exact ⟨hr, h.byte.fail (by omega)⟩
  · generalize (rdByte s).1 = m
    have ha := rdOne_ok (t := m / 1 % 2 == 1) hr.p0 h.byte
    have hb := rdOne_ok (t := m / 2 % 2 == 1) hr.p1 ha.2
    have hc := rdOne_ok (t := m / 4 % 2 == 1) hr.p2 hb.2
    have hd := rdOne_ok (t := m / 8 % 2 == 1) hr.v0 hc.2
    have he := rdOne_ok (t := m / 16 % 2 == 1) hr.v1 hd.2
    have hf := rdOne_ok (t := m / 32 % 2 == 1) hr.v2 he.2
    split
    · have := rdUint_range 65535 _ hf.2.b (by omega)
      refine ⟨⟨hr.kind, hr.id, ha.1, hb.1, hc.1, hd.1, he.1, hf.1, this.1, this.2.1⟩, ?_⟩
      simp only
      split
      · exact (hf.2.uint _).fail (by omega)
      · exact hf.2.uint _
    · exact ⟨⟨hr.kind, hr.id, ha.1, hb.1, hc.1, hd.1, he.1, hf.1, hr.angle⟩, hf.2⟩
theorem i64_zero : i64 0 := by unfold i64; omega
theorem Rec.zero_wf : Rec.zero.wf := ⟨i64_zero, i64_zero, i64_zero, i64_zero, i64_zero, i64_zero, i64_zero, i64_zero, ⟨Int.le_refl 0, by decide⟩⟩
theorem recRead_ok {last : Int} {s : RdS} (h : s.Ok) : (recRead last s).1.1.wf ∧ (recRead last s).2.Ok := by
  unfold recRead
  split
  · exact ⟨Rec.zero_wf, h⟩
  · split
    · exact ⟨Rec.zero_wf, h.fail (by omega)⟩
    · rename_i h1 h2
      simp only
      have hu := rdUint_range (65534 - last) s h.b (by omega)
      have ho := h.uint (65534 - last)
      have hb := rdByte_range (rdUint (65534 - last) s).2 ho.b
      have hob := ho.byte
      generalize rdUint (65534 - last) s = a at *
      generalize rdByte a.2 = b at *
      have hz : i64 0 := by unfold i64; omega
      have hr : (⟨b.1, last + 1 + a.1, 0, 0, 0, 0, 0, 0, 0⟩ : Rec).wf := ⟨by unfold i64; simp only; omega, by unfold i64; simp only; omega, hz, hz, hz, hz, hz, hz, by simp⟩
      have hq : ∀ q : Rec × RdS, q = (if b.1 = 0 ∨ b.1 = 3 then rdAll ⟨b.1, last + 1 + a.1, 0, 0, 0, 0, 0, 0, 0⟩ b.2 else if b.1 = 1 then rdSome ⟨b.1, last + 1 + a.1, 0, 0, 0, 0, 0, 0, 0⟩ b.2 else if b.1 = 2 then (⟨b.1, last + 1 + a.1, 0, 0, 0, 0, 0, 0, 0⟩, b.2) else (⟨b.1, last + 1 + a.1, 0, 0, 0, 0, 0, 0, 0⟩, b.2.fail 11)) → q.1.wf ∧ q.2.Ok := by
        rintro q rfl
        split
        · exact rdAll_ok hr hob
        · split
          · exact rdSome_ok hr hob
          · split
            · exact ⟨hr, hob⟩
            · exact ⟨hr, hob.fail (by omega)⟩
      obtain ⟨q, hqe⟩ : ∃ q : Rec × RdS, q = (if b.1 = 0 ∨ b.1 = 3 then rdAll ⟨b.1, last + 1 + a.1, 0, 0, 0, 0, 0, 0, 0⟩ b.2 else if b.1 = 1 then rdSome ⟨b.1, last + 1 + a.1, 0, 0, 0, 0, 0, 0, 0⟩ b.2 else if b.1 = 2 then (⟨b.1, last + 1 + a.1, 0, 0, 0, 0, 0, 0, 0⟩, b.2) else (⟨b.1, last + 1 + a.1, 0, 0, 0, 0, 0, 0, 0⟩, b.2.fail 11)) := ⟨_, rfl⟩
      have h9 := hq q hqe
      rw [← hqe]
      split
      · exact ⟨Rec.zero_wf, h9.2⟩
      · exact h9
structure RdOk (q : Gram × RdS) : Prop where
  g : q.1.wf
  s : q.2.Ok
theorem rdLoop_ok (n : Nat) : ∀ {last : Int} {g : Gram} {s : RdS}, g.wf → s.Ok → RdOk (rdLoop n last g s) := by
  induction n with
  | zero => intro last g s hg hs; exact ⟨hg, hs⟩
  | succ n ih =>
    intro last g s hg hs
    have h1 := recRead_ok (last := last) hs
    unfold rdLoop
    split
    · exact ⟨hg, h1.2⟩
    · refine ih ⟨hg.tick, hg.time, hg.base, fun r hr => ?_⟩ h1.2
      rcases List.mem_append.1 hr with hr | hr
      · exact hg.recs r hr
      · rw [List.mem_singleton.1 hr]; exact h1.1
theorem rdMust_ok {c : Int} {s : RdS} (h : s.Ok) : (rdMust c s).Ok := by
  unfold rdMust
  split
  · exact h.byte.fail (by omega)
  · exact h.byte
theorem rdWhen_ok {g : Gram} {s : RdS} (hg : g.wf) (hs : s.Ok) : RdOk (rdWhen g s) ∧ 0 ≤ (rdWhen g s).1.tick ∧ (rdWhen g s).1.tick ≤ 4294967295 := by
  have hu := rdUint_range 4294967295 s hs.b (by omega)
  have ho := hs.uint 4294967295
  unfold rdWhen
  refine ⟨⟨⟨?_, rdInt_i64 ho, hg.base, hg.recs⟩, ?_⟩, hu.1, hu.2.1⟩
  · unfold i64; simp only; omega
  · simp only
    split
    · exact ho.int
    · exact ho.int.fail (by omega)
theorem rdBase_ok {g : Gram} {s : RdS} (hg : g.wf) (hs : s.Ok) (h0 : 0 ≤ g.tick) (h1 : g.tick ≤ 4294967295) : RdOk (rdBase g s) := by
  have hu := rdUint_range g.tick s hs.b h0
  unfold rdBase
  refine ⟨⟨hg.tick, hg.time, ?_, hg.recs⟩, hs.uint _⟩
  unfold i64
  simp only
  split <;> omega
theorem rdGram_ok {s : RdS} (hs : s.Ok) : RdOk (rdGram s) := by
  have hz : i64 0 := by unfold i64; omega
  have h1 := rdWhen_ok (g := ⟨0, 0, 0, []⟩) ⟨hz, hz, hz, by simp⟩ (rdMust_ok (c := 1) (rdMust_ok (c := 71) hs))
  have h2 := rdBase_ok h1.1.g h1.1.s h1.2.1 h1.2.2
  exact rdLoop_ok _ h2.g (h2.s.uint 128)
theorem RdS.Ok.done {s : RdS} (h : s.Ok) : 0 ≤ s.done ∧ s.done ≤ 17 := by
  have := h.e
  unfold RdS.done
  split
  · exact this
  · split <;> omega
theorem gramRead_wf {bs : List Int} (h : isB bs) : (gramRead bs).1.wf ∧ 0 ≤ (gramRead bs).2 ∧ (gramRead bs).2 ≤ 17 := by
  have hz : i64 0 := by unfold i64; omega
  have hg : (⟨0, 0, 0, []⟩ : Gram).wf := ⟨hz, hz, hz, by simp⟩
  unfold gramRead
  split
  · exact ⟨hg, by simp⟩
  · split
    · exact ⟨hg, by simp⟩
    · rename_i x hx
      have h1 := rdGram_ok (s := ⟨x, 0⟩) ⟨open_isB h hx, by simp⟩
      have h2 := h1.s.done
      simp only
      split
      · exact ⟨hg, h2⟩
      · exact ⟨h1.g, by simp⟩

theorem recCheck_rng (r : Rec) : 0 ≤ recCheck r ∧ recCheck r ≤ 17 := by unfold recCheck; (repeat' split) <;> omega
theorem gramCheck_rng (g : Gram) : 0 ≤ gramCheck g ∧ gramCheck g ≤ 17 := by
  have hr : ∀ (l : List Rec) (last e : Int), recsWrite last l = .error e → 0 ≤ e ∧ e ≤ 17 := by
    intro l
    induction l with
    | nil => intro last e h; cases h
    | cons r l ih =>
      intro last e h
      unfold recsWrite at h
      split at h
      · next e1 h1 =>
        injection h with h
        subst h
        have := recCheck_rng r
        unfold recWrite at h1
        repeat' split at h1
        all_goals first | (injection h1 with h1; omega) | cases h1
      · next b h1 =>
        split at h
        · next e2 h2 => injection h with h; subst h; exact ih _ _ h2
        · cases h
  unfold gramCheck
  split
  · next e h =>
    unfold gramBody at h
    split at h
    · next e1 h1 =>
      injection h with h
      subst h
      unfold gramHead at h1
      repeat' split at h1
      all_goals first | (injection h1 with h1; omega) | cases h1
    · split at h
      · next e2 h2 => injection h with h; subst h; exact hr _ _ _ h2
      · cases h
  · omega
theorem entsCheck_rng (l : List Ent) : ∀ last, 0 ≤ entsCheck last l ∧ entsCheck last l ≤ 17 := by
  induction l with
  | nil => intro last; simp [entsCheck]
  | cons x l ih => intro last; unfold entsCheck; (repeat' split) <;> first | omega | exact ih _
theorem snapCheck_rng (s : Snap) : 0 ≤ snapCheck s ∧ snapCheck s ≤ 17 := by
  unfold snapCheck; (repeat' split) <;> first | omega | exact entsCheck_rng _ _
theorem snapApply_rng (a : Snap) (g : Gram) : 0 ≤ (snapApply a g).2 ∧ (snapApply a g).2 ≤ 17 := by
  have h1 := gramCheck_rng g
  have h2 := snapCheck_rng a
  unfold snapApply
  repeat' split
  all_goals first | exact h1 | exact h2 | (simp only; omega)

end Go.Proofs.YtpdckdfnpehliaaGreat

namespace Go.Proofs.YtpdckdfnpehliaaGreat
open Go Go.RowKit Go.Deep Go.Shelf
set_option maxHeartbeats 400000

/-- The error that stands, or the new one. -/
def orErr (e : Int) (is : Bool) (why : Int) : Int := if e = 0 ∧ is = true then why else e
theorem orErr_no {e : Int} {is : Bool} {why : Int} (h : e ≠ 0 ∨ is = false) : orErr e is why = e := by unfold orErr; rw [if_neg]; rcases h with h | h <;> simp [h]
theorem orErr_yes {why : Int} : orErr 0 true why = why := rfl
theorem refuse_any (eb : Nat) (is : Bool) (why e0 : Int) (w : World) (h : w.heap[eb]? = some (.cells #[.int .i64 e0] 24 (0, 0))) :
    Calls Tryz.prog 49 #[.bool is, .int .i64 why, .pointer (some ⟨eb, 0, none⟩)] w fun e w' => e = .returned (.tuple #[]) ∧ w'.heap[eb]? = some (.cells #[.int .i64 (orErr e0 is why)] 24 (0, 0)) ∧ Fr (fun k => k = eb) w w' := by
  have c0 : w.cell? ⟨eb, 0, none⟩ = some (.int .i64 e0) := Proofs.YtpdckdfnpehliaaGreat.blk h 0
  have cf : w.frozen? ⟨eb, 0, none⟩ = false := blkF h 0
  by_cases he : e0 = 0
  · subst he
    cases is
    · go_enter Tryz.func49, Tryz.ntmps49
      go_wp2
      go_end0
      exact ⟨rfl, h, Fr.refl _ _⟩
    · go_enter Tryz.func49, Tryz.ntmps49
      go_wp2
      go_end0
      exact ⟨rfl, by rw [blk_set h]; simp [orErr], fr_set _⟩
  · have HE := Lib.hid (orErr_no (is := is) (why := why) (.inl he))
    have hb : (e0 == 0) = false := by simpa using he
    go_enter Tryz.func49, Tryz.ntmps49
    go_wp2
    go_end0
    exact ⟨rfl, by rw [HE.out]; exact h, Fr.refl _ _⟩
end Go.Proofs.YtpdckdfnpehliaaGreat

namespace Go.Proofs.YtpdckdfnpehliaaGreat
open Go Go.RowKit Go.Deep Go.Shelf
set_option maxHeartbeats 400000

def getS (r : Rng) (k : Int) : Snap × Value × Bool := match getL k r.xs with | none => (⟨0, 0, []⟩, .slice none 0 0, false) | some x => (x.s, x.v, true)
theorem rget_any (base rb : Nat) (lv : Value) (r : Rng) (k : Int) (w : World) (h : RgSt w base rb lv r) :
    Calls Tryz.prog 40 #[.pointer (some ⟨rb, 0, none⟩), .int .i64 k] w fun e w' => e = .returned (.tuple #[(getS r k).1.val (getS r k).2.1, .bool (getS r k).2.2]) ∧ Below w.heap.size w w' := by
  unfold getS
  cases hg : getL k r.xs with
  | none => exact get_none base rb lv r k w h hg
  | some x => exact get_some base rb lv r k w x h hg
theorem getS_sl {base rb : Nat} {lv : Value} {r : Rng} {w : World} (h : RgSt w base rb lv r) (k : Int) : Sl Ty.ent w (fun k => k ≠ rb ∧ lv.ownBlock ≠ some k) (getS r k).2.1 (getS r k).1.ents := by
  unfold getS
  cases hg : getL k r.xs with
  | none => exact Sl.nil _ _ _
  | some x => exact h.ents x (List.mem_of_find?_eq_some hg)

theorem rdLoop_len (n : Nat) : ∀ (last : Int) (g : Gram) (s : RdS), (rdLoop n last g s).1.recs.length ≤ g.recs.length + n := by
  induction n with
  | zero => intro last g s; exact Nat.le_refl _
  | succ n ih =>
    intro last g s
    unfold rdLoop
    split
    · simp only; omega
    · refine Nat.le_trans (ih _ _ _) ?_
      simp; omega
theorem gramRead_len {bs : List Int} (h : isB bs) : (gramRead bs).1.recs.length ≤ 128 := by
  unfold gramRead
  split
  · simp
  · split
    · simp
    · rename_i x hx
      have h0 : (⟨x, 0⟩ : RdS).Ok := ⟨open_isB h hx, by simp⟩
      have hz : i64 0 := i64_zero
      have h1 := rdWhen_ok (g := ⟨0, 0, 0, []⟩) ⟨hz, hz, hz, by simp⟩ (rdMust_ok (c := 1) (rdMust_ok (c := 71) h0))
      have h2 := rdBase_ok h1.1.g h1.1.s h1.2.1 h1.2.2
      simp only
      split
      · simp
      · unfold rdGram rdRecords
        simp only
        refine Nat.le_trans (rdLoop_len _ _ _ _) ?_
        have hu := rdUint_range 128 _ h2.s.b (by omega)
        have he : (rdBase (rdWhen ⟨0, 0, 0, []⟩ (rdSigns ⟨x, 0⟩)).1 (rdWhen ⟨0, 0, 0, []⟩ (rdSigns ⟨x, 0⟩)).2).1.recs = [] := rfl
        rw [he]
        unfold rdSigns
        simp only [List.length_nil]
        omega

def snapL (r : Rng) (bs : List Int) : Snap × Int :=
  if (gramRead bs).2 ≠ 0 then (⟨0, 0, []⟩, (gramRead bs).2)
  else
    let g := (gramRead bs).1
    let e1 := orErr 0 (getS r g.tick).2.2 12
    let e2 := orErr e1 (staleB r g.tick) 13
    let e3 := orErr e2 (!(getS r g.base).2.2 && decide (0 ≤ g.base)) 14
    let q := if e3 = 0 then snapApply (getS r g.base).1 g else (⟨0, 0, []⟩, e3)
    (q.1, orErr q.2 (!timelyB r q.1) 16)

structure SnW (w : World) (gb : Nat) (g : Gram) (gv : Value) (x : Snap) (xv : Value) (e : Int) (W : World) : Prop where
  bl : Below w.heap.size w W
  kx : W.heap[w.heap.size]? = some (.cells (x.cells xv) 35 (0, 0))
  ke : W.heap[w.heap.size + 1]? = some (.cells #[.int .i64 e] 24 (0, 0))
  kg : W.heap[gb]? = some (.cells (g.cells gv) 45 (0, 0))
  gn : w.heap.size + 1 < gb
  ox : OwnE W (w.heap.size + 2) xv x.ents
  og : OwnR W (w.heap.size + 2) gv g.recs
  gl : g.recs.length ≤ 128
theorem SnW.below {w : World} {gb : Nat} {g : Gram} {gv : Value} {x : Snap} {xv : Value} {e : Int} {W W' : World} (h : SnW w gb g gv x xv e W) (hb : Below W.heap.size W W') : SnW w gb g gv x xv e W' :=
  ⟨h.bl.trans (hb.mono h.bl.size), below_at hb h.kx (heap_lt h.kx), below_at hb h.ke (heap_lt h.ke), below_at hb h.kg (heap_lt h.kg), h.gn, own_below h.ox hb, own_below h.og hb, h.gl⟩
theorem SnW.refuse {w : World} {gb : Nat} {g : Gram} {gv : Value} {x : Snap} {xv : Value} {e e' : Int} {W W' : World} (h : SnW w gb g gv x xv e W) (hk : W'.heap[w.heap.size + 1]? = some (.cells #[.int .i64 e'] 24 (0, 0))) (hf : Fr (fun k => k = w.heap.size + 1) W W') : SnW w gb g gv x xv e' W' :=
  have gn := h.gn
  ⟨h.bl.trans (hf.to_below h.bl.size (fun i hi e => by omega)), hf.at h.kx (by omega), hk, hf.at h.kg (by omega), h.gn, own_fr h.ox hf (fun k e1 e2 => by have := own_lt h.ox k e1; omega), own_fr h.og hf (fun k e1 e2 => by have := own_lt h.og k e1; omega), h.gl⟩
theorem SnW.sl {w : World} {gb : Nat} {g : Gram} {gv : Value} {x : Snap} {xv : Value} {e : Int} {W : World} (h : SnW w gb g gv x xv e W) : Sl Ty.recd W (fun _ => True) gv g.recs := by
  have hl := h.gl
  exact Sl.of_own (xs := g.recs) (enc := Rec.enc) (hk := fun _ => rfl) h.og (Nat.le_trans hl (by decide)) (fun _ _ => trivial)
theorem SnW.cells {w : World} {gb : Nat} {g : Gram} {gv : Value} {x : Snap} {xv : Value} {e : Int} {W : World} (h : SnW w gb g gv x xv e W) :
    (W.cell? ⟨gb, 0, none⟩ = some (.int .i64 g.tick) ∧ W.cell? ⟨gb, 2, none⟩ = some (.int .i64 g.base)) ∧ W.cell? ⟨w.heap.size + 1, 0, none⟩ = some (.int .i64 e) ∧ W.frozen? ⟨w.heap.size + 1, 0, none⟩ = false ∧ ∀ i, W.frozen? ⟨gb, i, none⟩ = false :=
  ⟨⟨(cells4 h.kg).1, (cells4 h.kg).2.2.1⟩, Proofs.YtpdckdfnpehliaaGreat.blk h.ke 0, blkF h.ke 0, blkF h.kg⟩

end Go.Proofs.YtpdckdfnpehliaaGreat
