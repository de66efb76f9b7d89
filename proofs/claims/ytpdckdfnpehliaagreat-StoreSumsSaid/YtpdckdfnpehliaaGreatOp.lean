/- A statement's arguments, opened: rows of records, a datagram. -/
import Derived.Test.YtpdckdfnpehliaaGreatGram
import Derived.WalkKit
import Derived.ProofKit
import Derived.OpenShut
import Derived.DataReads
import Derived.Deep.Slices
import Derived.SizedLaws
set_option linter.unusedVariables false
set_option linter.unusedSimpArgs false
namespace Go.Proofs.YtpdckdfnpehliaaGreat
open Go Go.ChangeShapes Go.WideShapes Go.ChangeAt Go.RowKit Go.Deep

section
variable {H : Type} {enc : TypeId × Value → H} {w : World} {base : Nat} {sp : Nat → Bool} {hd : Bool} {fuel : Nat} {cs : List Value} {x : DataW H × List MemPlace}

theorem wf_i64 {n : Int} (h : (Lit.int .i64 n).wf = true) : i64 n := by
  simp only [Lit.wf, Bool.and_eq_true, decide_eq_true_eq] at h
  exact h
theorem trod_i64 {t : TypeId} (ht : Tryz.prog.underlying t = some (.int .i64)) (h : DataW.trod enc Tryz.prog w base sp hd fuel t cs = some x) : ∃ n, cs = [.int .i64 n] ∧ i64 n := by
  obtain ⟨n, e, _, hw⟩ := DataW.trod_int ht h
  exact ⟨n, e, wf_i64 hw⟩
theorem trod_u16 {t : TypeId} (ht : Tryz.prog.underlying t = some (.int .u16)) (h : DataW.trod enc Tryz.prog w base sp hd fuel t cs = some x) : ∃ n, cs = [.int .u16 n] ∧ 0 ≤ n ∧ n ≤ 65535 := by
  obtain ⟨n, e, _, hw⟩ := DataW.trod_int ht h
  simp only [Lit.wf, Bool.and_eq_true, decide_eq_true_eq] at hw
  exact ⟨n, e, hw⟩
theorem trod_vec3 (h : DataW.trod enc Tryz.prog w base sp hd fuel 67 cs = some x) : ∃ a b c, cs = [.int .i64 a, .int .i64 b, .int .i64 c] ∧ i64 a ∧ i64 b ∧ i64 c := by
  obtain ⟨xs, m, _, _, hl, hx, hf⟩ := DataW.trod_array Tryz.underlying67 h
  have c3 : Tryz.prog.cellsOf 67 = 3 := by kernel_rfl
  have c1 : Tryz.prog.cellsOf 2 = 1 := by kernel_rfl
  rw [c3] at hl
  obtain ⟨a, b, c, rfl⟩ : ∃ a b c, cs = [a, b, c] := by
    clear hx hf h
    rcases cs with _ | ⟨a, _ | ⟨b, _ | ⟨c, _ | ⟨d, t⟩⟩⟩⟩ <;> first | exact ⟨a, b, c, rfl⟩ | simp at hl
  have one : ∀ i, i < 3 → ∃ y, DataW.trod enc Tryz.prog w base sp hd m 2 (([a, b, c].drop (i * 1)).take 1) = some y := fun i hi => by
    have := hf i hi
    rw [c1] at this
    rw [this, List.getElem?_eq_getElem (by omega)]
    exact ⟨_, rfl⟩
  obtain ⟨_, h0⟩ := one 0 (by omega)
  obtain ⟨_, h1⟩ := one 1 (by omega)
  obtain ⟨_, h2⟩ := one 2 (by omega)
  obtain ⟨n0, e0, w0⟩ := trod_i64 Tryz.underlying2 h0
  obtain ⟨n1, e1, w1⟩ := trod_i64 Tryz.underlying2 h1
  obtain ⟨n2, e2, w2⟩ := trod_i64 Tryz.underlying2 h2
  simp at e0 e1 e2
  subst e0 e1 e2
  exact ⟨n0, n1, n2, rfl, w0, w1, w2⟩
/-- The fields of a struct that came through. -/
theorem trod_field {t : TypeId} {fs : Array Field} (ht : Tryz.prog.underlying t = some (.struct fs)) (h : DataW.trod enc Tryz.prog w base sp hd fuel t cs = some x) :
    cs.length = Tryz.prog.cellsOf t ∧ ∃ m, ∀ i (hi : i < fs.size), ∃ y, DataW.trod enc Tryz.prog w base sp hd m fs[i].type ((cs.drop fs[i].offset).take (Tryz.prog.cellsOf fs[i].type)) = some y := by
  obtain ⟨xs, m, _, _, hl, hx, hf⟩ := DataW.trod_struct ht h
  refine ⟨hl, m, fun i hi => ?_⟩
  have := hf i fs[i] (Array.getElem?_eq_getElem hi)
  rw [this, List.getElem?_eq_getElem (by omega)]
  exact ⟨_, rfl⟩
theorem trod_rec (h : DataW.trod enc Tryz.prog w base sp hd fuel 115 cs = some x) : ∃ r : Rec, cs = r.enc ∧ r.wf := by
  obtain ⟨hl, m, hf⟩ := trod_field Tryz.underlying115 h
  have c9 : Tryz.prog.cellsOf 115 = 9 := by kernel_rfl
  have c3 : Tryz.prog.cellsOf 67 = 3 := by kernel_rfl
  have c1 : Tryz.prog.cellsOf 3 = 1 := by kernel_rfl
  have cu : Tryz.prog.cellsOf 65 = 1 := by kernel_rfl
  rw [c9] at hl
  obtain ⟨a0, a1, a2, a3, a4, a5, a6, a7, a8, rfl⟩ : ∃ a0 a1 a2 a3 a4 a5 a6 a7 a8, cs = [a0, a1, a2, a3, a4, a5, a6, a7, a8] := by
    clear hf h
    rcases cs with _ | ⟨a0, _ | ⟨a1, _ | ⟨a2, _ | ⟨a3, _ | ⟨a4, _ | ⟨a5, _ | ⟨a6, _ | ⟨a7, _ | ⟨a8, _ | ⟨d, t⟩⟩⟩⟩⟩⟩⟩⟩⟩⟩ <;> first | exact ⟨a0, a1, a2, a3, a4, a5, a6, a7, a8, rfl⟩ | simp at hl
  obtain ⟨_, h0⟩ := hf 0 (by decide)
  obtain ⟨_, h1⟩ := hf 1 (by decide)
  obtain ⟨_, h2⟩ := hf 2 (by decide)
  obtain ⟨_, h3⟩ := hf 3 (by decide)
  obtain ⟨_, h4⟩ := hf 4 (by decide)
  simp only [List.getElem_toArray, List.getElem_cons_zero, List.getElem_cons_succ, c1, c3, cu, List.drop_zero, List.drop_succ_cons, List.take_succ_cons, List.take_zero] at h0 h1 h2 h3 h4
  obtain ⟨n0, e0, w0⟩ := trod_i64 Tryz.underlying3 h0
  obtain ⟨n1, e1, w1⟩ := trod_i64 Tryz.underlying3 h1
  obtain ⟨p0, p1, p2, e2, w2, w3, w4⟩ := trod_vec3 h2
  obtain ⟨v0, v1, v2, e3, w5, w6, w7⟩ := trod_vec3 h3
  obtain ⟨n8, e4, w8⟩ := trod_u16 Tryz.underlying65 h4
  simp only [List.cons.injEq, and_true] at e0 e1 e2 e3 e4
  obtain ⟨rfl, rfl, rfl⟩ := e2
  obtain ⟨rfl, rfl, rfl⟩ := e3
  subst e0 e1 e4
  exact ⟨⟨n0, n1, p0, p1, p2, v0, v1, v2, n8⟩, rfl, ⟨w0, w1, w2, w3, w4, w5, w6, w7, w8⟩⟩
theorem cell_spot {a : Addr} {v : Value} (h : w.cell? a = some v) : a.spot = none ∧ a.block < w.heap.size := by
  unfold World.cell? at h
  split at h
  · next c t f hb =>
    split at h
    · cases h
    · next hs => exact ⟨by simpa using hs, (Array.getElem?_eq_some_iff.1 hb).1⟩
  · cases h
theorem add_two (b off m n : Nat) : ((⟨b, off, none⟩ : Addr).add m).add n = ⟨b, off + m + n, none⟩ := by
  unfold Addr.add
  split <;> split <;> simp_all <;> omega
theorem open_recs {v : Value} (h : DataW.trod enc Tryz.prog w base sp hd fuel 43 [v] = some x) (hl : ∀ el spr, x.1 = .slice el spr → el.length ≤ 140737488355328) :
    ∃ recs : List Rec, Sl Ty.recd w (fun b => b < w.heap.size) v recs ∧ ∀ r ∈ recs, r.wf := by
  have c9 : Tryz.prog.cellsOf 115 = 9 := by kernel_rfl
  rcases open_slice Tryz.underlying43 h with ⟨e, _⟩ | ⟨a, len, cap, m, n, D, Pl, e, hb, hlc, hcm, hm, hx, hel⟩
  · simp only [List.cons.injEq, and_true] at e
    subst e
    exact ⟨[], Sl.nil _ _ _, fun r hr => by cases hr⟩
  · simp only [List.cons.injEq, and_true] at e
    subst e
    rw [c9] at hel
    have hlm : len ≤ m := by rw [hm]; split <;> omega
    have hl2 : len ≤ 140737488355328 := by
      have := hl _ _ (by rw [hx])
      simpa using this
    have each : ∀ j, j < len → ∃ r : Rec, (∀ i, i < 9 → w.cell? ((a.add (j * 9)).add i) = r.enc[i]?) ∧ r.wf := fun j hj => by
      obtain ⟨cs', hc, ht⟩ := hel j (by omega)
      obtain ⟨r, rfl, hw⟩ := trod_rec ht
      obtain ⟨_, _, hcell⟩ := World.cells?_some hc
      exact ⟨r, hcell, hw⟩
    have : Inhabited Rec := ⟨Rec.zero⟩
    obtain ⟨R, hR⟩ := choose_lt each
    have hlen : ((List.range len).map R).length = len := by simp
    refine ⟨(List.range len).map R, ⟨some a, cap, by rw [hlen], by rw [hlen]; exact hlc, hcm, by rw [hlen]; exact hl2, fun hp => ?_⟩, fun r hr => ?_⟩
    · rw [hlen] at hp
      have h00 := (hR 0 hp).1 0 (by omega)
      have h01 : (R 0).enc[0]? = some (.int .i64 (R 0).kind) := rfl
      rw [h01] at h00
      obtain ⟨s1, s2⟩ := cell_spot (show w.cell? a = _ by simpa [Addr.add] using h00)
      obtain ⟨b, off, s⟩ := a
      simp only at s1 s2
      subst s1
      refine ⟨b, off, rfl, s2, s2, fun j hj => ?_⟩
      rw [hlen] at hj
      refine ⟨(R j).enc, by simp [Ty.recd, Ty.flat], fun i hi => ?_⟩
      have h2 := (hR j hj).1 i hi
      rw [add_two] at h2
      show w.cell? ⟨b, off + j * 9 + i, none⟩ = _
      rw [h2, List.getElem?_eq_getElem hi]
    · obtain ⟨j, hj, rfl⟩ := List.mem_map.1 hr
      exact (hR j (List.mem_range.1 hj)).2
set_option maxRecDepth 100000 in
theorem trod_gram (h : DataW.trod enc Tryz.prog w base sp hd fuel 45 cs = some x) : ∃ (tick time bs : Int) (v : Value) (m : Nat) (y : DataW H × List MemPlace) (d0 d1 d2 : DataW H),
    cs = [.int .i64 tick, .int .i64 time, .int .i64 bs, v] ∧ i64 tick ∧ i64 time ∧ i64 bs ∧ DataW.trod enc Tryz.prog w base sp hd m 43 [v] = some y ∧ x.1 = .agg [d0, d1, d2, y.1] := by
  obtain ⟨xs, m, _, hx, hl, hxl, hf⟩ := DataW.trod_struct Tryz.underlying45 h
  have c4 : Tryz.prog.cellsOf 45 = 4 := by kernel_rfl
  have c1 : Tryz.prog.cellsOf 2 = 1 := by kernel_rfl
  have cr : Tryz.prog.cellsOf 43 = 1 := by kernel_rfl
  rw [c4] at hl
  obtain ⟨a0, a1, a2, a3, rfl⟩ : ∃ a0 a1 a2 a3, cs = [a0, a1, a2, a3] := by
    clear hf h
    rcases cs with _ | ⟨a0, _ | ⟨a1, _ | ⟨a2, _ | ⟨a3, _ | ⟨d, t⟩⟩⟩⟩⟩ <;> first | exact ⟨a0, a1, a2, a3, rfl⟩ | simp at hl
  obtain ⟨x0, x1, x2, x3, rfl⟩ : ∃ x0 x1 x2 x3, xs = [x0, x1, x2, x3] := by
    clear hf h hx
    rcases xs with _ | ⟨a0, _ | ⟨a1, _ | ⟨a2, _ | ⟨a3, _ | ⟨d, t⟩⟩⟩⟩⟩ <;> first | exact ⟨a0, a1, a2, a3, rfl⟩ | simp at hxl
  have h0 : DataW.trod enc Tryz.prog w base sp hd m 2 (([a0, a1, a2, a3].drop 0).take (Tryz.prog.cellsOf 2)) = some x0 := hf 0 _ rfl
  have h1 : DataW.trod enc Tryz.prog w base sp hd m 2 (([a0, a1, a2, a3].drop 1).take (Tryz.prog.cellsOf 2)) = some x1 := hf 1 _ rfl
  have h2 : DataW.trod enc Tryz.prog w base sp hd m 2 (([a0, a1, a2, a3].drop 2).take (Tryz.prog.cellsOf 2)) = some x2 := hf 2 _ rfl
  have h3 : DataW.trod enc Tryz.prog w base sp hd m 43 (([a0, a1, a2, a3].drop 3).take (Tryz.prog.cellsOf 43)) = some x3 := hf 3 _ rfl
  simp only [c1, cr, List.drop_zero, List.drop_succ_cons, List.take_succ_cons, List.take_zero] at h0 h1 h2 h3
  obtain ⟨n0, e0, w0⟩ := trod_i64 Tryz.underlying2 h0
  obtain ⟨n1, e1, w1⟩ := trod_i64 Tryz.underlying2 h1
  obtain ⟨n2, e2, w2⟩ := trod_i64 Tryz.underlying2 h2
  simp only [List.cons.injEq, and_true] at e0 e1 e2
  subst e0 e1 e2
  exact ⟨n0, n1, n2, a3, m, x3, x0.1, x1.1, x2.1, rfl, w0, w1, w2, h3, by rw [hx]; rfl⟩
theorem okWide_struct {P : Program} {r : Reach} {b0 : Nat} {t : TypeId} {fs : Array Field} {v0 : Value} (ht : P.underlying t = some (.struct fs)) (h : Value.okWide P w r b0 t v0) : ∃ cs, v0 = .agg cs := by
  unfold Value.okWide at h
  rw [ht] at h
  obtain ⟨cs, e, _⟩ := h
  exact ⟨cs, e⟩
set_option maxRecDepth 100000 in
theorem open_gram {r : Reach} {b0 : Nat} {v0 : Value} {d0 : DataW H} {p0 : List MemPlace} (hval : Value.okWide Tryz.prog w r b0 45 v0) (h : DataW.Trod enc Tryz.prog w base sp hd 45 v0 d0 p0)
    (hsz : ∀ n ∈ d0.weights Tryz.prog 45, n ≤ reachBytes) : ∃ (g : Gram) (gv : Value), v0 = g.val gv ∧ g.wf ∧ Sl Ty.recd w (fun b => b < w.heap.size) gv g.recs := by
  obtain ⟨cs, rfl⟩ := okWide_struct Tryz.underlying45 hval
  obtain ⟨fuel, hf⟩ := h
  obtain ⟨tick, time, bs, v, m, y, e0, e1, e2, hc, w0, w1, w2, hr, hx⟩ := trod_gram hf
  obtain ⟨recs, hS, hw⟩ := open_recs hr (fun el spr e => by
    have hb : Tryz.prog.bytesOf 115 = 72 := by kernel_rfl
    have h1 := hsz ((el.length + spr.length) * Tryz.prog.bytesOf 115) (by
      simp only at hx
      rw [hx, e]
      simp [DataW.weights, DataW.weightsEach, Tryz.underlying45, Tryz.underlying43])
    have h2 := reachBytes_lt
    rw [hb] at h1
    omega)
  have hcs : cs = #[.int .i64 tick, .int .i64 time, .int .i64 bs, v] := by
    have : cs.toList = [.int .i64 tick, .int .i64 time, .int .i64 bs, v] := hc
    rw [← this]
  subst hcs
  exact ⟨⟨tick, time, bs, recs⟩, v, rfl, ⟨w0, w1, w2, hw⟩, hS⟩
end
end Go.Proofs.YtpdckdfnpehliaaGreat
