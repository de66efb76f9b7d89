/- Walks of layer 8: record, writing. -/
import Derived.Test.YtpdckdfnpehliaaGreatCrc
import Derived.Test.YtpdckdfnpehliaaGreatRd2
import Derived.Test.YtpdckdfnpehliaaGreatRecSpec
import Derived.Test.YtpdckdfnpehliaaGreatOwn
import Derived.StillTailTactics
import Derived.Deep.RegionHeld3
import Derived.Deep.RegionWith
set_option linter.unusedVariables false
set_option linter.unusedSimpArgs false

namespace Go.Proofs.YtpdckdfnpehliaaGreat
open Go Go.RowKit Go.Deep Go.Shelf
set_option maxHeartbeats 400000

def Rec.enc (r : Rec) : List Value := [.int .i64 r.kind, .int .i64 r.id, .int .i64 r.p0, .int .i64 r.p1, .int .i64 r.p2, .int .i64 r.v0, .int .i64 r.v1, .int .i64 r.v2, .int .u16 r.angle]
def Ent.enc (r : Ent) : List Value := [.int .i64 r.id, .int .i64 r.p0, .int .i64 r.p1, .int .i64 r.p2, .int .i64 r.v0, .int .i64 r.v1, .int .i64 r.v2, .int .u16 r.angle, .int .u8 r.gen]
abbrev Rec.val (r : Rec) : Value := .agg #[.int .i64 r.kind, .int .i64 r.id, .int .i64 r.p0, .int .i64 r.p1, .int .i64 r.p2, .int .i64 r.v0, .int .i64 r.v1, .int .i64 r.v2, .int .u16 r.angle]
abbrev Ent.val (r : Ent) : Value := .agg #[.int .i64 r.id, .int .i64 r.p0, .int .i64 r.p1, .int .i64 r.p2, .int .i64 r.v0, .int .i64 r.v1, .int .i64 r.v2, .int .u16 r.angle, .int .u8 r.gen]
abbrev Rec.cells (r : Rec) : Array Value := #[.int .i64 r.kind, .int .i64 r.id, .int .i64 r.p0, .int .i64 r.p1, .int .i64 r.p2, .int .i64 r.v0, .int .i64 r.v1, .int .i64 r.v2, .int .u16 r.angle]
abbrev Ent.cells (r : Ent) : Array Value := #[.int .i64 r.id, .int .i64 r.p0, .int .i64 r.p1, .int .i64 r.p2, .int .i64 r.v0, .int .i64 r.v1, .int .i64 r.v2, .int .u16 r.angle, .int .u8 r.gen]
def Ty.recd : Ty Rec := Ty.flat 9 Rec.enc (fun _ => rfl)
def Ty.ent : Ty Ent := Ty.flat 9 Ent.enc (fun _ => rfl)

def ptrs (b : Nat) : Array Value := #[.pointer (some ⟨b, 2, none⟩), .pointer (some ⟨b, 3, none⟩), .pointer (some ⟨b, 4, none⟩), .pointer (some ⟨b, 5, none⟩), .pointer (some ⟨b, 6, none⟩), .pointer (some ⟨b, 7, none⟩)]

set_option maxRecDepth 100000 in
theorem numbers_any (b : Nat) (w : World) :
    Calls Tryz.prog 105 #[.pointer (some ⟨b, 0, none⟩)] w fun e w' => e = .returned (.agg (ptrs b)) ∧ ∃ n, w' = (w.alloc (.cells (ptrs b) 181)).drewN n := by
  go_enter Tryz.func105, Tryz.ntmps105
  go_wp2
  go_still_tail 25, (by kernel_rfl)
  change wpList _ _ _ _ _ (World.drew (w.alloc _))
  go_wp2
  refine bodyPost_ret (v := .agg (ptrs b)) (by simp [results, Tryz.results105, go_sem]; rfl) rfl ⟨rfl, 1, rfl⟩

theorem number_any (base : Nat) (v : Value) (bs : List Int) (n : Int) (w : World) (HO : OwnB w base v bs) (hbase : base ≤ w.heap.size) (hl : bs.length ≤ 70368744177664) (hn : i64 n) :
    Calls Tryz.prog 143 #[v, .int .i64 n] w fun e w' => ∃ v1, e = .returned v1 ∧ OwnB w' base v1 (bs ++ put (zig n)) ∧ FrV v w w' ∧ Grow w v v1 := by
  have hz := zig_range n hn.1 hn.2
  have hp := put_len (zig n)
  have HA : Hid (nums .u8 (bs ++ put (zig n)) = nums .u8 bs ++ nums .u8 (put (zig n))) := nums_append _ _ _
  obtain ⟨A, c, rfl, hc1, hc2⟩ := own_form HO
  obtain ⟨hn1, hn2⟩ := hn
  go_enter Tryz.func143, Tryz.ntmps143
  go_wp2_with (first
    | (go_at_call 84; refine (zig_any _ _ hn1 hn2).mono ?_; rintro e w1 ⟨rfl, rfl⟩)
    | (go_at_call 85; refine (put_any _ _ hz.1 (by omega)).mono ?_; rintro e w1 ⟨rfl, rfl⟩)
    | (at_builtin; refine app_row base rfl (.tmp 5) (.tmp 8) 30 5 (.int .u8 0) 1 1 rfl Tryz.underlying30 infoB rfl (by decide) (by decide) _ _ bs.length (put (zig n)).length (nums .u8 bs) _ rfl rfl (HO.alloc _) (Src.of_block (heap_alloc_new _ _) (by simp [nums]) ?_) ?_ ?_ ?_; (simp [nums]; intros; rfl); (simp; omega); omega; intro v3 w3 hown3 hg3 hat3))
  go_ret
  have h1 : FrV (.slice A bs.length c) w (w.alloc (.cells (nums .u8 (put (zig n))).toArray 5)) := (Fr.refl _ _).alloc _
  refine ⟨_, rfl, ?_, h1.grown (Grow.refl _ _) hg3, (Grow.refl w _).of_app (w1 := w.alloc (.cells (nums .u8 (put (zig n))).toArray 5)) (by simp) hat3⟩
  show World.ownsRow _ _ _ _ _ (bs ++ put (zig n)).length _
  rw [HA.out, List.length_append]
  exact hown3

theorem idx6 (b i : Nat) (hi : i < 6) (W : World) : (Instr.index 181 (.agg (ptrs b)) (.int .i64 i)).run Tryz.prog W = .ok (.pointer (some ⟨b, 2 + i, none⟩)) W := by
  obtain rfl | rfl | rfl | rfl | rfl | rfl : i = 0 ∨ i = 1 ∨ i = 2 ∨ i = 3 ∨ i = 4 ∨ i = 5 := by omega
  all_goals kernel_rfl
theorem Rec.cell (r : Rec) (i : Nat) (hi : i < 6) : r.cells[2 + i]? = some (.int .i64 (r.ns[i]'(by simpa [Rec.ns] using hi))) := by
  obtain rfl | rfl | rfl | rfl | rfl | rfl : i = 0 ∨ i = 1 ∨ i = 2 ∨ i = 3 ∨ i = 4 ∨ i = 5 := by omega
  all_goals rfl
theorem nsBytes_succ (l : List Int) (i : Nat) (h : i < l.length) : nsBytes (l.take (i + 1)) = nsBytes (l.take i) ++ put (zig l[i]) := by
  rw [List.take_succ_eq_append_getElem h]
  simp only [nsBytes, List.flatMap_append, List.flatMap_cons, List.flatMap_nil, List.append_nil]

theorem writeAll_any (base rb : Nat) (v : Value) (bs : List Int) (r : Rec) (w : World) (HO : OwnB w base v bs) (hbase : base ≤ w.heap.size) (hl : bs.length ≤ 35184372088832) (hr : r.wf)
    (hb : w.heap[rb]? = some (.cells r.cells 115 (0, 0))) (hne : v.ownBlock ≠ some rb) :
    Calls Tryz.prog 116 #[v, .pointer (some ⟨rb, 0, none⟩)] w fun e w' => ∃ v1, e = .returned v1 ∧ OwnB w' base v1 (bs ++ recAll r) ∧ FrV v w w' ∧ Grow w v v1 := by
  have hlt := heap_lt hb
  obtain ⟨A, c, rfl, hc1, hc2⟩ := own_form HO
  go_enter Tryz.func116, Tryz.ntmps116
  go_wp2_with (go_at_call 105; refine (numbers_any rb _).mono ?_; rintro e w1 ⟨rfl, q, rfl⟩)
  go_loopw [0, 9] (fun x t wr => ∃ i : Nat, i ≤ 6 ∧ t = .int .i64 i ∧ OwnB wr base x (bs ++ nsBytes (r.ns.take i)) ∧ FrV (.slice A bs.length c) w wr ∧ Grow w (.slice A bs.length c) x) (fun _ t _ => 6 - (intOf t).toNat)
  case atStart => exact ⟨0, by omega, rfl, by have := HO.alloc (.cells (ptrs rb) 181); simp only [List.take_zero, nsBytes, List.flatMap_nil, List.append_nil]; exact this, ((Fr.refl _ _).alloc _).drewN _, Grow.refl _ _⟩
  case round =>
    obtain ⟨i, hi, rfl, hown, hfr, hgr⟩ := hrel
    by_cases h6 : i < 6
    · have hix := idx6 rb i h6
      have hcell := (blk (hfr.at hb (by simpa using hne)) (2 + i)).trans (r.cell i h6)
      have hlen : i < r.ns.length := by simpa [Rec.ns] using h6
      have hns := Rec.ns_wf hr r.ns[i] (List.getElem_mem _)
      have HS := Lib.hid (nsBytes_succ r.ns i hlen)
      have hlb := nsBytes_len (r.ns.take i)
      have hl2 : (r.ns.take i).length ≤ 6 := by simp; omega
      generalize r.ns[i] = n at *
      have hnum := number_any base _ _ n _ hown (Nat.le_trans hbase hfr.size) (by simp; omega) hns
      clear hlb hl2 hlen
      go_wp2_with (go_at_call 143; refine hnum.mono ?_; rintro e w2 ⟨v2, rfl, ho2, hf2, hg2⟩)
      refine ⟨⟨i + 1, by omega, by go_num, ?_, hfr.step hgr hf2, hgr.trans hg2 hfr.size⟩, by simp [intOf]; omega⟩
      rw [HS.out, ← List.append_assoc]
      exact ho2
    · have h6 : i = 6 := by omega
      subst h6
      have hcell := blk (hfr.at hb (by simpa using hne)) 8
      simp only [List.getElem?_toArray, List.getElem?_cons_succ, List.getElem?_cons_zero] at hcell
      have hang := hr.angle
      have hp := put_len r.angle
      have HA : Hid (nums .u8 (bs ++ recAll r) = nums .u8 (bs ++ nsBytes (r.ns.take 6)) ++ nums .u8 (put r.angle)) := by
        show _ = _
        rw [← nums_append]
        unfold recAll
        rw [List.append_assoc]
        rfl
      have hlb := nsBytes_len (r.ns.take 6)
      have hl6 : (r.ns.take 6).length = 6 := rfl
      have HLN : Hid ((bs ++ recAll r).length = (bs ++ nsBytes (r.ns.take 6)).length + (put r.angle).length) := by
        show _ = _
        rw [← List.length_append]; unfold recAll; rw [List.append_assoc]; rfl
      have hlz : (bs ++ nsBytes (r.ns.take 6)).length ≤ bs.length + 60 := by rw [List.length_append]; omega
      generalize bs ++ nsBytes (r.ns.take 6) = bz at *
      obtain ⟨A2, c2, rfl, hc3, hc4⟩ := own_form hown
      go_wp2_with (first
        | (go_at_call 85; refine (put_any _ _ hang.1 (by omega)).mono ?_; rintro e w1 ⟨rfl, rfl⟩)
        | (at_builtin; refine app_row base rfl (.tmp 18) (.tmp 24) 30 5 (.int .u8 0) 1 1 rfl Tryz.underlying30 infoB rfl (by decide) (by decide) _ _ bz.length (put r.angle).length (nums .u8 bz) _ rfl rfl (hown.alloc _) (Src.of_block (heap_alloc_new _ _) (by simp [nums]) ?_) ?_ ?_ ?_; (simp [nums]; intros; rfl); (have := hfr.size; simp; omega); omega; intro v3 w3 hown3 hg3 hat3))
      go_ret
      have h1 : FrV (.slice A bs.length c) w (wr.alloc (.cells (nums .u8 (put r.angle)).toArray 5)) := hfr.alloc _
      refine ⟨_, rfl, ?_, h1.grown hgr hg3, hgr.of_app (w1 := wr.alloc (.cells (nums .u8 (put r.angle)).toArray 5)) (by have := hfr.size; simp; omega) hat3⟩
      show World.ownsRow _ _ _ _ _ (bs ++ recAll r).length _
      rw [HA.out, HLN.out]
      exact hown3

end Go.Proofs.YtpdckdfnpehliaaGreat
