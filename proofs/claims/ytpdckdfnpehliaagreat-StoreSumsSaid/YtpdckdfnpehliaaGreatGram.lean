/- Walks of layer 9: gram, writing. -/
import Derived.Test.YtpdckdfnpehliaaGreatRec4
import Derived.Test.YtpdckdfnpehliaaGreatGramSpec
set_option linter.unusedVariables false
set_option linter.unusedSimpArgs false

namespace Go.Proofs.YtpdckdfnpehliaaGreat
open Go Go.RowKit Go.Deep Go.Shelf
set_option maxHeartbeats 400000

/-- What a writer hands back. -/
def Outs (x : Except Int (List Int)) (base : Nat) (e : Ending) (w' : World) : Prop :=
  match x with
  | .error e0 => e = .returned (.tuple #[.slice none 0 0, .int .i64 e0])
  | .ok bs => ∃ v1, e = .returned (.tuple #[v1, .int .i64 0]) ∧ OwnB w' base v1 bs

theorem timely_any (t : Int) (w : World) : Calls Tryz.prog 64 #[.int .i64 t] w fun e w' => e = .returned (.bool (timely t)) ∧ w = w' := by
  by_cases h1 : -2305843009213693952 ≤ t
  · by_cases h2 : t ≤ 2305843009213693952
    · have HT : Hid (timely t = true) := by show _ = _; simp [timely, h1, h2]
      go_enter Tryz.func64, Tryz.ntmps64
      go_wp2
      go_ret
      exact ⟨by rw [HT.out]; rfl, rfl⟩
    · have HT : Hid (timely t = false) := by show _ = _; simp [timely, h1, h2]
      go_enter Tryz.func64, Tryz.ntmps64
      go_wp2
      go_ret
      exact ⟨by rw [HT.out]; rfl, rfl⟩
  · have HT : Hid (timely t = false) := by show _ = _; simp [timely, h1]
    go_enter Tryz.func64, Tryz.ntmps64
    go_wp2
    go_ret
    exact ⟨by rw [HT.out]; rfl, rfl⟩

abbrev Gram.val (g : Gram) (v : Value) : Value := .agg #[.int .i64 g.tick, .int .i64 g.time, .int .i64 g.base, v]
abbrev Gram.cells (g : Gram) (v : Value) : Array Value := #[.int .i64 g.tick, .int .i64 g.time, .int .i64 g.base, v]

def putAll (l : List Int) : List Int := l.flatMap put
theorem putAll_succ (l : List Int) (i : Nat) (h : i < l.length) : putAll (l.take (i + 1)) = putAll (l.take i) ++ put l[i] := by
  rw [List.take_succ_eq_append_getElem h]
  simp only [putAll, List.flatMap_append, List.flatMap_cons, List.flatMap_nil, List.append_nil]
theorem putAll_len (l : List Int) : (putAll l).length ≤ 10 * l.length := by
  induction l with
  | nil => simp [putAll]
  | cons x l ih =>
    have h1 : putAll (x :: l) = put x ++ putAll l := rfl
    have h2 := put_len x
    rw [h1, List.length_append, List.length_cons]
    omega

theorem head_no (g : Gram) (A : Option Addr) (n c : Nat) (hn : n = g.recs.length) (hn2 : n ≤ 140737488355328) (e0 : Int) (w : World) (hh : gramHead g = .error e0) :
    Calls Tryz.prog 56 #[g.val (.slice A n c)] w fun e w' => e = .returned (.tuple #[.slice none 0 0, .int .i64 e0]) ∧ Below w.heap.size w w' := by
  have hbl : Below w.heap.size w (w.alloc (.cells (g.cells (.slice A n c)) 45)) := (Below.refl _ _).alloc (Nat.le_refl _) _
  subst hn
  unfold gramHead at hh
  by_cases h1 : g.tick < 0 ∨ g.tick > 4294967295 ∨ timely g.time = false ∨ g.base < -1
  · have HE : Hid (e0 = 3) := by show _ = _; rw [if_pos h1] at hh; injection hh with hh; exact hh.symm
    clear hh
    by_cases a1 : g.tick < 0
    · clear h1
      go_enter Tryz.func56, Tryz.ntmps56
      go_wp2_with (go_at_call 64; refine (timely_any _ _).mono ?_; rintro e w1 ⟨rfl, rfl⟩)
      go_ret2
      exact ⟨by rw [HE.out]; rfl, hbl⟩
    · by_cases a2 : 4294967295 < g.tick
      · clear h1
        go_enter Tryz.func56, Tryz.ntmps56
        go_wp2_with (go_at_call 64; refine (timely_any _ _).mono ?_; rintro e w1 ⟨rfl, rfl⟩)
        go_ret2
        exact ⟨by rw [HE.out]; rfl, hbl⟩
      · by_cases a3 : timely g.time = false
        · clear h1
          go_enter Tryz.func56, Tryz.ntmps56
          go_wp2_with (go_at_call 64; refine (timely_any _ _).mono ?_; rintro e w1 ⟨rfl, rfl⟩)
          go_ret2
          exact ⟨by rw [HE.out]; rfl, hbl⟩
        · have a3 : timely g.time = true := by simpa using a3
          have a4 : g.base < -1 := by
            rcases h1 with h1 | h1 | h1 | h1
            · exact absurd h1 a1
            · exact absurd h1 a2
            · rw [a3] at h1; cases h1
            · exact h1
          clear h1
          go_enter Tryz.func56, Tryz.ntmps56
          go_wp2_with (go_at_call 64; refine (timely_any _ _).mono ?_; rintro e w1 ⟨rfl, rfl⟩)
          go_ret2
          exact ⟨by rw [HE.out]; rfl, hbl⟩
  · rw [if_neg h1] at hh
    have a1 : ¬ g.tick < 0 := fun h => h1 (.inl h)
    have a2 : ¬ 4294967295 < g.tick := fun h => h1 (.inr (.inl h))
    have a3 : timely g.time = true := by
      cases h : timely g.time
      · exact absurd (.inr (.inr (.inl h))) h1
      · rfl
    have a4 : ¬ g.base < -1 := fun h => h1 (.inr (.inr (.inr h)))
    clear h1
    by_cases a5 : g.tick ≤ g.base
    · have HE : Hid (e0 = 10) := by show _ = _; rw [if_pos a5] at hh; injection hh with hh; exact hh.symm
      clear hh
      go_enter Tryz.func56, Tryz.ntmps56
      go_wp2_with (go_at_call 64; refine (timely_any _ _).mono ?_; rintro e w1 ⟨rfl, rfl⟩)
      go_ret2
      exact ⟨by rw [HE.out]; rfl, hbl⟩
    · rw [if_neg a5] at hh
      by_cases a6 : 128 < g.recs.length
      · have HE : Hid (e0 = 8) := by show _ = _; rw [if_pos a6] at hh; injection hh with hh; exact hh.symm
        have a7 : (128 : Int) < (g.recs.length : Int) := by omega
        clear hh
        go_enter Tryz.func56, Tryz.ntmps56
        go_wp2_with (go_at_call 64; refine (timely_any _ _).mono ?_; rintro e w1 ⟨rfl, rfl⟩)
        go_ret2
        exact ⟨by rw [HE.out]; rfl, hbl⟩
      · rw [if_neg (by omega)] at hh; cases hh

set_option maxRecDepth 100000 in
theorem head_ok (g : Gram) (A : Option Addr) (n c : Nat) (hn : n = g.recs.length) (w : World) (hs : List Int) (hh : gramHead g = .ok hs) :
    Calls Tryz.prog 56 #[g.val (.slice A n c)] w fun e w' => (∃ v1, e = .returned (.tuple #[v1, .int .i64 0]) ∧ OwnB w' w.heap.size v1 hs) ∧ Below w.heap.size w w' := by
  subst hn
  obtain ⟨⟨b1, b2, b3, b4, b5, b6⟩, HH⟩ := gramHead_ok hh
  have a1 : ¬ g.tick < 0 := by omega
  have a2 : ¬ 4294967295 < g.tick := by omega
  have a4 : ¬ g.base < -1 := by omega
  have a5 : ¬ g.tick ≤ g.base := by omega
  have a6 : ¬ (128 : Int) < (g.recs.length : Int) := by omega
  have hti := timely_range b3
  have hz := zig_range g.time (by omega) (by omega)
  have hHH : Hid (∀ x4, g.ago = x4 → hs = [71, 1] ++ putAll [g.tick, zig g.time, x4, g.recs.length]) := by
    show ∀ _, _
    intro x4 h4; subst h4; rw [HH]; simp [putAll]
  clear HH hh
  have hago : Hid (g.ago = if g.base ≥ 0 then g.tick - g.base else 0) := rfl
  have hbl : Below w.heap.size w (w.alloc (.cells (g.cells (.slice A g.recs.length c)) 45)) := (Below.refl _ _).alloc (Nat.le_refl _) _
  have u1 : IntKind.u64.wrap g.tick = g.tick := by rw [IntKind.wrap_u64]; omega
  have u2 : IntKind.u64.wrap (g.recs.length : Int) = g.recs.length := by rw [IntKind.wrap_u64]; omega
  have u3 : IntKind.i64.wrap (g.tick - g.base) = g.tick - g.base := by rw [IntKind.wrap_i64]; omega
  have u4 : IntKind.u64.wrap (g.tick - g.base) = g.tick - g.base := by rw [IntKind.wrap_u64]; omega
  have hzg := zig_any g.time
  obtain ⟨ls, hls⟩ : ∃ ls : List Int, Hid (ls = [g.tick, zig g.time, (if g.base ≥ 0 then g.tick - g.base else 0), (g.recs.length : Int)]) := ⟨_, rfl⟩
  have hlr : Hid (∀ n ∈ ls, 0 ≤ n ∧ n ≤ 18446744073709551615) := by
    show ∀ n ∈ ls, _
    rw [hls.out]
    intro n hn
    simp only [List.mem_cons, List.not_mem_nil, or_false] at hn
    rcases hn with rfl | rfl | rfl | rfl
    · omega
    · omega
    · split <;> omega
    · omega
  have hll : ls.length = 4 := by rw [hls.out]; rfl
  have hHH2 : Hid (hs = [71, 1] ++ putAll ls) := by show _ = _; rw [hls.out]; exact hHH.out _ hago.out
  clear hHH hago
  by_cases a7 : 0 ≤ g.base
  all_goals
    have hls2 := hls.out
    first
    | rw [if_pos (show g.base ≥ 0 from a7)] at hls2
    | rw [if_neg (show ¬ g.base ≥ 0 from a7)] at hls2
    have hls3 := congrArg (fun l => (nums .u64 l).toArray) hls2
    have HL := Lib.hid hls3
    clear hls2 hls3 hls
    go_enter Tryz.func56, Tryz.ntmps56
    go_wp2_with (go_at_call 64; refine (timely_any _ _).mono ?_; rintro e w1 ⟨rfl, rfl⟩)
    go_region_held3 (fun w' => w'.cell? ⟨w.heap.size, 0, none⟩ = some (.int .i64 g.tick) ∧ w'.cell? ⟨w.heap.size, 1, none⟩ = some (.int .i64 g.time) ∧ w'.cell? ⟨w.heap.size, 3, none⟩ = some (.slice A g.recs.length c))
      (first | go_keep | exact ⟨hk0, hk1, hk3⟩)
      (first | (go_at_call 84; refine (hzg _ (by omega) (by omega)).mono ?_; rintro e w2 ⟨rfl, rfl⟩))
    go_wp2
    go_loopw [5, 62] (fun x t wr => ∃ i : Nat, i ≤ 4 ∧ t = .int .i64 i ∧ OwnB wr w.heap.size x ([71, 1] ++ putAll (ls.take i)) ∧ Below w.heap.size w wr ∧ wr.heap[w.heap.size + 2]? = some (.cells (nums .u64 ls).toArray 125 (0, 0)) ∧ x.ownBlock ≠ some (w.heap.size + 2)) (fun _ t _ => 4 - (intOf t).toNat)
    case atStart =>
      refine ⟨0, by omega, rfl, ?_, ?_, ?_, ?_⟩
      · simp only [List.take_zero, putAll, List.flatMap_nil, List.append_nil]
        exact own_blk (cs := nums .u8 [71, 1]) (heap_oldD (heap_new (by simp))) (by omega) (by decide) rfl
      · exact (below_alloc (below_alloc hbl (Nat.le_refl _) _) (Nat.le_refl _) _).drew
      · rw [HL.out]; exact heap_newD (by simp)
      · simp [Value.ownBlock]
    case round =>
      obtain ⟨i, hi, rfl, hown, hB, hblk, hne⟩ := hrel
      by_cases h4 : i < 4
      · have hlen : i < ls.length := by omega
        have hcell : wr.cell? ⟨w.heap.size + 2, i, none⟩ = some (.int .u64 ls[i]) := (blk hblk i).trans (by simp [nums, hlen])
        have hlr2 := hlr.out ls[i] (List.getElem_mem _)
        have HS := Lib.hid (putAll_succ ls i hlen)
        have hlb := putAll_len (ls.take i)
        have hl2 : (ls.take i).length ≤ 4 := by simp; omega
        generalize ls[i] = n at *
        have hpl := put_len n
        have hblt := heap_lt hblk
        have hL : ([71, 1] ++ putAll (ls.take i)).length ≤ 42 := by simp; omega
        generalize hbz : ([71, 1] ++ putAll (ls.take i)) = bz at *
        have HBZ := Lib.hid hbz
        clear hbz hlb hl2 hlen
        obtain ⟨A2, c2, rfl, hc3, hc4⟩ := own_form hown
        go_wp2_with (first
          | (go_at_call 85; refine (put_any n _ hlr2.1 hlr2.2).mono ?_; rintro e w2 ⟨rfl, rfl⟩)
          | (at_builtin; refine app_row w.heap.size rfl (.tmp 66) (.tmp 68) 30 5 (.int .u8 0) 1 1 rfl Tryz.underlying30 infoB rfl (by decide) (by decide) _ _ bz.length (put n).length (nums .u8 bz) _ rfl rfl (hown.alloc _) (Src.of_block (heap_alloc_new _ _) (by simp [nums]) ?_) ?_ ?_ ?_; (simp [nums]; intros; rfl); (simp; omega); omega; intro v3 w3 hown3 hg3 hat3))
        refine ⟨⟨i + 1, by omega, by go_num, ?_, (below_alloc hB (Nat.le_refl _) _).grown hg3 (by simp; omega) (fun k hk => (hown.lt k hk).1), ?_, ?_⟩, by simp [intOf]; omega⟩
        · rw [HS.out, ← List.append_assoc, HBZ.out]
          show World.ownsRow _ _ _ _ _ (bz ++ put n).length _
          rw [List.length_append, nums_append]
          exact hown3
        · rw [hg3.block _ (by simp; omega) hne.symm]; exact heap_old hblk
        · rcases hat3 with h | h
          · rw [h]; exact hne
          · rw [h]; intro h5; injection h5 with h5; simp at h5; omega
      · have h4 : i = 4 := by omega
        subst h4
        rw [List.take_of_length_le (by omega), ← hHH2.out] at hown
        go_wp2
        go_ret2
        exact ⟨⟨_, rfl, hown⟩, hB⟩

theorem head_any (g : Gram) (v : Value) (F : Nat → Prop) (w : World) (h : Sl Ty.recd w F v g.recs) :
    Calls Tryz.prog 56 #[g.val v] w fun e w' => Outs (gramHead g) w.heap.size e w' ∧ Below w.heap.size w w' := by
  obtain ⟨A, c, rfl, h1, h2, h3, h4⟩ := h
  cases hh : gramHead g with
  | error e0 => exact head_no g A _ c rfl h3 e0 w hh
  | ok hs => exact head_ok g A _ c rfl w hs hh

end Go.Proofs.YtpdckdfnpehliaaGreat
