/- Walks of layer 10: delta.Apply: told by another one. -/
import Derived.Test.YtpdckdfnpehliaaGreatAp2
set_option linter.unusedVariables false
set_option linter.unusedSimpArgs false

namespace Go.Proofs.YtpdckdfnpehliaaGreat
open Go Go.RowKit Go.Deep Go.Shelf
set_option maxHeartbeats 400000

theorem snapCheck_len {a : Snap} (h : snapCheck a = 0) : a.ents.length ≤ 64 := by
  unfold snapCheck at h
  split at h
  · cases h
  · split at h
    · cases h
    · omega

set_option maxRecDepth 100000 in
theorem apply_snap (a : Snap) (g : Gram) (v gv : Value) (F : Nat → Prop) (w : World) (hg : g.wf) (hv : Sl Ty.ent w F v a.ents) (hgv : Sl Ty.recd w F gv g.recs) (hc : gramCheck g = 0) (hb : 0 ≤ g.base) (hs : snapCheck a ≠ 0) :
    Calls Tryz.prog 51 #[a.val v, g.val gv] w (aqOut a g w.heap.size w) := by
  have A0 := AqSt.start w a g v gv
  have hck := gramCheck_any g gv F _ hg (hgv.below A0.bl)
  have hsc := fun W (h : Below w.heap.size w W) => snapCheck_any a v F W (hv.below h)
  have HE : Hid (snapApply a g = (⟨0, 0, []⟩, snapCheck a)) := by show _ = _; unfold snapApply; rw [if_neg (by simp [hc]), if_pos ⟨by omega, hs⟩]
  have hne : (snapCheck a != 0) = true := by simpa using hs
  rw [hc] at hck
  obtain ⟨A, n, c, rfl⟩ : ∃ A n c, v = .slice A n c := by obtain ⟨A, c, e, _⟩ := hv; exact ⟨A, _, c, e⟩
  obtain ⟨A2, n2, c2, rfl⟩ : ∃ A n c, gv = .slice A n c := by obtain ⟨A, c, e, _⟩ := hgv; exact ⟨A, _, c, e⟩
  generalize snapCheck a = q at *
  clear hc hv hgv hs
  go_enter Tryz.func51, Tryz.ntmps51
  go_wp2_with (first
    | (go_at_call 75; refine hck.mono ?_; clear hck; rintro e w1 ⟨rfl, hb1⟩; have A1 := A0.below hb1; have hmk : (Instr.makeMap 99 none).run Tryz.prog w1 = .ok (.map (some w1.heap.size)) (w1.alloc (.map #[] 0)) := run_makeMap _ _; have A2 := A1.below ((Below.refl _ _).alloc (Nat.le_refl _) (.map #[] 0)); obtain ⟨y0, y1, y2, y3, yf⟩ := cells4 A1.k2; obtain ⟨ym0, ym1, ym2, ym3, ymf⟩ := cells4 A2.k2; obtain ⟨x0, x1, x2, xf⟩ := cells3 A2.k1; have hsc2 := hsc _ A2.bl)
    | (go_at_call 17; refine hsc2.mono ?_; clear hsc2; rintro e w2 ⟨rfl, hb2⟩; have A3 := A2.below hb2; obtain ⟨z0, z1, z2, zf⟩ := cells3 A3.k3))
  refine bodyPost_ret (v := .tuple #[snap0, .int .i64 q]) (by simp [results, Tryz.results51, go_sem, z0, z1, z2]) rfl ?_
  unfold aqOut
  rw [HE.out]
  exact ⟨_, rfl, World.ownsRow_nil _ _ _ _, res3 A3.k3 _ _ _ A3.bl (by omega)⟩

set_option maxRecDepth 100000 in
theorem apply_tick (a : Snap) (g : Gram) (v gv : Value) (F : Nat → Prop) (w : World) (hg : g.wf) (hv : Sl Ty.ent w F v a.ents) (hgv : Sl Ty.recd w F gv g.recs) (hc : gramCheck g = 0) (hb : 0 ≤ g.base) (hs : snapCheck a = 0) (ht : a.tick ≠ g.base) :
    Calls Tryz.prog 51 #[a.val v, g.val gv] w (aqOut a g w.heap.size w) := by
  have A0 := AqSt.start w a g v gv
  have hck := gramCheck_any g gv F _ hg (hgv.below A0.bl)
  have hsc := fun W (h : Below w.heap.size w W) => snapCheck_any a v F W (hv.below h)
  have HE : Hid (snapApply a g = (⟨0, 0, []⟩, 14)) := by show _ = _; unfold snapApply; rw [if_neg (by simp [hc]), if_neg (by simp [hs]), if_pos ⟨by omega, ht⟩]
  have hne : (a.tick != g.base) = true := by simpa using ht
  rw [hc] at hck
  rw [hs] at hsc
  obtain ⟨A, n, c, rfl⟩ : ∃ A n c, v = .slice A n c := by obtain ⟨A, c, e, _⟩ := hv; exact ⟨A, _, c, e⟩
  obtain ⟨A2, n2, c2, rfl⟩ : ∃ A n c, gv = .slice A n c := by obtain ⟨A, c, e, _⟩ := hgv; exact ⟨A, _, c, e⟩
  clear hc hv hgv hs ht
  go_enter Tryz.func51, Tryz.ntmps51
  go_wp2_with (first
    | (go_at_call 75; refine hck.mono ?_; clear hck; rintro e w1 ⟨rfl, hb1⟩; have A1 := A0.below hb1; have hmk : (Instr.makeMap 99 none).run Tryz.prog w1 = .ok (.map (some w1.heap.size)) (w1.alloc (.map #[] 0)) := run_makeMap _ _; have A2 := A1.below ((Below.refl _ _).alloc (Nat.le_refl _) (.map #[] 0)); obtain ⟨y0, y1, y2, y3, yf⟩ := cells4 A1.k2; obtain ⟨ym0, ym1, ym2, ym3, ymf⟩ := cells4 A2.k2; obtain ⟨x0, x1, x2, xf⟩ := cells3 A2.k1; have hsc2 := hsc _ A2.bl)
    | (go_at_call 17; refine hsc2.mono ?_; clear hsc2; rintro e w2 ⟨rfl, hb2⟩; have A3 := A2.below hb2; obtain ⟨z0, z1, z2, zf⟩ := cells3 A3.k3; obtain ⟨yn0, yn1, yn2, yn3, ynf⟩ := cells4 A3.k2; obtain ⟨xn0, xn1, xn2, xnf⟩ := cells3 A3.k1))
  refine bodyPost_ret (v := .tuple #[snap0, .int .i64 14]) (by simp [results, Tryz.results51, go_sem, z0, z1, z2]) rfl ?_
  unfold aqOut
  rw [HE.out]
  exact ⟨_, rfl, World.ownsRow_nil _ _ _ _, res3 A3.k3 _ _ _ A3.bl (by omega)⟩

set_option maxRecDepth 100000 in
set_option maxHeartbeats 4000000 in
theorem apply_by (a : Snap) (g : Gram) (v gv : Value) (F : Nat → Prop) (w : World) (hg : g.wf) (hv : Sl Ty.ent w F v a.ents) (hgv : Sl Ty.recd w F gv g.recs) (hc : gramCheck g = 0) (hb : 0 ≤ g.base) (hs : snapCheck a = 0) (ht : a.tick = g.base) :
    Calls Tryz.prog 51 #[a.val v, g.val gv] w (aqOut a g w.heap.size w) := by
  have A0 := AqSt.start w a g v gv
  have hck := gramCheck_any g gv F _ hg (hgv.below A0.bl)
  have hsc := fun W (h : Below w.heap.size w W) => snapCheck_any a v F W (hv.below h)
  have hby := fun W (h : Below w.heap.size w W) => byId_any v F a.ents W (hv.below h)
  have hl64 := snapCheck_len hs
  obtain ⟨_, hrc, hlen⟩ := gramCheck_ok hc
  have HE : Hid (snapApply a g = match applyRecs (byIdL a.ents) g.recs with
    | none => (⟨0, 0, []⟩, 15)
    | some m => if m.length > 64 then (⟨0, 0, []⟩, 4) else (⟨g.tick, g.time, sortE (m.map (·.2))⟩, 0)) := by
    show _ = _; unfold snapApply; rw [if_neg (by simp [hc]), if_neg (by simp [hs]), if_neg (by simp [ht]), if_pos (by omega)]; rfl
  have hne : (a.tick != g.base) = false := by simpa using ht
  have HM0 : MapOk (byIdL a.ents) ∧ (byIdL a.ents).length ≤ 64 := ⟨MapOk.byId _, Nat.le_trans (byIdL_length _) hl64⟩
  rw [hc] at hck
  rw [hs] at hsc
  obtain ⟨A, c, rfl, _, _, _, _⟩ := id hv
  obtain ⟨A2, c2, rfl, hg1, hg2, _, _⟩ := id hgv
  have HRC := Lib.hid hrc
  clear hc hrc hv hs ht
  go_enter Tryz.func51, Tryz.ntmps51
  go_wp2_with (first
    | (go_at_call 75; refine hck.mono ?_; clear hck; rintro e w1 ⟨rfl, hb1⟩; have A1 := A0.below hb1; have hmk : (Instr.makeMap 99 none).run Tryz.prog w1 = .ok (.map (some w1.heap.size)) (w1.alloc (.map #[] 0)) := run_makeMap _ _; have A2 := A1.below ((Below.refl _ _).alloc (Nat.le_refl _) (.map #[] 0)); obtain ⟨y0, y1, y2, y3, yf⟩ := cells4 A1.k2; obtain ⟨ym0, ym1, ym2, ym3, ymf⟩ := cells4 A2.k2; obtain ⟨x0, x1, x2, xf⟩ := cells3 A2.k1; have hsc2 := hsc _ A2.bl)
    | (go_at_call 17; refine hsc2.mono ?_; clear hsc2; rintro e w2 ⟨rfl, hb2⟩; have A3 := A2.below hb2; obtain ⟨yn0, yn1, yn2, yn3, ynf⟩ := cells4 A3.k2; obtain ⟨xn0, xn1, xn2, xnf⟩ := cells3 A3.k1; have hby2 := hby _ A3.bl)
    | (go_at_call 48; refine hby2.mono ?_; clear hby2; rintro e w3 ⟨rfl, hM0, hb3⟩; have A4 := A3.below hb3; obtain ⟨yo0, yo1, yo2, yo3, yof⟩ := cells4 A4.k2))
  have A2' := A4
  have hmb : w.heap.size + 1 + 1 < w2.heap.size := heap_lt A3.k3
  clear A0 A1 A2 A3 A4 hb1 hb2 hb3 y0 y1 y2 y3 yf ym0 ym1 ym2 ym3 ymf yn0 yn1 yn2 yn3 ynf yo0 yo1 yo2 yo3 yof x0 x1 x2 xf xn0 xn1 xn2 xnf hmk hsc hby
  generalize w2.heap.size = mb at *
  go_loopw [42] (fun t wr => ∃ (i : Nat) (m : List (Int × Ent)), i ≤ g.recs.length ∧ t = .int .i64 i ∧ AqSt w a g (.slice A a.ents.length c) (.slice A2 g.recs.length c2) wr ∧ MapE wr mb m ∧ MapOk m ∧ m.length ≤ 64 + i ∧ Hid (applyRecs (byIdL a.ents) g.recs = applyRecs m (g.recs.drop i))) (fun t _ => g.recs.length - (intOf t).toNat)
  case atStart => exact ⟨0, byIdL a.ents, by omega, rfl, A2', hM0, HM0.1, by have := HM0.2; omega, rfl⟩
  case round =>
    obtain ⟨i, m, hi, rfl, AS, hM, hok, hml, HR⟩ := hrel
    by_cases hlt : i < g.recs.length
    · obtain ⟨b, off, rfl, hFb, hbl2, hcs⟩ := (hgv.below AS.bl).recAt i hlt
      have hx0 := hcs 0 (by omega)
      have hx1 := hcs 1 (by omega)
      have hx2 := hcs 2 (by omega)
      have hx3 := hcs 3 (by omega)
      have hx4 := hcs 4 (by omega)
      have hx5 := hcs 5 (by omega)
      have hx6 := hcs 6 (by omega)
      have hx7 := hcs 7 (by omega)
      have hx8 := hcs 8 (by omega)
      simp only [List.getElem?_toArray, List.getElem?_cons_succ, List.getElem?_cons_zero, Nat.add_zero] at hx0 hx1 hx2 hx3 hx4 hx5 hx6 hx7 hx8
      clear hcs
      have hd := Lib.hid (drop_cons hlt)
      have hrx : Hid (recCheck g.recs[i] = 0) := HRC.out _ (List.getElem_mem hlt)
      have HU : Hid (applyRecs (byIdL a.ents) g.recs = match applyStep m g.recs[i] with | none => none | some m2 => applyRecs m2 (g.recs.drop (i + 1))) := by show _ = _; rw [HR.out, hd.out]; rfl
      clear hd HR
      generalize g.recs[i] = x at *
      have AS1 := AS.below ((Below.refl _ _).alloc (Nat.le_refl _) (.cells x.cells 115))
      cases hf : findL x.id m with
      | none =>
        have AS2 := AS1.below ((Below.refl _ _).alloc (Nat.le_refl _) (.cells Ent.zero.cells 69))
        have hfh := Lib.hid hf
        by_cases hk : x.kind = 0
        · have e1 : (x.kind == 0) = true := by simpa using hk
          have HV : Hid (applyRecs (byIdL a.ents) g.recs = applyRecs (putL x.id (putEnt x) m) (g.recs.drop (i + 1))) := by show _ = _; rw [HU.out]; unfold applyStep; rw [hf]; simp only; rw [if_pos hk]
          clear hf HU hk
          go_wp2_with (first
            | (at_lookup; refine find_row rfl (.tmp 47) (.tmp 49) rfl mb m x.id rfl rfl (hM.al _) ?_; rw [hfh.out]; simp only [Option.getD_none, Option.isSome_none])
            | (at_mapUpdate; refine put_row rfl (.tmp 72) (.tmp 74) (.tmp 83) rfl mb m x.id (putEnt x) rfl rfl rfl ((hM.al _).al _) ?_; intro w2 hM2 hF2))
          exact ⟨⟨i + 1, _, by omega, by go_num, AS2.fr hF2 hmb, hM2, hok.put rfl, by have := putL_length x.id (putEnt x) m; omega, HV.out⟩, by simp [intOf]; omega⟩
        · have e1 : (x.kind == 0) = false := by simpa using hk
          have HV : Hid (applyRecs (byIdL a.ents) g.recs = none) := by show _ = _; rw [HU.out]; unfold applyStep; rw [hf]; simp only; rw [if_neg hk]
          obtain ⟨z0, z1, z2, zf⟩ := cells3 AS2.k3
          clear hf HU hk
          go_wp2_with (first
            | (at_lookup; refine find_row rfl (.tmp 47) (.tmp 49) rfl mb m x.id rfl rfl (hM.al _) ?_; rw [hfh.out]; simp only [Option.getD_none, Option.isSome_none]))
          refine bodyPost_ret (v := .tuple #[snap0, .int .i64 15]) (by simp [results, Tryz.results51, go_sem, z0, z1, z2]) rfl ?_
          unfold aqOut
          rw [HE.out, HV.out]
          exact ⟨_, rfl, World.ownsRow_nil _ _ _ _, res3 AS2.k3 _ _ _ AS2.bl (by omega)⟩
      | some o =>
        have AS2 := AS1.below ((Below.refl _ _).alloc (Nat.le_refl _) (.cells o.cells 69))
        have hfh := Lib.hid hf
        by_cases hk : x.kind = 0
        · have e1 : (x.kind == 0) = true := by simpa using hk
          have HV : Hid (applyRecs (byIdL a.ents) g.recs = none) := by show _ = _; rw [HU.out]; unfold applyStep; rw [hf]; simp only; rw [if_pos hk]
          obtain ⟨z0, z1, z2, zf⟩ := cells3 AS2.k3
          clear hf HU hk
          go_wp2_with (first
            | (at_lookup; refine find_row rfl (.tmp 47) (.tmp 49) rfl mb m x.id rfl rfl (hM.al _) ?_; rw [hfh.out]; simp only [Option.getD_some, Option.isSome_some]))
          refine bodyPost_ret (v := .tuple #[snap0, .int .i64 15]) (by simp [results, Tryz.results51, go_sem, z0, z1, z2]) rfl ?_
          unfold aqOut
          rw [HE.out, HV.out]
          exact ⟨_, rfl, World.ownsRow_nil _ _ _ _, res3 AS2.k3 _ _ _ AS2.bl (by omega)⟩
        · have e1 : (x.kind == 0) = false := by simpa using hk
          by_cases hk2 : x.kind = 2
          · have e2 : (x.kind == 2) = true := by simpa using hk2
            have HV : Hid (applyRecs (byIdL a.ents) g.recs = applyRecs (delL x.id m) (g.recs.drop (i + 1))) := by show _ = _; rw [HU.out]; unfold applyStep; rw [hf]; simp only; rw [if_neg hk, if_pos hk2]
            clear hf HU hk hk2
            go_wp2_with (first
              | (at_lookup; refine find_row rfl (.tmp 47) (.tmp 49) rfl mb m x.id rfl rfl (hM.al _) ?_; rw [hfh.out]; simp only [Option.getD_some, Option.isSome_some])
              | (at_delete; refine del_row rfl (.tmp 88) (.tmp 90) rfl mb m x.id rfl rfl ((hM.al _).al _) ?_; intro w2 hM2 hF2))
            exact ⟨⟨i + 1, _, by omega, by go_num, AS2.fr hF2 hmb, hM2, hok.del _, by have := (delL_sub x.id m).length_le; omega, HV.out⟩, by simp [intOf]; omega⟩
          · have e2 : (x.kind == 2) = false := by simpa using hk2
            have hid : x.id = o.id := hok.2 _ (findL_mem hf)
            have HV : Hid (applyRecs (byIdL a.ents) g.recs = applyRecs (putL x.id (recApply o x).1 m) (g.recs.drop (i + 1))) := by show _ = _; rw [HU.out]; unfold applyStep; rw [hf]; simp only; rw [if_neg hk, if_neg hk2]
            have HI : Hid ((recApply o x).1.id = x.id) := by show _ = _; rw [recApply_id hrx.out hk hk2 hid, hid]
            have hap := fun W => recApply_any o x W
            have HMal := hM.al (.cells x.cells 115)
            have HMal2 := HMal.al (.cells o.cells 69)
            clear hf HU hk hk2 hid
            generalize (recApply o x).1 = q at *
            generalize (recApply o x).2 = q2 at *
            go_wp2_with (first
              | (at_lookup; refine find_row rfl (.tmp 47) (.tmp 49) rfl mb m x.id rfl rfl HMal ?_; rw [hfh.out]; simp only [Option.getD_some, Option.isSome_some]))
            have hk10 : (((wr.alloc (.cells x.cells 115)).alloc (.cells o.cells 69)).drew).heap[wr.heap.size]? = some (.cells x.cells 115 (0, 0)) := heap_oldD (heap_new rfl)
            have hMd : MapE (((wr.alloc (.cells x.cells 115)).alloc (.cells o.cells 69)).drew) mb m := HMal2
            have ASd := AS2.below ((Below.refl _ _).drew)
            clear hx0 hx1 hx2 hx3 hx4 hx5 hx6 hx7 hx8
            go_region_law (first | (go_simp; go_at_call 76; refine (hap _).mono ?_; rintro e w3 ⟨rfl, hb3⟩; have hr1 := blk (below_at hb3 hk10 (heap_lt hk10)) 1; simp only [List.getElem?_toArray, List.getElem?_cons_succ, List.getElem?_cons_zero] at hr1; obtain ⟨w4, hrun, hM4, hF4⟩ := run_putL (hMd.fr (Fr.of_below hb3 fun _ => False) (fun h => h)) x.id q))
            all_goals
              go_wp2
              exact ⟨⟨i + 1, _, by omega, by go_num, (ASd.below hb3).fr hF4 hmb, hM4, hok.put HI.out, by have := putL_length x.id q m; omega, HV.out⟩, by simp [intOf]; omega⟩
    · have hin : i = g.recs.length := by omega
      subst hin
      have HV : Hid (applyRecs (byIdL a.ents) g.recs = some m) := by show _ = _; rw [HR.out, List.drop_length]; rfl
      clear HR
      by_cases h64 : m.length ≤ 64
      · have HS : Hid (snapApply a g = (⟨g.tick, g.time, sortE (m.map (·.2))⟩, 0)) := by show _ = _; rw [HE.out, HV.out]; exact if_neg (by omega)
        have hval := values_any (some mb) wr
        have hM2 := hM.al (.cells #[.map (some mb)] 99)
        have hsf := sortedFunc_any wr.heap.size mb m (by omega) (wr.alloc (.cells #[.map (some mb)] 99)) (by simp) (blk (heap_new rfl) 0) hM2
        have AS1 := AS.below ((Below.refl _ _).alloc (Nat.le_refl _) (.cells #[.map (some mb)] 99))
        go_wp2_with (first
          | (at_len; refine len_row rfl (.tmp 92) rfl mb m rfl hM ?_)
          | (go_at_call 78; refine hval.mono ?_; clear hval; rintro e w2 ⟨rfl, rfl⟩)
          | (go_at_call 77; refine hsf.mono ?_; clear hsf; rintro e w3 ⟨ys, v1, hp, hso, rfl, ho, hb3⟩; have ASz := AS1.below hb3; obtain ⟨z0, z1, z2, zf⟩ := cells3 ASz.k3; obtain ⟨y0, y1, y2, y3, yf⟩ := cells4 ASz.k2; have hvo := ho; have hln : Hid (sortE (m.map (·.2)) = ys) := (sortE_unique hok hp hso).symm; obtain ⟨A3, c3, rfl, _, _⟩ := own_form ho))
        refine bodyPost_ret (v := .tuple #[.agg #[.int .i64 g.tick, .int .i64 g.time, .slice A3 ys.length c3], .int .i64 0]) (by simp [results, Tryz.results51, go_sem, z0, z1, z2]) rfl ?_
        unfold aqOut
        rw [HS.out]
        refine ⟨.slice A3 ys.length c3, rfl, ?_, res3 ASz.k3 _ _ _ ASz.bl (by omega)⟩
        show OwnE _ _ _ (sortE (m.map (·.2)))
        rw [hln.out]
        have hsz := AS1.bl.size
        refine own_fr (own_base hvo hsz) (((fr_set _).trans (fr_set _)).trans (fr_set _)) (fun k e e2 => ?_)
        have := own_lt hvo k e
        have := AS.bl.size
        have := heap_lt AS.k3
        simp at *
        omega
      · have HS : Hid (snapApply a g = (⟨0, 0, []⟩, 4)) := by show _ = _; rw [HE.out, HV.out]; exact if_pos (by omega)
        obtain ⟨z0, z1, z2, zf⟩ := cells3 AS.k3
        go_wp2_with (first
          | (at_len; refine len_row rfl (.tmp 92) rfl mb m rfl hM ?_))
        refine bodyPost_ret (v := .tuple #[snap0, .int .i64 4]) (by simp [results, Tryz.results51, go_sem, z0, z1, z2]) rfl ?_
        unfold aqOut
        rw [HS.out]
        exact ⟨_, rfl, World.ownsRow_nil _ _ _ _, res3 AS.k3 _ _ _ AS.bl (by omega)⟩

theorem apply_any (a : Snap) (g : Gram) (v gv : Value) (F : Nat → Prop) (w : World) (hg : g.wf) (hv : Sl Ty.ent w F v a.ents) (hgv : Sl Ty.recd w F gv g.recs) :
    Calls Tryz.prog 51 #[a.val v, g.val gv] w (aqOut a g w.heap.size w) := by
  by_cases hc : gramCheck g = 0
  · by_cases hb : g.base < 0
    · exact apply_none a g v gv F w hg hv hgv hc hb
    · by_cases hs : snapCheck a = 0
      · by_cases ht : a.tick = g.base
        · exact apply_by a g v gv F w hg hv hgv hc (by omega) hs ht
        · exact apply_tick a g v gv F w hg hv hgv hc (by omega) hs ht
      · exact apply_snap a g v gv F w hg hv hgv hc (by omega) hs
  · exact apply_gram a g v gv F w hg hv hgv hc

end Go.Proofs.YtpdckdfnpehliaaGreat
