/- '==' at records and entities. -/
import Derived.Test.YtpdckdfnpehliaaGreatRec
import Derived.Laws.StructEq
import Derived.DeepKeys
set_option linter.unusedVariables false
set_option linter.unusedSimpArgs false

namespace Go.Proofs.YtpdckdfnpehliaaGreat
open Go Go.RowKit Go.Deep Go.Shelf
set_option maxHeartbeats 1000000
set_option maxRecDepth 100000

theorem eql_arr3 (d : Nat) (a b c a' b' c' : Int) (w : World) :
    (Op.equalIn (d + 2) 67 (.agg #[.int .i64 a, .int .i64 b, .int .i64 c]) (.agg #[.int .i64 a', .int .i64 b', .int .i64 c'])).run Tryz.prog w = .ok (decide (a = a') && decide (b = b') && decide (c = c')) w := by
  obtain ⟨i, hi⟩ := info_of_underlying Tryz.underlying2
  have hc : Tryz.prog.cellsOf 2 = 1 := by kernel_rfl
  rw [run_equalIn_array w (d + 1) _ _ Tryz.underlying67 hi, hc]
  simp only [Op.eqItems, List.range_succ, List.range_zero, List.nil_append, List.cons_append]
  go_simp
  by_cases h1 : a = a' <;> by_cases h2 : b = b' <;> by_cases h3 : c = c' <;> simp [h1, h2, h3]

theorem eql_rec (k id a b c d e f g k' id' a' b' c' d' e' f' g' : Int) (w : World) :
    (binOp .eql 115 (.agg #[.int .i64 k, .int .i64 id, .int .i64 a, .int .i64 b, .int .i64 c, .int .i64 d, .int .i64 e, .int .i64 f, .int .u16 g])
      (.agg #[.int .i64 k', .int .i64 id', .int .i64 a', .int .i64 b', .int .i64 c', .int .i64 d', .int .i64 e', .int .i64 f', .int .u16 g'])).run Tryz.prog w =
      .ok (.bool (decide ((⟨k, id, a, b, c, d, e, f, g⟩ : Rec) = ⟨k', id', a', b', c', d', e', f', g'⟩))) w := by
  have hS : Tryz.prog.underlying 115 = some (.struct (Tryz.prog.fieldsOf 115)) := by kernel_rfl
  have hp : Tryz.prog.stoodInHeld 115 = false := by kernel_rfl
  have harr := eql_arr3 9997
  rw [run_eql_struct, show (10000 : Nat) = 9999 + 1 from rfl, run_equalIn_agg w 9999 115 _ _ hS hp]
  simp only [Program.fieldsOf, Tryz.underlying115]
  go_simp
  by_cases h1 : k = k' <;> by_cases h2 : id = id' <;> by_cases h3 : a = a' <;> by_cases h4 : b = b' <;> by_cases h5 : c = c' <;> simp [h1, h2, h3, h4, h5]
  by_cases h6 : d = d' <;> by_cases h7 : e = e' <;> by_cases h8 : f = f' <;> by_cases h9 : g = g' <;> simp [h6, h7, h8, h9]
theorem neq_rec (k id a b c d e f g k' id' a' b' c' d' e' f' g' : Int) (w : World) :
    (binOp .neq 115 (.agg #[.int .i64 k, .int .i64 id, .int .i64 a, .int .i64 b, .int .i64 c, .int .i64 d, .int .i64 e, .int .i64 f, .int .u16 g])
      (.agg #[.int .i64 k', .int .i64 id', .int .i64 a', .int .i64 b', .int .i64 c', .int .i64 d', .int .i64 e', .int .i64 f', .int .u16 g'])).run Tryz.prog w =
      .ok (.bool (!decide ((⟨k, id, a, b, c, d, e, f, g⟩ : Rec) = ⟨k', id', a', b', c', d', e', f', g'⟩))) w := by
  have h := eql_rec k id a b c d e f g k' id' a' b' c' d' e' f' g' w
  rw [run_eql_struct] at h
  rw [run_neq_struct]
  generalize Sem.run _ (Op.equalIn 10000 _ _ _) _ = q at *
  cases q with
  | ok x w2 =>
    simp only [Result.andThen] at h ⊢
    injection h with h1 h2
    injection h1 with h1
    rw [h1, h2]
  | halt x w2 => simp [Result.andThen] at h
theorem eql_ent (id a b c d e f g q id' a' b' c' d' e' f' g' q' : Int) (w : World) :
    (binOp .eql 69 (.agg #[.int .i64 id, .int .i64 a, .int .i64 b, .int .i64 c, .int .i64 d, .int .i64 e, .int .i64 f, .int .u16 g, .int .u8 q])
      (.agg #[.int .i64 id', .int .i64 a', .int .i64 b', .int .i64 c', .int .i64 d', .int .i64 e', .int .i64 f', .int .u16 g', .int .u8 q'])).run Tryz.prog w =
      .ok (.bool (decide ((⟨id, a, b, c, d, e, f, g, q⟩ : Ent) = ⟨id', a', b', c', d', e', f', g', q'⟩))) w := by
  have hS : Tryz.prog.underlying 69 = some (.struct (Tryz.prog.fieldsOf 69)) := by kernel_rfl
  have hp : Tryz.prog.stoodInHeld 69 = false := by kernel_rfl
  have harr := eql_arr3 9997
  rw [run_eql_struct, show (10000 : Nat) = 9999 + 1 from rfl, run_equalIn_agg w 9999 69 _ _ hS hp]
  simp only [Program.fieldsOf, Tryz.underlying69]
  go_simp
  by_cases h2 : id = id' <;> by_cases h3 : a = a' <;> by_cases h4 : b = b' <;> by_cases h5 : c = c' <;> simp [h2, h3, h4, h5]
  by_cases h6 : d = d' <;> by_cases h7 : e = e' <;> by_cases h8 : f = f' <;> by_cases h9 : g = g' <;> by_cases h10 : q = q' <;> simp [h6, h7, h8, h9, h10]
theorem neq_ent (id a b c d e f g q id' a' b' c' d' e' f' g' q' : Int) (w : World) :
    (binOp .neq 69 (.agg #[.int .i64 id, .int .i64 a, .int .i64 b, .int .i64 c, .int .i64 d, .int .i64 e, .int .i64 f, .int .u16 g, .int .u8 q])
      (.agg #[.int .i64 id', .int .i64 a', .int .i64 b', .int .i64 c', .int .i64 d', .int .i64 e', .int .i64 f', .int .u16 g', .int .u8 q'])).run Tryz.prog w =
      .ok (.bool (!decide ((⟨id, a, b, c, d, e, f, g, q⟩ : Ent) = ⟨id', a', b', c', d', e', f', g', q'⟩))) w := by
  have h := eql_ent id a b c d e f g q id' a' b' c' d' e' f' g' q' w
  rw [run_eql_struct] at h
  rw [run_neq_struct]
  generalize Sem.run _ (Op.equalIn 10000 _ _ _) _ = q at *
  cases q with
  | ok x w2 =>
    simp only [Result.andThen] at h ⊢
    injection h with h1 h2
    injection h1 with h1
    rw [h1, h2]
  | halt x w2 => simp [Result.andThen] at h

end Go.Proofs.YtpdckdfnpehliaaGreat
