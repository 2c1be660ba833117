/-
  Layer 13: whether two places are the same one.
-/
import Derived.Test.YtomlnflblecpbaaJoint
import Derived.Laws.StructEq
namespace Go.Proofs.Ytomlnflblecpbaa
set_option linter.unusedVariables false
set_option linter.unusedSimpArgs false
open Go.RowKit Go.Proofs.YtomlnflblecpbaaW.PrintWords Go.Proofs.YtomlnflblecpbaaW.PrintMore PKeysPlays
theorem guard32 (op : BinOp) (x y : Operand) (xs ys : Array Value) (w : World) : (eqGuard op 32 x y (.agg xs) (.agg ys)).run Try.prog w = .ok () w :=
  run_eqGuard_agg w op 32 x y xs ys (by kernel_rfl)
theorem f32e : Try.prog.underlying 32 = some (.struct (Try.prog.fieldsOf 32)) := by kernel_rfl
theorem f30e : Try.prog.underlying 30 = some (.struct (Try.prog.fieldsOf 30)) := by kernel_rfl
set_option maxRecDepth 100000 in
theorem equal32 (s k : Int) (y : ByteArray) (t z s' k' : Int) (y' : ByteArray) (t' z' : Int) (w : World) :
    (Op.equalIn 10000 32 (.agg #[.int .i64 s, .int .i64 k, .string y, .int .i64 t, .int .i64 z]) (.agg #[.int .i64 s', .int .i64 k', .string y', .int .i64 t', .int .i64 z'])).run Try.prog w = .ok (decide ((⟨s, k, y, t, z⟩ : Pl) = ⟨s', k', y', t', z'⟩)) w := by
  have h1 := run_equalIn_struct (P := Try.prog) w 9999 32 #[.int .i64 s, .int .i64 k, .string y, .int .i64 t, .int .i64 z] #[.int .i64 s', .int .i64 k', .string y', .int .i64 t', .int .i64 z'] f32e (by kernel_rfl)
  have hu := Try.underlying32
  have hu30 := Try.underlying30
  have hu3 := Try.underlying3
  have hu9 := Try.underlying9
  have hs30 := Try.sizeOf30
  have a3 := Try.isAgg3
  have a9 := Try.isAgg9
  have a30 := Try.isAgg30
  rw [h1]
  simp only [Program.fieldsOf, hu]
  have p0 : ∀ (a b c d e : Value) w, (part 3 #[a, b, c, d, e] 0).run Try.prog w = .ok a w := fun a b c d e w => by simp [part, a3, Sem.run_bind]
  have p1 : ∀ (a b c d e : Value) w, (part 30 #[a, b, c, d, e] 1).run Try.prog w = .ok (.agg #[b, c, d, e]) w := fun a b c d e w => by simp [part, a30, hs30, Sem.run_bind]
  have q0 : ∀ (a b c d : Value) w, (part 3 #[a, b, c, d] 0).run Try.prog w = .ok a w := fun a b c d w => by simp [part, a3, Sem.run_bind]
  have q1 : ∀ (a b c d : Value) w, (part 9 #[a, b, c, d] 1).run Try.prog w = .ok b w := fun a b c d w => by simp [part, a9, Sem.run_bind]
  have q2 : ∀ (a b c d : Value) w, (part 3 #[a, b, c, d] 2).run Try.prog w = .ok c w := fun a b c d w => by simp [part, a3, Sem.run_bind]
  have q3 : ∀ (a b c d : Value) w, (part 3 #[a, b, c, d] 3).run Try.prog w = .ok d w := fun a b c d w => by simp [part, a3, Sem.run_bind]
  have e30 := fun w => run_equalIn_struct (P := Try.prog) w 9998 30 #[.int .i64 k, .string y, .int .i64 t, .int .i64 z] #[.int .i64 k', .string y', .int .i64 t', .int .i64 z'] f30e (by kernel_rfl)
  simp only [Program.fieldsOf, hu30] at e30
  have i3 := fun w a b => run_equalIn_int (P := Try.prog) w 9998 3 .i64 .i64 a b hu3
  have i4 := fun w a b => run_equalIn_int (P := Try.prog) w 9997 3 .i64 .i64 a b hu3
  have i9 := fun w a b => run_equalIn_string (P := Try.prog) w 9997 9 a b hu9
  simp [Op.eqFields, p0, p1, q0, q1, q2, q3, e30, i3, i4, i9, Sem.run_bind]
  have hy : (y.toList = y'.toList) = (y = y') := propext ⟨fun h => key_eqb (beq_iff_eq.2 h), fun h => by rw [h]⟩
  simp only [hy]
  by_cases c1 : s = s' <;> by_cases c2 : k = k' <;> by_cases c3 : y = y' <;> by_cases c4 : t = t' <;> by_cases c5 : z = z' <;> simp only [c1, c2, c3, c4, c5, if_true, if_false, decide_true, decide_false, Bool.and_true, Bool.true_and, Bool.and_false, Bool.false_and]
theorem eql32 (s k : Int) (y : ByteArray) (t z s' k' : Int) (y' : ByteArray) (t' z' : Int) (w : World) :
    (binOp .eql 32 (.agg #[.int .i64 s, .int .i64 k, .string y, .int .i64 t, .int .i64 z]) (.agg #[.int .i64 s', .int .i64 k', .string y', .int .i64 t', .int .i64 z'])).run Try.prog w = .ok (.bool (decide ((⟨s, k, y, t, z⟩ : Pl) = ⟨s', k', y', t', z'⟩))) w := by
  rw [run_eql_struct, equal32]; rfl
theorem neq32 (s k : Int) (y : ByteArray) (t z s' k' : Int) (y' : ByteArray) (t' z' : Int) (w : World) :
    (binOp .neq 32 (.agg #[.int .i64 s, .int .i64 k, .string y, .int .i64 t, .int .i64 z]) (.agg #[.int .i64 s', .int .i64 k', .string y', .int .i64 t', .int .i64 z'])).run Try.prog w = .ok (.bool (!decide ((⟨s, k, y, t, z⟩ : Pl) = ⟨s', k', y', t', z'⟩))) w := by
  rw [run_neq_struct, equal32]; rfl
end Go.Proofs.Ytomlnflblecpbaa
