/-
  Facts about this program's types, by program.
-/
import Derived.Test.YtmbjcpjhlceenaaAbsStep
import Derived.Test.YtmbjcpjhlceenaaProg
set_option linter.unusedVariables false
namespace Go.Proofs.Ytmbjcpjhlceenaa
open Go Go.Abs Go.Proofs
@[simp] theorem qsize_3 : qsize Try.prog 3 = some 1 := by kernel_rfl
@[simp] theorem qbytes_3 : qbytes Try.prog 3 = some 8 := by kernel_rfl
@[simp] theorem qagg_3 : qagg Try.prog 3 = some false := by kernel_rfl
@[simp] theorem qzero_3 : qzero Try.prog 3 = some (V.i Go.IntKind.i64 (0)) := by kernel_rfl
@[simp] theorem qint_3 : qint Try.prog 3 = some Go.IntKind.i64 := by kernel_rfl
@[simp] theorem keqi_3 (a c : Int) : keq Try.prog 3 (.i Go.IntKind.i64 a) (.i Go.IntKind.i64 c) = some (a == c) := keq_i qint_3
@[simp] theorem qconcrete_3 : qconcrete Try.prog 3 = true := by kernel_rfl
@[simp] theorem qkey_3 : qkey Try.prog 3 = true := by kernel_rfl
@[simp] theorem qplainKey_3 : qplainKey Try.prog 3 = true := by kernel_rfl
@[simp] theorem kf_3 (k : V) : keyFits Try.prog 3 k = true := keyFits_plain qplainKey_3
@[simp] theorem qthere_3 : qthere Try.prog 3 = true := by kernel_rfl
@[simp] theorem cellsOf_3 : Go.Program.cellsOf Try.prog 3 = 1 := by kernel_rfl
@[simp] theorem bytesOf_3 : Go.Program.bytesOf Try.prog 3 = 8 := by kernel_rfl
@[simp] theorem qsize_4 : qsize Try.prog 4 = some 1 := by kernel_rfl
@[simp] theorem qbytes_4 : qbytes Try.prog 4 = some 1 := by kernel_rfl
@[simp] theorem qagg_4 : qagg Try.prog 4 = some false := by kernel_rfl
@[simp] theorem qzero_4 : qzero Try.prog 4 = some (V.b false) := by kernel_rfl
@[simp] theorem qconcrete_4 : qconcrete Try.prog 4 = true := by kernel_rfl
@[simp] theorem qbool_4 : qbool Try.prog 4 = true := by kernel_rfl
@[simp] theorem bb_4 (x y : Bool) : aeq Try.prog 4 (.b x) (.b y) = some (x == y) := aeq_bb qbool_4
@[simp] theorem qthere_4 : qthere Try.prog 4 = true := by kernel_rfl
@[simp] theorem cellsOf_4 : Go.Program.cellsOf Try.prog 4 = 1 := by kernel_rfl
@[simp] theorem bytesOf_4 : Go.Program.bytesOf Try.prog 4 = 1 := by kernel_rfl
@[simp] theorem qsize_9 : qsize Try.prog 9 = some 1 := by kernel_rfl
@[simp] theorem qbytes_9 : qbytes Try.prog 9 = some 16 := by kernel_rfl
@[simp] theorem qagg_9 : qagg Try.prog 9 = some false := by kernel_rfl
@[simp] theorem qzero_9 : qzero Try.prog 9 = some (V.s []) := by kernel_rfl
@[simp] theorem qstr_9 : qstr Try.prog 9 = true := by kernel_rfl
@[simp] theorem keqs_9 (a c : List UInt8) : keq Try.prog 9 (.s a) (.s c) = some (a == c) := keq_s qstr_9
@[simp] theorem qconcrete_9 : qconcrete Try.prog 9 = true := by kernel_rfl
@[simp] theorem qkey_9 : qkey Try.prog 9 = true := by kernel_rfl
@[simp] theorem qsrc_9 : qsrc Try.prog 9 = true := by kernel_rfl
@[simp] theorem qplainKey_9 : qplainKey Try.prog 9 = true := by kernel_rfl
@[simp] theorem kf_9 (k : V) : keyFits Try.prog 9 k = true := keyFits_plain qplainKey_9
@[simp] theorem qthere_9 : qthere Try.prog 9 = true := by kernel_rfl
@[simp] theorem cellsOf_9 : Go.Program.cellsOf Try.prog 9 = 1 := by kernel_rfl
@[simp] theorem bytesOf_9 : Go.Program.bytesOf Try.prog 9 = 16 := by kernel_rfl
@[simp] theorem qsize_22 : qsize Try.prog 22 = some 1 := by kernel_rfl
@[simp] theorem qbytes_22 : qbytes Try.prog 22 = some 24 := by kernel_rfl
@[simp] theorem qagg_22 : qagg Try.prog 22 = some false := by kernel_rfl
@[simp] theorem qzero_22 : qzero Try.prog 22 = some (V.sl none 0 false) := by kernel_rfl
@[simp] theorem qconcrete_22 : qconcrete Try.prog 22 = true := by kernel_rfl
@[simp] theorem qsrc_22 : qsrc Try.prog 22 = true := by kernel_rfl
@[simp] theorem qthere_22 : qthere Try.prog 22 = true := by kernel_rfl
@[simp] theorem cellsOf_22 : Go.Program.cellsOf Try.prog 22 = 1 := by kernel_rfl
@[simp] theorem bytesOf_22 : Go.Program.bytesOf Try.prog 22 = 24 := by kernel_rfl
@[simp] theorem qelem_22 : qelem Try.prog 22 = some 9 := by kernel_rfl
@[simp] theorem qsize_24 : qsize Try.prog 24 = some 1 := by kernel_rfl
@[simp] theorem qbytes_24 : qbytes Try.prog 24 = some 8 := by kernel_rfl
@[simp] theorem qagg_24 : qagg Try.prog 24 = some false := by kernel_rfl
@[simp] theorem qzero_24 : qzero Try.prog 24 = some (V.p none) := by kernel_rfl
@[simp] theorem qconcrete_24 : qconcrete Try.prog 24 = true := by kernel_rfl
@[simp] theorem qptr_24 : qptr Try.prog 24 = true := by kernel_rfl
@[simp] theorem pnn_24 : aeq Try.prog 24 (.p none) (.p none) = some true := aeq_pnn qptr_24
@[simp] theorem psn_24 (q : Nat × Nat × Nat) : aeq Try.prog 24 (.p (some q)) (.p none) = some false := aeq_psn qptr_24
@[simp] theorem qthere_24 : qthere Try.prog 24 = true := by kernel_rfl
@[simp] theorem cellsOf_24 : Go.Program.cellsOf Try.prog 24 = 1 := by kernel_rfl
@[simp] theorem bytesOf_24 : Go.Program.bytesOf Try.prog 24 = 8 := by kernel_rfl
@[simp] theorem qsize_26 : qsize Try.prog 26 = some 1 := by kernel_rfl
@[simp] theorem qbytes_26 : qbytes Try.prog 26 = some 24 := by kernel_rfl
@[simp] theorem qagg_26 : qagg Try.prog 26 = some false := by kernel_rfl
@[simp] theorem qzero_26 : qzero Try.prog 26 = some (V.sl none 0 false) := by kernel_rfl
@[simp] theorem qconcrete_26 : qconcrete Try.prog 26 = true := by kernel_rfl
@[simp] theorem qsrc_26 : qsrc Try.prog 26 = true := by kernel_rfl
@[simp] theorem qthere_26 : qthere Try.prog 26 = true := by kernel_rfl
@[simp] theorem cellsOf_26 : Go.Program.cellsOf Try.prog 26 = 1 := by kernel_rfl
@[simp] theorem bytesOf_26 : Go.Program.bytesOf Try.prog 26 = 24 := by kernel_rfl
@[simp] theorem qelem_26 : qelem Try.prog 26 = some 3 := by kernel_rfl
@[simp] theorem qsize_27 : qsize Try.prog 27 = some 1 := by kernel_rfl
@[simp] theorem qbytes_27 : qbytes Try.prog 27 = some 8 := by kernel_rfl
@[simp] theorem qagg_27 : qagg Try.prog 27 = some false := by kernel_rfl
@[simp] theorem qzero_27 : qzero Try.prog 27 = some (V.i Go.IntKind.i64 (0)) := by kernel_rfl
@[simp] theorem qint_27 : qint Try.prog 27 = some Go.IntKind.i64 := by kernel_rfl
@[simp] theorem keqi_27 (a c : Int) : keq Try.prog 27 (.i Go.IntKind.i64 a) (.i Go.IntKind.i64 c) = some (a == c) := keq_i qint_27
@[simp] theorem qconcrete_27 : qconcrete Try.prog 27 = true := by kernel_rfl
@[simp] theorem qkey_27 : qkey Try.prog 27 = true := by kernel_rfl
@[simp] theorem qplainKey_27 : qplainKey Try.prog 27 = true := by kernel_rfl
@[simp] theorem kf_27 (k : V) : keyFits Try.prog 27 k = true := keyFits_plain qplainKey_27
@[simp] theorem qthere_27 : qthere Try.prog 27 = true := by kernel_rfl
@[simp] theorem cellsOf_27 : Go.Program.cellsOf Try.prog 27 = 1 := by kernel_rfl
@[simp] theorem bytesOf_27 : Go.Program.bytesOf Try.prog 27 = 8 := by kernel_rfl
@[simp] theorem qsize_33 : qsize Try.prog 33 = some 1 := by kernel_rfl
@[simp] theorem qbytes_33 : qbytes Try.prog 33 = some 24 := by kernel_rfl
@[simp] theorem qagg_33 : qagg Try.prog 33 = some false := by kernel_rfl
@[simp] theorem qzero_33 : qzero Try.prog 33 = some (V.sl none 0 false) := by kernel_rfl
@[simp] theorem qconcrete_33 : qconcrete Try.prog 33 = true := by kernel_rfl
@[simp] theorem qsrc_33 : qsrc Try.prog 33 = true := by kernel_rfl
@[simp] theorem qthere_33 : qthere Try.prog 33 = true := by kernel_rfl
@[simp] theorem cellsOf_33 : Go.Program.cellsOf Try.prog 33 = 1 := by kernel_rfl
@[simp] theorem bytesOf_33 : Go.Program.bytesOf Try.prog 33 = 24 := by kernel_rfl
@[simp] theorem qelem_33 : qelem Try.prog 33 = some 38 := by kernel_rfl
@[simp] theorem qsize_34 : qsize Try.prog 34 = some 1 := by kernel_rfl
@[simp] theorem qbytes_34 : qbytes Try.prog 34 = some 8 := by kernel_rfl
@[simp] theorem qagg_34 : qagg Try.prog 34 = some false := by kernel_rfl
@[simp] theorem qzero_34 : qzero Try.prog 34 = some (V.p none) := by kernel_rfl
@[simp] theorem qconcrete_34 : qconcrete Try.prog 34 = true := by kernel_rfl
@[simp] theorem qptr_34 : qptr Try.prog 34 = true := by kernel_rfl
@[simp] theorem pnn_34 : aeq Try.prog 34 (.p none) (.p none) = some true := aeq_pnn qptr_34
@[simp] theorem psn_34 (q : Nat × Nat × Nat) : aeq Try.prog 34 (.p (some q)) (.p none) = some false := aeq_psn qptr_34
@[simp] theorem qthere_34 : qthere Try.prog 34 = true := by kernel_rfl
@[simp] theorem cellsOf_34 : Go.Program.cellsOf Try.prog 34 = 1 := by kernel_rfl
@[simp] theorem bytesOf_34 : Go.Program.bytesOf Try.prog 34 = 8 := by kernel_rfl
@[simp] theorem qsize_36 : qsize Try.prog 36 = some 1 := by kernel_rfl
@[simp] theorem qbytes_36 : qbytes Try.prog 36 = some 24 := by kernel_rfl
@[simp] theorem qagg_36 : qagg Try.prog 36 = some true := by kernel_rfl
@[simp] theorem qzero_36 : qzero Try.prog 36 = some (V.agg [V.sl none 0 false]) := by kernel_rfl
@[simp] theorem qplaces_36 : qplaces Try.prog 36 = some [(0, 1)] := by kernel_rfl
@[simp] theorem qconcrete_36 : qconcrete Try.prog 36 = true := by kernel_rfl
@[simp] theorem qthere_36 : qthere Try.prog 36 = true := by kernel_rfl
@[simp] theorem cellsOf_36 : Go.Program.cellsOf Try.prog 36 = 1 := by kernel_rfl
@[simp] theorem bytesOf_36 : Go.Program.bytesOf Try.prog 36 = 24 := by kernel_rfl
@[simp] theorem qsize_38 : qsize Try.prog 38 = some 3 := by kernel_rfl
@[simp] theorem qbytes_38 : qbytes Try.prog 38 = some 32 := by kernel_rfl
@[simp] theorem qagg_38 : qagg Try.prog 38 = some true := by kernel_rfl
@[simp] theorem qzero_38 : qzero Try.prog 38 = some (V.agg [V.i Go.IntKind.i64 (0), V.i Go.IntKind.i64 (0), V.s []]) := by kernel_rfl
@[simp] theorem qplaces_38 : qplaces Try.prog 38 = some [(0, 1), (1, 1), (2, 1)] := by kernel_rfl
@[simp] theorem qconcrete_38 : qconcrete Try.prog 38 = true := by kernel_rfl
@[simp] theorem qkey_38 : qkey Try.prog 38 = true := by kernel_rfl
@[simp] theorem qthere_38 : qthere Try.prog 38 = true := by kernel_rfl
@[simp] theorem qeq_38 : qeq Try.prog 38 = some [CK.i Go.IntKind.i64, CK.i Go.IntKind.i64, CK.s] := by kernel_rfl
@[simp] theorem cellsOf_38 : Go.Program.cellsOf Try.prog 38 = 3 := by kernel_rfl
@[simp] theorem bytesOf_38 : Go.Program.bytesOf Try.prog 38 = 32 := by kernel_rfl
@[simp] theorem qsize_47 : qsize Try.prog 47 = some 1 := by kernel_rfl
@[simp] theorem qbytes_47 : qbytes Try.prog 47 = some 8 := by kernel_rfl
@[simp] theorem qagg_47 : qagg Try.prog 47 = some false := by kernel_rfl
@[simp] theorem qzero_47 : qzero Try.prog 47 = some (V.m none) := by kernel_rfl
@[simp] theorem qconcrete_47 : qconcrete Try.prog 47 = true := by kernel_rfl
@[simp] theorem qthere_47 : qthere Try.prog 47 = true := by kernel_rfl
@[simp] theorem cellsOf_47 : Go.Program.cellsOf Try.prog 47 = 1 := by kernel_rfl
@[simp] theorem bytesOf_47 : Go.Program.bytesOf Try.prog 47 = 8 := by kernel_rfl
@[simp] theorem qmap_47 : qmap Try.prog 47 = some (9, 3) := by kernel_rfl
@[simp] theorem qsize_49 : qsize Try.prog 49 = some 2 := by kernel_rfl
@[simp] theorem qbytes_49 : qbytes Try.prog 49 = some 32 := by kernel_rfl
@[simp] theorem qagg_49 : qagg Try.prog 49 = some true := by kernel_rfl
@[simp] theorem qzero_49 : qzero Try.prog 49 = some (V.agg [V.m none, V.sl none 0 false]) := by kernel_rfl
@[simp] theorem qplaces_49 : qplaces Try.prog 49 = some [(0, 1), (1, 1)] := by kernel_rfl
@[simp] theorem qconcrete_49 : qconcrete Try.prog 49 = true := by kernel_rfl
@[simp] theorem qthere_49 : qthere Try.prog 49 = true := by kernel_rfl
@[simp] theorem cellsOf_49 : Go.Program.cellsOf Try.prog 49 = 2 := by kernel_rfl
@[simp] theorem bytesOf_49 : Go.Program.bytesOf Try.prog 49 = 32 := by kernel_rfl
@[simp] theorem qfield_36_0 : qfield Try.prog 36 0 = some (0, 1, false) := by kernel_rfl
@[simp] theorem qfield_38_0 : qfield Try.prog 38 0 = some (0, 1, false) := by kernel_rfl
@[simp] theorem qfield_38_1 : qfield Try.prog 38 1 = some (1, 1, false) := by kernel_rfl
@[simp] theorem qfield_38_2 : qfield Try.prog 38 2 = some (2, 1, false) := by kernel_rfl
@[simp] theorem qfield_49_0 : qfield Try.prog 49 0 = some (0, 1, false) := by kernel_rfl
@[simp] theorem qfield_49_1 : qfield Try.prog 49 1 = some (1, 1, false) := by kernel_rfl
/-- 19 operations, 20 nodes, looks at memory: true -/
def pl_3_26 : Plan := .take 0 (.take 1 (.take 2 (.take 3 (.take 4 (.take 5 (.take 6 (.take 7 (.take 8 (.take 9 (.take 10 (.take 11 (.take 12 (.take 13 (.take 14 (.take 15 (.take 16 (.take 17 (.take 18 (.done)))))))))))))))))))
def pe_3_26 : Bool := true
/-- 8 operations, 9 nodes, looks at memory: true -/
def pl_4_28 : Plan := .take 0 (.take 2 (.take 3 (.take 4 (.take 5 (.take 6 (.alt 1 true (.take 7 (.done)) (.stop)))))))
def pe_4_28 : Bool := true
/-- 11 operations, 12 nodes, looks at memory: true -/
def pl_8_9 : Plan := .take 0 (.take 1 (.take 2 (.take 3 (.take 4 (.take 5 (.take 6 (.take 7 (.take 8 (.take 9 (.alt 10 false (.done) (.stop)))))))))))
def pe_8_9 : Bool := true
end Go.Proofs.Ytmbjcpjhlceenaa
