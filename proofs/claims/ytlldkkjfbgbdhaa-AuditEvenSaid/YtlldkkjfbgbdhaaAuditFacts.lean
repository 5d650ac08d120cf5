/-
  Facts about this program's types, by program.
-/
import Derived.Test.YtlldkkjfbgbdhaaAbsEval
import Derived.Test.YtlldkkjfbgbdhaaProg
set_option linter.unusedVariables false
namespace Go.Proofs.Ytlldkkjfbgbdhaa
open Go Go.Abs Go.Proofs
@[simp] theorem qsize_2 : qsize Try.prog 2 = some 1 := by kernel_rfl
@[simp] theorem qbytes_2 : qbytes Try.prog 2 = some 8 := by kernel_rfl
@[simp] theorem qagg_2 : qagg Try.prog 2 = some false := by kernel_rfl
@[simp] theorem qzero_2 : qzero Try.prog 2 = some (V.i Go.IntKind.i64 (0)) := by kernel_rfl
@[simp] theorem qint_2 : qint Try.prog 2 = some Go.IntKind.i64 := by kernel_rfl
@[simp] theorem keqi_2 (a c : Int) : keq Try.prog 2 (.i Go.IntKind.i64 a) (.i Go.IntKind.i64 c) = some (a == c) := keq_i qint_2
@[simp] theorem qconcrete_2 : qconcrete Try.prog 2 = true := by kernel_rfl
@[simp] theorem qkey_2 : qkey Try.prog 2 = true := by kernel_rfl
@[simp] theorem qplainKey_2 : qplainKey Try.prog 2 = true := by kernel_rfl
@[simp] theorem kf_2 (k : V) : keyFits Try.prog 2 k = true := keyFits_plain qplainKey_2
@[simp] theorem qthere_2 : qthere Try.prog 2 = true := by kernel_rfl
@[simp] theorem cellsOf_2 : Go.Program.cellsOf Try.prog 2 = 1 := by kernel_rfl
@[simp] theorem bytesOf_2 : Go.Program.bytesOf Try.prog 2 = 8 := by kernel_rfl
@[simp] theorem qsize_3 : qsize Try.prog 3 = some 1 := by kernel_rfl
@[simp] theorem qbytes_3 : qbytes Try.prog 3 = some 8 := by kernel_rfl
@[simp] theorem qagg_3 : qagg Try.prog 3 = some false := by kernel_rfl
@[simp] theorem qzero_3 : qzero Try.prog 3 = some (V.i Go.IntKind.i64 (0)) := by kernel_rfl
@[simp] theorem qint_3 : qint Try.prog 3 = some Go.IntKind.i64 := by kernel_rfl
@[simp] theorem keqi_3 (a c : Int) : keq Try.prog 3 (.i Go.IntKind.i64 a) (.i Go.IntKind.i64 c) = some (a == c) := keq_i qint_3
@[simp] theorem qconcrete_3 : qconcrete Try.prog 3 = true := by kernel_rfl
@[simp] theorem qkey_3 : qkey Try.prog 3 = true := by kernel_rfl
@[simp] theorem qplainKey_3 : qplainKey Try.prog 3 = true := by kernel_rfl
@[simp] theorem kf_3 (k : V) : keyFits Try.prog 3 k = true := keyFits_plain qplainKey_3
@[simp] theorem qthere_3 : qthere Try.prog 3 = true := by kernel_rfl
@[simp] theorem cellsOf_3 : Go.Program.cellsOf Try.prog 3 = 1 := by kernel_rfl
@[simp] theorem bytesOf_3 : Go.Program.bytesOf Try.prog 3 = 8 := by kernel_rfl
@[simp] theorem qsize_4 : qsize Try.prog 4 = some 1 := by kernel_rfl
@[simp] theorem qbytes_4 : qbytes Try.prog 4 = some 1 := by kernel_rfl
@[simp] theorem qagg_4 : qagg Try.prog 4 = some false := by kernel_rfl
@[simp] theorem qzero_4 : qzero Try.prog 4 = some (V.b false) := by kernel_rfl
@[simp] theorem qconcrete_4 : qconcrete Try.prog 4 = true := by kernel_rfl
@[simp] theorem qbool_4 : qbool Try.prog 4 = true := by kernel_rfl
@[simp] theorem bb_4 (x y : Bool) : aeq Try.prog 4 (.b x) (.b y) = some (x == y) := aeq_bb qbool_4
@[simp] theorem qthere_4 : qthere Try.prog 4 = true := by kernel_rfl
@[simp] theorem cellsOf_4 : Go.Program.cellsOf Try.prog 4 = 1 := by kernel_rfl
@[simp] theorem bytesOf_4 : Go.Program.bytesOf Try.prog 4 = 1 := by kernel_rfl
@[simp] theorem qsize_8 : qsize Try.prog 8 = some 4 := by kernel_rfl
@[simp] theorem qbytes_8 : qbytes Try.prog 8 = some 24 := by kernel_rfl
@[simp] theorem qagg_8 : qagg Try.prog 8 = some true := by kernel_rfl
@[simp] theorem qzero_8 : qzero Try.prog 8 = some   (V.agg     [V.i Go.IntKind.i64 (0), V.i Go.IntKind.i64 (0), V.b false, V.i Go.IntKind.u8 (0)]) := by kernel_rfl
@[simp] theorem qplaces_8 : qplaces Try.prog 8 = some [(0, 1), (1, 1), (2, 1), (3, 1)] := by kernel_rfl
@[simp] theorem qconcrete_8 : qconcrete Try.prog 8 = true := by kernel_rfl
@[simp] theorem qkey_8 : qkey Try.prog 8 = true := by kernel_rfl
@[simp] theorem qthere_8 : qthere Try.prog 8 = true := by kernel_rfl
@[simp] theorem qeq_8 : qeq Try.prog 8 = some [CK.i Go.IntKind.i64, CK.i Go.IntKind.i64, CK.b, CK.i Go.IntKind.u8] := by kernel_rfl
@[simp] theorem cellsOf_8 : Go.Program.cellsOf Try.prog 8 = 4 := by kernel_rfl
@[simp] theorem bytesOf_8 : Go.Program.bytesOf Try.prog 8 = 24 := by kernel_rfl
@[simp] theorem qsize_9 : qsize Try.prog 9 = some 1 := by kernel_rfl
@[simp] theorem qbytes_9 : qbytes Try.prog 9 = some 16 := by kernel_rfl
@[simp] theorem qagg_9 : qagg Try.prog 9 = some false := by kernel_rfl
@[simp] theorem qzero_9 : qzero Try.prog 9 = some (V.s []) := by kernel_rfl
@[simp] theorem qstr_9 : qstr Try.prog 9 = true := by kernel_rfl
@[simp] theorem keqs_9 (a c : List UInt8) : keq Try.prog 9 (.s a) (.s c) = some (a == c) := keq_s qstr_9
@[simp] theorem qconcrete_9 : qconcrete Try.prog 9 = true := by kernel_rfl
@[simp] theorem qkey_9 : qkey Try.prog 9 = true := by kernel_rfl
@[simp] theorem qsrc_9 : qsrc Try.prog 9 = true := by kernel_rfl
@[simp] theorem qplainKey_9 : qplainKey Try.prog 9 = true := by kernel_rfl
@[simp] theorem kf_9 (k : V) : keyFits Try.prog 9 k = true := keyFits_plain qplainKey_9
@[simp] theorem qthere_9 : qthere Try.prog 9 = true := by kernel_rfl
@[simp] theorem cellsOf_9 : Go.Program.cellsOf Try.prog 9 = 1 := by kernel_rfl
@[simp] theorem bytesOf_9 : Go.Program.bytesOf Try.prog 9 = 16 := by kernel_rfl
@[simp] theorem qsize_10 : qsize Try.prog 10 = some 1 := by kernel_rfl
@[simp] theorem qbytes_10 : qbytes Try.prog 10 = some 16 := by kernel_rfl
@[simp] theorem qagg_10 : qagg Try.prog 10 = some false := by kernel_rfl
@[simp] theorem qzero_10 : qzero Try.prog 10 = some (V.s []) := by kernel_rfl
@[simp] theorem qstr_10 : qstr Try.prog 10 = true := by kernel_rfl
@[simp] theorem keqs_10 (a c : List UInt8) : keq Try.prog 10 (.s a) (.s c) = some (a == c) := keq_s qstr_10
@[simp] theorem qconcrete_10 : qconcrete Try.prog 10 = true := by kernel_rfl
@[simp] theorem qkey_10 : qkey Try.prog 10 = true := by kernel_rfl
@[simp] theorem qsrc_10 : qsrc Try.prog 10 = true := by kernel_rfl
@[simp] theorem qplainKey_10 : qplainKey Try.prog 10 = true := by kernel_rfl
@[simp] theorem kf_10 (k : V) : keyFits Try.prog 10 k = true := keyFits_plain qplainKey_10
@[simp] theorem qthere_10 : qthere Try.prog 10 = true := by kernel_rfl
@[simp] theorem cellsOf_10 : Go.Program.cellsOf Try.prog 10 = 1 := by kernel_rfl
@[simp] theorem bytesOf_10 : Go.Program.bytesOf Try.prog 10 = 16 := by kernel_rfl
@[simp] theorem qsize_11 : qsize Try.prog 11 = some 1 := by kernel_rfl
@[simp] theorem qbytes_11 : qbytes Try.prog 11 = some 16 := by kernel_rfl
@[simp] theorem qagg_11 : qagg Try.prog 11 = some false := by kernel_rfl
@[simp] theorem qzero_11 : qzero Try.prog 11 = some (V.s []) := by kernel_rfl
@[simp] theorem qstr_11 : qstr Try.prog 11 = true := by kernel_rfl
@[simp] theorem keqs_11 (a c : List UInt8) : keq Try.prog 11 (.s a) (.s c) = some (a == c) := keq_s qstr_11
@[simp] theorem qconcrete_11 : qconcrete Try.prog 11 = true := by kernel_rfl
@[simp] theorem qkey_11 : qkey Try.prog 11 = true := by kernel_rfl
@[simp] theorem qsrc_11 : qsrc Try.prog 11 = true := by kernel_rfl
@[simp] theorem qplainKey_11 : qplainKey Try.prog 11 = true := by kernel_rfl
@[simp] theorem kf_11 (k : V) : keyFits Try.prog 11 k = true := keyFits_plain qplainKey_11
@[simp] theorem qthere_11 : qthere Try.prog 11 = true := by kernel_rfl
@[simp] theorem cellsOf_11 : Go.Program.cellsOf Try.prog 11 = 1 := by kernel_rfl
@[simp] theorem bytesOf_11 : Go.Program.bytesOf Try.prog 11 = 16 := by kernel_rfl
@[simp] theorem qsize_14 : qsize Try.prog 14 = some 2 := by kernel_rfl
@[simp] theorem qbytes_14 : qbytes Try.prog 14 = some 24 := by kernel_rfl
@[simp] theorem qagg_14 : qagg Try.prog 14 = some true := by kernel_rfl
@[simp] theorem qzero_14 : qzero Try.prog 14 = some (V.agg [V.s [], V.i Go.IntKind.u64 (0)]) := by kernel_rfl
@[simp] theorem qplaces_14 : qplaces Try.prog 14 = some [(0, 1), (1, 1)] := by kernel_rfl
@[simp] theorem qconcrete_14 : qconcrete Try.prog 14 = true := by kernel_rfl
@[simp] theorem qthere_14 : qthere Try.prog 14 = true := by kernel_rfl
@[simp] theorem cellsOf_14 : Go.Program.cellsOf Try.prog 14 = 2 := by kernel_rfl
@[simp] theorem bytesOf_14 : Go.Program.bytesOf Try.prog 14 = 24 := by kernel_rfl
@[simp] theorem qsize_15 : qsize Try.prog 15 = some 1 := by kernel_rfl
@[simp] theorem qbytes_15 : qbytes Try.prog 15 = some 8 := by kernel_rfl
@[simp] theorem qagg_15 : qagg Try.prog 15 = some false := by kernel_rfl
@[simp] theorem qzero_15 : qzero Try.prog 15 = some (V.p none) := by kernel_rfl
@[simp] theorem qconcrete_15 : qconcrete Try.prog 15 = true := by kernel_rfl
@[simp] theorem qptr_15 : qptr Try.prog 15 = true := by kernel_rfl
@[simp] theorem pnn_15 : aeq Try.prog 15 (.p none) (.p none) = some true := aeq_pnn qptr_15
@[simp] theorem psn_15 (q : Nat × Nat × Nat) : aeq Try.prog 15 (.p (some q)) (.p none) = some false := aeq_psn qptr_15
@[simp] theorem qthere_15 : qthere Try.prog 15 = true := by kernel_rfl
@[simp] theorem cellsOf_15 : Go.Program.cellsOf Try.prog 15 = 1 := by kernel_rfl
@[simp] theorem bytesOf_15 : Go.Program.bytesOf Try.prog 15 = 8 := by kernel_rfl
@[simp] theorem qsize_16 : qsize Try.prog 16 = some 1 := by kernel_rfl
@[simp] theorem qbytes_16 : qbytes Try.prog 16 = some 8 := by kernel_rfl
@[simp] theorem qagg_16 : qagg Try.prog 16 = some false := by kernel_rfl
@[simp] theorem qzero_16 : qzero Try.prog 16 = some (V.p none) := by kernel_rfl
@[simp] theorem qconcrete_16 : qconcrete Try.prog 16 = true := by kernel_rfl
@[simp] theorem qptr_16 : qptr Try.prog 16 = true := by kernel_rfl
@[simp] theorem pnn_16 : aeq Try.prog 16 (.p none) (.p none) = some true := aeq_pnn qptr_16
@[simp] theorem psn_16 (q : Nat × Nat × Nat) : aeq Try.prog 16 (.p (some q)) (.p none) = some false := aeq_psn qptr_16
@[simp] theorem qthere_16 : qthere Try.prog 16 = true := by kernel_rfl
@[simp] theorem cellsOf_16 : Go.Program.cellsOf Try.prog 16 = 1 := by kernel_rfl
@[simp] theorem bytesOf_16 : Go.Program.bytesOf Try.prog 16 = 8 := by kernel_rfl
@[simp] theorem qsize_17 : qsize Try.prog 17 = some 1 := by kernel_rfl
@[simp] theorem qbytes_17 : qbytes Try.prog 17 = some 8 := by kernel_rfl
@[simp] theorem qagg_17 : qagg Try.prog 17 = some false := by kernel_rfl
@[simp] theorem qzero_17 : qzero Try.prog 17 = some (V.p none) := by kernel_rfl
@[simp] theorem qconcrete_17 : qconcrete Try.prog 17 = true := by kernel_rfl
@[simp] theorem qptr_17 : qptr Try.prog 17 = true := by kernel_rfl
@[simp] theorem pnn_17 : aeq Try.prog 17 (.p none) (.p none) = some true := aeq_pnn qptr_17
@[simp] theorem psn_17 (q : Nat × Nat × Nat) : aeq Try.prog 17 (.p (some q)) (.p none) = some false := aeq_psn qptr_17
@[simp] theorem qthere_17 : qthere Try.prog 17 = true := by kernel_rfl
@[simp] theorem cellsOf_17 : Go.Program.cellsOf Try.prog 17 = 1 := by kernel_rfl
@[simp] theorem bytesOf_17 : Go.Program.bytesOf Try.prog 17 = 8 := by kernel_rfl
@[simp] theorem qsize_19 : qsize Try.prog 19 = some 1 := by kernel_rfl
@[simp] theorem qbytes_19 : qbytes Try.prog 19 = some 8 := by kernel_rfl
@[simp] theorem qagg_19 : qagg Try.prog 19 = some true := by kernel_rfl
@[simp] theorem qzero_19 : qzero Try.prog 19 = some (V.agg [V.p none]) := by kernel_rfl
@[simp] theorem qplaces_19 : qplaces Try.prog 19 = some [(0, 1)] := by kernel_rfl
@[simp] theorem qconcrete_19 : qconcrete Try.prog 19 = true := by kernel_rfl
@[simp] theorem qthere_19 : qthere Try.prog 19 = true := by kernel_rfl
@[simp] theorem cellsOf_19 : Go.Program.cellsOf Try.prog 19 = 1 := by kernel_rfl
@[simp] theorem bytesOf_19 : Go.Program.bytesOf Try.prog 19 = 8 := by kernel_rfl
@[simp] theorem qsize_22 : qsize Try.prog 22 = some 1 := by kernel_rfl
@[simp] theorem qbytes_22 : qbytes Try.prog 22 = some 24 := by kernel_rfl
@[simp] theorem qagg_22 : qagg Try.prog 22 = some false := by kernel_rfl
@[simp] theorem qzero_22 : qzero Try.prog 22 = some (V.sl none 0 false) := by kernel_rfl
@[simp] theorem qconcrete_22 : qconcrete Try.prog 22 = true := by kernel_rfl
@[simp] theorem qsrc_22 : qsrc Try.prog 22 = true := by kernel_rfl
@[simp] theorem qthere_22 : qthere Try.prog 22 = true := by kernel_rfl
@[simp] theorem cellsOf_22 : Go.Program.cellsOf Try.prog 22 = 1 := by kernel_rfl
@[simp] theorem bytesOf_22 : Go.Program.bytesOf Try.prog 22 = 24 := by kernel_rfl
@[simp] theorem qelem_22 : qelem Try.prog 22 = some 3 := by kernel_rfl
@[simp] theorem qsize_23 : qsize Try.prog 23 = some 1 := by kernel_rfl
@[simp] theorem qbytes_23 : qbytes Try.prog 23 = some 24 := by kernel_rfl
@[simp] theorem qagg_23 : qagg Try.prog 23 = some false := by kernel_rfl
@[simp] theorem qzero_23 : qzero Try.prog 23 = some (V.sl none 0 false) := by kernel_rfl
@[simp] theorem qconcrete_23 : qconcrete Try.prog 23 = true := by kernel_rfl
@[simp] theorem qsrc_23 : qsrc Try.prog 23 = true := by kernel_rfl
@[simp] theorem qthere_23 : qthere Try.prog 23 = true := by kernel_rfl
@[simp] theorem cellsOf_23 : Go.Program.cellsOf Try.prog 23 = 1 := by kernel_rfl
@[simp] theorem bytesOf_23 : Go.Program.bytesOf Try.prog 23 = 24 := by kernel_rfl
@[simp] theorem qelem_23 : qelem Try.prog 23 = some 30 := by kernel_rfl
@[simp] theorem qsize_24 : qsize Try.prog 24 = some 1 := by kernel_rfl
@[simp] theorem qbytes_24 : qbytes Try.prog 24 = some 4 := by kernel_rfl
@[simp] theorem qagg_24 : qagg Try.prog 24 = some false := by kernel_rfl
@[simp] theorem qzero_24 : qzero Try.prog 24 = some (V.i Go.IntKind.u32 (0)) := by kernel_rfl
@[simp] theorem qint_24 : qint Try.prog 24 = some Go.IntKind.u32 := by kernel_rfl
@[simp] theorem keqi_24 (a c : Int) : keq Try.prog 24 (.i Go.IntKind.u32 a) (.i Go.IntKind.u32 c) = some (a == c) := keq_i qint_24
@[simp] theorem qconcrete_24 : qconcrete Try.prog 24 = true := by kernel_rfl
@[simp] theorem qkey_24 : qkey Try.prog 24 = true := by kernel_rfl
@[simp] theorem qplainKey_24 : qplainKey Try.prog 24 = true := by kernel_rfl
@[simp] theorem kf_24 (k : V) : keyFits Try.prog 24 k = true := keyFits_plain qplainKey_24
@[simp] theorem qthere_24 : qthere Try.prog 24 = true := by kernel_rfl
@[simp] theorem cellsOf_24 : Go.Program.cellsOf Try.prog 24 = 1 := by kernel_rfl
@[simp] theorem bytesOf_24 : Go.Program.bytesOf Try.prog 24 = 4 := by kernel_rfl
@[simp] theorem qsize_28 : qsize Try.prog 28 = some 10 := by kernel_rfl
@[simp] theorem qbytes_28 : qbytes Try.prog 28 = some 80 := by kernel_rfl
@[simp] theorem qagg_28 : qagg Try.prog 28 = some true := by kernel_rfl
@[simp] theorem qzero_28 : qzero Try.prog 28 = some   (V.agg     [V.i Go.IntKind.i64 (0), V.i Go.IntKind.i64 (0), V.i Go.IntKind.i64 (0),       V.i Go.IntKind.i64 (0), V.i Go.IntKind.i64 (0), V.i Go.IntKind.i64 (0),       V.i Go.IntKind.i64 (0), V.i Go.IntKind.i64 (0), V.i Go.IntKind.i64 (0),       V.i Go.IntKind.i64 (0)]) := by kernel_rfl
@[simp] theorem qplaces_28 : qplaces Try.prog 28 = some [(0, 1), (1, 1), (2, 1), (3, 1), (4, 1), (5, 1), (6, 1), (7, 1), (8, 1), (9, 1)] := by kernel_rfl
@[simp] theorem qconcrete_28 : qconcrete Try.prog 28 = true := by kernel_rfl
@[simp] theorem qkey_28 : qkey Try.prog 28 = true := by kernel_rfl
@[simp] theorem qthere_28 : qthere Try.prog 28 = true := by kernel_rfl
@[simp] theorem qeq_28 : qeq Try.prog 28 = some   [CK.i Go.IntKind.i64, CK.i Go.IntKind.i64, CK.i Go.IntKind.i64, CK.i Go.IntKind.i64, CK.i Go.IntKind.i64,     CK.i Go.IntKind.i64, CK.i Go.IntKind.i64, CK.i Go.IntKind.i64, CK.i Go.IntKind.i64, CK.i Go.IntKind.i64] := by kernel_rfl
@[simp] theorem cellsOf_28 : Go.Program.cellsOf Try.prog 28 = 10 := by kernel_rfl
@[simp] theorem bytesOf_28 : Go.Program.bytesOf Try.prog 28 = 80 := by kernel_rfl
@[simp] theorem qsize_30 : qsize Try.prog 30 = some 11 := by kernel_rfl
@[simp] theorem qbytes_30 : qbytes Try.prog 30 = some 88 := by kernel_rfl
@[simp] theorem qagg_30 : qagg Try.prog 30 = some true := by kernel_rfl
@[simp] theorem qzero_30 : qzero Try.prog 30 = some   (V.agg     [V.i Go.IntKind.i64 (0), V.i Go.IntKind.i64 (0), V.i Go.IntKind.i64 (0),       V.i Go.IntKind.i64 (0), V.i Go.IntKind.i64 (0), V.i Go.IntKind.i64 (0),       V.i Go.IntKind.i64 (0), V.i Go.IntKind.i64 (0), V.i Go.IntKind.i64 (0),       V.i Go.IntKind.i64 (0), V.i Go.IntKind.i64 (0)]) := by kernel_rfl
@[simp] theorem qplaces_30 : qplaces Try.prog 30 = some [(0, 1), (1, 10)] := by kernel_rfl
@[simp] theorem qconcrete_30 : qconcrete Try.prog 30 = true := by kernel_rfl
@[simp] theorem qkey_30 : qkey Try.prog 30 = true := by kernel_rfl
@[simp] theorem qthere_30 : qthere Try.prog 30 = true := by kernel_rfl
@[simp] theorem qeq_30 : qeq Try.prog 30 = some   [CK.i Go.IntKind.i64, CK.i Go.IntKind.i64, CK.i Go.IntKind.i64, CK.i Go.IntKind.i64, CK.i Go.IntKind.i64,     CK.i Go.IntKind.i64, CK.i Go.IntKind.i64, CK.i Go.IntKind.i64, CK.i Go.IntKind.i64, CK.i Go.IntKind.i64,     CK.i Go.IntKind.i64] := by kernel_rfl
@[simp] theorem cellsOf_30 : Go.Program.cellsOf Try.prog 30 = 11 := by kernel_rfl
@[simp] theorem bytesOf_30 : Go.Program.bytesOf Try.prog 30 = 88 := by kernel_rfl
@[simp] theorem qsize_37 : qsize Try.prog 37 = some 1 := by kernel_rfl
@[simp] theorem qbytes_37 : qbytes Try.prog 37 = some 8 := by kernel_rfl
@[simp] theorem qagg_37 : qagg Try.prog 37 = some false := by kernel_rfl
@[simp] theorem qzero_37 : qzero Try.prog 37 = some (V.p none) := by kernel_rfl
@[simp] theorem qconcrete_37 : qconcrete Try.prog 37 = true := by kernel_rfl
@[simp] theorem qptr_37 : qptr Try.prog 37 = true := by kernel_rfl
@[simp] theorem pnn_37 : aeq Try.prog 37 (.p none) (.p none) = some true := aeq_pnn qptr_37
@[simp] theorem psn_37 (q : Nat × Nat × Nat) : aeq Try.prog 37 (.p (some q)) (.p none) = some false := aeq_psn qptr_37
@[simp] theorem qthere_37 : qthere Try.prog 37 = true := by kernel_rfl
@[simp] theorem cellsOf_37 : Go.Program.cellsOf Try.prog 37 = 1 := by kernel_rfl
@[simp] theorem bytesOf_37 : Go.Program.bytesOf Try.prog 37 = 8 := by kernel_rfl
@[simp] theorem qsize_39 : qsize Try.prog 39 = some 1 := by kernel_rfl
@[simp] theorem qbytes_39 : qbytes Try.prog 39 = some 8 := by kernel_rfl
@[simp] theorem qagg_39 : qagg Try.prog 39 = some false := by kernel_rfl
@[simp] theorem qzero_39 : qzero Try.prog 39 = some V.nf := by kernel_rfl
@[simp] theorem qconcrete_39 : qconcrete Try.prog 39 = true := by kernel_rfl
@[simp] theorem qthere_39 : qthere Try.prog 39 = true := by kernel_rfl
@[simp] theorem cellsOf_39 : Go.Program.cellsOf Try.prog 39 = 1 := by kernel_rfl
@[simp] theorem bytesOf_39 : Go.Program.bytesOf Try.prog 39 = 8 := by kernel_rfl
@[simp] theorem qsize_41 : qsize Try.prog 41 = some 1 := by kernel_rfl
@[simp] theorem qbytes_41 : qbytes Try.prog 41 = some 8 := by kernel_rfl
@[simp] theorem qagg_41 : qagg Try.prog 41 = some false := by kernel_rfl
@[simp] theorem qzero_41 : qzero Try.prog 41 = some (V.p none) := by kernel_rfl
@[simp] theorem qconcrete_41 : qconcrete Try.prog 41 = true := by kernel_rfl
@[simp] theorem qptr_41 : qptr Try.prog 41 = true := by kernel_rfl
@[simp] theorem pnn_41 : aeq Try.prog 41 (.p none) (.p none) = some true := aeq_pnn qptr_41
@[simp] theorem psn_41 (q : Nat × Nat × Nat) : aeq Try.prog 41 (.p (some q)) (.p none) = some false := aeq_psn qptr_41
@[simp] theorem qthere_41 : qthere Try.prog 41 = true := by kernel_rfl
@[simp] theorem cellsOf_41 : Go.Program.cellsOf Try.prog 41 = 1 := by kernel_rfl
@[simp] theorem bytesOf_41 : Go.Program.bytesOf Try.prog 41 = 8 := by kernel_rfl
@[simp] theorem qsize_46 : qsize Try.prog 46 = some 1 := by kernel_rfl
@[simp] theorem qbytes_46 : qbytes Try.prog 46 = some 8 := by kernel_rfl
@[simp] theorem qagg_46 : qagg Try.prog 46 = some false := by kernel_rfl
@[simp] theorem qzero_46 : qzero Try.prog 46 = some V.nf := by kernel_rfl
@[simp] theorem qconcrete_46 : qconcrete Try.prog 46 = true := by kernel_rfl
@[simp] theorem qthere_46 : qthere Try.prog 46 = true := by kernel_rfl
@[simp] theorem cellsOf_46 : Go.Program.cellsOf Try.prog 46 = 1 := by kernel_rfl
@[simp] theorem bytesOf_46 : Go.Program.bytesOf Try.prog 46 = 8 := by kernel_rfl
@[simp] theorem qsize_47 : qsize Try.prog 47 = some 1 := by kernel_rfl
@[simp] theorem qbytes_47 : qbytes Try.prog 47 = some 8 := by kernel_rfl
@[simp] theorem qagg_47 : qagg Try.prog 47 = some false := by kernel_rfl
@[simp] theorem qzero_47 : qzero Try.prog 47 = some (V.p none) := by kernel_rfl
@[simp] theorem qconcrete_47 : qconcrete Try.prog 47 = true := by kernel_rfl
@[simp] theorem qptr_47 : qptr Try.prog 47 = true := by kernel_rfl
@[simp] theorem pnn_47 : aeq Try.prog 47 (.p none) (.p none) = some true := aeq_pnn qptr_47
@[simp] theorem psn_47 (q : Nat × Nat × Nat) : aeq Try.prog 47 (.p (some q)) (.p none) = some false := aeq_psn qptr_47
@[simp] theorem qthere_47 : qthere Try.prog 47 = true := by kernel_rfl
@[simp] theorem cellsOf_47 : Go.Program.cellsOf Try.prog 47 = 1 := by kernel_rfl
@[simp] theorem bytesOf_47 : Go.Program.bytesOf Try.prog 47 = 8 := by kernel_rfl
@[simp] theorem qsize_51 : qsize Try.prog 51 = some 1 := by kernel_rfl
@[simp] theorem qbytes_51 : qbytes Try.prog 51 = some 8 := by kernel_rfl
@[simp] theorem qagg_51 : qagg Try.prog 51 = some false := by kernel_rfl
@[simp] theorem qzero_51 : qzero Try.prog 51 = some (V.p none) := by kernel_rfl
@[simp] theorem qconcrete_51 : qconcrete Try.prog 51 = true := by kernel_rfl
@[simp] theorem qptr_51 : qptr Try.prog 51 = true := by kernel_rfl
@[simp] theorem pnn_51 : aeq Try.prog 51 (.p none) (.p none) = some true := aeq_pnn qptr_51
@[simp] theorem psn_51 (q : Nat × Nat × Nat) : aeq Try.prog 51 (.p (some q)) (.p none) = some false := aeq_psn qptr_51
@[simp] theorem qthere_51 : qthere Try.prog 51 = true := by kernel_rfl
@[simp] theorem cellsOf_51 : Go.Program.cellsOf Try.prog 51 = 1 := by kernel_rfl
@[simp] theorem bytesOf_51 : Go.Program.bytesOf Try.prog 51 = 8 := by kernel_rfl
@[simp] theorem qsize_55 : qsize Try.prog 55 = some 4 := by kernel_rfl
@[simp] theorem qbytes_55 : qbytes Try.prog 55 = some 64 := by kernel_rfl
@[simp] theorem qagg_55 : qagg Try.prog 55 = some true := by kernel_rfl
@[simp] theorem qzero_55 : qzero Try.prog 55 = some (V.agg [V.p none, V.sl none 0 false, V.m none, V.sl none 0 false]) := by kernel_rfl
@[simp] theorem qplaces_55 : qplaces Try.prog 55 = some [(0, 1), (1, 1), (2, 1), (3, 1)] := by kernel_rfl
@[simp] theorem qconcrete_55 : qconcrete Try.prog 55 = true := by kernel_rfl
@[simp] theorem qthere_55 : qthere Try.prog 55 = true := by kernel_rfl
@[simp] theorem cellsOf_55 : Go.Program.cellsOf Try.prog 55 = 4 := by kernel_rfl
@[simp] theorem bytesOf_55 : Go.Program.bytesOf Try.prog 55 = 64 := by kernel_rfl
@[simp] theorem qsize_58 : qsize Try.prog 58 = some 9 := by kernel_rfl
@[simp] theorem qbytes_58 : qbytes Try.prog 58 = some 88 := by kernel_rfl
@[simp] theorem qagg_58 : qagg Try.prog 58 = some true := by kernel_rfl
@[simp] theorem qzero_58 : qzero Try.prog 58 = some   (V.agg     [V.i Go.IntKind.i64 (0), V.i Go.IntKind.u32 (0), V.i Go.IntKind.i64 (0),       V.i Go.IntKind.i64 (0), V.i Go.IntKind.i64 (0), V.i Go.IntKind.i64 (0),       V.i Go.IntKind.i64 (0), V.i Go.IntKind.i64 (0), V.sl none 0 false]) := by kernel_rfl
@[simp] theorem qplaces_58 : qplaces Try.prog 58 = some [(0, 1), (1, 1), (2, 1), (3, 1), (4, 1), (5, 1), (6, 1), (7, 1), (8, 1)] := by kernel_rfl
@[simp] theorem qconcrete_58 : qconcrete Try.prog 58 = true := by kernel_rfl
@[simp] theorem qthere_58 : qthere Try.prog 58 = true := by kernel_rfl
@[simp] theorem cellsOf_58 : Go.Program.cellsOf Try.prog 58 = 9 := by kernel_rfl
@[simp] theorem bytesOf_58 : Go.Program.bytesOf Try.prog 58 = 88 := by kernel_rfl
@[simp] theorem qsize_59 : qsize Try.prog 59 = some 1 := by kernel_rfl
@[simp] theorem qbytes_59 : qbytes Try.prog 59 = some 8 := by kernel_rfl
@[simp] theorem qagg_59 : qagg Try.prog 59 = some false := by kernel_rfl
@[simp] theorem qzero_59 : qzero Try.prog 59 = some (V.p none) := by kernel_rfl
@[simp] theorem qconcrete_59 : qconcrete Try.prog 59 = true := by kernel_rfl
@[simp] theorem qptr_59 : qptr Try.prog 59 = true := by kernel_rfl
@[simp] theorem pnn_59 : aeq Try.prog 59 (.p none) (.p none) = some true := aeq_pnn qptr_59
@[simp] theorem psn_59 (q : Nat × Nat × Nat) : aeq Try.prog 59 (.p (some q)) (.p none) = some false := aeq_psn qptr_59
@[simp] theorem qthere_59 : qthere Try.prog 59 = true := by kernel_rfl
@[simp] theorem cellsOf_59 : Go.Program.cellsOf Try.prog 59 = 1 := by kernel_rfl
@[simp] theorem bytesOf_59 : Go.Program.bytesOf Try.prog 59 = 8 := by kernel_rfl
@[simp] theorem qsize_60 : qsize Try.prog 60 = some 1 := by kernel_rfl
@[simp] theorem qbytes_60 : qbytes Try.prog 60 = some 8 := by kernel_rfl
@[simp] theorem qagg_60 : qagg Try.prog 60 = some false := by kernel_rfl
@[simp] theorem qzero_60 : qzero Try.prog 60 = some (V.p none) := by kernel_rfl
@[simp] theorem qconcrete_60 : qconcrete Try.prog 60 = true := by kernel_rfl
@[simp] theorem qptr_60 : qptr Try.prog 60 = true := by kernel_rfl
@[simp] theorem pnn_60 : aeq Try.prog 60 (.p none) (.p none) = some true := aeq_pnn qptr_60
@[simp] theorem psn_60 (q : Nat × Nat × Nat) : aeq Try.prog 60 (.p (some q)) (.p none) = some false := aeq_psn qptr_60
@[simp] theorem qthere_60 : qthere Try.prog 60 = true := by kernel_rfl
@[simp] theorem cellsOf_60 : Go.Program.cellsOf Try.prog 60 = 1 := by kernel_rfl
@[simp] theorem bytesOf_60 : Go.Program.bytesOf Try.prog 60 = 8 := by kernel_rfl
@[simp] theorem qsize_61 : qsize Try.prog 61 = some 1 := by kernel_rfl
@[simp] theorem qbytes_61 : qbytes Try.prog 61 = some 8 := by kernel_rfl
@[simp] theorem qagg_61 : qagg Try.prog 61 = some false := by kernel_rfl
@[simp] theorem qzero_61 : qzero Try.prog 61 = some (V.p none) := by kernel_rfl
@[simp] theorem qconcrete_61 : qconcrete Try.prog 61 = true := by kernel_rfl
@[simp] theorem qptr_61 : qptr Try.prog 61 = true := by kernel_rfl
@[simp] theorem pnn_61 : aeq Try.prog 61 (.p none) (.p none) = some true := aeq_pnn qptr_61
@[simp] theorem psn_61 (q : Nat × Nat × Nat) : aeq Try.prog 61 (.p (some q)) (.p none) = some false := aeq_psn qptr_61
@[simp] theorem qthere_61 : qthere Try.prog 61 = true := by kernel_rfl
@[simp] theorem cellsOf_61 : Go.Program.cellsOf Try.prog 61 = 1 := by kernel_rfl
@[simp] theorem bytesOf_61 : Go.Program.bytesOf Try.prog 61 = 8 := by kernel_rfl
@[simp] theorem qsize_63 : qsize Try.prog 63 = some 3 := by kernel_rfl
@[simp] theorem qbytes_63 : qbytes Try.prog 63 = some 24 := by kernel_rfl
@[simp] theorem qagg_63 : qagg Try.prog 63 = some true := by kernel_rfl
@[simp] theorem qzero_63 : qzero Try.prog 63 = some (V.agg [V.p none, V.p none, V.p none]) := by kernel_rfl
@[simp] theorem qplaces_63 : qplaces Try.prog 63 = some [(0, 1), (1, 1), (2, 1)] := by kernel_rfl
@[simp] theorem qconcrete_63 : qconcrete Try.prog 63 = true := by kernel_rfl
@[simp] theorem qthere_63 : qthere Try.prog 63 = true := by kernel_rfl
@[simp] theorem cellsOf_63 : Go.Program.cellsOf Try.prog 63 = 3 := by kernel_rfl
@[simp] theorem bytesOf_63 : Go.Program.bytesOf Try.prog 63 = 24 := by kernel_rfl
@[simp] theorem qsize_64 : qsize Try.prog 64 = some 1 := by kernel_rfl
@[simp] theorem qbytes_64 : qbytes Try.prog 64 = some 8 := by kernel_rfl
@[simp] theorem qagg_64 : qagg Try.prog 64 = some false := by kernel_rfl
@[simp] theorem qzero_64 : qzero Try.prog 64 = some (V.p none) := by kernel_rfl
@[simp] theorem qconcrete_64 : qconcrete Try.prog 64 = true := by kernel_rfl
@[simp] theorem qptr_64 : qptr Try.prog 64 = true := by kernel_rfl
@[simp] theorem pnn_64 : aeq Try.prog 64 (.p none) (.p none) = some true := aeq_pnn qptr_64
@[simp] theorem psn_64 (q : Nat × Nat × Nat) : aeq Try.prog 64 (.p (some q)) (.p none) = some false := aeq_psn qptr_64
@[simp] theorem qthere_64 : qthere Try.prog 64 = true := by kernel_rfl
@[simp] theorem cellsOf_64 : Go.Program.cellsOf Try.prog 64 = 1 := by kernel_rfl
@[simp] theorem bytesOf_64 : Go.Program.bytesOf Try.prog 64 = 8 := by kernel_rfl
@[simp] theorem qsize_66 : qsize Try.prog 66 = some 1 := by kernel_rfl
@[simp] theorem qbytes_66 : qbytes Try.prog 66 = some 24 := by kernel_rfl
@[simp] theorem qagg_66 : qagg Try.prog 66 = some false := by kernel_rfl
@[simp] theorem qzero_66 : qzero Try.prog 66 = some (V.sl none 0 false) := by kernel_rfl
@[simp] theorem qconcrete_66 : qconcrete Try.prog 66 = true := by kernel_rfl
@[simp] theorem qsrc_66 : qsrc Try.prog 66 = true := by kernel_rfl
@[simp] theorem qthere_66 : qthere Try.prog 66 = true := by kernel_rfl
@[simp] theorem cellsOf_66 : Go.Program.cellsOf Try.prog 66 = 1 := by kernel_rfl
@[simp] theorem bytesOf_66 : Go.Program.bytesOf Try.prog 66 = 24 := by kernel_rfl
@[simp] theorem qelem_66 : qelem Try.prog 66 = some 47 := by kernel_rfl
@[simp] theorem qsize_68 : qsize Try.prog 68 = some 15 := by kernel_rfl
@[simp] theorem qbytes_68 : qbytes Try.prog 68 = some 168 := by kernel_rfl
@[simp] theorem qagg_68 : qagg Try.prog 68 = some true := by kernel_rfl
@[simp] theorem qzero_68 : qzero Try.prog 68 = some   (V.agg     [V.i Go.IntKind.i64 (0), V.i Go.IntKind.u32 (0), V.i Go.IntKind.i64 (0),       V.i Go.IntKind.i64 (0), V.i Go.IntKind.i64 (0), V.i Go.IntKind.i64 (0),       V.i Go.IntKind.i64 (0), V.i Go.IntKind.i64 (0), V.sl none 0 false, V.p none, V.p none,       V.p none, V.p none, V.sl none 0 false, V.sl none 0 false]) := by kernel_rfl
@[simp] theorem qplaces_68 : qplaces Try.prog 68 = some [(0, 9), (9, 3), (12, 1), (13, 1), (14, 1)] := by kernel_rfl
@[simp] theorem qconcrete_68 : qconcrete Try.prog 68 = true := by kernel_rfl
@[simp] theorem qthere_68 : qthere Try.prog 68 = true := by kernel_rfl
@[simp] theorem cellsOf_68 : Go.Program.cellsOf Try.prog 68 = 15 := by kernel_rfl
@[simp] theorem bytesOf_68 : Go.Program.bytesOf Try.prog 68 = 168 := by kernel_rfl
@[simp] theorem qsize_69 : qsize Try.prog 69 = some 1 := by kernel_rfl
@[simp] theorem qbytes_69 : qbytes Try.prog 69 = some 8 := by kernel_rfl
@[simp] theorem qagg_69 : qagg Try.prog 69 = some false := by kernel_rfl
@[simp] theorem qzero_69 : qzero Try.prog 69 = some (V.p none) := by kernel_rfl
@[simp] theorem qconcrete_69 : qconcrete Try.prog 69 = true := by kernel_rfl
@[simp] theorem qptr_69 : qptr Try.prog 69 = true := by kernel_rfl
@[simp] theorem pnn_69 : aeq Try.prog 69 (.p none) (.p none) = some true := aeq_pnn qptr_69
@[simp] theorem psn_69 (q : Nat × Nat × Nat) : aeq Try.prog 69 (.p (some q)) (.p none) = some false := aeq_psn qptr_69
@[simp] theorem qthere_69 : qthere Try.prog 69 = true := by kernel_rfl
@[simp] theorem cellsOf_69 : Go.Program.cellsOf Try.prog 69 = 1 := by kernel_rfl
@[simp] theorem bytesOf_69 : Go.Program.bytesOf Try.prog 69 = 8 := by kernel_rfl
@[simp] theorem qsize_71 : qsize Try.prog 71 = some 8 := by kernel_rfl
@[simp] theorem qbytes_71 : qbytes Try.prog 71 = some 56 := by kernel_rfl
@[simp] theorem qagg_71 : qagg Try.prog 71 = some true := by kernel_rfl
@[simp] theorem qzero_71 : qzero Try.prog 71 = some   (V.agg     [V.i Go.IntKind.i64 (0), V.i Go.IntKind.i64 (0), V.i Go.IntKind.i64 (0),       V.i Go.IntKind.i64 (0), V.i Go.IntKind.i64 (0), V.i Go.IntKind.i64 (0),       V.i Go.IntKind.u32 (0), V.i Go.IntKind.u32 (0)]) := by kernel_rfl
@[simp] theorem qplaces_71 : qplaces Try.prog 71 = some [(0, 1), (1, 1), (2, 1), (3, 1), (4, 1), (5, 1), (6, 1), (7, 1)] := by kernel_rfl
@[simp] theorem qconcrete_71 : qconcrete Try.prog 71 = true := by kernel_rfl
@[simp] theorem qkey_71 : qkey Try.prog 71 = true := by kernel_rfl
@[simp] theorem qthere_71 : qthere Try.prog 71 = true := by kernel_rfl
@[simp] theorem qeq_71 : qeq Try.prog 71 = some   [CK.i Go.IntKind.i64, CK.i Go.IntKind.i64, CK.i Go.IntKind.i64, CK.i Go.IntKind.i64, CK.i Go.IntKind.i64,     CK.i Go.IntKind.i64, CK.i Go.IntKind.u32, CK.i Go.IntKind.u32] := by kernel_rfl
@[simp] theorem cellsOf_71 : Go.Program.cellsOf Try.prog 71 = 8 := by kernel_rfl
@[simp] theorem bytesOf_71 : Go.Program.bytesOf Try.prog 71 = 56 := by kernel_rfl
@[simp] theorem qsize_77 : qsize Try.prog 77 = some 32 := by kernel_rfl
@[simp] theorem qbytes_77 : qbytes Try.prog 77 = some 336 := by kernel_rfl
@[simp] theorem qagg_77 : qagg Try.prog 77 = some true := by kernel_rfl
@[simp] theorem qzero_77 : qzero Try.prog 77 = some   (V.agg     [V.i Go.IntKind.i64 (0), V.i Go.IntKind.i64 (0), V.i Go.IntKind.i64 (0),       V.i Go.IntKind.i64 (0), V.i Go.IntKind.i64 (0), V.i Go.IntKind.i64 (0),       V.i Go.IntKind.i64 (0), V.i Go.IntKind.i64 (0), V.i Go.IntKind.i64 (0),       V.i Go.IntKind.i64 (0), V.i Go.IntKind.i64 (0), V.i Go.IntKind.u32 (0),       V.i Go.IntKind.u32 (0), V.i Go.IntKind.i64 (0), V.i Go.IntKind.i64 (0),       V.i Go.IntKind.i64 (0), V.i Go.IntKind.i64 (0), V.i Go.IntKind.i64 (0),       V.i Go.IntKind.i64 (0), V.i Go.IntKind.u32 (0), V.i Go.IntKind.u32 (0),       V.sl none 0 false, V.sl none 0 false, V.b false, V.s [], V.s [], V.s [], V.s [], V.sl none 0 false,       V.i Go.IntKind.i64 (0), V.i Go.IntKind.i64 (0), V.sl none 0 false]) := by kernel_rfl
@[simp] theorem qplaces_77 : qplaces Try.prog 77 = some   [(0, 1), (1, 1), (2, 1), (3, 1), (4, 1), (5, 8), (13, 8), (21, 1), (22, 1), (23, 1), (24, 4), (28, 1), (29, 1),     (30, 1), (31, 1)] := by kernel_rfl
@[simp] theorem qconcrete_77 : qconcrete Try.prog 77 = true := by kernel_rfl
@[simp] theorem qthere_77 : qthere Try.prog 77 = true := by kernel_rfl
@[simp] theorem cellsOf_77 : Go.Program.cellsOf Try.prog 77 = 32 := by kernel_rfl
@[simp] theorem bytesOf_77 : Go.Program.bytesOf Try.prog 77 = 336 := by kernel_rfl
@[simp] theorem qsize_78 : qsize Try.prog 78 = some 1 := by kernel_rfl
@[simp] theorem qbytes_78 : qbytes Try.prog 78 = some 8 := by kernel_rfl
@[simp] theorem qagg_78 : qagg Try.prog 78 = some false := by kernel_rfl
@[simp] theorem qzero_78 : qzero Try.prog 78 = some (V.p none) := by kernel_rfl
@[simp] theorem qconcrete_78 : qconcrete Try.prog 78 = true := by kernel_rfl
@[simp] theorem qptr_78 : qptr Try.prog 78 = true := by kernel_rfl
@[simp] theorem pnn_78 : aeq Try.prog 78 (.p none) (.p none) = some true := aeq_pnn qptr_78
@[simp] theorem psn_78 (q : Nat × Nat × Nat) : aeq Try.prog 78 (.p (some q)) (.p none) = some false := aeq_psn qptr_78
@[simp] theorem qthere_78 : qthere Try.prog 78 = true := by kernel_rfl
@[simp] theorem cellsOf_78 : Go.Program.cellsOf Try.prog 78 = 1 := by kernel_rfl
@[simp] theorem bytesOf_78 : Go.Program.bytesOf Try.prog 78 = 8 := by kernel_rfl
@[simp] theorem qsize_79 : qsize Try.prog 79 = some 1 := by kernel_rfl
@[simp] theorem qbytes_79 : qbytes Try.prog 79 = some 8 := by kernel_rfl
@[simp] theorem qagg_79 : qagg Try.prog 79 = some false := by kernel_rfl
@[simp] theorem qzero_79 : qzero Try.prog 79 = some (V.p none) := by kernel_rfl
@[simp] theorem qconcrete_79 : qconcrete Try.prog 79 = true := by kernel_rfl
@[simp] theorem qptr_79 : qptr Try.prog 79 = true := by kernel_rfl
@[simp] theorem pnn_79 : aeq Try.prog 79 (.p none) (.p none) = some true := aeq_pnn qptr_79
@[simp] theorem psn_79 (q : Nat × Nat × Nat) : aeq Try.prog 79 (.p (some q)) (.p none) = some false := aeq_psn qptr_79
@[simp] theorem qthere_79 : qthere Try.prog 79 = true := by kernel_rfl
@[simp] theorem cellsOf_79 : Go.Program.cellsOf Try.prog 79 = 1 := by kernel_rfl
@[simp] theorem bytesOf_79 : Go.Program.bytesOf Try.prog 79 = 8 := by kernel_rfl
@[simp] theorem qsize_80 : qsize Try.prog 80 = some 1 := by kernel_rfl
@[simp] theorem qbytes_80 : qbytes Try.prog 80 = some 8 := by kernel_rfl
@[simp] theorem qagg_80 : qagg Try.prog 80 = some false := by kernel_rfl
@[simp] theorem qzero_80 : qzero Try.prog 80 = some (V.p none) := by kernel_rfl
@[simp] theorem qconcrete_80 : qconcrete Try.prog 80 = true := by kernel_rfl
@[simp] theorem qptr_80 : qptr Try.prog 80 = true := by kernel_rfl
@[simp] theorem pnn_80 : aeq Try.prog 80 (.p none) (.p none) = some true := aeq_pnn qptr_80
@[simp] theorem psn_80 (q : Nat × Nat × Nat) : aeq Try.prog 80 (.p (some q)) (.p none) = some false := aeq_psn qptr_80
@[simp] theorem qthere_80 : qthere Try.prog 80 = true := by kernel_rfl
@[simp] theorem cellsOf_80 : Go.Program.cellsOf Try.prog 80 = 1 := by kernel_rfl
@[simp] theorem bytesOf_80 : Go.Program.bytesOf Try.prog 80 = 8 := by kernel_rfl
@[simp] theorem qsize_81 : qsize Try.prog 81 = some 1 := by kernel_rfl
@[simp] theorem qbytes_81 : qbytes Try.prog 81 = some 8 := by kernel_rfl
@[simp] theorem qagg_81 : qagg Try.prog 81 = some false := by kernel_rfl
@[simp] theorem qzero_81 : qzero Try.prog 81 = some (V.p none) := by kernel_rfl
@[simp] theorem qconcrete_81 : qconcrete Try.prog 81 = true := by kernel_rfl
@[simp] theorem qptr_81 : qptr Try.prog 81 = true := by kernel_rfl
@[simp] theorem pnn_81 : aeq Try.prog 81 (.p none) (.p none) = some true := aeq_pnn qptr_81
@[simp] theorem psn_81 (q : Nat × Nat × Nat) : aeq Try.prog 81 (.p (some q)) (.p none) = some false := aeq_psn qptr_81
@[simp] theorem qthere_81 : qthere Try.prog 81 = true := by kernel_rfl
@[simp] theorem cellsOf_81 : Go.Program.cellsOf Try.prog 81 = 1 := by kernel_rfl
@[simp] theorem bytesOf_81 : Go.Program.bytesOf Try.prog 81 = 8 := by kernel_rfl
@[simp] theorem qsize_86 : qsize Try.prog 86 = some 58 := by kernel_rfl
@[simp] theorem qbytes_86 : qbytes Try.prog 86 = some 592 := by kernel_rfl
@[simp] theorem qagg_86 : qagg Try.prog 86 = some true := by kernel_rfl
@[simp] theorem qzero_86 : qzero Try.prog 86 = some   (V.agg     [V.i Go.IntKind.i64 (0), V.i Go.IntKind.u32 (0), V.i Go.IntKind.i64 (0),       V.i Go.IntKind.i64 (0), V.i Go.IntKind.i64 (0), V.i Go.IntKind.i64 (0),       V.i Go.IntKind.i64 (0), V.i Go.IntKind.i64 (0), V.sl none 0 false,       V.i Go.IntKind.i64 (0), V.p none, V.p none, V.p none, V.p none, V.i Go.IntKind.i64 (0),       V.i Go.IntKind.i64 (0), V.i Go.IntKind.i64 (0), V.i Go.IntKind.i64 (0),       V.i Go.IntKind.i64 (0), V.i Go.IntKind.i64 (0), V.i Go.IntKind.i64 (0),       V.i Go.IntKind.i64 (0), V.i Go.IntKind.i64 (0), V.i Go.IntKind.i64 (0),       V.i Go.IntKind.i64 (0), V.i Go.IntKind.u32 (0), V.i Go.IntKind.u32 (0),       V.i Go.IntKind.i64 (0), V.i Go.IntKind.i64 (0), V.i Go.IntKind.i64 (0),       V.i Go.IntKind.i64 (0), V.i Go.IntKind.i64 (0), V.i Go.IntKind.i64 (0),       V.i Go.IntKind.u32 (0), V.i Go.IntKind.u32 (0), V.sl none 0 false, V.sl none 0 false,       V.b false, V.s [], V.s [], V.s [], V.s [], V.sl none 0 false, V.i Go.IntKind.i64 (0),       V.i Go.IntKind.i64 (0), V.sl none 0 false, V.p none, V.p none, V.p none, V.p none, V.p none, V.m none,       V.m none, V.sl none 0 false, V.i Go.IntKind.i64 (0), V.i Go.IntKind.i64 (0), V.b false,       V.sl none 0 false]) := by kernel_rfl
@[simp] theorem qplaces_86 : qplaces Try.prog 86 = some   [(0, 9), (9, 1), (10, 3), (13, 1), (14, 32), (46, 1), (47, 1), (48, 1), (49, 1), (50, 1), (51, 1), (52, 1), (53, 1),     (54, 1), (55, 1), (56, 1), (57, 1)] := by kernel_rfl
@[simp] theorem qconcrete_86 : qconcrete Try.prog 86 = true := by kernel_rfl
@[simp] theorem qthere_86 : qthere Try.prog 86 = true := by kernel_rfl
@[simp] theorem cellsOf_86 : Go.Program.cellsOf Try.prog 86 = 58 := by kernel_rfl
@[simp] theorem bytesOf_86 : Go.Program.bytesOf Try.prog 86 = 592 := by kernel_rfl
@[simp] theorem qsize_95 : qsize Try.prog 95 = some 1 := by kernel_rfl
@[simp] theorem qbytes_95 : qbytes Try.prog 95 = some 1 := by kernel_rfl
@[simp] theorem qagg_95 : qagg Try.prog 95 = some false := by kernel_rfl
@[simp] theorem qzero_95 : qzero Try.prog 95 = some (V.i Go.IntKind.u8 (0)) := by kernel_rfl
@[simp] theorem qint_95 : qint Try.prog 95 = some Go.IntKind.u8 := by kernel_rfl
@[simp] theorem keqi_95 (a c : Int) : keq Try.prog 95 (.i Go.IntKind.u8 a) (.i Go.IntKind.u8 c) = some (a == c) := keq_i qint_95
@[simp] theorem qconcrete_95 : qconcrete Try.prog 95 = true := by kernel_rfl
@[simp] theorem qkey_95 : qkey Try.prog 95 = true := by kernel_rfl
@[simp] theorem qplainKey_95 : qplainKey Try.prog 95 = true := by kernel_rfl
@[simp] theorem kf_95 (k : V) : keyFits Try.prog 95 k = true := keyFits_plain qplainKey_95
@[simp] theorem qthere_95 : qthere Try.prog 95 = true := by kernel_rfl
@[simp] theorem cellsOf_95 : Go.Program.cellsOf Try.prog 95 = 1 := by kernel_rfl
@[simp] theorem bytesOf_95 : Go.Program.bytesOf Try.prog 95 = 1 := by kernel_rfl
@[simp] theorem qsize_112 : qsize Try.prog 112 = some 1 := by kernel_rfl
@[simp] theorem qbytes_112 : qbytes Try.prog 112 = some 8 := by kernel_rfl
@[simp] theorem qagg_112 : qagg Try.prog 112 = some false := by kernel_rfl
@[simp] theorem qzero_112 : qzero Try.prog 112 = some (V.i Go.IntKind.i64 (0)) := by kernel_rfl
@[simp] theorem qint_112 : qint Try.prog 112 = some Go.IntKind.i64 := by kernel_rfl
@[simp] theorem keqi_112 (a c : Int) : keq Try.prog 112 (.i Go.IntKind.i64 a) (.i Go.IntKind.i64 c) = some (a == c) := keq_i qint_112
@[simp] theorem qconcrete_112 : qconcrete Try.prog 112 = true := by kernel_rfl
@[simp] theorem qkey_112 : qkey Try.prog 112 = true := by kernel_rfl
@[simp] theorem qplainKey_112 : qplainKey Try.prog 112 = true := by kernel_rfl
@[simp] theorem kf_112 (k : V) : keyFits Try.prog 112 k = true := keyFits_plain qplainKey_112
@[simp] theorem qthere_112 : qthere Try.prog 112 = true := by kernel_rfl
@[simp] theorem cellsOf_112 : Go.Program.cellsOf Try.prog 112 = 1 := by kernel_rfl
@[simp] theorem bytesOf_112 : Go.Program.bytesOf Try.prog 112 = 8 := by kernel_rfl
@[simp] theorem qsize_131 : qsize Try.prog 131 = some 1 := by kernel_rfl
@[simp] theorem qbytes_131 : qbytes Try.prog 131 = some 8 := by kernel_rfl
@[simp] theorem qagg_131 : qagg Try.prog 131 = some false := by kernel_rfl
@[simp] theorem qzero_131 : qzero Try.prog 131 = some (V.p none) := by kernel_rfl
@[simp] theorem qconcrete_131 : qconcrete Try.prog 131 = true := by kernel_rfl
@[simp] theorem qptr_131 : qptr Try.prog 131 = true := by kernel_rfl
@[simp] theorem pnn_131 : aeq Try.prog 131 (.p none) (.p none) = some true := aeq_pnn qptr_131
@[simp] theorem psn_131 (q : Nat × Nat × Nat) : aeq Try.prog 131 (.p (some q)) (.p none) = some false := aeq_psn qptr_131
@[simp] theorem qthere_131 : qthere Try.prog 131 = true := by kernel_rfl
@[simp] theorem cellsOf_131 : Go.Program.cellsOf Try.prog 131 = 1 := by kernel_rfl
@[simp] theorem bytesOf_131 : Go.Program.bytesOf Try.prog 131 = 8 := by kernel_rfl
@[simp] theorem qsize_164 : qsize Try.prog 164 = some 1 := by kernel_rfl
@[simp] theorem qbytes_164 : qbytes Try.prog 164 = some 24 := by kernel_rfl
@[simp] theorem qagg_164 : qagg Try.prog 164 = some false := by kernel_rfl
@[simp] theorem qzero_164 : qzero Try.prog 164 = some (V.sl none 0 false) := by kernel_rfl
@[simp] theorem qconcrete_164 : qconcrete Try.prog 164 = true := by kernel_rfl
@[simp] theorem qsrc_164 : qsrc Try.prog 164 = true := by kernel_rfl
@[simp] theorem qbs_164 : qbs Try.prog 164 = true := by kernel_rfl
@[simp] theorem qthere_164 : qthere Try.prog 164 = true := by kernel_rfl
@[simp] theorem cellsOf_164 : Go.Program.cellsOf Try.prog 164 = 1 := by kernel_rfl
@[simp] theorem bytesOf_164 : Go.Program.bytesOf Try.prog 164 = 24 := by kernel_rfl
@[simp] theorem qelem_164 : qelem Try.prog 164 = some 5 := by kernel_rfl
@[simp] theorem qsize_5 : qsize Try.prog 5 = some 1 := by kernel_rfl
@[simp] theorem qbytes_5 : qbytes Try.prog 5 = some 1 := by kernel_rfl
@[simp] theorem qagg_5 : qagg Try.prog 5 = some false := by kernel_rfl
@[simp] theorem qzero_5 : qzero Try.prog 5 = some (V.i Go.IntKind.u8 (0)) := by kernel_rfl
@[simp] theorem qint_5 : qint Try.prog 5 = some Go.IntKind.u8 := by kernel_rfl
@[simp] theorem keqi_5 (a c : Int) : keq Try.prog 5 (.i Go.IntKind.u8 a) (.i Go.IntKind.u8 c) = some (a == c) := keq_i qint_5
@[simp] theorem qconcrete_5 : qconcrete Try.prog 5 = true := by kernel_rfl
@[simp] theorem qkey_5 : qkey Try.prog 5 = true := by kernel_rfl
@[simp] theorem qplainKey_5 : qplainKey Try.prog 5 = true := by kernel_rfl
@[simp] theorem kf_5 (k : V) : keyFits Try.prog 5 k = true := keyFits_plain qplainKey_5
@[simp] theorem qthere_5 : qthere Try.prog 5 = true := by kernel_rfl
@[simp] theorem cellsOf_5 : Go.Program.cellsOf Try.prog 5 = 1 := by kernel_rfl
@[simp] theorem bytesOf_5 : Go.Program.bytesOf Try.prog 5 = 1 := by kernel_rfl
@[simp] theorem qfield_28_0 : qfield Try.prog 28 0 = some (0, 1, false) := by kernel_rfl
@[simp] theorem qfield_28_2 : qfield Try.prog 28 2 = some (2, 1, false) := by kernel_rfl
@[simp] theorem qfield_28_3 : qfield Try.prog 28 3 = some (3, 1, false) := by kernel_rfl
@[simp] theorem qfield_28_4 : qfield Try.prog 28 4 = some (4, 1, false) := by kernel_rfl
@[simp] theorem qfield_28_5 : qfield Try.prog 28 5 = some (5, 1, false) := by kernel_rfl
@[simp] theorem qfield_30_0 : qfield Try.prog 30 0 = some (0, 1, false) := by kernel_rfl
@[simp] theorem qfield_30_1 : qfield Try.prog 30 1 = some (1, 10, true) := by kernel_rfl
@[simp] theorem qfield_55_1 : qfield Try.prog 55 1 = some (1, 1, false) := by kernel_rfl
@[simp] theorem qfield_68_4 : qfield Try.prog 68 4 = some (14, 1, false) := by kernel_rfl
@[simp] theorem qfield_86_6 : qfield Try.prog 86 6 = some (47, 1, false) := by kernel_rfl
/-- 54 operations, 55 nodes, looks at memory: true -/
def pl_3_11 : Plan := .take 0 (.take 1 (.take 2 (.take 3 (.take 4 (.take 5 (.take 6 (.take 7 (.take 9 (.take 10 (.take 11 (.take 12 (.take 13 (.take 14 (.take 15 (.take 16 (.alt 8 true (.alt 17 true (.take 18 (.take 19 (.take 20 (.take 21 (.take 22 (.take 23 (.take 24 (.take 25 (.take 26 (.take 27 (.alt 28 true (.take 29 (.take 30 (.take 31 (.take 32 (.take 33 (.take 34 (.take 35 (.take 36 (.take 37 (.take 38 (.take 39 (.take 40 (.take 41 (.take 42 (.take 43 (.take 44 (.take 45 (.take 46 (.take 47 (.take 48 (.take 49 (.take 50 (.take 51 (.take 52 (.take 53 (.done)))))))))))))))))))))))))) (.stop)))))))))))) (.stop)) (.stop)))))))))))))))))
def pe_3_11 : Bool := true
/-- 31 operations, 32 nodes, looks at memory: true -/
def pl_3_13 : Plan := .take 0 (.take 1 (.take 2 (.take 3 (.take 4 (.take 5 (.take 6 (.take 7 (.alt 8 true (.take 9 (.take 10 (.take 11 (.take 12 (.take 13 (.take 15 (.take 16 (.take 17 (.take 18 (.take 19 (.alt 14 true (.alt 20 true (.take 21 (.take 22 (.take 23 (.take 24 (.take 25 (.take 27 (.alt 26 true (.alt 28 true (.take 29 (.take 30 (.done))) (.stop)) (.stop)))))))) (.stop)) (.stop)))))))))))) (.stop)))))))))
def pe_3_13 : Bool := true
/-- 8 operations, 13 nodes, looks at memory: true -/
def pl_5_1 : Plan := .take 0 (.take 1 (.take 2 (.take 3 (.alt 4 true (.alt 5 true (.alt 6 true (.alt 7 false (.done) (.stop)) (.stop)) (.stop)) (.alt 5 true (.alt 4 true (.alt 6 true (.alt 7 false (.done) (.stop)) (.stop)) (.stop)) (.stop))))))
def pe_5_1 : Bool := true
/-- 8 operations, 9 nodes, looks at memory: true -/
def pl_7_2 : Plan := .take 0 (.take 1 (.take 2 (.take 3 (.take 4 (.take 5 (.alt 6 false (.take 7 (.done)) (.stop)))))))
def pe_7_2 : Bool := true
/-- 9 operations, 10 nodes, looks at memory: true -/
def pl_11_6 : Plan := .take 0 (.take 1 (.take 2 (.take 3 (.take 4 (.take 5 (.take 6 (.take 7 (.take 8 (.done)))))))))
def pe_11_6 : Bool := true
/-- 7 operations, 8 nodes, looks at memory: true -/
def pl_15_4 : Plan := .take 0 (.take 1 (.alt 2 true (.take 3 (.alt 4 true (.alt 5 true (.alt 6 false (.done) (.stop)) (.stop)) (.stop))) (.stop)))
def pe_15_4 : Bool := true
instance : Laid Try.prog := ⟨[]⟩
def planTab : PlanTab := [(3, [(11, pe_3_11, false, pl_3_11), (13, pe_3_13, false, pl_3_13)]), (5, [(1, pe_5_1, true, pl_5_1)]), (7, [(2, pe_7_2, false, pl_7_2)]), (11, [(6, pe_11_6, false, pl_11_6)]), (15, [(4, pe_15_4, false, pl_15_4)])]
end Go.Proofs.Ytlldkkjfbgbdhaa
