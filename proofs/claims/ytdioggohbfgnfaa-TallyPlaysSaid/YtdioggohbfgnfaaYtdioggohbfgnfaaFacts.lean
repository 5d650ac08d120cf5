/-
  Facts about this program's types, by program.
-/
import Derived.Test.YtdioggohbfgnfaaAbsC
import Derived.Test.YtdioggohbfgnfaaProg
set_option linter.unusedVariables false
namespace Go.Proofs.Ytdioggohbfgnfaa
open Go Go.Abs Go.Proofs
@[simp] theorem qsize_3 : qsize Try.prog 3 = some 1 := by kernel_rfl
@[simp] theorem qbytes_3 : qbytes Try.prog 3 = some 8 := by kernel_rfl
@[simp] theorem qagg_3 : qagg Try.prog 3 = some false := by kernel_rfl
@[simp] theorem qzero_3 : qzero Try.prog 3 = some (V.i Go.IntKind.i64 (0)) := by kernel_rfl
@[simp] theorem qint_3 : qint Try.prog 3 = some Go.IntKind.i64 := by kernel_rfl
@[simp] theorem keqi_3 (a c : Int) : keq Try.prog 3 (.i Go.IntKind.i64 a) (.i Go.IntKind.i64 c) = some (a == c) := keq_i qint_3
@[simp] theorem qconcrete_3 : qconcrete Try.prog 3 = true := by kernel_rfl
@[simp] theorem qkey_3 : qkey Try.prog 3 = true := by kernel_rfl
@[simp] theorem qplainKey_3 : qplainKey Try.prog 3 = true := by kernel_rfl
@[simp] theorem kf_3 (k : V) : keyFits Try.prog 3 k = true := keyFits_plain qplainKey_3
@[simp] theorem qthere_3 : qthere Try.prog 3 = true := by kernel_rfl
@[simp] theorem cellsOf_3 : Go.Program.cellsOf Try.prog 3 = 1 := by kernel_rfl
@[simp] theorem bytesOf_3 : Go.Program.bytesOf Try.prog 3 = 8 := by kernel_rfl
@[simp] theorem qsize_4 : qsize Try.prog 4 = some 1 := by kernel_rfl
@[simp] theorem qbytes_4 : qbytes Try.prog 4 = some 1 := by kernel_rfl
@[simp] theorem qagg_4 : qagg Try.prog 4 = some false := by kernel_rfl
@[simp] theorem qzero_4 : qzero Try.prog 4 = some (V.b false) := by kernel_rfl
@[simp] theorem qconcrete_4 : qconcrete Try.prog 4 = true := by kernel_rfl
@[simp] theorem qbool_4 : qbool Try.prog 4 = true := by kernel_rfl
@[simp] theorem bb_4 (x y : Bool) : aeq Try.prog 4 (.b x) (.b y) = some (x == y) := aeq_bb qbool_4
@[simp] theorem qthere_4 : qthere Try.prog 4 = true := by kernel_rfl
@[simp] theorem cellsOf_4 : Go.Program.cellsOf Try.prog 4 = 1 := by kernel_rfl
@[simp] theorem bytesOf_4 : Go.Program.bytesOf Try.prog 4 = 1 := by kernel_rfl
@[simp] theorem qsize_5 : qsize Try.prog 5 = some 1 := by kernel_rfl
@[simp] theorem qbytes_5 : qbytes Try.prog 5 = some 1 := by kernel_rfl
@[simp] theorem qagg_5 : qagg Try.prog 5 = some false := by kernel_rfl
@[simp] theorem qzero_5 : qzero Try.prog 5 = some (V.i Go.IntKind.u8 (0)) := by kernel_rfl
@[simp] theorem qint_5 : qint Try.prog 5 = some Go.IntKind.u8 := by kernel_rfl
@[simp] theorem keqi_5 (a c : Int) : keq Try.prog 5 (.i Go.IntKind.u8 a) (.i Go.IntKind.u8 c) = some (a == c) := keq_i qint_5
@[simp] theorem qconcrete_5 : qconcrete Try.prog 5 = true := by kernel_rfl
@[simp] theorem qkey_5 : qkey Try.prog 5 = true := by kernel_rfl
@[simp] theorem qplainKey_5 : qplainKey Try.prog 5 = true := by kernel_rfl
@[simp] theorem kf_5 (k : V) : keyFits Try.prog 5 k = true := keyFits_plain qplainKey_5
@[simp] theorem qthere_5 : qthere Try.prog 5 = true := by kernel_rfl
@[simp] theorem cellsOf_5 : Go.Program.cellsOf Try.prog 5 = 1 := by kernel_rfl
@[simp] theorem bytesOf_5 : Go.Program.bytesOf Try.prog 5 = 1 := by kernel_rfl
@[simp] theorem qsize_8 : qsize Try.prog 8 = some 4 := by kernel_rfl
@[simp] theorem qbytes_8 : qbytes Try.prog 8 = some 24 := by kernel_rfl
@[simp] theorem qagg_8 : qagg Try.prog 8 = some true := by kernel_rfl
@[simp] theorem qzero_8 : qzero Try.prog 8 = some   (V.agg     [V.i Go.IntKind.i64 (0), V.i Go.IntKind.i64 (0), V.b false, V.i Go.IntKind.u8 (0)]) := by kernel_rfl
@[simp] theorem qplaces_8 : qplaces Try.prog 8 = some [(0, 1), (1, 1), (2, 1), (3, 1)] := by kernel_rfl
@[simp] theorem qconcrete_8 : qconcrete Try.prog 8 = true := by kernel_rfl
@[simp] theorem qkey_8 : qkey Try.prog 8 = true := by kernel_rfl
@[simp] theorem qthere_8 : qthere Try.prog 8 = true := by kernel_rfl
@[simp] theorem qeq_8 : qeq Try.prog 8 = some [CK.i Go.IntKind.i64, CK.i Go.IntKind.i64, CK.b, CK.i Go.IntKind.u8] := by kernel_rfl
@[simp] theorem cellsOf_8 : Go.Program.cellsOf Try.prog 8 = 4 := by kernel_rfl
@[simp] theorem bytesOf_8 : Go.Program.bytesOf Try.prog 8 = 24 := by kernel_rfl
@[simp] theorem qsize_9 : qsize Try.prog 9 = some 1 := by kernel_rfl
@[simp] theorem qbytes_9 : qbytes Try.prog 9 = some 16 := by kernel_rfl
@[simp] theorem qagg_9 : qagg Try.prog 9 = some false := by kernel_rfl
@[simp] theorem qzero_9 : qzero Try.prog 9 = some (V.s []) := by kernel_rfl
@[simp] theorem qstr_9 : qstr Try.prog 9 = true := by kernel_rfl
@[simp] theorem keqs_9 (a c : List UInt8) : keq Try.prog 9 (.s a) (.s c) = some (a == c) := keq_s qstr_9
@[simp] theorem qconcrete_9 : qconcrete Try.prog 9 = true := by kernel_rfl
@[simp] theorem qkey_9 : qkey Try.prog 9 = true := by kernel_rfl
@[simp] theorem qsrc_9 : qsrc Try.prog 9 = true := by kernel_rfl
@[simp] theorem qplainKey_9 : qplainKey Try.prog 9 = true := by kernel_rfl
@[simp] theorem kf_9 (k : V) : keyFits Try.prog 9 k = true := keyFits_plain qplainKey_9
@[simp] theorem qthere_9 : qthere Try.prog 9 = true := by kernel_rfl
@[simp] theorem cellsOf_9 : Go.Program.cellsOf Try.prog 9 = 1 := by kernel_rfl
@[simp] theorem bytesOf_9 : Go.Program.bytesOf Try.prog 9 = 16 := by kernel_rfl
@[simp] theorem qsize_10 : qsize Try.prog 10 = some 1 := by kernel_rfl
@[simp] theorem qbytes_10 : qbytes Try.prog 10 = some 16 := by kernel_rfl
@[simp] theorem qagg_10 : qagg Try.prog 10 = some false := by kernel_rfl
@[simp] theorem qzero_10 : qzero Try.prog 10 = some (V.s []) := by kernel_rfl
@[simp] theorem qstr_10 : qstr Try.prog 10 = true := by kernel_rfl
@[simp] theorem keqs_10 (a c : List UInt8) : keq Try.prog 10 (.s a) (.s c) = some (a == c) := keq_s qstr_10
@[simp] theorem qconcrete_10 : qconcrete Try.prog 10 = true := by kernel_rfl
@[simp] theorem qkey_10 : qkey Try.prog 10 = true := by kernel_rfl
@[simp] theorem qsrc_10 : qsrc Try.prog 10 = true := by kernel_rfl
@[simp] theorem qplainKey_10 : qplainKey Try.prog 10 = true := by kernel_rfl
@[simp] theorem kf_10 (k : V) : keyFits Try.prog 10 k = true := keyFits_plain qplainKey_10
@[simp] theorem qthere_10 : qthere Try.prog 10 = true := by kernel_rfl
@[simp] theorem cellsOf_10 : Go.Program.cellsOf Try.prog 10 = 1 := by kernel_rfl
@[simp] theorem bytesOf_10 : Go.Program.bytesOf Try.prog 10 = 16 := by kernel_rfl
@[simp] theorem qsize_11 : qsize Try.prog 11 = some 1 := by kernel_rfl
@[simp] theorem qbytes_11 : qbytes Try.prog 11 = some 16 := by kernel_rfl
@[simp] theorem qagg_11 : qagg Try.prog 11 = some false := by kernel_rfl
@[simp] theorem qzero_11 : qzero Try.prog 11 = some (V.s []) := by kernel_rfl
@[simp] theorem qstr_11 : qstr Try.prog 11 = true := by kernel_rfl
@[simp] theorem keqs_11 (a c : List UInt8) : keq Try.prog 11 (.s a) (.s c) = some (a == c) := keq_s qstr_11
@[simp] theorem qconcrete_11 : qconcrete Try.prog 11 = true := by kernel_rfl
@[simp] theorem qkey_11 : qkey Try.prog 11 = true := by kernel_rfl
@[simp] theorem qsrc_11 : qsrc Try.prog 11 = true := by kernel_rfl
@[simp] theorem qplainKey_11 : qplainKey Try.prog 11 = true := by kernel_rfl
@[simp] theorem kf_11 (k : V) : keyFits Try.prog 11 k = true := keyFits_plain qplainKey_11
@[simp] theorem qthere_11 : qthere Try.prog 11 = true := by kernel_rfl
@[simp] theorem cellsOf_11 : Go.Program.cellsOf Try.prog 11 = 1 := by kernel_rfl
@[simp] theorem bytesOf_11 : Go.Program.bytesOf Try.prog 11 = 16 := by kernel_rfl
@[simp] theorem qsize_14 : qsize Try.prog 14 = some 2 := by kernel_rfl
@[simp] theorem qbytes_14 : qbytes Try.prog 14 = some 24 := by kernel_rfl
@[simp] theorem qagg_14 : qagg Try.prog 14 = some true := by kernel_rfl
@[simp] theorem qzero_14 : qzero Try.prog 14 = some (V.agg [V.s [], V.i Go.IntKind.u64 (0)]) := by kernel_rfl
@[simp] theorem qplaces_14 : qplaces Try.prog 14 = some [(0, 1), (1, 1)] := by kernel_rfl
@[simp] theorem qconcrete_14 : qconcrete Try.prog 14 = true := by kernel_rfl
@[simp] theorem qthere_14 : qthere Try.prog 14 = true := by kernel_rfl
@[simp] theorem cellsOf_14 : Go.Program.cellsOf Try.prog 14 = 2 := by kernel_rfl
@[simp] theorem bytesOf_14 : Go.Program.bytesOf Try.prog 14 = 24 := by kernel_rfl
@[simp] theorem qsize_15 : qsize Try.prog 15 = some 1 := by kernel_rfl
@[simp] theorem qbytes_15 : qbytes Try.prog 15 = some 8 := by kernel_rfl
@[simp] theorem qagg_15 : qagg Try.prog 15 = some false := by kernel_rfl
@[simp] theorem qzero_15 : qzero Try.prog 15 = some (V.p none) := by kernel_rfl
@[simp] theorem qconcrete_15 : qconcrete Try.prog 15 = true := by kernel_rfl
@[simp] theorem qptr_15 : qptr Try.prog 15 = true := by kernel_rfl
@[simp] theorem pnn_15 : aeq Try.prog 15 (.p none) (.p none) = some true := aeq_pnn qptr_15
@[simp] theorem psn_15 (q : Nat × Nat × Nat) : aeq Try.prog 15 (.p (some q)) (.p none) = some false := aeq_psn qptr_15
@[simp] theorem qthere_15 : qthere Try.prog 15 = true := by kernel_rfl
@[simp] theorem cellsOf_15 : Go.Program.cellsOf Try.prog 15 = 1 := by kernel_rfl
@[simp] theorem bytesOf_15 : Go.Program.bytesOf Try.prog 15 = 8 := by kernel_rfl
@[simp] theorem qsize_16 : qsize Try.prog 16 = some 1 := by kernel_rfl
@[simp] theorem qbytes_16 : qbytes Try.prog 16 = some 8 := by kernel_rfl
@[simp] theorem qagg_16 : qagg Try.prog 16 = some false := by kernel_rfl
@[simp] theorem qzero_16 : qzero Try.prog 16 = some (V.p none) := by kernel_rfl
@[simp] theorem qconcrete_16 : qconcrete Try.prog 16 = true := by kernel_rfl
@[simp] theorem qptr_16 : qptr Try.prog 16 = true := by kernel_rfl
@[simp] theorem pnn_16 : aeq Try.prog 16 (.p none) (.p none) = some true := aeq_pnn qptr_16
@[simp] theorem psn_16 (q : Nat × Nat × Nat) : aeq Try.prog 16 (.p (some q)) (.p none) = some false := aeq_psn qptr_16
@[simp] theorem qthere_16 : qthere Try.prog 16 = true := by kernel_rfl
@[simp] theorem cellsOf_16 : Go.Program.cellsOf Try.prog 16 = 1 := by kernel_rfl
@[simp] theorem bytesOf_16 : Go.Program.bytesOf Try.prog 16 = 8 := by kernel_rfl
@[simp] theorem qsize_17 : qsize Try.prog 17 = some 1 := by kernel_rfl
@[simp] theorem qbytes_17 : qbytes Try.prog 17 = some 8 := by kernel_rfl
@[simp] theorem qagg_17 : qagg Try.prog 17 = some false := by kernel_rfl
@[simp] theorem qzero_17 : qzero Try.prog 17 = some (V.p none) := by kernel_rfl
@[simp] theorem qconcrete_17 : qconcrete Try.prog 17 = true := by kernel_rfl
@[simp] theorem qptr_17 : qptr Try.prog 17 = true := by kernel_rfl
@[simp] theorem pnn_17 : aeq Try.prog 17 (.p none) (.p none) = some true := aeq_pnn qptr_17
@[simp] theorem psn_17 (q : Nat × Nat × Nat) : aeq Try.prog 17 (.p (some q)) (.p none) = some false := aeq_psn qptr_17
@[simp] theorem qthere_17 : qthere Try.prog 17 = true := by kernel_rfl
@[simp] theorem cellsOf_17 : Go.Program.cellsOf Try.prog 17 = 1 := by kernel_rfl
@[simp] theorem bytesOf_17 : Go.Program.bytesOf Try.prog 17 = 8 := by kernel_rfl
@[simp] theorem qsize_19 : qsize Try.prog 19 = some 1 := by kernel_rfl
@[simp] theorem qbytes_19 : qbytes Try.prog 19 = some 8 := by kernel_rfl
@[simp] theorem qagg_19 : qagg Try.prog 19 = some true := by kernel_rfl
@[simp] theorem qzero_19 : qzero Try.prog 19 = some (V.agg [V.p none]) := by kernel_rfl
@[simp] theorem qplaces_19 : qplaces Try.prog 19 = some [(0, 1)] := by kernel_rfl
@[simp] theorem qconcrete_19 : qconcrete Try.prog 19 = true := by kernel_rfl
@[simp] theorem qthere_19 : qthere Try.prog 19 = true := by kernel_rfl
@[simp] theorem cellsOf_19 : Go.Program.cellsOf Try.prog 19 = 1 := by kernel_rfl
@[simp] theorem bytesOf_19 : Go.Program.bytesOf Try.prog 19 = 8 := by kernel_rfl
@[simp] theorem qsize_22 : qsize Try.prog 22 = some 1 := by kernel_rfl
@[simp] theorem qbytes_22 : qbytes Try.prog 22 = some 24 := by kernel_rfl
@[simp] theorem qagg_22 : qagg Try.prog 22 = some false := by kernel_rfl
@[simp] theorem qzero_22 : qzero Try.prog 22 = some (V.sl none 0 false) := by kernel_rfl
@[simp] theorem qconcrete_22 : qconcrete Try.prog 22 = true := by kernel_rfl
@[simp] theorem qsrc_22 : qsrc Try.prog 22 = true := by kernel_rfl
@[simp] theorem qthere_22 : qthere Try.prog 22 = true := by kernel_rfl
@[simp] theorem cellsOf_22 : Go.Program.cellsOf Try.prog 22 = 1 := by kernel_rfl
@[simp] theorem bytesOf_22 : Go.Program.bytesOf Try.prog 22 = 24 := by kernel_rfl
@[simp] theorem qelem_22 : qelem Try.prog 22 = some 36 := by kernel_rfl
@[simp] theorem qsize_23 : qsize Try.prog 23 = some 1 := by kernel_rfl
@[simp] theorem qbytes_23 : qbytes Try.prog 23 = some 24 := by kernel_rfl
@[simp] theorem qagg_23 : qagg Try.prog 23 = some false := by kernel_rfl
@[simp] theorem qzero_23 : qzero Try.prog 23 = some (V.sl none 0 false) := by kernel_rfl
@[simp] theorem qconcrete_23 : qconcrete Try.prog 23 = true := by kernel_rfl
@[simp] theorem qsrc_23 : qsrc Try.prog 23 = true := by kernel_rfl
@[simp] theorem qbs_23 : qbs Try.prog 23 = true := by kernel_rfl
@[simp] theorem qthere_23 : qthere Try.prog 23 = true := by kernel_rfl
@[simp] theorem cellsOf_23 : Go.Program.cellsOf Try.prog 23 = 1 := by kernel_rfl
@[simp] theorem bytesOf_23 : Go.Program.bytesOf Try.prog 23 = 24 := by kernel_rfl
@[simp] theorem qelem_23 : qelem Try.prog 23 = some 5 := by kernel_rfl
@[simp] theorem qsize_25 : qsize Try.prog 25 = some 1 := by kernel_rfl
@[simp] theorem qbytes_25 : qbytes Try.prog 25 = some 8 := by kernel_rfl
@[simp] theorem qagg_25 : qagg Try.prog 25 = some false := by kernel_rfl
@[simp] theorem qzero_25 : qzero Try.prog 25 = some (V.p none) := by kernel_rfl
@[simp] theorem qconcrete_25 : qconcrete Try.prog 25 = true := by kernel_rfl
@[simp] theorem qptr_25 : qptr Try.prog 25 = true := by kernel_rfl
@[simp] theorem pnn_25 : aeq Try.prog 25 (.p none) (.p none) = some true := aeq_pnn qptr_25
@[simp] theorem psn_25 (q : Nat × Nat × Nat) : aeq Try.prog 25 (.p (some q)) (.p none) = some false := aeq_psn qptr_25
@[simp] theorem qthere_25 : qthere Try.prog 25 = true := by kernel_rfl
@[simp] theorem cellsOf_25 : Go.Program.cellsOf Try.prog 25 = 1 := by kernel_rfl
@[simp] theorem bytesOf_25 : Go.Program.bytesOf Try.prog 25 = 8 := by kernel_rfl
@[simp] theorem qsize_26 : qsize Try.prog 26 = some 1 := by kernel_rfl
@[simp] theorem qbytes_26 : qbytes Try.prog 26 = some 8 := by kernel_rfl
@[simp] theorem qagg_26 : qagg Try.prog 26 = some false := by kernel_rfl
@[simp] theorem qzero_26 : qzero Try.prog 26 = some (V.i Go.IntKind.i64 (0)) := by kernel_rfl
@[simp] theorem qint_26 : qint Try.prog 26 = some Go.IntKind.i64 := by kernel_rfl
@[simp] theorem keqi_26 (a c : Int) : keq Try.prog 26 (.i Go.IntKind.i64 a) (.i Go.IntKind.i64 c) = some (a == c) := keq_i qint_26
@[simp] theorem qconcrete_26 : qconcrete Try.prog 26 = true := by kernel_rfl
@[simp] theorem qkey_26 : qkey Try.prog 26 = true := by kernel_rfl
@[simp] theorem qplainKey_26 : qplainKey Try.prog 26 = true := by kernel_rfl
@[simp] theorem kf_26 (k : V) : keyFits Try.prog 26 k = true := keyFits_plain qplainKey_26
@[simp] theorem qthere_26 : qthere Try.prog 26 = true := by kernel_rfl
@[simp] theorem cellsOf_26 : Go.Program.cellsOf Try.prog 26 = 1 := by kernel_rfl
@[simp] theorem bytesOf_26 : Go.Program.bytesOf Try.prog 26 = 8 := by kernel_rfl
@[simp] theorem qsize_29 : qsize Try.prog 29 = some 1 := by kernel_rfl
@[simp] theorem qbytes_29 : qbytes Try.prog 29 = some 24 := by kernel_rfl
@[simp] theorem qagg_29 : qagg Try.prog 29 = some false := by kernel_rfl
@[simp] theorem qzero_29 : qzero Try.prog 29 = some (V.sl none 0 false) := by kernel_rfl
@[simp] theorem qconcrete_29 : qconcrete Try.prog 29 = true := by kernel_rfl
@[simp] theorem qsrc_29 : qsrc Try.prog 29 = true := by kernel_rfl
@[simp] theorem qthere_29 : qthere Try.prog 29 = true := by kernel_rfl
@[simp] theorem cellsOf_29 : Go.Program.cellsOf Try.prog 29 = 1 := by kernel_rfl
@[simp] theorem bytesOf_29 : Go.Program.bytesOf Try.prog 29 = 24 := by kernel_rfl
@[simp] theorem qelem_29 : qelem Try.prog 29 = some 32 := by kernel_rfl
@[simp] theorem qsize_30 : qsize Try.prog 30 = some 1 := by kernel_rfl
@[simp] theorem qbytes_30 : qbytes Try.prog 30 = some 4 := by kernel_rfl
@[simp] theorem qagg_30 : qagg Try.prog 30 = some false := by kernel_rfl
@[simp] theorem qzero_30 : qzero Try.prog 30 = some (V.i Go.IntKind.u32 (0)) := by kernel_rfl
@[simp] theorem qint_30 : qint Try.prog 30 = some Go.IntKind.u32 := by kernel_rfl
@[simp] theorem keqi_30 (a c : Int) : keq Try.prog 30 (.i Go.IntKind.u32 a) (.i Go.IntKind.u32 c) = some (a == c) := keq_i qint_30
@[simp] theorem qconcrete_30 : qconcrete Try.prog 30 = true := by kernel_rfl
@[simp] theorem qkey_30 : qkey Try.prog 30 = true := by kernel_rfl
@[simp] theorem qplainKey_30 : qplainKey Try.prog 30 = true := by kernel_rfl
@[simp] theorem kf_30 (k : V) : keyFits Try.prog 30 k = true := keyFits_plain qplainKey_30
@[simp] theorem qthere_30 : qthere Try.prog 30 = true := by kernel_rfl
@[simp] theorem cellsOf_30 : Go.Program.cellsOf Try.prog 30 = 1 := by kernel_rfl
@[simp] theorem bytesOf_30 : Go.Program.bytesOf Try.prog 30 = 4 := by kernel_rfl
@[simp] theorem qsize_32 : qsize Try.prog 32 = some 8 := by kernel_rfl
@[simp] theorem qbytes_32 : qbytes Try.prog 32 = some 56 := by kernel_rfl
@[simp] theorem qagg_32 : qagg Try.prog 32 = some true := by kernel_rfl
@[simp] theorem qzero_32 : qzero Try.prog 32 = some   (V.agg     [V.i Go.IntKind.i64 (0), V.i Go.IntKind.i64 (0), V.i Go.IntKind.i64 (0),       V.i Go.IntKind.i64 (0), V.i Go.IntKind.i64 (0), V.i Go.IntKind.i64 (0),       V.i Go.IntKind.u32 (0), V.i Go.IntKind.u32 (0)]) := by kernel_rfl
@[simp] theorem qplaces_32 : qplaces Try.prog 32 = some [(0, 1), (1, 1), (2, 1), (3, 1), (4, 1), (5, 1), (6, 1), (7, 1)] := by kernel_rfl
@[simp] theorem qconcrete_32 : qconcrete Try.prog 32 = true := by kernel_rfl
@[simp] theorem qkey_32 : qkey Try.prog 32 = true := by kernel_rfl
@[simp] theorem qthere_32 : qthere Try.prog 32 = true := by kernel_rfl
@[simp] theorem qeq_32 : qeq Try.prog 32 = some   [CK.i Go.IntKind.i64, CK.i Go.IntKind.i64, CK.i Go.IntKind.i64, CK.i Go.IntKind.i64, CK.i Go.IntKind.i64,     CK.i Go.IntKind.i64, CK.i Go.IntKind.u32, CK.i Go.IntKind.u32] := by kernel_rfl
@[simp] theorem cellsOf_32 : Go.Program.cellsOf Try.prog 32 = 8 := by kernel_rfl
@[simp] theorem bytesOf_32 : Go.Program.bytesOf Try.prog 32 = 56 := by kernel_rfl
@[simp] theorem qsize_34 : qsize Try.prog 34 = some 10 := by kernel_rfl
@[simp] theorem qbytes_34 : qbytes Try.prog 34 = some 72 := by kernel_rfl
@[simp] theorem qagg_34 : qagg Try.prog 34 = some true := by kernel_rfl
@[simp] theorem qzero_34 : qzero Try.prog 34 = some   (V.agg     [V.i Go.IntKind.i64 (0), V.i Go.IntKind.i64 (0), V.i Go.IntKind.i64 (0),       V.i Go.IntKind.i64 (0), V.i Go.IntKind.i64 (0), V.i Go.IntKind.i64 (0),       V.i Go.IntKind.i64 (0), V.i Go.IntKind.i64 (0), V.i Go.IntKind.u32 (0),       V.i Go.IntKind.u32 (0)]) := by kernel_rfl
@[simp] theorem qplaces_34 : qplaces Try.prog 34 = some [(0, 1), (1, 1), (2, 8)] := by kernel_rfl
@[simp] theorem qconcrete_34 : qconcrete Try.prog 34 = true := by kernel_rfl
@[simp] theorem qkey_34 : qkey Try.prog 34 = true := by kernel_rfl
@[simp] theorem qthere_34 : qthere Try.prog 34 = true := by kernel_rfl
@[simp] theorem qeq_34 : qeq Try.prog 34 = some   [CK.i Go.IntKind.i64, CK.i Go.IntKind.i64, CK.i Go.IntKind.i64, CK.i Go.IntKind.i64, CK.i Go.IntKind.i64,     CK.i Go.IntKind.i64, CK.i Go.IntKind.i64, CK.i Go.IntKind.i64, CK.i Go.IntKind.u32, CK.i Go.IntKind.u32] := by kernel_rfl
@[simp] theorem cellsOf_34 : Go.Program.cellsOf Try.prog 34 = 10 := by kernel_rfl
@[simp] theorem bytesOf_34 : Go.Program.bytesOf Try.prog 34 = 72 := by kernel_rfl
@[simp] theorem qsize_36 : qsize Try.prog 36 = some 21 := by kernel_rfl
@[simp] theorem qbytes_36 : qbytes Try.prog 36 = some 152 := by kernel_rfl
@[simp] theorem qagg_36 : qagg Try.prog 36 = some true := by kernel_rfl
@[simp] theorem qzero_36 : qzero Try.prog 36 = some   (V.agg     [V.i Go.IntKind.i64 (0), V.i Go.IntKind.i64 (0), V.i Go.IntKind.i64 (0),       V.i Go.IntKind.i64 (0), V.i Go.IntKind.i64 (0), V.i Go.IntKind.i64 (0),       V.i Go.IntKind.i64 (0), V.i Go.IntKind.i64 (0), V.i Go.IntKind.i64 (0),       V.i Go.IntKind.u32 (0), V.i Go.IntKind.u32 (0), V.i Go.IntKind.i64 (0),       V.i Go.IntKind.i64 (0), V.i Go.IntKind.i64 (0), V.i Go.IntKind.i64 (0),       V.i Go.IntKind.i64 (0), V.i Go.IntKind.i64 (0), V.i Go.IntKind.i64 (0),       V.i Go.IntKind.i64 (0), V.i Go.IntKind.u32 (0), V.i Go.IntKind.u32 (0)]) := by kernel_rfl
@[simp] theorem qplaces_36 : qplaces Try.prog 36 = some [(0, 1), (1, 1), (2, 1), (3, 8), (11, 10)] := by kernel_rfl
@[simp] theorem qconcrete_36 : qconcrete Try.prog 36 = true := by kernel_rfl
@[simp] theorem qkey_36 : qkey Try.prog 36 = true := by kernel_rfl
@[simp] theorem qthere_36 : qthere Try.prog 36 = true := by kernel_rfl
@[simp] theorem qeq_36 : qeq Try.prog 36 = some   [CK.i Go.IntKind.i64, CK.i Go.IntKind.i64, CK.i Go.IntKind.i64, CK.i Go.IntKind.i64, CK.i Go.IntKind.i64,     CK.i Go.IntKind.i64, CK.i Go.IntKind.i64, CK.i Go.IntKind.i64, CK.i Go.IntKind.i64, CK.i Go.IntKind.u32,     CK.i Go.IntKind.u32, CK.i Go.IntKind.i64, CK.i Go.IntKind.i64, CK.i Go.IntKind.i64, CK.i Go.IntKind.i64,     CK.i Go.IntKind.i64, CK.i Go.IntKind.i64, CK.i Go.IntKind.i64, CK.i Go.IntKind.i64, CK.i Go.IntKind.u32,     CK.i Go.IntKind.u32] := by kernel_rfl
@[simp] theorem cellsOf_36 : Go.Program.cellsOf Try.prog 36 = 21 := by kernel_rfl
@[simp] theorem bytesOf_36 : Go.Program.bytesOf Try.prog 36 = 152 := by kernel_rfl
@[simp] theorem qsize_37 : qsize Try.prog 37 = some 1 := by kernel_rfl
@[simp] theorem qbytes_37 : qbytes Try.prog 37 = some 24 := by kernel_rfl
@[simp] theorem qagg_37 : qagg Try.prog 37 = some false := by kernel_rfl
@[simp] theorem qzero_37 : qzero Try.prog 37 = some (V.sl none 0 false) := by kernel_rfl
@[simp] theorem qconcrete_37 : qconcrete Try.prog 37 = true := by kernel_rfl
@[simp] theorem qsrc_37 : qsrc Try.prog 37 = true := by kernel_rfl
@[simp] theorem qthere_37 : qthere Try.prog 37 = true := by kernel_rfl
@[simp] theorem cellsOf_37 : Go.Program.cellsOf Try.prog 37 = 1 := by kernel_rfl
@[simp] theorem bytesOf_37 : Go.Program.bytesOf Try.prog 37 = 24 := by kernel_rfl
@[simp] theorem qelem_37 : qelem Try.prog 37 = some 4 := by kernel_rfl
@[simp] theorem qsize_45 : qsize Try.prog 45 = some 1 := by kernel_rfl
@[simp] theorem qbytes_45 : qbytes Try.prog 45 = some 8 := by kernel_rfl
@[simp] theorem qagg_45 : qagg Try.prog 45 = some false := by kernel_rfl
@[simp] theorem qzero_45 : qzero Try.prog 45 = some (V.p none) := by kernel_rfl
@[simp] theorem qconcrete_45 : qconcrete Try.prog 45 = true := by kernel_rfl
@[simp] theorem qptr_45 : qptr Try.prog 45 = true := by kernel_rfl
@[simp] theorem pnn_45 : aeq Try.prog 45 (.p none) (.p none) = some true := aeq_pnn qptr_45
@[simp] theorem psn_45 (q : Nat × Nat × Nat) : aeq Try.prog 45 (.p (some q)) (.p none) = some false := aeq_psn qptr_45
@[simp] theorem qthere_45 : qthere Try.prog 45 = true := by kernel_rfl
@[simp] theorem cellsOf_45 : Go.Program.cellsOf Try.prog 45 = 1 := by kernel_rfl
@[simp] theorem bytesOf_45 : Go.Program.bytesOf Try.prog 45 = 8 := by kernel_rfl
@[simp] theorem qsize_50 : qsize Try.prog 50 = some 1 := by kernel_rfl
@[simp] theorem qbytes_50 : qbytes Try.prog 50 = some 24 := by kernel_rfl
@[simp] theorem qagg_50 : qagg Try.prog 50 = some false := by kernel_rfl
@[simp] theorem qzero_50 : qzero Try.prog 50 = some (V.sl none 0 false) := by kernel_rfl
@[simp] theorem qconcrete_50 : qconcrete Try.prog 50 = true := by kernel_rfl
@[simp] theorem qsrc_50 : qsrc Try.prog 50 = true := by kernel_rfl
@[simp] theorem qthere_50 : qthere Try.prog 50 = true := by kernel_rfl
@[simp] theorem cellsOf_50 : Go.Program.cellsOf Try.prog 50 = 1 := by kernel_rfl
@[simp] theorem bytesOf_50 : Go.Program.bytesOf Try.prog 50 = 24 := by kernel_rfl
@[simp] theorem qelem_50 : qelem Try.prog 50 = some 34 := by kernel_rfl
@[simp] theorem qsize_66 : qsize Try.prog 66 = some 1 := by kernel_rfl
@[simp] theorem qbytes_66 : qbytes Try.prog 66 = some 24 := by kernel_rfl
@[simp] theorem qagg_66 : qagg Try.prog 66 = some false := by kernel_rfl
@[simp] theorem qzero_66 : qzero Try.prog 66 = some (V.sl none 0 false) := by kernel_rfl
@[simp] theorem qconcrete_66 : qconcrete Try.prog 66 = true := by kernel_rfl
@[simp] theorem qsrc_66 : qsrc Try.prog 66 = true := by kernel_rfl
@[simp] theorem qthere_66 : qthere Try.prog 66 = true := by kernel_rfl
@[simp] theorem cellsOf_66 : Go.Program.cellsOf Try.prog 66 = 1 := by kernel_rfl
@[simp] theorem bytesOf_66 : Go.Program.bytesOf Try.prog 66 = 24 := by kernel_rfl
@[simp] theorem qelem_66 : qelem Try.prog 66 = some 105 := by kernel_rfl
@[simp] theorem qsize_68 : qsize Try.prog 68 = some 5 := by kernel_rfl
@[simp] theorem qbytes_68 : qbytes Try.prog 68 = some 88 := by kernel_rfl
@[simp] theorem qagg_68 : qagg Try.prog 68 = some true := by kernel_rfl
@[simp] theorem qzero_68 : qzero Try.prog 68 = some   (V.agg     [V.i Go.IntKind.i64 (0), V.i Go.IntKind.i64 (0), V.sl none 0 false, V.sl none 0 false,       V.sl none 0 false]) := by kernel_rfl
@[simp] theorem qplaces_68 : qplaces Try.prog 68 = some [(0, 1), (1, 1), (2, 1), (3, 1), (4, 1)] := by kernel_rfl
@[simp] theorem qconcrete_68 : qconcrete Try.prog 68 = true := by kernel_rfl
@[simp] theorem qthere_68 : qthere Try.prog 68 = true := by kernel_rfl
@[simp] theorem cellsOf_68 : Go.Program.cellsOf Try.prog 68 = 5 := by kernel_rfl
@[simp] theorem bytesOf_68 : Go.Program.bytesOf Try.prog 68 = 88 := by kernel_rfl
@[simp] theorem qsize_71 : qsize Try.prog 71 = some 1 := by kernel_rfl
@[simp] theorem qbytes_71 : qbytes Try.prog 71 = some 8 := by kernel_rfl
@[simp] theorem qagg_71 : qagg Try.prog 71 = some false := by kernel_rfl
@[simp] theorem qzero_71 : qzero Try.prog 71 = some (V.m none) := by kernel_rfl
@[simp] theorem qconcrete_71 : qconcrete Try.prog 71 = true := by kernel_rfl
@[simp] theorem qthere_71 : qthere Try.prog 71 = true := by kernel_rfl
@[simp] theorem cellsOf_71 : Go.Program.cellsOf Try.prog 71 = 1 := by kernel_rfl
@[simp] theorem bytesOf_71 : Go.Program.bytesOf Try.prog 71 = 8 := by kernel_rfl
@[simp] theorem qmap_71 : qmap Try.prog 71 = some (32, 30) := by kernel_rfl
@[simp] theorem qsize_72 : qsize Try.prog 72 = some 1 := by kernel_rfl
@[simp] theorem qbytes_72 : qbytes Try.prog 72 = some 8 := by kernel_rfl
@[simp] theorem qagg_72 : qagg Try.prog 72 = some false := by kernel_rfl
@[simp] theorem qzero_72 : qzero Try.prog 72 = some (V.m none) := by kernel_rfl
@[simp] theorem qconcrete_72 : qconcrete Try.prog 72 = true := by kernel_rfl
@[simp] theorem qthere_72 : qthere Try.prog 72 = true := by kernel_rfl
@[simp] theorem cellsOf_72 : Go.Program.cellsOf Try.prog 72 = 1 := by kernel_rfl
@[simp] theorem bytesOf_72 : Go.Program.bytesOf Try.prog 72 = 8 := by kernel_rfl
@[simp] theorem qmap_72 : qmap Try.prog 72 = some (87, 34) := by kernel_rfl
@[simp] theorem qsize_73 : qsize Try.prog 73 = some 1 := by kernel_rfl
@[simp] theorem qbytes_73 : qbytes Try.prog 73 = some 8 := by kernel_rfl
@[simp] theorem qagg_73 : qagg Try.prog 73 = some false := by kernel_rfl
@[simp] theorem qzero_73 : qzero Try.prog 73 = some (V.m none) := by kernel_rfl
@[simp] theorem qconcrete_73 : qconcrete Try.prog 73 = true := by kernel_rfl
@[simp] theorem qthere_73 : qthere Try.prog 73 = true := by kernel_rfl
@[simp] theorem cellsOf_73 : Go.Program.cellsOf Try.prog 73 = 1 := by kernel_rfl
@[simp] theorem bytesOf_73 : Go.Program.bytesOf Try.prog 73 = 8 := by kernel_rfl
@[simp] theorem qmap_73 : qmap Try.prog 73 = some (3, 30) := by kernel_rfl
@[simp] theorem qsize_75 : qsize Try.prog 75 = some 6 := by kernel_rfl
@[simp] theorem qbytes_75 : qbytes Try.prog 75 = some 48 := by kernel_rfl
@[simp] theorem qagg_75 : qagg Try.prog 75 = some true := by kernel_rfl
@[simp] theorem qzero_75 : qzero Try.prog 75 = some   (V.agg [V.i Go.IntKind.i64 (0), V.i Go.IntKind.i64 (0), V.m none, V.m none, V.m none, V.m none]) := by kernel_rfl
@[simp] theorem qplaces_75 : qplaces Try.prog 75 = some [(0, 1), (1, 1), (2, 1), (3, 1), (4, 1), (5, 1)] := by kernel_rfl
@[simp] theorem qconcrete_75 : qconcrete Try.prog 75 = true := by kernel_rfl
@[simp] theorem qthere_75 : qthere Try.prog 75 = true := by kernel_rfl
@[simp] theorem cellsOf_75 : Go.Program.cellsOf Try.prog 75 = 6 := by kernel_rfl
@[simp] theorem bytesOf_75 : Go.Program.bytesOf Try.prog 75 = 48 := by kernel_rfl
@[simp] theorem qsize_82 : qsize Try.prog 82 = some 1 := by kernel_rfl
@[simp] theorem qbytes_82 : qbytes Try.prog 82 = some 8 := by kernel_rfl
@[simp] theorem qagg_82 : qagg Try.prog 82 = some false := by kernel_rfl
@[simp] theorem qzero_82 : qzero Try.prog 82 = some V.nf := by kernel_rfl
@[simp] theorem qconcrete_82 : qconcrete Try.prog 82 = true := by kernel_rfl
@[simp] theorem qthere_82 : qthere Try.prog 82 = true := by kernel_rfl
@[simp] theorem cellsOf_82 : Go.Program.cellsOf Try.prog 82 = 1 := by kernel_rfl
@[simp] theorem bytesOf_82 : Go.Program.bytesOf Try.prog 82 = 8 := by kernel_rfl
@[simp] theorem qsize_84 : qsize Try.prog 84 = some 1 := by kernel_rfl
@[simp] theorem qbytes_84 : qbytes Try.prog 84 = some 8 := by kernel_rfl
@[simp] theorem qagg_84 : qagg Try.prog 84 = some false := by kernel_rfl
@[simp] theorem qzero_84 : qzero Try.prog 84 = some V.nf := by kernel_rfl
@[simp] theorem qconcrete_84 : qconcrete Try.prog 84 = true := by kernel_rfl
@[simp] theorem qthere_84 : qthere Try.prog 84 = true := by kernel_rfl
@[simp] theorem cellsOf_84 : Go.Program.cellsOf Try.prog 84 = 1 := by kernel_rfl
@[simp] theorem bytesOf_84 : Go.Program.bytesOf Try.prog 84 = 8 := by kernel_rfl
@[simp] theorem qsize_87 : qsize Try.prog 87 = some 2 := by kernel_rfl
@[simp] theorem qbytes_87 : qbytes Try.prog 87 = some 16 := by kernel_rfl
@[simp] theorem qagg_87 : qagg Try.prog 87 = some true := by kernel_rfl
@[simp] theorem qzero_87 : qzero Try.prog 87 = some (V.agg [V.i Go.IntKind.i64 (0), V.i Go.IntKind.i64 (0)]) := by kernel_rfl
@[simp] theorem qplaces_87 : qplaces Try.prog 87 = some [(0, 1), (1, 1)] := by kernel_rfl
@[simp] theorem qconcrete_87 : qconcrete Try.prog 87 = true := by kernel_rfl
@[simp] theorem qkey_87 : qkey Try.prog 87 = true := by kernel_rfl
@[simp] theorem qthere_87 : qthere Try.prog 87 = true := by kernel_rfl
@[simp] theorem qeq_87 : qeq Try.prog 87 = some [CK.i Go.IntKind.i64, CK.i Go.IntKind.i64] := by kernel_rfl
@[simp] theorem cellsOf_87 : Go.Program.cellsOf Try.prog 87 = 2 := by kernel_rfl
@[simp] theorem bytesOf_87 : Go.Program.bytesOf Try.prog 87 = 16 := by kernel_rfl
@[simp] theorem qsize_88 : qsize Try.prog 88 = some 1 := by kernel_rfl
@[simp] theorem qbytes_88 : qbytes Try.prog 88 = some 8 := by kernel_rfl
@[simp] theorem qagg_88 : qagg Try.prog 88 = some false := by kernel_rfl
@[simp] theorem qzero_88 : qzero Try.prog 88 = some V.nf := by kernel_rfl
@[simp] theorem qconcrete_88 : qconcrete Try.prog 88 = true := by kernel_rfl
@[simp] theorem qthere_88 : qthere Try.prog 88 = true := by kernel_rfl
@[simp] theorem cellsOf_88 : Go.Program.cellsOf Try.prog 88 = 1 := by kernel_rfl
@[simp] theorem bytesOf_88 : Go.Program.bytesOf Try.prog 88 = 8 := by kernel_rfl
@[simp] theorem qsize_90 : qsize Try.prog 90 = some 1 := by kernel_rfl
@[simp] theorem qbytes_90 : qbytes Try.prog 90 = some 8 := by kernel_rfl
@[simp] theorem qagg_90 : qagg Try.prog 90 = some false := by kernel_rfl
@[simp] theorem qzero_90 : qzero Try.prog 90 = some V.nf := by kernel_rfl
@[simp] theorem qconcrete_90 : qconcrete Try.prog 90 = true := by kernel_rfl
@[simp] theorem qthere_90 : qthere Try.prog 90 = true := by kernel_rfl
@[simp] theorem cellsOf_90 : Go.Program.cellsOf Try.prog 90 = 1 := by kernel_rfl
@[simp] theorem bytesOf_90 : Go.Program.bytesOf Try.prog 90 = 8 := by kernel_rfl
@[simp] theorem qsize_95 : qsize Try.prog 95 = some 1 := by kernel_rfl
@[simp] theorem qbytes_95 : qbytes Try.prog 95 = some 24 := by kernel_rfl
@[simp] theorem qagg_95 : qagg Try.prog 95 = some false := by kernel_rfl
@[simp] theorem qzero_95 : qzero Try.prog 95 = some (V.sl none 0 false) := by kernel_rfl
@[simp] theorem qconcrete_95 : qconcrete Try.prog 95 = true := by kernel_rfl
@[simp] theorem qsrc_95 : qsrc Try.prog 95 = true := by kernel_rfl
@[simp] theorem qthere_95 : qthere Try.prog 95 = true := by kernel_rfl
@[simp] theorem cellsOf_95 : Go.Program.cellsOf Try.prog 95 = 1 := by kernel_rfl
@[simp] theorem bytesOf_95 : Go.Program.bytesOf Try.prog 95 = 24 := by kernel_rfl
@[simp] theorem qelem_95 : qelem Try.prog 95 = some 3 := by kernel_rfl
@[simp] theorem qsize_100 : qsize Try.prog 100 = some 1 := by kernel_rfl
@[simp] theorem qbytes_100 : qbytes Try.prog 100 = some 8 := by kernel_rfl
@[simp] theorem qagg_100 : qagg Try.prog 100 = some false := by kernel_rfl
@[simp] theorem qzero_100 : qzero Try.prog 100 = some V.nf := by kernel_rfl
@[simp] theorem qconcrete_100 : qconcrete Try.prog 100 = true := by kernel_rfl
@[simp] theorem qthere_100 : qthere Try.prog 100 = true := by kernel_rfl
@[simp] theorem cellsOf_100 : Go.Program.cellsOf Try.prog 100 = 1 := by kernel_rfl
@[simp] theorem bytesOf_100 : Go.Program.bytesOf Try.prog 100 = 8 := by kernel_rfl
@[simp] theorem qsize_105 : qsize Try.prog 105 = some 3 := by kernel_rfl
@[simp] theorem qbytes_105 : qbytes Try.prog 105 = some 24 := by kernel_rfl
@[simp] theorem qagg_105 : qagg Try.prog 105 = some true := by kernel_rfl
@[simp] theorem qzero_105 : qzero Try.prog 105 = some (V.agg [V.i Go.IntKind.i64 (0), V.i Go.IntKind.i64 (0), V.i Go.IntKind.i64 (0)]) := by kernel_rfl
@[simp] theorem qplaces_105 : qplaces Try.prog 105 = some [(0, 1), (1, 1), (2, 1)] := by kernel_rfl
@[simp] theorem qconcrete_105 : qconcrete Try.prog 105 = true := by kernel_rfl
@[simp] theorem qkey_105 : qkey Try.prog 105 = true := by kernel_rfl
@[simp] theorem qthere_105 : qthere Try.prog 105 = true := by kernel_rfl
@[simp] theorem qeq_105 : qeq Try.prog 105 = some [CK.i Go.IntKind.i64, CK.i Go.IntKind.i64, CK.i Go.IntKind.i64] := by kernel_rfl
@[simp] theorem cellsOf_105 : Go.Program.cellsOf Try.prog 105 = 3 := by kernel_rfl
@[simp] theorem bytesOf_105 : Go.Program.bytesOf Try.prog 105 = 24 := by kernel_rfl
@[simp] theorem qsize_109 : qsize Try.prog 109 = some 1 := by kernel_rfl
@[simp] theorem qbytes_109 : qbytes Try.prog 109 = some 8 := by kernel_rfl
@[simp] theorem qagg_109 : qagg Try.prog 109 = some false := by kernel_rfl
@[simp] theorem qzero_109 : qzero Try.prog 109 = some (V.i Go.IntKind.u64 (0)) := by kernel_rfl
@[simp] theorem qint_109 : qint Try.prog 109 = some Go.IntKind.u64 := by kernel_rfl
@[simp] theorem keqi_109 (a c : Int) : keq Try.prog 109 (.i Go.IntKind.u64 a) (.i Go.IntKind.u64 c) = some (a == c) := keq_i qint_109
@[simp] theorem qconcrete_109 : qconcrete Try.prog 109 = true := by kernel_rfl
@[simp] theorem qkey_109 : qkey Try.prog 109 = true := by kernel_rfl
@[simp] theorem qplainKey_109 : qplainKey Try.prog 109 = true := by kernel_rfl
@[simp] theorem kf_109 (k : V) : keyFits Try.prog 109 k = true := keyFits_plain qplainKey_109
@[simp] theorem qthere_109 : qthere Try.prog 109 = true := by kernel_rfl
@[simp] theorem cellsOf_109 : Go.Program.cellsOf Try.prog 109 = 1 := by kernel_rfl
@[simp] theorem bytesOf_109 : Go.Program.bytesOf Try.prog 109 = 8 := by kernel_rfl
@[simp] theorem qsize_115 : qsize Try.prog 115 = some 1 := by kernel_rfl
@[simp] theorem qbytes_115 : qbytes Try.prog 115 = some 8 := by kernel_rfl
@[simp] theorem qagg_115 : qagg Try.prog 115 = some false := by kernel_rfl
@[simp] theorem qzero_115 : qzero Try.prog 115 = some (V.i Go.IntKind.i64 (0)) := by kernel_rfl
@[simp] theorem qint_115 : qint Try.prog 115 = some Go.IntKind.i64 := by kernel_rfl
@[simp] theorem keqi_115 (a c : Int) : keq Try.prog 115 (.i Go.IntKind.i64 a) (.i Go.IntKind.i64 c) = some (a == c) := keq_i qint_115
@[simp] theorem qconcrete_115 : qconcrete Try.prog 115 = true := by kernel_rfl
@[simp] theorem qkey_115 : qkey Try.prog 115 = true := by kernel_rfl
@[simp] theorem qplainKey_115 : qplainKey Try.prog 115 = true := by kernel_rfl
@[simp] theorem kf_115 (k : V) : keyFits Try.prog 115 k = true := keyFits_plain qplainKey_115
@[simp] theorem qthere_115 : qthere Try.prog 115 = true := by kernel_rfl
@[simp] theorem cellsOf_115 : Go.Program.cellsOf Try.prog 115 = 1 := by kernel_rfl
@[simp] theorem bytesOf_115 : Go.Program.bytesOf Try.prog 115 = 8 := by kernel_rfl
@[simp] theorem qsize_122 : qsize Try.prog 122 = some 1 := by kernel_rfl
@[simp] theorem qbytes_122 : qbytes Try.prog 122 = some 8 := by kernel_rfl
@[simp] theorem qagg_122 : qagg Try.prog 122 = some false := by kernel_rfl
@[simp] theorem qzero_122 : qzero Try.prog 122 = some (V.i Go.IntKind.u64 (0)) := by kernel_rfl
@[simp] theorem qint_122 : qint Try.prog 122 = some Go.IntKind.u64 := by kernel_rfl
@[simp] theorem keqi_122 (a c : Int) : keq Try.prog 122 (.i Go.IntKind.u64 a) (.i Go.IntKind.u64 c) = some (a == c) := keq_i qint_122
@[simp] theorem qconcrete_122 : qconcrete Try.prog 122 = true := by kernel_rfl
@[simp] theorem qkey_122 : qkey Try.prog 122 = true := by kernel_rfl
@[simp] theorem qplainKey_122 : qplainKey Try.prog 122 = true := by kernel_rfl
@[simp] theorem kf_122 (k : V) : keyFits Try.prog 122 k = true := keyFits_plain qplainKey_122
@[simp] theorem qthere_122 : qthere Try.prog 122 = true := by kernel_rfl
@[simp] theorem cellsOf_122 : Go.Program.cellsOf Try.prog 122 = 1 := by kernel_rfl
@[simp] theorem bytesOf_122 : Go.Program.bytesOf Try.prog 122 = 8 := by kernel_rfl
@[simp] theorem qsize_123 : qsize Try.prog 123 = some 1 := by kernel_rfl
@[simp] theorem qbytes_123 : qbytes Try.prog 123 = some 8 := by kernel_rfl
@[simp] theorem qagg_123 : qagg Try.prog 123 = some false := by kernel_rfl
@[simp] theorem qzero_123 : qzero Try.prog 123 = some (V.i Go.IntKind.u64 (0)) := by kernel_rfl
@[simp] theorem qint_123 : qint Try.prog 123 = some Go.IntKind.u64 := by kernel_rfl
@[simp] theorem keqi_123 (a c : Int) : keq Try.prog 123 (.i Go.IntKind.u64 a) (.i Go.IntKind.u64 c) = some (a == c) := keq_i qint_123
@[simp] theorem qconcrete_123 : qconcrete Try.prog 123 = true := by kernel_rfl
@[simp] theorem qkey_123 : qkey Try.prog 123 = true := by kernel_rfl
@[simp] theorem qplainKey_123 : qplainKey Try.prog 123 = true := by kernel_rfl
@[simp] theorem kf_123 (k : V) : keyFits Try.prog 123 k = true := keyFits_plain qplainKey_123
@[simp] theorem qthere_123 : qthere Try.prog 123 = true := by kernel_rfl
@[simp] theorem cellsOf_123 : Go.Program.cellsOf Try.prog 123 = 1 := by kernel_rfl
@[simp] theorem bytesOf_123 : Go.Program.bytesOf Try.prog 123 = 8 := by kernel_rfl
@[simp] theorem qsize_127 : qsize Try.prog 127 = some 1 := by kernel_rfl
@[simp] theorem qbytes_127 : qbytes Try.prog 127 = some 8 := by kernel_rfl
@[simp] theorem qagg_127 : qagg Try.prog 127 = some false := by kernel_rfl
@[simp] theorem qzero_127 : qzero Try.prog 127 = some (V.p none) := by kernel_rfl
@[simp] theorem qconcrete_127 : qconcrete Try.prog 127 = true := by kernel_rfl
@[simp] theorem qptr_127 : qptr Try.prog 127 = true := by kernel_rfl
@[simp] theorem pnn_127 : aeq Try.prog 127 (.p none) (.p none) = some true := aeq_pnn qptr_127
@[simp] theorem psn_127 (q : Nat × Nat × Nat) : aeq Try.prog 127 (.p (some q)) (.p none) = some false := aeq_psn qptr_127
@[simp] theorem qthere_127 : qthere Try.prog 127 = true := by kernel_rfl
@[simp] theorem cellsOf_127 : Go.Program.cellsOf Try.prog 127 = 1 := by kernel_rfl
@[simp] theorem bytesOf_127 : Go.Program.bytesOf Try.prog 127 = 8 := by kernel_rfl
@[simp] theorem qsize_129 : qsize Try.prog 129 = some 1 := by kernel_rfl
@[simp] theorem qbytes_129 : qbytes Try.prog 129 = some 8 := by kernel_rfl
@[simp] theorem qagg_129 : qagg Try.prog 129 = some false := by kernel_rfl
@[simp] theorem qzero_129 : qzero Try.prog 129 = some (V.p none) := by kernel_rfl
@[simp] theorem qconcrete_129 : qconcrete Try.prog 129 = true := by kernel_rfl
@[simp] theorem qptr_129 : qptr Try.prog 129 = true := by kernel_rfl
@[simp] theorem pnn_129 : aeq Try.prog 129 (.p none) (.p none) = some true := aeq_pnn qptr_129
@[simp] theorem psn_129 (q : Nat × Nat × Nat) : aeq Try.prog 129 (.p (some q)) (.p none) = some false := aeq_psn qptr_129
@[simp] theorem qthere_129 : qthere Try.prog 129 = true := by kernel_rfl
@[simp] theorem cellsOf_129 : Go.Program.cellsOf Try.prog 129 = 1 := by kernel_rfl
@[simp] theorem bytesOf_129 : Go.Program.bytesOf Try.prog 129 = 8 := by kernel_rfl
@[simp] theorem qsize_138 : qsize Try.prog 138 = some 1 := by kernel_rfl
@[simp] theorem qbytes_138 : qbytes Try.prog 138 = some 1 := by kernel_rfl
@[simp] theorem qagg_138 : qagg Try.prog 138 = some false := by kernel_rfl
@[simp] theorem qzero_138 : qzero Try.prog 138 = some (V.i Go.IntKind.u8 (0)) := by kernel_rfl
@[simp] theorem qint_138 : qint Try.prog 138 = some Go.IntKind.u8 := by kernel_rfl
@[simp] theorem keqi_138 (a c : Int) : keq Try.prog 138 (.i Go.IntKind.u8 a) (.i Go.IntKind.u8 c) = some (a == c) := keq_i qint_138
@[simp] theorem qconcrete_138 : qconcrete Try.prog 138 = true := by kernel_rfl
@[simp] theorem qkey_138 : qkey Try.prog 138 = true := by kernel_rfl
@[simp] theorem qplainKey_138 : qplainKey Try.prog 138 = true := by kernel_rfl
@[simp] theorem kf_138 (k : V) : keyFits Try.prog 138 k = true := keyFits_plain qplainKey_138
@[simp] theorem qthere_138 : qthere Try.prog 138 = true := by kernel_rfl
@[simp] theorem cellsOf_138 : Go.Program.cellsOf Try.prog 138 = 1 := by kernel_rfl
@[simp] theorem bytesOf_138 : Go.Program.bytesOf Try.prog 138 = 1 := by kernel_rfl
@[simp] theorem qfield_32_0 : qfield Try.prog 32 0 = some (0, 1, false) := by kernel_rfl
@[simp] theorem qfield_32_1 : qfield Try.prog 32 1 = some (1, 1, false) := by kernel_rfl
@[simp] theorem qfield_32_2 : qfield Try.prog 32 2 = some (2, 1, false) := by kernel_rfl
@[simp] theorem qfield_32_3 : qfield Try.prog 32 3 = some (3, 1, false) := by kernel_rfl
@[simp] theorem qfield_32_4 : qfield Try.prog 32 4 = some (4, 1, false) := by kernel_rfl
@[simp] theorem qfield_32_5 : qfield Try.prog 32 5 = some (5, 1, false) := by kernel_rfl
@[simp] theorem qfield_32_6 : qfield Try.prog 32 6 = some (6, 1, false) := by kernel_rfl
@[simp] theorem qfield_32_7 : qfield Try.prog 32 7 = some (7, 1, false) := by kernel_rfl
@[simp] theorem qfield_34_0 : qfield Try.prog 34 0 = some (0, 1, false) := by kernel_rfl
@[simp] theorem qfield_34_1 : qfield Try.prog 34 1 = some (1, 1, false) := by kernel_rfl
@[simp] theorem qfield_36_0 : qfield Try.prog 36 0 = some (0, 1, false) := by kernel_rfl
@[simp] theorem qfield_36_1 : qfield Try.prog 36 1 = some (1, 1, false) := by kernel_rfl
@[simp] theorem qfield_36_2 : qfield Try.prog 36 2 = some (2, 1, false) := by kernel_rfl
@[simp] theorem qfield_36_3 : qfield Try.prog 36 3 = some (3, 8, true) := by kernel_rfl
@[simp] theorem qfield_36_4 : qfield Try.prog 36 4 = some (11, 10, true) := by kernel_rfl
@[simp] theorem qfield_68_0 : qfield Try.prog 68 0 = some (0, 1, false) := by kernel_rfl
@[simp] theorem qfield_68_1 : qfield Try.prog 68 1 = some (1, 1, false) := by kernel_rfl
@[simp] theorem qfield_68_2 : qfield Try.prog 68 2 = some (2, 1, false) := by kernel_rfl
@[simp] theorem qfield_68_3 : qfield Try.prog 68 3 = some (3, 1, false) := by kernel_rfl
@[simp] theorem qfield_68_4 : qfield Try.prog 68 4 = some (4, 1, false) := by kernel_rfl
@[simp] theorem qfield_75_0 : qfield Try.prog 75 0 = some (0, 1, false) := by kernel_rfl
@[simp] theorem qfield_75_1 : qfield Try.prog 75 1 = some (1, 1, false) := by kernel_rfl
@[simp] theorem qfield_75_2 : qfield Try.prog 75 2 = some (2, 1, false) := by kernel_rfl
@[simp] theorem qfield_75_3 : qfield Try.prog 75 3 = some (3, 1, false) := by kernel_rfl
@[simp] theorem qfield_75_4 : qfield Try.prog 75 4 = some (4, 1, false) := by kernel_rfl
@[simp] theorem qfield_75_5 : qfield Try.prog 75 5 = some (5, 1, false) := by kernel_rfl
@[simp] theorem qfield_87_0 : qfield Try.prog 87 0 = some (0, 1, false) := by kernel_rfl
@[simp] theorem qfield_105_0 : qfield Try.prog 105 0 = some (0, 1, false) := by kernel_rfl
@[simp] theorem qfield_105_1 : qfield Try.prog 105 1 = some (1, 1, false) := by kernel_rfl
@[simp] theorem qfield_105_2 : qfield Try.prog 105 2 = some (2, 1, false) := by kernel_rfl
/-- 12 operations, 13 nodes, looks at memory: false -/
def pl_3_40 : Plan := .take 0 (.take 1 (.take 2 (.take 3 (.take 4 (.take 5 (.take 8 (.take 10 (.alt 6 false (.take 7 (.take 9 (.take 11 (.done)))) (.stop)))))))))
def pe_3_40 : Bool := false
/-- 16 operations, 17 nodes, looks at memory: true -/
def pl_3_41 : Plan := .take 0 (.take 1 (.take 2 (.take 3 (.take 4 (.take 5 (.take 6 (.take 7 (.take 8 (.take 9 (.take 10 (.take 11 (.take 12 (.alt 13 false (.take 14 (.alt 15 false (.done) (.stop))) (.stop))))))))))))))
def pe_3_41 : Bool := true
/-- 9 operations, 10 nodes, looks at memory: true -/
def pl_9_6 : Plan := .take 0 (.take 1 (.take 2 (.take 3 (.take 4 (.take 5 (.alt 6 false (.take 7 (.take 8 (.done))) (.stop)))))))
def pe_9_6 : Bool := true
/-- 11 operations, 12 nodes, looks at memory: true -/
def pl_9_12 : Plan := .take 0 (.take 1 (.take 2 (.take 3 (.take 4 (.take 5 (.take 6 (.take 7 (.take 8 (.take 9 (.take 10 (.done)))))))))))
def pe_9_12 : Bool := true
/-- 7 operations, 8 nodes, looks at memory: true -/
def pl_9_16 : Plan := .take 0 (.take 1 (.take 2 (.take 3 (.take 4 (.take 5 (.alt 6 false (.done) (.stop)))))))
def pe_9_16 : Bool := true
/-- 8 operations, 9 nodes, looks at memory: true -/
def pl_9_17 : Plan := .take 0 (.take 2 (.take 3 (.take 4 (.take 5 (.alt 1 true (.alt 6 false (.take 7 (.done)) (.stop)) (.stop))))))
def pe_9_17 : Bool := true
/-- 10 operations, 11 nodes, looks at memory: true -/
def pl_12_1 : Plan := .take 0 (.take 1 (.take 2 (.take 3 (.take 4 (.take 5 (.take 6 (.take 7 (.take 8 (.take 9 (.done))))))))))
def pe_12_1 : Bool := true
/-- 23 operations, 24 nodes, looks at memory: true -/
def pl_14_1 : Plan := .take 0 (.alt 1 true (.take 2 (.take 3 (.take 4 (.take 5 (.take 6 (.take 7 (.take 8 (.take 9 (.take 10 (.take 11 (.take 12 (.take 13 (.take 14 (.take 15 (.take 16 (.take 17 (.take 18 (.take 19 (.alt 20 true (.take 21 (.take 22 (.done))) (.stop)))))))))))))))))))) (.stop))
def pe_14_1 : Bool := true
/-- 11 operations, 12 nodes, looks at memory: true -/
def pl_14_9 : Plan := .take 0 (.take 1 (.take 2 (.take 3 (.take 4 (.take 5 (.alt 6 true (.alt 7 false (.take 8 (.take 9 (.alt 10 false (.done) (.stop)))) (.stop)) (.stop)))))))
def pe_14_9 : Bool := true
/-- 27 operations, 28 nodes, looks at memory: true -/
def pl_14_18 : Plan := .take 0 (.take 1 (.take 2 (.take 3 (.take 4 (.take 5 (.take 6 (.take 7 (.take 8 (.take 10 (.alt 9 true (.alt 11 true (.take 12 (.take 13 (.take 14 (.take 15 (.take 16 (.take 17 (.take 18 (.take 19 (.take 20 (.take 21 (.take 22 (.alt 23 true (.take 24 (.take 25 (.take 26 (.done)))) (.stop))))))))))))) (.stop)) (.stop)))))))))))
def pe_14_18 : Bool := true
/-- 12 operations, 13 nodes, looks at memory: true -/
def pl_15_11 : Plan := .take 0 (.take 1 (.take 2 (.take 3 (.take 4 (.take 5 (.take 6 (.take 7 (.take 8 (.alt 9 true (.alt 10 false (.take 11 (.done)) (.stop)) (.stop))))))))))
def pe_15_11 : Bool := true
/-- 7 operations, 8 nodes, looks at memory: true -/
def pl_15_14 : Plan := .take 0 (.take 1 (.take 2 (.take 3 (.take 4 (.take 5 (.alt 6 false (.done) (.stop)))))))
def pe_15_14 : Bool := true
/-- 24 operations, 25 nodes, looks at memory: true -/
def pl_16_9 : Plan := .take 0 (.take 1 (.take 2 (.take 3 (.take 4 (.take 5 (.take 6 (.take 7 (.take 8 (.take 9 (.take 10 (.take 11 (.take 12 (.take 13 (.take 14 (.take 15 (.take 16 (.take 17 (.take 18 (.take 19 (.take 20 (.take 21 (.take 22 (.take 23 (.done))))))))))))))))))))))))
def pe_16_9 : Bool := true
/-- 11 operations, 12 nodes, looks at memory: true -/
def pl_16_11 : Plan := .take 0 (.take 1 (.take 2 (.take 3 (.take 4 (.take 5 (.alt 6 true (.alt 7 false (.take 8 (.take 9 (.alt 10 false (.done) (.stop)))) (.stop)) (.stop)))))))
def pe_16_11 : Bool := true
/-- 23 operations, 24 nodes, looks at memory: true -/
def pl_16_19 : Plan := .take 0 (.take 1 (.take 2 (.take 3 (.take 4 (.take 5 (.take 6 (.take 7 (.take 8 (.take 9 (.take 10 (.take 11 (.take 12 (.take 13 (.take 14 (.take 15 (.take 16 (.take 17 (.take 18 (.take 19 (.take 20 (.take 21 (.take 22 (.done)))))))))))))))))))))))
def pe_16_19 : Bool := true
/-- 9 operations, 10 nodes, looks at memory: true -/
def pl_17_6 : Plan := .take 0 (.take 1 (.take 2 (.take 3 (.take 4 (.take 5 (.take 6 (.take 7 (.take 8 (.done)))))))))
def pe_17_6 : Bool := true
/-- 8 operations, 9 nodes, looks at memory: true -/
def pl_18_4 : Plan := .take 0 (.take 2 (.take 3 (.take 4 (.take 5 (.alt 1 true (.alt 6 false (.take 7 (.done)) (.stop)) (.stop))))))
def pe_18_4 : Bool := true
/-- 17 operations, 18 nodes, looks at memory: true -/
def pl_22_6 : Plan := .take 0 (.take 1 (.take 2 (.take 3 (.take 4 (.take 5 (.take 6 (.take 7 (.take 8 (.take 9 (.take 10 (.take 11 (.alt 12 true (.alt 13 true (.take 14 (.take 15 (.alt 16 false (.done) (.stop)))) (.stop)) (.stop)))))))))))))
def pe_22_6 : Bool := true
/-- 17 operations, 18 nodes, looks at memory: true -/
def pl_22_11 : Plan := .take 0 (.take 1 (.take 2 (.take 3 (.take 4 (.take 5 (.take 6 (.take 7 (.take 8 (.take 9 (.take 10 (.take 11 (.alt 12 true (.alt 13 true (.take 14 (.take 15 (.alt 16 false (.done) (.stop)))) (.stop)) (.stop)))))))))))))
def pe_22_11 : Bool := true
/-- 17 operations, 18 nodes, looks at memory: true -/
def pl_22_16 : Plan := .take 0 (.take 1 (.take 2 (.take 3 (.take 4 (.take 5 (.take 6 (.take 7 (.take 8 (.take 9 (.take 10 (.take 11 (.alt 12 true (.alt 13 true (.take 14 (.take 15 (.alt 16 false (.done) (.stop)))) (.stop)) (.stop)))))))))))))
def pe_22_16 : Bool := true
/-- 12 operations, 13 nodes, looks at memory: true -/
def pl_23_3 : Plan := .take 0 (.take 1 (.take 2 (.take 3 (.take 4 (.take 5 (.take 6 (.take 7 (.take 8 (.take 9 (.take 10 (.take 11 (.done))))))))))))
def pe_23_3 : Bool := true
/-- 19 operations, 20 nodes, looks at memory: false -/
def pl_30_1 : Plan := .take 0 (.take 1 (.take 2 (.take 3 (.take 4 (.take 5 (.take 6 (.take 7 (.take 8 (.take 9 (.take 10 (.take 11 (.take 12 (.take 13 (.take 14 (.take 15 (.take 16 (.take 17 (.take 18 (.done)))))))))))))))))))
def pe_30_1 : Bool := false
/-- 7 operations, 8 nodes, looks at memory: true -/
def pl_42_7 : Plan := .take 0 (.take 1 (.take 2 (.take 3 (.take 4 (.alt 5 true (.take 6 (.done)) (.stop))))))
def pe_42_7 : Bool := true
/-- 21 operations, 22 nodes, looks at memory: true -/
def pl_44_10 : Plan := .take 0 (.take 1 (.take 2 (.take 3 (.take 4 (.take 5 (.take 6 (.take 7 (.take 8 (.take 10 (.take 11 (.take 12 (.take 13 (.take 14 (.take 15 (.take 16 (.alt 9 true (.alt 17 true (.take 18 (.take 19 (.take 20 (.done)))) (.stop)) (.stop)))))))))))))))))
def pe_44_10 : Bool := true
/-- 15 operations, 16 nodes, looks at memory: true -/
def pl_44_13 : Plan := .take 0 (.take 1 (.take 2 (.take 3 (.take 4 (.take 5 (.take 6 (.take 7 (.take 8 (.take 10 (.alt 9 true (.alt 11 true (.take 12 (.take 13 (.take 14 (.done)))) (.stop)) (.stop)))))))))))
def pe_44_13 : Bool := true
/-- 11 operations, 12 nodes, looks at memory: true -/
def pl_56_6 : Plan := .take 0 (.take 1 (.take 2 (.take 3 (.take 4 (.take 5 (.alt 6 true (.alt 7 false (.take 8 (.take 9 (.alt 10 false (.done) (.stop)))) (.stop)) (.stop)))))))
def pe_56_6 : Bool := true
/-- 18 operations, 19 nodes, looks at memory: true -/
def pl_56_15 : Plan := .take 0 (.take 1 (.take 2 (.take 3 (.take 4 (.take 5 (.take 6 (.take 7 (.take 8 (.take 9 (.take 10 (.take 11 (.take 12 (.take 13 (.take 14 (.take 15 (.take 16 (.take 17 (.done))))))))))))))))))
def pe_56_15 : Bool := true
/-- 17 operations, 18 nodes, looks at memory: true -/
def pl_62_17 : Plan := .take 0 (.take 1 (.take 2 (.take 3 (.take 4 (.take 5 (.take 6 (.take 7 (.take 8 (.take 9 (.take 10 (.take 11 (.take 12 (.alt 13 false (.take 14 (.take 15 (.take 16 (.done)))) (.stop))))))))))))))
def pe_62_17 : Bool := true
/-- 17 operations, 18 nodes, looks at memory: true -/
def pl_66_4 : Plan := .take 0 (.take 1 (.take 2 (.take 3 (.take 4 (.take 5 (.take 6 (.take 7 (.take 8 (.take 9 (.take 10 (.take 11 (.take 12 (.take 13 (.alt 14 false (.take 15 (.take 16 (.done))) (.stop)))))))))))))))
def pe_66_4 : Bool := true
/-- 18 operations, 19 nodes, looks at memory: true -/
def pl_66_6 : Plan := .take 0 (.take 1 (.take 2 (.take 3 (.take 4 (.take 5 (.take 6 (.take 7 (.take 8 (.take 9 (.take 10 (.take 11 (.take 12 (.take 13 (.take 14 (.alt 15 false (.take 16 (.alt 17 false (.done) (.stop))) (.stop))))))))))))))))
def pe_66_6 : Bool := true
/-- 20 operations, 21 nodes, looks at memory: true -/
def pl_67_10 : Plan := .take 0 (.take 1 (.take 2 (.take 3 (.take 4 (.take 5 (.take 6 (.take 7 (.take 8 (.take 9 (.take 10 (.take 11 (.take 12 (.take 13 (.take 14 (.take 15 (.take 16 (.alt 17 false (.take 18 (.alt 19 false (.done) (.stop))) (.stop))))))))))))))))))
def pe_67_10 : Bool := true
/-- 20 operations, 21 nodes, looks at memory: true -/
def pl_68_10 : Plan := .take 0 (.take 1 (.take 2 (.take 3 (.take 4 (.take 5 (.take 6 (.take 7 (.take 8 (.take 9 (.take 10 (.take 11 (.take 12 (.take 13 (.take 14 (.take 15 (.take 16 (.alt 17 false (.take 18 (.alt 19 false (.done) (.stop))) (.stop))))))))))))))))))
def pe_68_10 : Bool := true
/-- 16 operations, 17 nodes, looks at memory: true -/
def pl_70_3 : Plan := .take 0 (.take 1 (.take 2 (.take 3 (.take 4 (.take 5 (.take 6 (.take 7 (.take 8 (.take 9 (.take 10 (.take 11 (.take 12 (.alt 13 false (.take 14 (.alt 15 false (.done) (.stop))) (.stop))))))))))))))
def pe_70_3 : Bool := true
/-- 18 operations, 19 nodes, looks at memory: true -/
def pl_71_5 : Plan := .take 0 (.take 1 (.take 2 (.take 3 (.take 4 (.take 5 (.take 6 (.take 7 (.take 8 (.take 9 (.take 10 (.take 11 (.take 12 (.take 13 (.alt 14 false (.take 15 (.take 16 (.take 17 (.done)))) (.stop)))))))))))))))
def pe_71_5 : Bool := true
/-- 18 operations, 19 nodes, looks at memory: true -/
def pl_71_11 : Plan := .take 0 (.take 1 (.take 2 (.take 3 (.take 4 (.take 5 (.take 6 (.take 7 (.take 8 (.take 9 (.take 10 (.take 11 (.take 12 (.take 13 (.take 14 (.alt 15 false (.take 16 (.alt 17 false (.done) (.stop))) (.stop))))))))))))))))
def pe_71_11 : Bool := true
/-- 13 operations, 14 nodes, looks at memory: true -/
def pl_71_16 : Plan := .take 0 (.take 1 (.take 2 (.take 3 (.take 4 (.take 5 (.take 6 (.take 7 (.take 8 (.take 9 (.alt 10 false (.take 11 (.take 12 (.done))) (.stop)))))))))))
def pe_71_16 : Bool := true
/-- 18 operations, 19 nodes, looks at memory: true -/
def pl_71_17 : Plan := .take 0 (.take 1 (.take 2 (.take 3 (.take 4 (.take 5 (.take 6 (.take 7 (.take 8 (.take 9 (.take 10 (.take 11 (.take 12 (.take 13 (.take 14 (.alt 15 false (.take 16 (.alt 17 false (.done) (.stop))) (.stop))))))))))))))))
def pe_71_17 : Bool := true
/-- 13 operations, 14 nodes, looks at memory: true -/
def pl_71_22 : Plan := .take 0 (.take 1 (.take 2 (.take 3 (.take 4 (.take 5 (.take 6 (.take 7 (.take 8 (.take 9 (.alt 10 false (.take 11 (.take 12 (.done))) (.stop)))))))))))
def pe_71_22 : Bool := true
/-- 18 operations, 19 nodes, looks at memory: true -/
def pl_71_23 : Plan := .take 0 (.take 1 (.take 2 (.take 3 (.take 4 (.take 5 (.take 6 (.take 7 (.take 8 (.take 9 (.take 10 (.take 11 (.take 12 (.take 13 (.take 14 (.alt 15 false (.take 16 (.alt 17 false (.done) (.stop))) (.stop))))))))))))))))
def pe_71_23 : Bool := true
/-- 16 operations, 17 nodes, looks at memory: true -/
def pl_72_1 : Plan := .take 0 (.take 1 (.take 2 (.take 3 (.take 4 (.take 5 (.take 6 (.take 7 (.take 8 (.take 9 (.take 10 (.take 11 (.take 12 (.alt 13 false (.take 14 (.alt 15 false (.done) (.stop))) (.stop))))))))))))))
def pe_72_1 : Bool := true
/-- 17 operations, 18 nodes, looks at memory: true -/
def pl_72_3 : Plan := .take 0 (.take 1 (.take 2 (.take 3 (.take 4 (.take 5 (.take 6 (.take 7 (.take 8 (.take 9 (.take 10 (.take 11 (.take 12 (.alt 13 false (.take 14 (.take 15 (.take 16 (.done)))) (.stop))))))))))))))
def pe_72_3 : Bool := true
/-- 16 operations, 17 nodes, looks at memory: true -/
def pl_72_5 : Plan := .take 0 (.take 1 (.take 2 (.take 3 (.take 4 (.take 5 (.take 6 (.take 7 (.take 8 (.take 9 (.take 10 (.take 11 (.take 12 (.alt 13 false (.take 14 (.take 15 (.done))) (.stop))))))))))))))
def pe_72_5 : Bool := true
/-- 16 operations, 17 nodes, looks at memory: true -/
def pl_72_8 : Plan := .take 0 (.take 1 (.take 2 (.take 3 (.take 4 (.take 5 (.take 6 (.take 7 (.take 8 (.take 9 (.take 10 (.take 11 (.take 12 (.alt 13 false (.take 14 (.alt 15 false (.done) (.stop))) (.stop))))))))))))))
def pe_72_8 : Bool := true
/-- 16 operations, 17 nodes, looks at memory: true -/
def pl_73_1 : Plan := .take 0 (.take 1 (.take 2 (.take 3 (.take 4 (.take 5 (.take 6 (.take 7 (.take 8 (.take 9 (.take 10 (.take 11 (.take 12 (.alt 13 false (.take 14 (.alt 15 false (.done) (.stop))) (.stop))))))))))))))
def pe_73_1 : Bool := true
/-- 16 operations, 17 nodes, looks at memory: true -/
def pl_73_3 : Plan := .take 0 (.take 1 (.take 2 (.take 3 (.take 4 (.take 5 (.take 6 (.take 7 (.take 8 (.take 9 (.take 10 (.take 11 (.take 12 (.alt 13 false (.take 14 (.take 15 (.done))) (.stop))))))))))))))
def pe_73_3 : Bool := true
/-- 17 operations, 18 nodes, looks at memory: true -/
def pl_73_5 : Plan := .take 0 (.take 1 (.take 2 (.take 3 (.take 4 (.take 5 (.take 6 (.take 7 (.take 8 (.take 9 (.take 10 (.take 11 (.take 12 (.alt 13 false (.take 14 (.take 15 (.take 16 (.done)))) (.stop))))))))))))))
def pe_73_5 : Bool := true
/-- 16 operations, 17 nodes, looks at memory: true -/
def pl_73_8 : Plan := .take 0 (.take 1 (.take 2 (.take 3 (.take 4 (.take 5 (.take 6 (.take 7 (.take 8 (.take 9 (.take 10 (.take 11 (.take 12 (.alt 13 false (.take 14 (.alt 15 false (.done) (.stop))) (.stop))))))))))))))
def pe_73_8 : Bool := true
/-- 16 operations, 17 nodes, looks at memory: true -/
def pl_73_10 : Plan := .take 0 (.take 1 (.take 2 (.take 3 (.take 4 (.take 5 (.take 6 (.take 7 (.take 8 (.take 9 (.take 10 (.take 11 (.take 12 (.alt 13 false (.take 14 (.alt 15 false (.done) (.stop))) (.stop))))))))))))))
def pe_73_10 : Bool := true
/-- 16 operations, 17 nodes, looks at memory: true -/
def pl_73_13 : Plan := .take 0 (.take 1 (.take 2 (.take 3 (.take 4 (.take 5 (.take 6 (.take 7 (.take 8 (.take 9 (.take 10 (.take 11 (.take 12 (.alt 13 false (.take 14 (.take 15 (.done))) (.stop))))))))))))))
def pe_73_13 : Bool := true
/-- 17 operations, 18 nodes, looks at memory: true -/
def pl_73_15 : Plan := .take 0 (.take 1 (.take 2 (.take 3 (.take 4 (.take 5 (.take 6 (.take 7 (.take 8 (.take 9 (.take 10 (.take 11 (.take 12 (.alt 13 false (.take 14 (.take 15 (.take 16 (.done)))) (.stop))))))))))))))
def pe_73_15 : Bool := true
/-- 16 operations, 17 nodes, looks at memory: true -/
def pl_73_18 : Plan := .take 0 (.take 1 (.take 2 (.take 3 (.take 4 (.take 5 (.take 6 (.take 7 (.take 8 (.take 9 (.take 10 (.take 11 (.take 12 (.alt 13 false (.take 14 (.alt 15 false (.done) (.stop))) (.stop))))))))))))))
def pe_73_18 : Bool := true
/-- 16 operations, 17 nodes, looks at memory: true -/
def pl_73_21 : Plan := .take 0 (.take 1 (.take 2 (.take 3 (.take 4 (.take 5 (.take 6 (.take 7 (.take 8 (.take 9 (.take 10 (.take 11 (.take 12 (.alt 13 false (.take 14 (.alt 15 false (.done) (.stop))) (.stop))))))))))))))
def pe_73_21 : Bool := true
/-- 22 operations, 23 nodes, looks at memory: true -/
def pl_77_3 : Plan := .take 0 (.take 1 (.take 2 (.take 3 (.take 4 (.take 5 (.take 6 (.take 7 (.take 8 (.take 9 (.take 10 (.take 11 (.take 12 (.take 13 (.take 14 (.take 15 (.take 16 (.take 17 (.take 18 (.alt 19 false (.take 20 (.take 21 (.done))) (.stop))))))))))))))))))))
def pe_77_3 : Bool := true
/-- 16 operations, 17 nodes, looks at memory: true -/
def pl_77_5 : Plan := .take 0 (.take 1 (.take 2 (.take 3 (.take 4 (.take 5 (.take 6 (.take 7 (.take 8 (.take 9 (.take 10 (.take 11 (.take 12 (.alt 13 false (.take 14 (.take 15 (.done))) (.stop))))))))))))))
def pe_77_5 : Bool := true
/-- 24 operations, 25 nodes, looks at memory: true -/
def pl_77_6 : Plan := .take 0 (.take 1 (.take 2 (.take 3 (.take 4 (.take 5 (.take 6 (.take 7 (.take 8 (.take 9 (.take 10 (.take 11 (.take 12 (.take 13 (.take 14 (.take 15 (.take 16 (.take 17 (.take 18 (.take 19 (.take 20 (.alt 21 false (.take 22 (.alt 23 false (.done) (.stop))) (.stop))))))))))))))))))))))
def pe_77_6 : Bool := true
/-- 10 operations, 11 nodes, looks at memory: true -/
def pl_79_1 : Plan := .take 0 (.take 1 (.take 2 (.take 3 (.take 4 (.take 5 (.take 6 (.take 7 (.take 8 (.alt 9 false (.done) (.stop))))))))))
def pe_79_1 : Bool := true
/-- 10 operations, 11 nodes, looks at memory: true -/
def pl_79_2 : Plan := .take 0 (.take 1 (.take 2 (.take 3 (.take 4 (.take 5 (.take 6 (.take 7 (.take 8 (.alt 9 false (.done) (.stop))))))))))
def pe_79_2 : Bool := true
/-- 10 operations, 11 nodes, looks at memory: true -/
def pl_79_3 : Plan := .take 0 (.take 1 (.take 2 (.take 3 (.take 4 (.take 5 (.take 6 (.take 7 (.take 8 (.alt 9 false (.done) (.stop))))))))))
def pe_79_3 : Bool := true
/-- 11 operations, 12 nodes, looks at memory: true -/
def pl_82_1 : Plan := .take 0 (.take 1 (.take 2 (.take 3 (.take 4 (.take 5 (.take 6 (.take 7 (.take 8 (.alt 9 false (.take 10 (.done)) (.stop))))))))))
def pe_82_1 : Bool := true
instance : Laid Try.prog := ⟨[]⟩
def planTab : PlanTab := [(3, [(40, pe_3_40, Mode.ext, pl_3_40), (41, pe_3_41, Mode.ext, pl_3_41)]), (9, [(6, pe_9_6, Mode.ext, pl_9_6), (12, pe_9_12, Mode.ext, pl_9_12), (16, pe_9_16, Mode.ext, pl_9_16), (17, pe_9_17, Mode.ext, pl_9_17)]), (12, [(1, pe_12_1, Mode.ext, pl_12_1)]), (14, [(1, pe_14_1, Mode.ext, pl_14_1), (9, pe_14_9, Mode.ext, pl_14_9), (18, pe_14_18, Mode.ext, pl_14_18)]), (15, [(11, pe_15_11, Mode.ext, pl_15_11), (14, pe_15_14, Mode.ext, pl_15_14)]), (16, [(9, pe_16_9, Mode.ext, pl_16_9), (11, pe_16_11, Mode.ext, pl_16_11), (19, pe_16_19, Mode.ext, pl_16_19)]), (17, [(6, pe_17_6, Mode.ext, pl_17_6)]), (18, [(4, pe_18_4, Mode.ext, pl_18_4)]), (22, [(6, pe_22_6, Mode.ext, pl_22_6), (11, pe_22_11, Mode.ext, pl_22_11), (16, pe_22_16, Mode.ext, pl_22_16)]), (23, [(3, pe_23_3, Mode.ext, pl_23_3)]), (30, [(1, pe_30_1, Mode.ext, pl_30_1)]), (42, [(7, pe_42_7, Mode.ext, pl_42_7)]), (44, [(10, pe_44_10, Mode.ext, pl_44_10), (13, pe_44_13, Mode.ext, pl_44_13)]), (56, [(6, pe_56_6, Mode.ext, pl_56_6), (15, pe_56_15, Mode.ext, pl_56_15)]), (62, [(17, pe_62_17, Mode.ext, pl_62_17)]), (66, [(4, pe_66_4, Mode.ext, pl_66_4), (6, pe_66_6, Mode.ext, pl_66_6)]), (67, [(10, pe_67_10, Mode.ext, pl_67_10)]), (68, [(10, pe_68_10, Mode.ext, pl_68_10)]), (70, [(3, pe_70_3, Mode.ext, pl_70_3)]), (71, [(5, pe_71_5, Mode.ext, pl_71_5), (11, pe_71_11, Mode.ext, pl_71_11), (16, pe_71_16, Mode.ext, pl_71_16), (17, pe_71_17, Mode.ext, pl_71_17), (22, pe_71_22, Mode.ext, pl_71_22), (23, pe_71_23, Mode.ext, pl_71_23)]), (72, [(1, pe_72_1, Mode.ext, pl_72_1), (3, pe_72_3, Mode.ext, pl_72_3), (5, pe_72_5, Mode.ext, pl_72_5), (8, pe_72_8, Mode.ext, pl_72_8)]), (73, [(1, pe_73_1, Mode.ext, pl_73_1), (3, pe_73_3, Mode.ext, pl_73_3), (5, pe_73_5, Mode.ext, pl_73_5), (8, pe_73_8, Mode.ext, pl_73_8), (10, pe_73_10, Mode.ext, pl_73_10), (13, pe_73_13, Mode.ext, pl_73_13), (15, pe_73_15, Mode.ext, pl_73_15), (18, pe_73_18, Mode.ext, pl_73_18), (21, pe_73_21, Mode.ext, pl_73_21)]), (77, [(3, pe_77_3, Mode.ext, pl_77_3), (5, pe_77_5, Mode.ext, pl_77_5), (6, pe_77_6, Mode.ext, pl_77_6)]), (79, [(1, pe_79_1, Mode.ext, pl_79_1), (2, pe_79_2, Mode.ext, pl_79_2), (3, pe_79_3, Mode.ext, pl_79_3)]), (82, [(1, pe_82_1, Mode.ext, pl_82_1)])]
end Go.Proofs.Ytdioggohbfgnfaa
