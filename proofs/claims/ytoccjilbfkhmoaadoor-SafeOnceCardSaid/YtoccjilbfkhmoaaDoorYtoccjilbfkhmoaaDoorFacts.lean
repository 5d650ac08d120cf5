/-
  Facts about this program's types, by program.
-/
import Derived.Test.YtoccjilbfkhmoaaDoorAbsC
import Derived.Test.YtoccjilbfkhmoaaDoorProg
set_option linter.unusedVariables false
namespace Go.Proofs.YtoccjilbfkhmoaaDoor
open Go Go.Abs Go.Proofs
@[simp] theorem qsize_2 : qsize Tryd.prog 2 = some 1 := by kernel_rfl
@[simp] theorem qbytes_2 : qbytes Tryd.prog 2 = some 8 := by kernel_rfl
@[simp] theorem qagg_2 : qagg Tryd.prog 2 = some false := by kernel_rfl
@[simp] theorem qzero_2 : qzero Tryd.prog 2 = some (V.i Go.IntKind.i64 (0)) := by kernel_rfl
@[simp] theorem qint_2 : qint Tryd.prog 2 = some Go.IntKind.i64 := by kernel_rfl
@[simp] theorem keqi_2 (a c : Int) : keq Tryd.prog 2 (.i Go.IntKind.i64 a) (.i Go.IntKind.i64 c) = some (a == c) := keq_i qint_2
@[simp] theorem qconcrete_2 : qconcrete Tryd.prog 2 = true := by kernel_rfl
@[simp] theorem qkey_2 : qkey Tryd.prog 2 = true := by kernel_rfl
@[simp] theorem qplainKey_2 : qplainKey Tryd.prog 2 = true := by kernel_rfl
@[simp] theorem kf_2 (k : V) : keyFits Tryd.prog 2 k = true := keyFits_plain qplainKey_2
@[simp] theorem qthere_2 : qthere Tryd.prog 2 = true := by kernel_rfl
@[simp] theorem cellsOf_2 : Go.Program.cellsOf Tryd.prog 2 = 1 := by kernel_rfl
@[simp] theorem bytesOf_2 : Go.Program.bytesOf Tryd.prog 2 = 8 := by kernel_rfl
@[simp] theorem qsize_3 : qsize Tryd.prog 3 = some 1 := by kernel_rfl
@[simp] theorem qbytes_3 : qbytes Tryd.prog 3 = some 8 := by kernel_rfl
@[simp] theorem qagg_3 : qagg Tryd.prog 3 = some false := by kernel_rfl
@[simp] theorem qzero_3 : qzero Tryd.prog 3 = some (V.i Go.IntKind.i64 (0)) := by kernel_rfl
@[simp] theorem qint_3 : qint Tryd.prog 3 = some Go.IntKind.i64 := by kernel_rfl
@[simp] theorem keqi_3 (a c : Int) : keq Tryd.prog 3 (.i Go.IntKind.i64 a) (.i Go.IntKind.i64 c) = some (a == c) := keq_i qint_3
@[simp] theorem qconcrete_3 : qconcrete Tryd.prog 3 = true := by kernel_rfl
@[simp] theorem qkey_3 : qkey Tryd.prog 3 = true := by kernel_rfl
@[simp] theorem qplainKey_3 : qplainKey Tryd.prog 3 = true := by kernel_rfl
@[simp] theorem kf_3 (k : V) : keyFits Tryd.prog 3 k = true := keyFits_plain qplainKey_3
@[simp] theorem qthere_3 : qthere Tryd.prog 3 = true := by kernel_rfl
@[simp] theorem cellsOf_3 : Go.Program.cellsOf Tryd.prog 3 = 1 := by kernel_rfl
@[simp] theorem bytesOf_3 : Go.Program.bytesOf Tryd.prog 3 = 8 := by kernel_rfl
@[simp] theorem qsize_4 : qsize Tryd.prog 4 = some 1 := by kernel_rfl
@[simp] theorem qbytes_4 : qbytes Tryd.prog 4 = some 1 := by kernel_rfl
@[simp] theorem qagg_4 : qagg Tryd.prog 4 = some false := by kernel_rfl
@[simp] theorem qzero_4 : qzero Tryd.prog 4 = some (V.b false) := by kernel_rfl
@[simp] theorem qconcrete_4 : qconcrete Tryd.prog 4 = true := by kernel_rfl
@[simp] theorem qbool_4 : qbool Tryd.prog 4 = true := by kernel_rfl
@[simp] theorem bb_4 (x y : Bool) : aeq Tryd.prog 4 (.b x) (.b y) = some (x == y) := aeq_bb qbool_4
@[simp] theorem qthere_4 : qthere Tryd.prog 4 = true := by kernel_rfl
@[simp] theorem cellsOf_4 : Go.Program.cellsOf Tryd.prog 4 = 1 := by kernel_rfl
@[simp] theorem bytesOf_4 : Go.Program.bytesOf Tryd.prog 4 = 1 := by kernel_rfl
@[simp] theorem qsize_5 : qsize Tryd.prog 5 = some 1 := by kernel_rfl
@[simp] theorem qbytes_5 : qbytes Tryd.prog 5 = some 1 := by kernel_rfl
@[simp] theorem qagg_5 : qagg Tryd.prog 5 = some false := by kernel_rfl
@[simp] theorem qzero_5 : qzero Tryd.prog 5 = some (V.i Go.IntKind.u8 (0)) := by kernel_rfl
@[simp] theorem qint_5 : qint Tryd.prog 5 = some Go.IntKind.u8 := by kernel_rfl
@[simp] theorem keqi_5 (a c : Int) : keq Tryd.prog 5 (.i Go.IntKind.u8 a) (.i Go.IntKind.u8 c) = some (a == c) := keq_i qint_5
@[simp] theorem qconcrete_5 : qconcrete Tryd.prog 5 = true := by kernel_rfl
@[simp] theorem qkey_5 : qkey Tryd.prog 5 = true := by kernel_rfl
@[simp] theorem qplainKey_5 : qplainKey Tryd.prog 5 = true := by kernel_rfl
@[simp] theorem kf_5 (k : V) : keyFits Tryd.prog 5 k = true := keyFits_plain qplainKey_5
@[simp] theorem qthere_5 : qthere Tryd.prog 5 = true := by kernel_rfl
@[simp] theorem cellsOf_5 : Go.Program.cellsOf Tryd.prog 5 = 1 := by kernel_rfl
@[simp] theorem bytesOf_5 : Go.Program.bytesOf Tryd.prog 5 = 1 := by kernel_rfl
@[simp] theorem qsize_8 : qsize Tryd.prog 8 = some 4 := by kernel_rfl
@[simp] theorem qbytes_8 : qbytes Tryd.prog 8 = some 24 := by kernel_rfl
@[simp] theorem qagg_8 : qagg Tryd.prog 8 = some true := by kernel_rfl
@[simp] theorem qzero_8 : qzero Tryd.prog 8 = some   (V.agg     [V.i Go.IntKind.i64 (0), V.i Go.IntKind.i64 (0), V.b false, V.i Go.IntKind.u8 (0)]) := by kernel_rfl
@[simp] theorem qplaces_8 : qplaces Tryd.prog 8 = some [(0, 1), (1, 1), (2, 1), (3, 1)] := by kernel_rfl
@[simp] theorem qconcrete_8 : qconcrete Tryd.prog 8 = true := by kernel_rfl
@[simp] theorem qkey_8 : qkey Tryd.prog 8 = true := by kernel_rfl
@[simp] theorem qthere_8 : qthere Tryd.prog 8 = true := by kernel_rfl
@[simp] theorem qeq_8 : qeq Tryd.prog 8 = some [CK.i Go.IntKind.i64, CK.i Go.IntKind.i64, CK.b, CK.i Go.IntKind.u8] := by kernel_rfl
@[simp] theorem cellsOf_8 : Go.Program.cellsOf Tryd.prog 8 = 4 := by kernel_rfl
@[simp] theorem bytesOf_8 : Go.Program.bytesOf Tryd.prog 8 = 24 := by kernel_rfl
@[simp] theorem qsize_9 : qsize Tryd.prog 9 = some 1 := by kernel_rfl
@[simp] theorem qbytes_9 : qbytes Tryd.prog 9 = some 16 := by kernel_rfl
@[simp] theorem qagg_9 : qagg Tryd.prog 9 = some false := by kernel_rfl
@[simp] theorem qzero_9 : qzero Tryd.prog 9 = some (V.s []) := by kernel_rfl
@[simp] theorem qstr_9 : qstr Tryd.prog 9 = true := by kernel_rfl
@[simp] theorem keqs_9 (a c : List UInt8) : keq Tryd.prog 9 (.s a) (.s c) = some (a == c) := keq_s qstr_9
@[simp] theorem qconcrete_9 : qconcrete Tryd.prog 9 = true := by kernel_rfl
@[simp] theorem qkey_9 : qkey Tryd.prog 9 = true := by kernel_rfl
@[simp] theorem qsrc_9 : qsrc Tryd.prog 9 = true := by kernel_rfl
@[simp] theorem qplainKey_9 : qplainKey Tryd.prog 9 = true := by kernel_rfl
@[simp] theorem kf_9 (k : V) : keyFits Tryd.prog 9 k = true := keyFits_plain qplainKey_9
@[simp] theorem qthere_9 : qthere Tryd.prog 9 = true := by kernel_rfl
@[simp] theorem cellsOf_9 : Go.Program.cellsOf Tryd.prog 9 = 1 := by kernel_rfl
@[simp] theorem bytesOf_9 : Go.Program.bytesOf Tryd.prog 9 = 16 := by kernel_rfl
@[simp] theorem qsize_10 : qsize Tryd.prog 10 = some 1 := by kernel_rfl
@[simp] theorem qbytes_10 : qbytes Tryd.prog 10 = some 16 := by kernel_rfl
@[simp] theorem qagg_10 : qagg Tryd.prog 10 = some false := by kernel_rfl
@[simp] theorem qzero_10 : qzero Tryd.prog 10 = some (V.s []) := by kernel_rfl
@[simp] theorem qstr_10 : qstr Tryd.prog 10 = true := by kernel_rfl
@[simp] theorem keqs_10 (a c : List UInt8) : keq Tryd.prog 10 (.s a) (.s c) = some (a == c) := keq_s qstr_10
@[simp] theorem qconcrete_10 : qconcrete Tryd.prog 10 = true := by kernel_rfl
@[simp] theorem qkey_10 : qkey Tryd.prog 10 = true := by kernel_rfl
@[simp] theorem qsrc_10 : qsrc Tryd.prog 10 = true := by kernel_rfl
@[simp] theorem qplainKey_10 : qplainKey Tryd.prog 10 = true := by kernel_rfl
@[simp] theorem kf_10 (k : V) : keyFits Tryd.prog 10 k = true := keyFits_plain qplainKey_10
@[simp] theorem qthere_10 : qthere Tryd.prog 10 = true := by kernel_rfl
@[simp] theorem cellsOf_10 : Go.Program.cellsOf Tryd.prog 10 = 1 := by kernel_rfl
@[simp] theorem bytesOf_10 : Go.Program.bytesOf Tryd.prog 10 = 16 := by kernel_rfl
@[simp] theorem qsize_11 : qsize Tryd.prog 11 = some 1 := by kernel_rfl
@[simp] theorem qbytes_11 : qbytes Tryd.prog 11 = some 16 := by kernel_rfl
@[simp] theorem qagg_11 : qagg Tryd.prog 11 = some false := by kernel_rfl
@[simp] theorem qzero_11 : qzero Tryd.prog 11 = some (V.s []) := by kernel_rfl
@[simp] theorem qstr_11 : qstr Tryd.prog 11 = true := by kernel_rfl
@[simp] theorem keqs_11 (a c : List UInt8) : keq Tryd.prog 11 (.s a) (.s c) = some (a == c) := keq_s qstr_11
@[simp] theorem qconcrete_11 : qconcrete Tryd.prog 11 = true := by kernel_rfl
@[simp] theorem qkey_11 : qkey Tryd.prog 11 = true := by kernel_rfl
@[simp] theorem qsrc_11 : qsrc Tryd.prog 11 = true := by kernel_rfl
@[simp] theorem qplainKey_11 : qplainKey Tryd.prog 11 = true := by kernel_rfl
@[simp] theorem kf_11 (k : V) : keyFits Tryd.prog 11 k = true := keyFits_plain qplainKey_11
@[simp] theorem qthere_11 : qthere Tryd.prog 11 = true := by kernel_rfl
@[simp] theorem cellsOf_11 : Go.Program.cellsOf Tryd.prog 11 = 1 := by kernel_rfl
@[simp] theorem bytesOf_11 : Go.Program.bytesOf Tryd.prog 11 = 16 := by kernel_rfl
@[simp] theorem qsize_14 : qsize Tryd.prog 14 = some 2 := by kernel_rfl
@[simp] theorem qbytes_14 : qbytes Tryd.prog 14 = some 24 := by kernel_rfl
@[simp] theorem qagg_14 : qagg Tryd.prog 14 = some true := by kernel_rfl
@[simp] theorem qzero_14 : qzero Tryd.prog 14 = some (V.agg [V.s [], V.i Go.IntKind.u64 (0)]) := by kernel_rfl
@[simp] theorem qplaces_14 : qplaces Tryd.prog 14 = some [(0, 1), (1, 1)] := by kernel_rfl
@[simp] theorem qconcrete_14 : qconcrete Tryd.prog 14 = true := by kernel_rfl
@[simp] theorem qthere_14 : qthere Tryd.prog 14 = true := by kernel_rfl
@[simp] theorem cellsOf_14 : Go.Program.cellsOf Tryd.prog 14 = 2 := by kernel_rfl
@[simp] theorem bytesOf_14 : Go.Program.bytesOf Tryd.prog 14 = 24 := by kernel_rfl
@[simp] theorem qsize_15 : qsize Tryd.prog 15 = some 1 := by kernel_rfl
@[simp] theorem qbytes_15 : qbytes Tryd.prog 15 = some 8 := by kernel_rfl
@[simp] theorem qagg_15 : qagg Tryd.prog 15 = some false := by kernel_rfl
@[simp] theorem qzero_15 : qzero Tryd.prog 15 = some (V.p none) := by kernel_rfl
@[simp] theorem qconcrete_15 : qconcrete Tryd.prog 15 = true := by kernel_rfl
@[simp] theorem qptr_15 : qptr Tryd.prog 15 = true := by kernel_rfl
@[simp] theorem pnn_15 : aeq Tryd.prog 15 (.p none) (.p none) = some true := aeq_pnn qptr_15
@[simp] theorem psn_15 (q : Nat × Nat × Nat) : aeq Tryd.prog 15 (.p (some q)) (.p none) = some false := aeq_psn qptr_15
@[simp] theorem qthere_15 : qthere Tryd.prog 15 = true := by kernel_rfl
@[simp] theorem cellsOf_15 : Go.Program.cellsOf Tryd.prog 15 = 1 := by kernel_rfl
@[simp] theorem bytesOf_15 : Go.Program.bytesOf Tryd.prog 15 = 8 := by kernel_rfl
@[simp] theorem qsize_16 : qsize Tryd.prog 16 = some 1 := by kernel_rfl
@[simp] theorem qbytes_16 : qbytes Tryd.prog 16 = some 8 := by kernel_rfl
@[simp] theorem qagg_16 : qagg Tryd.prog 16 = some false := by kernel_rfl
@[simp] theorem qzero_16 : qzero Tryd.prog 16 = some (V.p none) := by kernel_rfl
@[simp] theorem qconcrete_16 : qconcrete Tryd.prog 16 = true := by kernel_rfl
@[simp] theorem qptr_16 : qptr Tryd.prog 16 = true := by kernel_rfl
@[simp] theorem pnn_16 : aeq Tryd.prog 16 (.p none) (.p none) = some true := aeq_pnn qptr_16
@[simp] theorem psn_16 (q : Nat × Nat × Nat) : aeq Tryd.prog 16 (.p (some q)) (.p none) = some false := aeq_psn qptr_16
@[simp] theorem qthere_16 : qthere Tryd.prog 16 = true := by kernel_rfl
@[simp] theorem cellsOf_16 : Go.Program.cellsOf Tryd.prog 16 = 1 := by kernel_rfl
@[simp] theorem bytesOf_16 : Go.Program.bytesOf Tryd.prog 16 = 8 := by kernel_rfl
@[simp] theorem qsize_17 : qsize Tryd.prog 17 = some 1 := by kernel_rfl
@[simp] theorem qbytes_17 : qbytes Tryd.prog 17 = some 8 := by kernel_rfl
@[simp] theorem qagg_17 : qagg Tryd.prog 17 = some false := by kernel_rfl
@[simp] theorem qzero_17 : qzero Tryd.prog 17 = some (V.p none) := by kernel_rfl
@[simp] theorem qconcrete_17 : qconcrete Tryd.prog 17 = true := by kernel_rfl
@[simp] theorem qptr_17 : qptr Tryd.prog 17 = true := by kernel_rfl
@[simp] theorem pnn_17 : aeq Tryd.prog 17 (.p none) (.p none) = some true := aeq_pnn qptr_17
@[simp] theorem psn_17 (q : Nat × Nat × Nat) : aeq Tryd.prog 17 (.p (some q)) (.p none) = some false := aeq_psn qptr_17
@[simp] theorem qthere_17 : qthere Tryd.prog 17 = true := by kernel_rfl
@[simp] theorem cellsOf_17 : Go.Program.cellsOf Tryd.prog 17 = 1 := by kernel_rfl
@[simp] theorem bytesOf_17 : Go.Program.bytesOf Tryd.prog 17 = 8 := by kernel_rfl
@[simp] theorem qsize_19 : qsize Tryd.prog 19 = some 1 := by kernel_rfl
@[simp] theorem qbytes_19 : qbytes Tryd.prog 19 = some 8 := by kernel_rfl
@[simp] theorem qagg_19 : qagg Tryd.prog 19 = some true := by kernel_rfl
@[simp] theorem qzero_19 : qzero Tryd.prog 19 = some (V.agg [V.p none]) := by kernel_rfl
@[simp] theorem qplaces_19 : qplaces Tryd.prog 19 = some [(0, 1)] := by kernel_rfl
@[simp] theorem qconcrete_19 : qconcrete Tryd.prog 19 = true := by kernel_rfl
@[simp] theorem qthere_19 : qthere Tryd.prog 19 = true := by kernel_rfl
@[simp] theorem cellsOf_19 : Go.Program.cellsOf Tryd.prog 19 = 1 := by kernel_rfl
@[simp] theorem bytesOf_19 : Go.Program.bytesOf Tryd.prog 19 = 8 := by kernel_rfl
@[simp] theorem qsize_21 : qsize Tryd.prog 21 = some 1 := by kernel_rfl
@[simp] theorem qbytes_21 : qbytes Tryd.prog 21 = some 4 := by kernel_rfl
@[simp] theorem qagg_21 : qagg Tryd.prog 21 = some false := by kernel_rfl
@[simp] theorem qzero_21 : qzero Tryd.prog 21 = some (V.i Go.IntKind.i32 (0)) := by kernel_rfl
@[simp] theorem qint_21 : qint Tryd.prog 21 = some Go.IntKind.i32 := by kernel_rfl
@[simp] theorem keqi_21 (a c : Int) : keq Tryd.prog 21 (.i Go.IntKind.i32 a) (.i Go.IntKind.i32 c) = some (a == c) := keq_i qint_21
@[simp] theorem qconcrete_21 : qconcrete Tryd.prog 21 = true := by kernel_rfl
@[simp] theorem qkey_21 : qkey Tryd.prog 21 = true := by kernel_rfl
@[simp] theorem qplainKey_21 : qplainKey Tryd.prog 21 = true := by kernel_rfl
@[simp] theorem kf_21 (k : V) : keyFits Tryd.prog 21 k = true := keyFits_plain qplainKey_21
@[simp] theorem qthere_21 : qthere Tryd.prog 21 = true := by kernel_rfl
@[simp] theorem cellsOf_21 : Go.Program.cellsOf Tryd.prog 21 = 1 := by kernel_rfl
@[simp] theorem bytesOf_21 : Go.Program.bytesOf Tryd.prog 21 = 4 := by kernel_rfl
@[simp] theorem qsize_22 : qsize Tryd.prog 22 = some 1 := by kernel_rfl
@[simp] theorem qbytes_22 : qbytes Tryd.prog 22 = some 24 := by kernel_rfl
@[simp] theorem qagg_22 : qagg Tryd.prog 22 = some false := by kernel_rfl
@[simp] theorem qzero_22 : qzero Tryd.prog 22 = some (V.sl none 0 false) := by kernel_rfl
@[simp] theorem qconcrete_22 : qconcrete Tryd.prog 22 = true := by kernel_rfl
@[simp] theorem qsrc_22 : qsrc Tryd.prog 22 = true := by kernel_rfl
@[simp] theorem qthere_22 : qthere Tryd.prog 22 = true := by kernel_rfl
@[simp] theorem cellsOf_22 : Go.Program.cellsOf Tryd.prog 22 = 1 := by kernel_rfl
@[simp] theorem bytesOf_22 : Go.Program.bytesOf Tryd.prog 22 = 24 := by kernel_rfl
@[simp] theorem qelem_22 : qelem Tryd.prog 22 = some 41 := by kernel_rfl
@[simp] theorem qsize_25 : qsize Tryd.prog 25 = some 1 := by kernel_rfl
@[simp] theorem qbytes_25 : qbytes Tryd.prog 25 = some 4 := by kernel_rfl
@[simp] theorem qagg_25 : qagg Tryd.prog 25 = some false := by kernel_rfl
@[simp] theorem qzero_25 : qzero Tryd.prog 25 = some (V.i Go.IntKind.u32 (0)) := by kernel_rfl
@[simp] theorem qint_25 : qint Tryd.prog 25 = some Go.IntKind.u32 := by kernel_rfl
@[simp] theorem keqi_25 (a c : Int) : keq Tryd.prog 25 (.i Go.IntKind.u32 a) (.i Go.IntKind.u32 c) = some (a == c) := keq_i qint_25
@[simp] theorem qconcrete_25 : qconcrete Tryd.prog 25 = true := by kernel_rfl
@[simp] theorem qkey_25 : qkey Tryd.prog 25 = true := by kernel_rfl
@[simp] theorem qplainKey_25 : qplainKey Tryd.prog 25 = true := by kernel_rfl
@[simp] theorem kf_25 (k : V) : keyFits Tryd.prog 25 k = true := keyFits_plain qplainKey_25
@[simp] theorem qthere_25 : qthere Tryd.prog 25 = true := by kernel_rfl
@[simp] theorem cellsOf_25 : Go.Program.cellsOf Tryd.prog 25 = 1 := by kernel_rfl
@[simp] theorem bytesOf_25 : Go.Program.bytesOf Tryd.prog 25 = 4 := by kernel_rfl
@[simp] theorem qsize_27 : qsize Tryd.prog 27 = some 8 := by kernel_rfl
@[simp] theorem qbytes_27 : qbytes Tryd.prog 27 = some 56 := by kernel_rfl
@[simp] theorem qagg_27 : qagg Tryd.prog 27 = some true := by kernel_rfl
@[simp] theorem qzero_27 : qzero Tryd.prog 27 = some   (V.agg     [V.i Go.IntKind.i64 (0), V.i Go.IntKind.i64 (0), V.i Go.IntKind.i64 (0),       V.i Go.IntKind.i64 (0), V.i Go.IntKind.i64 (0), V.i Go.IntKind.i64 (0),       V.i Go.IntKind.u32 (0), V.i Go.IntKind.u32 (0)]) := by kernel_rfl
@[simp] theorem qplaces_27 : qplaces Tryd.prog 27 = some [(0, 1), (1, 1), (2, 1), (3, 1), (4, 1), (5, 1), (6, 1), (7, 1)] := by kernel_rfl
@[simp] theorem qconcrete_27 : qconcrete Tryd.prog 27 = true := by kernel_rfl
@[simp] theorem qkey_27 : qkey Tryd.prog 27 = true := by kernel_rfl
@[simp] theorem qthere_27 : qthere Tryd.prog 27 = true := by kernel_rfl
@[simp] theorem qeq_27 : qeq Tryd.prog 27 = some   [CK.i Go.IntKind.i64, CK.i Go.IntKind.i64, CK.i Go.IntKind.i64, CK.i Go.IntKind.i64, CK.i Go.IntKind.i64,     CK.i Go.IntKind.i64, CK.i Go.IntKind.u32, CK.i Go.IntKind.u32] := by kernel_rfl
@[simp] theorem cellsOf_27 : Go.Program.cellsOf Tryd.prog 27 = 8 := by kernel_rfl
@[simp] theorem bytesOf_27 : Go.Program.bytesOf Tryd.prog 27 = 56 := by kernel_rfl
@[simp] theorem qsize_28 : qsize Tryd.prog 28 = some 1 := by kernel_rfl
@[simp] theorem qbytes_28 : qbytes Tryd.prog 28 = some 24 := by kernel_rfl
@[simp] theorem qagg_28 : qagg Tryd.prog 28 = some false := by kernel_rfl
@[simp] theorem qzero_28 : qzero Tryd.prog 28 = some (V.sl none 0 false) := by kernel_rfl
@[simp] theorem qconcrete_28 : qconcrete Tryd.prog 28 = true := by kernel_rfl
@[simp] theorem qsrc_28 : qsrc Tryd.prog 28 = true := by kernel_rfl
@[simp] theorem qthere_28 : qthere Tryd.prog 28 = true := by kernel_rfl
@[simp] theorem cellsOf_28 : Go.Program.cellsOf Tryd.prog 28 = 1 := by kernel_rfl
@[simp] theorem bytesOf_28 : Go.Program.bytesOf Tryd.prog 28 = 24 := by kernel_rfl
@[simp] theorem qelem_28 : qelem Tryd.prog 28 = some 27 := by kernel_rfl
@[simp] theorem qsize_29 : qsize Tryd.prog 29 = some 4 := by kernel_rfl
@[simp] theorem qbytes_29 : qbytes Tryd.prog 29 = some 64 := by kernel_rfl
@[simp] theorem qagg_29 : qagg Tryd.prog 29 = some true := by kernel_rfl
@[simp] theorem qzero_29 : qzero Tryd.prog 29 = some (V.agg [V.s [], V.s [], V.s [], V.s []]) := by kernel_rfl
@[simp] theorem qconcrete_29 : qconcrete Tryd.prog 29 = true := by kernel_rfl
@[simp] theorem qthere_29 : qthere Tryd.prog 29 = true := by kernel_rfl
@[simp] theorem cellsOf_29 : Go.Program.cellsOf Tryd.prog 29 = 4 := by kernel_rfl
@[simp] theorem bytesOf_29 : Go.Program.bytesOf Tryd.prog 29 = 64 := by kernel_rfl
@[simp] theorem qarr_29 : qarr Tryd.prog 29 = some (4, 9) := by kernel_rfl
@[simp] theorem qsize_30 : qsize Tryd.prog 30 = some 1 := by kernel_rfl
@[simp] theorem qbytes_30 : qbytes Tryd.prog 30 = some 24 := by kernel_rfl
@[simp] theorem qagg_30 : qagg Tryd.prog 30 = some false := by kernel_rfl
@[simp] theorem qzero_30 : qzero Tryd.prog 30 = some (V.sl none 0 false) := by kernel_rfl
@[simp] theorem qconcrete_30 : qconcrete Tryd.prog 30 = true := by kernel_rfl
@[simp] theorem qsrc_30 : qsrc Tryd.prog 30 = true := by kernel_rfl
@[simp] theorem qthere_30 : qthere Tryd.prog 30 = true := by kernel_rfl
@[simp] theorem cellsOf_30 : Go.Program.cellsOf Tryd.prog 30 = 1 := by kernel_rfl
@[simp] theorem bytesOf_30 : Go.Program.bytesOf Tryd.prog 30 = 24 := by kernel_rfl
@[simp] theorem qelem_30 : qelem Tryd.prog 30 = some 25 := by kernel_rfl
@[simp] theorem qsize_31 : qsize Tryd.prog 31 = some 1 := by kernel_rfl
@[simp] theorem qbytes_31 : qbytes Tryd.prog 31 = some 24 := by kernel_rfl
@[simp] theorem qagg_31 : qagg Tryd.prog 31 = some false := by kernel_rfl
@[simp] theorem qzero_31 : qzero Tryd.prog 31 = some (V.sl none 0 false) := by kernel_rfl
@[simp] theorem qconcrete_31 : qconcrete Tryd.prog 31 = true := by kernel_rfl
@[simp] theorem qsrc_31 : qsrc Tryd.prog 31 = true := by kernel_rfl
@[simp] theorem qthere_31 : qthere Tryd.prog 31 = true := by kernel_rfl
@[simp] theorem cellsOf_31 : Go.Program.cellsOf Tryd.prog 31 = 1 := by kernel_rfl
@[simp] theorem bytesOf_31 : Go.Program.bytesOf Tryd.prog 31 = 24 := by kernel_rfl
@[simp] theorem qelem_31 : qelem Tryd.prog 31 = some 9 := by kernel_rfl
@[simp] theorem qsize_33 : qsize Tryd.prog 33 = some 32 := by kernel_rfl
@[simp] theorem qbytes_33 : qbytes Tryd.prog 33 = some 336 := by kernel_rfl
@[simp] theorem qagg_33 : qagg Tryd.prog 33 = some true := by kernel_rfl
@[simp] theorem qzero_33 : qzero Tryd.prog 33 = some   (V.agg     [V.i Go.IntKind.i64 (0), V.i Go.IntKind.i64 (0), V.i Go.IntKind.i64 (0),       V.i Go.IntKind.i64 (0), V.i Go.IntKind.i64 (0), V.i Go.IntKind.i64 (0),       V.i Go.IntKind.i64 (0), V.i Go.IntKind.i64 (0), V.i Go.IntKind.i64 (0),       V.i Go.IntKind.i64 (0), V.i Go.IntKind.i64 (0), V.i Go.IntKind.u32 (0),       V.i Go.IntKind.u32 (0), V.i Go.IntKind.i64 (0), V.i Go.IntKind.i64 (0),       V.i Go.IntKind.i64 (0), V.i Go.IntKind.i64 (0), V.i Go.IntKind.i64 (0),       V.i Go.IntKind.i64 (0), V.i Go.IntKind.u32 (0), V.i Go.IntKind.u32 (0),       V.sl none 0 false, V.sl none 0 false, V.b false, V.s [], V.s [], V.s [], V.s [], V.sl none 0 false,       V.i Go.IntKind.i64 (0), V.i Go.IntKind.i64 (0), V.sl none 0 false]) := by kernel_rfl
@[simp] theorem qplaces_33 : qplaces Tryd.prog 33 = some   [(0, 1), (1, 1), (2, 1), (3, 1), (4, 1), (5, 8), (13, 8), (21, 1), (22, 1), (23, 1), (24, 4), (28, 1), (29, 1),     (30, 1), (31, 1)] := by kernel_rfl
@[simp] theorem qconcrete_33 : qconcrete Tryd.prog 33 = true := by kernel_rfl
@[simp] theorem qthere_33 : qthere Tryd.prog 33 = true := by kernel_rfl
@[simp] theorem cellsOf_33 : Go.Program.cellsOf Tryd.prog 33 = 32 := by kernel_rfl
@[simp] theorem bytesOf_33 : Go.Program.bytesOf Tryd.prog 33 = 336 := by kernel_rfl
@[simp] theorem qsize_34 : qsize Tryd.prog 34 = some 1 := by kernel_rfl
@[simp] theorem qbytes_34 : qbytes Tryd.prog 34 = some 8 := by kernel_rfl
@[simp] theorem qagg_34 : qagg Tryd.prog 34 = some false := by kernel_rfl
@[simp] theorem qzero_34 : qzero Tryd.prog 34 = some (V.i Go.IntKind.i64 (0)) := by kernel_rfl
@[simp] theorem qint_34 : qint Tryd.prog 34 = some Go.IntKind.i64 := by kernel_rfl
@[simp] theorem keqi_34 (a c : Int) : keq Tryd.prog 34 (.i Go.IntKind.i64 a) (.i Go.IntKind.i64 c) = some (a == c) := keq_i qint_34
@[simp] theorem qconcrete_34 : qconcrete Tryd.prog 34 = true := by kernel_rfl
@[simp] theorem qkey_34 : qkey Tryd.prog 34 = true := by kernel_rfl
@[simp] theorem qplainKey_34 : qplainKey Tryd.prog 34 = true := by kernel_rfl
@[simp] theorem kf_34 (k : V) : keyFits Tryd.prog 34 k = true := keyFits_plain qplainKey_34
@[simp] theorem qthere_34 : qthere Tryd.prog 34 = true := by kernel_rfl
@[simp] theorem cellsOf_34 : Go.Program.cellsOf Tryd.prog 34 = 1 := by kernel_rfl
@[simp] theorem bytesOf_34 : Go.Program.bytesOf Tryd.prog 34 = 8 := by kernel_rfl
@[simp] theorem qsize_37 : qsize Tryd.prog 37 = some 1 := by kernel_rfl
@[simp] theorem qbytes_37 : qbytes Tryd.prog 37 = some 24 := by kernel_rfl
@[simp] theorem qagg_37 : qagg Tryd.prog 37 = some false := by kernel_rfl
@[simp] theorem qzero_37 : qzero Tryd.prog 37 = some (V.sl none 0 false) := by kernel_rfl
@[simp] theorem qconcrete_37 : qconcrete Tryd.prog 37 = true := by kernel_rfl
@[simp] theorem qsrc_37 : qsrc Tryd.prog 37 = true := by kernel_rfl
@[simp] theorem qthere_37 : qthere Tryd.prog 37 = true := by kernel_rfl
@[simp] theorem cellsOf_37 : Go.Program.cellsOf Tryd.prog 37 = 1 := by kernel_rfl
@[simp] theorem bytesOf_37 : Go.Program.bytesOf Tryd.prog 37 = 24 := by kernel_rfl
@[simp] theorem qelem_37 : qelem Tryd.prog 37 = some 40 := by kernel_rfl
@[simp] theorem qsize_38 : qsize Tryd.prog 38 = some 1 := by kernel_rfl
@[simp] theorem qbytes_38 : qbytes Tryd.prog 38 = some 24 := by kernel_rfl
@[simp] theorem qagg_38 : qagg Tryd.prog 38 = some false := by kernel_rfl
@[simp] theorem qzero_38 : qzero Tryd.prog 38 = some (V.sl none 0 false) := by kernel_rfl
@[simp] theorem qconcrete_38 : qconcrete Tryd.prog 38 = true := by kernel_rfl
@[simp] theorem qsrc_38 : qsrc Tryd.prog 38 = true := by kernel_rfl
@[simp] theorem qthere_38 : qthere Tryd.prog 38 = true := by kernel_rfl
@[simp] theorem cellsOf_38 : Go.Program.cellsOf Tryd.prog 38 = 1 := by kernel_rfl
@[simp] theorem bytesOf_38 : Go.Program.bytesOf Tryd.prog 38 = 24 := by kernel_rfl
@[simp] theorem qelem_38 : qelem Tryd.prog 38 = some 3 := by kernel_rfl
@[simp] theorem qsize_40 : qsize Tryd.prog 40 = some 22 := by kernel_rfl
@[simp] theorem qbytes_40 : qbytes Tryd.prog 40 = some 168 := by kernel_rfl
@[simp] theorem qagg_40 : qagg Tryd.prog 40 = some true := by kernel_rfl
@[simp] theorem qzero_40 : qzero Tryd.prog 40 = some   (V.agg     [V.i Go.IntKind.i64 (0), V.i Go.IntKind.i64 (0), V.i Go.IntKind.i64 (0),       V.i Go.IntKind.i64 (0), V.i Go.IntKind.i64 (0), V.i Go.IntKind.i64 (0),       V.i Go.IntKind.i64 (0), V.i Go.IntKind.u32 (0), V.i Go.IntKind.u32 (0),       V.i Go.IntKind.i64 (0), V.i Go.IntKind.i64 (0), V.i Go.IntKind.i64 (0),       V.i Go.IntKind.i64 (0), V.i Go.IntKind.i64 (0), V.i Go.IntKind.i64 (0),       V.i Go.IntKind.u32 (0), V.i Go.IntKind.u32 (0), V.i Go.IntKind.u32 (0),       V.i Go.IntKind.i64 (0), V.i Go.IntKind.i64 (0), V.i Go.IntKind.i64 (0), V.s []]) := by kernel_rfl
@[simp] theorem qplaces_40 : qplaces Tryd.prog 40 = some [(0, 1), (1, 8), (9, 8), (17, 1), (18, 1), (19, 1), (20, 1), (21, 1)] := by kernel_rfl
@[simp] theorem qconcrete_40 : qconcrete Tryd.prog 40 = true := by kernel_rfl
@[simp] theorem qkey_40 : qkey Tryd.prog 40 = true := by kernel_rfl
@[simp] theorem qthere_40 : qthere Tryd.prog 40 = true := by kernel_rfl
@[simp] theorem qeq_40 : qeq Tryd.prog 40 = some   [CK.i Go.IntKind.i64, CK.i Go.IntKind.i64, CK.i Go.IntKind.i64, CK.i Go.IntKind.i64, CK.i Go.IntKind.i64,     CK.i Go.IntKind.i64, CK.i Go.IntKind.i64, CK.i Go.IntKind.u32, CK.i Go.IntKind.u32, CK.i Go.IntKind.i64,     CK.i Go.IntKind.i64, CK.i Go.IntKind.i64, CK.i Go.IntKind.i64, CK.i Go.IntKind.i64, CK.i Go.IntKind.i64,     CK.i Go.IntKind.u32, CK.i Go.IntKind.u32, CK.i Go.IntKind.u32, CK.i Go.IntKind.i64, CK.i Go.IntKind.i64,     CK.i Go.IntKind.i64, CK.s] := by kernel_rfl
@[simp] theorem cellsOf_40 : Go.Program.cellsOf Tryd.prog 40 = 22 := by kernel_rfl
@[simp] theorem bytesOf_40 : Go.Program.bytesOf Tryd.prog 40 = 168 := by kernel_rfl
@[simp] theorem qsize_41 : qsize Tryd.prog 41 = some 22 := by kernel_rfl
@[simp] theorem qbytes_41 : qbytes Tryd.prog 41 = some 168 := by kernel_rfl
@[simp] theorem qagg_41 : qagg Tryd.prog 41 = some true := by kernel_rfl
@[simp] theorem qzero_41 : qzero Tryd.prog 41 = some   (V.agg     [V.i Go.IntKind.i64 (0), V.i Go.IntKind.i64 (0), V.i Go.IntKind.i64 (0),       V.i Go.IntKind.i64 (0), V.i Go.IntKind.i64 (0), V.i Go.IntKind.i64 (0),       V.i Go.IntKind.i64 (0), V.i Go.IntKind.u32 (0), V.i Go.IntKind.u32 (0),       V.i Go.IntKind.i64 (0), V.i Go.IntKind.i64 (0), V.i Go.IntKind.i64 (0),       V.i Go.IntKind.i64 (0), V.i Go.IntKind.i64 (0), V.i Go.IntKind.i64 (0),       V.i Go.IntKind.u32 (0), V.i Go.IntKind.u32 (0), V.i Go.IntKind.u32 (0),       V.i Go.IntKind.i64 (0), V.i Go.IntKind.i64 (0), V.i Go.IntKind.i64 (0), V.s []]) := by kernel_rfl
@[simp] theorem qplaces_41 : qplaces Tryd.prog 41 = some [(0, 1), (1, 8), (9, 8), (17, 1), (18, 1), (19, 1), (20, 1), (21, 1)] := by kernel_rfl
@[simp] theorem qconcrete_41 : qconcrete Tryd.prog 41 = true := by kernel_rfl
@[simp] theorem qkey_41 : qkey Tryd.prog 41 = true := by kernel_rfl
@[simp] theorem qthere_41 : qthere Tryd.prog 41 = true := by kernel_rfl
@[simp] theorem qeq_41 : qeq Tryd.prog 41 = some   [CK.i Go.IntKind.i64, CK.i Go.IntKind.i64, CK.i Go.IntKind.i64, CK.i Go.IntKind.i64, CK.i Go.IntKind.i64,     CK.i Go.IntKind.i64, CK.i Go.IntKind.i64, CK.i Go.IntKind.u32, CK.i Go.IntKind.u32, CK.i Go.IntKind.i64,     CK.i Go.IntKind.i64, CK.i Go.IntKind.i64, CK.i Go.IntKind.i64, CK.i Go.IntKind.i64, CK.i Go.IntKind.i64,     CK.i Go.IntKind.u32, CK.i Go.IntKind.u32, CK.i Go.IntKind.u32, CK.i Go.IntKind.i64, CK.i Go.IntKind.i64,     CK.i Go.IntKind.i64, CK.s] := by kernel_rfl
@[simp] theorem cellsOf_41 : Go.Program.cellsOf Tryd.prog 41 = 22 := by kernel_rfl
@[simp] theorem bytesOf_41 : Go.Program.bytesOf Tryd.prog 41 = 168 := by kernel_rfl
@[simp] theorem qsize_48 : qsize Tryd.prog 48 = some 1 := by kernel_rfl
@[simp] theorem qbytes_48 : qbytes Tryd.prog 48 = some 8 := by kernel_rfl
@[simp] theorem qagg_48 : qagg Tryd.prog 48 = some false := by kernel_rfl
@[simp] theorem qzero_48 : qzero Tryd.prog 48 = some (V.p none) := by kernel_rfl
@[simp] theorem qconcrete_48 : qconcrete Tryd.prog 48 = true := by kernel_rfl
@[simp] theorem qptr_48 : qptr Tryd.prog 48 = true := by kernel_rfl
@[simp] theorem pnn_48 : aeq Tryd.prog 48 (.p none) (.p none) = some true := aeq_pnn qptr_48
@[simp] theorem psn_48 (q : Nat × Nat × Nat) : aeq Tryd.prog 48 (.p (some q)) (.p none) = some false := aeq_psn qptr_48
@[simp] theorem qthere_48 : qthere Tryd.prog 48 = true := by kernel_rfl
@[simp] theorem cellsOf_48 : Go.Program.cellsOf Tryd.prog 48 = 1 := by kernel_rfl
@[simp] theorem bytesOf_48 : Go.Program.bytesOf Tryd.prog 48 = 8 := by kernel_rfl
@[simp] theorem qsize_58 : qsize Tryd.prog 58 = some 1 := by kernel_rfl
@[simp] theorem qbytes_58 : qbytes Tryd.prog 58 = some 24 := by kernel_rfl
@[simp] theorem qagg_58 : qagg Tryd.prog 58 = some false := by kernel_rfl
@[simp] theorem qzero_58 : qzero Tryd.prog 58 = some (V.sl none 0 false) := by kernel_rfl
@[simp] theorem qconcrete_58 : qconcrete Tryd.prog 58 = true := by kernel_rfl
@[simp] theorem qsrc_58 : qsrc Tryd.prog 58 = true := by kernel_rfl
@[simp] theorem qthere_58 : qthere Tryd.prog 58 = true := by kernel_rfl
@[simp] theorem cellsOf_58 : Go.Program.cellsOf Tryd.prog 58 = 1 := by kernel_rfl
@[simp] theorem bytesOf_58 : Go.Program.bytesOf Tryd.prog 58 = 24 := by kernel_rfl
@[simp] theorem qelem_58 : qelem Tryd.prog 58 = some 104 := by kernel_rfl
@[simp] theorem qsize_59 : qsize Tryd.prog 59 = some 1 := by kernel_rfl
@[simp] theorem qbytes_59 : qbytes Tryd.prog 59 = some 24 := by kernel_rfl
@[simp] theorem qagg_59 : qagg Tryd.prog 59 = some false := by kernel_rfl
@[simp] theorem qzero_59 : qzero Tryd.prog 59 = some (V.sl none 0 false) := by kernel_rfl
@[simp] theorem qconcrete_59 : qconcrete Tryd.prog 59 = true := by kernel_rfl
@[simp] theorem qsrc_59 : qsrc Tryd.prog 59 = true := by kernel_rfl
@[simp] theorem qthere_59 : qthere Tryd.prog 59 = true := by kernel_rfl
@[simp] theorem cellsOf_59 : Go.Program.cellsOf Tryd.prog 59 = 1 := by kernel_rfl
@[simp] theorem bytesOf_59 : Go.Program.bytesOf Tryd.prog 59 = 24 := by kernel_rfl
@[simp] theorem qelem_59 : qelem Tryd.prog 59 = some 108 := by kernel_rfl
@[simp] theorem qsize_61 : qsize Tryd.prog 61 = some 14 := by kernel_rfl
@[simp] theorem qbytes_61 : qbytes Tryd.prog 61 = some 136 := by kernel_rfl
@[simp] theorem qagg_61 : qagg Tryd.prog 61 = some true := by kernel_rfl
@[simp] theorem qzero_61 : qzero Tryd.prog 61 = some   (V.agg     [V.i Go.IntKind.i64 (0), V.i Go.IntKind.i64 (0), V.i Go.IntKind.i64 (0),       V.i Go.IntKind.i64 (0), V.i Go.IntKind.i64 (0), V.i Go.IntKind.i64 (0),       V.i Go.IntKind.i64 (0), V.i Go.IntKind.i64 (0), V.i Go.IntKind.i64 (0),       V.i Go.IntKind.i64 (0), V.i Go.IntKind.u32 (0), V.i Go.IntKind.u32 (0),       V.sl none 0 false, V.sl none 0 false]) := by kernel_rfl
@[simp] theorem qplaces_61 : qplaces Tryd.prog 61 = some [(0, 1), (1, 1), (2, 1), (3, 1), (4, 8), (12, 1), (13, 1)] := by kernel_rfl
@[simp] theorem qconcrete_61 : qconcrete Tryd.prog 61 = true := by kernel_rfl
@[simp] theorem qthere_61 : qthere Tryd.prog 61 = true := by kernel_rfl
@[simp] theorem cellsOf_61 : Go.Program.cellsOf Tryd.prog 61 = 14 := by kernel_rfl
@[simp] theorem bytesOf_61 : Go.Program.bytesOf Tryd.prog 61 = 136 := by kernel_rfl
@[simp] theorem qsize_64 : qsize Tryd.prog 64 = some 3 := by kernel_rfl
@[simp] theorem qbytes_64 : qbytes Tryd.prog 64 = some 24 := by kernel_rfl
@[simp] theorem qagg_64 : qagg Tryd.prog 64 = some true := by kernel_rfl
@[simp] theorem qzero_64 : qzero Tryd.prog 64 = some (V.agg [V.i Go.IntKind.i64 (0), V.i Go.IntKind.i64 (0), V.i Go.IntKind.i64 (0)]) := by kernel_rfl
@[simp] theorem qconcrete_64 : qconcrete Tryd.prog 64 = true := by kernel_rfl
@[simp] theorem qthere_64 : qthere Tryd.prog 64 = true := by kernel_rfl
@[simp] theorem cellsOf_64 : Go.Program.cellsOf Tryd.prog 64 = 3 := by kernel_rfl
@[simp] theorem bytesOf_64 : Go.Program.bytesOf Tryd.prog 64 = 24 := by kernel_rfl
@[simp] theorem qarr_64 : qarr Tryd.prog 64 = some (3, 3) := by kernel_rfl
@[simp] theorem qsize_70 : qsize Tryd.prog 70 = some 1 := by kernel_rfl
@[simp] theorem qbytes_70 : qbytes Tryd.prog 70 = some 8 := by kernel_rfl
@[simp] theorem qagg_70 : qagg Tryd.prog 70 = some false := by kernel_rfl
@[simp] theorem qzero_70 : qzero Tryd.prog 70 = some (V.p none) := by kernel_rfl
@[simp] theorem qconcrete_70 : qconcrete Tryd.prog 70 = true := by kernel_rfl
@[simp] theorem qptr_70 : qptr Tryd.prog 70 = true := by kernel_rfl
@[simp] theorem pnn_70 : aeq Tryd.prog 70 (.p none) (.p none) = some true := aeq_pnn qptr_70
@[simp] theorem psn_70 (q : Nat × Nat × Nat) : aeq Tryd.prog 70 (.p (some q)) (.p none) = some false := aeq_psn qptr_70
@[simp] theorem qthere_70 : qthere Tryd.prog 70 = true := by kernel_rfl
@[simp] theorem cellsOf_70 : Go.Program.cellsOf Tryd.prog 70 = 1 := by kernel_rfl
@[simp] theorem bytesOf_70 : Go.Program.bytesOf Tryd.prog 70 = 8 := by kernel_rfl
@[simp] theorem qsize_71 : qsize Tryd.prog 71 = some 1 := by kernel_rfl
@[simp] theorem qbytes_71 : qbytes Tryd.prog 71 = some 8 := by kernel_rfl
@[simp] theorem qagg_71 : qagg Tryd.prog 71 = some false := by kernel_rfl
@[simp] theorem qzero_71 : qzero Tryd.prog 71 = some V.nf := by kernel_rfl
@[simp] theorem qconcrete_71 : qconcrete Tryd.prog 71 = true := by kernel_rfl
@[simp] theorem qthere_71 : qthere Tryd.prog 71 = true := by kernel_rfl
@[simp] theorem cellsOf_71 : Go.Program.cellsOf Tryd.prog 71 = 1 := by kernel_rfl
@[simp] theorem bytesOf_71 : Go.Program.bytesOf Tryd.prog 71 = 8 := by kernel_rfl
@[simp] theorem qsize_78 : qsize Tryd.prog 78 = some 1 := by kernel_rfl
@[simp] theorem qbytes_78 : qbytes Tryd.prog 78 = some 8 := by kernel_rfl
@[simp] theorem qagg_78 : qagg Tryd.prog 78 = some false := by kernel_rfl
@[simp] theorem qzero_78 : qzero Tryd.prog 78 = some V.nf := by kernel_rfl
@[simp] theorem qconcrete_78 : qconcrete Tryd.prog 78 = true := by kernel_rfl
@[simp] theorem qthere_78 : qthere Tryd.prog 78 = true := by kernel_rfl
@[simp] theorem cellsOf_78 : Go.Program.cellsOf Tryd.prog 78 = 1 := by kernel_rfl
@[simp] theorem bytesOf_78 : Go.Program.bytesOf Tryd.prog 78 = 8 := by kernel_rfl
@[simp] theorem qsize_80 : qsize Tryd.prog 80 = some 1 := by kernel_rfl
@[simp] theorem qbytes_80 : qbytes Tryd.prog 80 = some 8 := by kernel_rfl
@[simp] theorem qagg_80 : qagg Tryd.prog 80 = some false := by kernel_rfl
@[simp] theorem qzero_80 : qzero Tryd.prog 80 = some (V.p none) := by kernel_rfl
@[simp] theorem qconcrete_80 : qconcrete Tryd.prog 80 = true := by kernel_rfl
@[simp] theorem qptr_80 : qptr Tryd.prog 80 = true := by kernel_rfl
@[simp] theorem pnn_80 : aeq Tryd.prog 80 (.p none) (.p none) = some true := aeq_pnn qptr_80
@[simp] theorem psn_80 (q : Nat × Nat × Nat) : aeq Tryd.prog 80 (.p (some q)) (.p none) = some false := aeq_psn qptr_80
@[simp] theorem qthere_80 : qthere Tryd.prog 80 = true := by kernel_rfl
@[simp] theorem cellsOf_80 : Go.Program.cellsOf Tryd.prog 80 = 1 := by kernel_rfl
@[simp] theorem bytesOf_80 : Go.Program.bytesOf Tryd.prog 80 = 8 := by kernel_rfl
@[simp] theorem qsize_82 : qsize Tryd.prog 82 = some 1 := by kernel_rfl
@[simp] theorem qbytes_82 : qbytes Tryd.prog 82 = some 24 := by kernel_rfl
@[simp] theorem qagg_82 : qagg Tryd.prog 82 = some false := by kernel_rfl
@[simp] theorem qzero_82 : qzero Tryd.prog 82 = some (V.sl none 0 false) := by kernel_rfl
@[simp] theorem qconcrete_82 : qconcrete Tryd.prog 82 = true := by kernel_rfl
@[simp] theorem qsrc_82 : qsrc Tryd.prog 82 = true := by kernel_rfl
@[simp] theorem qbs_82 : qbs Tryd.prog 82 = true := by kernel_rfl
@[simp] theorem qthere_82 : qthere Tryd.prog 82 = true := by kernel_rfl
@[simp] theorem cellsOf_82 : Go.Program.cellsOf Tryd.prog 82 = 1 := by kernel_rfl
@[simp] theorem bytesOf_82 : Go.Program.bytesOf Tryd.prog 82 = 24 := by kernel_rfl
@[simp] theorem qelem_82 : qelem Tryd.prog 82 = some 5 := by kernel_rfl
@[simp] theorem qsize_89 : qsize Tryd.prog 89 = some 1 := by kernel_rfl
@[simp] theorem qbytes_89 : qbytes Tryd.prog 89 = some 24 := by kernel_rfl
@[simp] theorem qagg_89 : qagg Tryd.prog 89 = some false := by kernel_rfl
@[simp] theorem qzero_89 : qzero Tryd.prog 89 = some (V.sl none 0 false) := by kernel_rfl
@[simp] theorem qconcrete_89 : qconcrete Tryd.prog 89 = true := by kernel_rfl
@[simp] theorem qsrc_89 : qsrc Tryd.prog 89 = true := by kernel_rfl
@[simp] theorem qthere_89 : qthere Tryd.prog 89 = true := by kernel_rfl
@[simp] theorem cellsOf_89 : Go.Program.cellsOf Tryd.prog 89 = 1 := by kernel_rfl
@[simp] theorem bytesOf_89 : Go.Program.bytesOf Tryd.prog 89 = 24 := by kernel_rfl
@[simp] theorem qelem_89 : qelem Tryd.prog 89 = some 71 := by kernel_rfl
@[simp] theorem qsize_93 : qsize Tryd.prog 93 = some 1 := by kernel_rfl
@[simp] theorem qbytes_93 : qbytes Tryd.prog 93 = some 8 := by kernel_rfl
@[simp] theorem qagg_93 : qagg Tryd.prog 93 = some false := by kernel_rfl
@[simp] theorem qzero_93 : qzero Tryd.prog 93 = some V.nf := by kernel_rfl
@[simp] theorem qconcrete_93 : qconcrete Tryd.prog 93 = true := by kernel_rfl
@[simp] theorem qthere_93 : qthere Tryd.prog 93 = true := by kernel_rfl
@[simp] theorem cellsOf_93 : Go.Program.cellsOf Tryd.prog 93 = 1 := by kernel_rfl
@[simp] theorem bytesOf_93 : Go.Program.bytesOf Tryd.prog 93 = 8 := by kernel_rfl
@[simp] theorem qsize_99 : qsize Tryd.prog 99 = some 2 := by kernel_rfl
@[simp] theorem qbytes_99 : qbytes Tryd.prog 99 = some 32 := by kernel_rfl
@[simp] theorem qagg_99 : qagg Tryd.prog 99 = some true := by kernel_rfl
@[simp] theorem qzero_99 : qzero Tryd.prog 99 = some (V.agg [V.sl none 0 false, V.i Go.IntKind.i64 (0)]) := by kernel_rfl
@[simp] theorem qplaces_99 : qplaces Tryd.prog 99 = some [(0, 1), (1, 1)] := by kernel_rfl
@[simp] theorem qconcrete_99 : qconcrete Tryd.prog 99 = true := by kernel_rfl
@[simp] theorem qthere_99 : qthere Tryd.prog 99 = true := by kernel_rfl
@[simp] theorem cellsOf_99 : Go.Program.cellsOf Tryd.prog 99 = 2 := by kernel_rfl
@[simp] theorem bytesOf_99 : Go.Program.bytesOf Tryd.prog 99 = 32 := by kernel_rfl
@[simp] theorem qsize_104 : qsize Tryd.prog 104 = some 10 := by kernel_rfl
@[simp] theorem qbytes_104 : qbytes Tryd.prog 104 = some 72 := by kernel_rfl
@[simp] theorem qagg_104 : qagg Tryd.prog 104 = some true := by kernel_rfl
@[simp] theorem qzero_104 : qzero Tryd.prog 104 = some   (V.agg     [V.i Go.IntKind.i64 (0), V.i Go.IntKind.i64 (0), V.i Go.IntKind.i64 (0),       V.i Go.IntKind.i64 (0), V.i Go.IntKind.i64 (0), V.i Go.IntKind.i64 (0),       V.i Go.IntKind.i64 (0), V.i Go.IntKind.i64 (0), V.i Go.IntKind.u32 (0),       V.i Go.IntKind.u32 (0)]) := by kernel_rfl
@[simp] theorem qplaces_104 : qplaces Tryd.prog 104 = some [(0, 1), (1, 1), (2, 8)] := by kernel_rfl
@[simp] theorem qconcrete_104 : qconcrete Tryd.prog 104 = true := by kernel_rfl
@[simp] theorem qkey_104 : qkey Tryd.prog 104 = true := by kernel_rfl
@[simp] theorem qthere_104 : qthere Tryd.prog 104 = true := by kernel_rfl
@[simp] theorem qeq_104 : qeq Tryd.prog 104 = some   [CK.i Go.IntKind.i64, CK.i Go.IntKind.i64, CK.i Go.IntKind.i64, CK.i Go.IntKind.i64, CK.i Go.IntKind.i64,     CK.i Go.IntKind.i64, CK.i Go.IntKind.i64, CK.i Go.IntKind.i64, CK.i Go.IntKind.u32, CK.i Go.IntKind.u32] := by kernel_rfl
@[simp] theorem cellsOf_104 : Go.Program.cellsOf Tryd.prog 104 = 10 := by kernel_rfl
@[simp] theorem bytesOf_104 : Go.Program.bytesOf Tryd.prog 104 = 72 := by kernel_rfl
@[simp] theorem qsize_105 : qsize Tryd.prog 105 = some 1 := by kernel_rfl
@[simp] theorem qbytes_105 : qbytes Tryd.prog 105 = some 8 := by kernel_rfl
@[simp] theorem qagg_105 : qagg Tryd.prog 105 = some false := by kernel_rfl
@[simp] theorem qzero_105 : qzero Tryd.prog 105 = some V.nf := by kernel_rfl
@[simp] theorem qconcrete_105 : qconcrete Tryd.prog 105 = true := by kernel_rfl
@[simp] theorem qthere_105 : qthere Tryd.prog 105 = true := by kernel_rfl
@[simp] theorem cellsOf_105 : Go.Program.cellsOf Tryd.prog 105 = 1 := by kernel_rfl
@[simp] theorem bytesOf_105 : Go.Program.bytesOf Tryd.prog 105 = 8 := by kernel_rfl
@[simp] theorem qsize_108 : qsize Tryd.prog 108 = some 7 := by kernel_rfl
@[simp] theorem qbytes_108 : qbytes Tryd.prog 108 = some 88 := by kernel_rfl
@[simp] theorem qagg_108 : qagg Tryd.prog 108 = some true := by kernel_rfl
@[simp] theorem qzero_108 : qzero Tryd.prog 108 = some   (V.agg     [V.i Go.IntKind.i64 (0), V.s [], V.s [], V.s [], V.s [], V.i Go.IntKind.i64 (0),       V.i Go.IntKind.i64 (0)]) := by kernel_rfl
@[simp] theorem qplaces_108 : qplaces Tryd.prog 108 = some [(0, 1), (1, 1), (2, 1), (3, 1), (4, 1), (5, 1), (6, 1)] := by kernel_rfl
@[simp] theorem qconcrete_108 : qconcrete Tryd.prog 108 = true := by kernel_rfl
@[simp] theorem qkey_108 : qkey Tryd.prog 108 = true := by kernel_rfl
@[simp] theorem qthere_108 : qthere Tryd.prog 108 = true := by kernel_rfl
@[simp] theorem qeq_108 : qeq Tryd.prog 108 = some [CK.i Go.IntKind.i64, CK.s, CK.s, CK.s, CK.s, CK.i Go.IntKind.i64, CK.i Go.IntKind.i64] := by kernel_rfl
@[simp] theorem cellsOf_108 : Go.Program.cellsOf Tryd.prog 108 = 7 := by kernel_rfl
@[simp] theorem bytesOf_108 : Go.Program.bytesOf Tryd.prog 108 = 88 := by kernel_rfl
@[simp] theorem qsize_110 : qsize Tryd.prog 110 = some 1 := by kernel_rfl
@[simp] theorem qbytes_110 : qbytes Tryd.prog 110 = some 8 := by kernel_rfl
@[simp] theorem qagg_110 : qagg Tryd.prog 110 = some false := by kernel_rfl
@[simp] theorem qzero_110 : qzero Tryd.prog 110 = some V.nf := by kernel_rfl
@[simp] theorem qconcrete_110 : qconcrete Tryd.prog 110 = true := by kernel_rfl
@[simp] theorem qthere_110 : qthere Tryd.prog 110 = true := by kernel_rfl
@[simp] theorem cellsOf_110 : Go.Program.cellsOf Tryd.prog 110 = 1 := by kernel_rfl
@[simp] theorem bytesOf_110 : Go.Program.bytesOf Tryd.prog 110 = 8 := by kernel_rfl
@[simp] theorem qsize_116 : qsize Tryd.prog 116 = some 1 := by kernel_rfl
@[simp] theorem qbytes_116 : qbytes Tryd.prog 116 = some 8 := by kernel_rfl
@[simp] theorem qagg_116 : qagg Tryd.prog 116 = some false := by kernel_rfl
@[simp] theorem qzero_116 : qzero Tryd.prog 116 = some (V.i Go.IntKind.u64 (0)) := by kernel_rfl
@[simp] theorem qint_116 : qint Tryd.prog 116 = some Go.IntKind.u64 := by kernel_rfl
@[simp] theorem keqi_116 (a c : Int) : keq Tryd.prog 116 (.i Go.IntKind.u64 a) (.i Go.IntKind.u64 c) = some (a == c) := keq_i qint_116
@[simp] theorem qconcrete_116 : qconcrete Tryd.prog 116 = true := by kernel_rfl
@[simp] theorem qkey_116 : qkey Tryd.prog 116 = true := by kernel_rfl
@[simp] theorem qplainKey_116 : qplainKey Tryd.prog 116 = true := by kernel_rfl
@[simp] theorem kf_116 (k : V) : keyFits Tryd.prog 116 k = true := keyFits_plain qplainKey_116
@[simp] theorem qthere_116 : qthere Tryd.prog 116 = true := by kernel_rfl
@[simp] theorem cellsOf_116 : Go.Program.cellsOf Tryd.prog 116 = 1 := by kernel_rfl
@[simp] theorem bytesOf_116 : Go.Program.bytesOf Tryd.prog 116 = 8 := by kernel_rfl
@[simp] theorem qsize_123 : qsize Tryd.prog 123 = some 1 := by kernel_rfl
@[simp] theorem qbytes_123 : qbytes Tryd.prog 123 = some 8 := by kernel_rfl
@[simp] theorem qagg_123 : qagg Tryd.prog 123 = some false := by kernel_rfl
@[simp] theorem qzero_123 : qzero Tryd.prog 123 = some V.nf := by kernel_rfl
@[simp] theorem qconcrete_123 : qconcrete Tryd.prog 123 = true := by kernel_rfl
@[simp] theorem qthere_123 : qthere Tryd.prog 123 = true := by kernel_rfl
@[simp] theorem cellsOf_123 : Go.Program.cellsOf Tryd.prog 123 = 1 := by kernel_rfl
@[simp] theorem bytesOf_123 : Go.Program.bytesOf Tryd.prog 123 = 8 := by kernel_rfl
@[simp] theorem qsize_125 : qsize Tryd.prog 125 = some 1 := by kernel_rfl
@[simp] theorem qbytes_125 : qbytes Tryd.prog 125 = some 8 := by kernel_rfl
@[simp] theorem qagg_125 : qagg Tryd.prog 125 = some false := by kernel_rfl
@[simp] theorem qzero_125 : qzero Tryd.prog 125 = some (V.p none) := by kernel_rfl
@[simp] theorem qconcrete_125 : qconcrete Tryd.prog 125 = true := by kernel_rfl
@[simp] theorem qptr_125 : qptr Tryd.prog 125 = true := by kernel_rfl
@[simp] theorem pnn_125 : aeq Tryd.prog 125 (.p none) (.p none) = some true := aeq_pnn qptr_125
@[simp] theorem psn_125 (q : Nat × Nat × Nat) : aeq Tryd.prog 125 (.p (some q)) (.p none) = some false := aeq_psn qptr_125
@[simp] theorem qthere_125 : qthere Tryd.prog 125 = true := by kernel_rfl
@[simp] theorem cellsOf_125 : Go.Program.cellsOf Tryd.prog 125 = 1 := by kernel_rfl
@[simp] theorem bytesOf_125 : Go.Program.bytesOf Tryd.prog 125 = 8 := by kernel_rfl
@[simp] theorem qsize_127 : qsize Tryd.prog 127 = some 1 := by kernel_rfl
@[simp] theorem qbytes_127 : qbytes Tryd.prog 127 = some 8 := by kernel_rfl
@[simp] theorem qagg_127 : qagg Tryd.prog 127 = some false := by kernel_rfl
@[simp] theorem qzero_127 : qzero Tryd.prog 127 = some (V.i Go.IntKind.u64 (0)) := by kernel_rfl
@[simp] theorem qint_127 : qint Tryd.prog 127 = some Go.IntKind.u64 := by kernel_rfl
@[simp] theorem keqi_127 (a c : Int) : keq Tryd.prog 127 (.i Go.IntKind.u64 a) (.i Go.IntKind.u64 c) = some (a == c) := keq_i qint_127
@[simp] theorem qconcrete_127 : qconcrete Tryd.prog 127 = true := by kernel_rfl
@[simp] theorem qkey_127 : qkey Tryd.prog 127 = true := by kernel_rfl
@[simp] theorem qplainKey_127 : qplainKey Tryd.prog 127 = true := by kernel_rfl
@[simp] theorem kf_127 (k : V) : keyFits Tryd.prog 127 k = true := keyFits_plain qplainKey_127
@[simp] theorem qthere_127 : qthere Tryd.prog 127 = true := by kernel_rfl
@[simp] theorem cellsOf_127 : Go.Program.cellsOf Tryd.prog 127 = 1 := by kernel_rfl
@[simp] theorem bytesOf_127 : Go.Program.bytesOf Tryd.prog 127 = 8 := by kernel_rfl
@[simp] theorem qsize_137 : qsize Tryd.prog 137 = some 3 := by kernel_rfl
@[simp] theorem qbytes_137 : qbytes Tryd.prog 137 = some 12 := by kernel_rfl
@[simp] theorem qagg_137 : qagg Tryd.prog 137 = some true := by kernel_rfl
@[simp] theorem qzero_137 : qzero Tryd.prog 137 = some (V.agg [V.i Go.IntKind.i32 (0), V.i Go.IntKind.i32 (0), V.i Go.IntKind.i32 (0)]) := by kernel_rfl
@[simp] theorem qplaces_137 : qplaces Tryd.prog 137 = some [(0, 1), (1, 1), (2, 1)] := by kernel_rfl
@[simp] theorem qconcrete_137 : qconcrete Tryd.prog 137 = true := by kernel_rfl
@[simp] theorem qkey_137 : qkey Tryd.prog 137 = true := by kernel_rfl
@[simp] theorem qthere_137 : qthere Tryd.prog 137 = true := by kernel_rfl
@[simp] theorem qeq_137 : qeq Tryd.prog 137 = some [CK.i Go.IntKind.i32, CK.i Go.IntKind.i32, CK.i Go.IntKind.i32] := by kernel_rfl
@[simp] theorem cellsOf_137 : Go.Program.cellsOf Tryd.prog 137 = 3 := by kernel_rfl
@[simp] theorem bytesOf_137 : Go.Program.bytesOf Tryd.prog 137 = 12 := by kernel_rfl
@[simp] theorem qsize_138 : qsize Tryd.prog 138 = some 18 := by kernel_rfl
@[simp] theorem qbytes_138 : qbytes Tryd.prog 138 = some 72 := by kernel_rfl
@[simp] theorem qagg_138 : qagg Tryd.prog 138 = some true := by kernel_rfl
@[simp] theorem qzero_138 : qzero Tryd.prog 138 = some   (V.agg     [V.i Go.IntKind.i32 (0), V.i Go.IntKind.i32 (0), V.i Go.IntKind.i32 (0),       V.i Go.IntKind.i32 (0), V.i Go.IntKind.i32 (0), V.i Go.IntKind.i32 (0),       V.i Go.IntKind.i32 (0), V.i Go.IntKind.i32 (0), V.i Go.IntKind.i32 (0),       V.i Go.IntKind.i32 (0), V.i Go.IntKind.i32 (0), V.i Go.IntKind.i32 (0),       V.i Go.IntKind.i32 (0), V.i Go.IntKind.i32 (0), V.i Go.IntKind.i32 (0),       V.i Go.IntKind.i32 (0), V.i Go.IntKind.i32 (0), V.i Go.IntKind.i32 (0)]) := by kernel_rfl
@[simp] theorem qconcrete_138 : qconcrete Tryd.prog 138 = true := by kernel_rfl
@[simp] theorem qthere_138 : qthere Tryd.prog 138 = true := by kernel_rfl
@[simp] theorem cellsOf_138 : Go.Program.cellsOf Tryd.prog 138 = 18 := by kernel_rfl
@[simp] theorem bytesOf_138 : Go.Program.bytesOf Tryd.prog 138 = 72 := by kernel_rfl
@[simp] theorem qarr_138 : qarr Tryd.prog 138 = some (6, 137) := by kernel_rfl
@[simp] theorem qsize_141 : qsize Tryd.prog 141 = some 256 := by kernel_rfl
@[simp] theorem qbytes_141 : qbytes Tryd.prog 141 = some 256 := by kernel_rfl
@[simp] theorem qagg_141 : qagg Tryd.prog 141 = some true := by kernel_rfl
@[simp] theorem qzero_141 : qzero Tryd.prog 141 = some   (V.agg     [V.i Go.IntKind.u8 (0), V.i Go.IntKind.u8 (0), V.i Go.IntKind.u8 (0),       V.i Go.IntKind.u8 (0), V.i Go.IntKind.u8 (0), V.i Go.IntKind.u8 (0),       V.i Go.IntKind.u8 (0), V.i Go.IntKind.u8 (0), V.i Go.IntKind.u8 (0),       V.i Go.IntKind.u8 (0), V.i Go.IntKind.u8 (0), V.i Go.IntKind.u8 (0),       V.i Go.IntKind.u8 (0), V.i Go.IntKind.u8 (0), V.i Go.IntKind.u8 (0),       V.i Go.IntKind.u8 (0), V.i Go.IntKind.u8 (0), V.i Go.IntKind.u8 (0),       V.i Go.IntKind.u8 (0), V.i Go.IntKind.u8 (0), V.i Go.IntKind.u8 (0),       V.i Go.IntKind.u8 (0), V.i Go.IntKind.u8 (0), V.i Go.IntKind.u8 (0),       V.i Go.IntKind.u8 (0), V.i Go.IntKind.u8 (0), V.i Go.IntKind.u8 (0),       V.i Go.IntKind.u8 (0), V.i Go.IntKind.u8 (0), V.i Go.IntKind.u8 (0),       V.i Go.IntKind.u8 (0), V.i Go.IntKind.u8 (0), V.i Go.IntKind.u8 (0),       V.i Go.IntKind.u8 (0), V.i Go.IntKind.u8 (0), V.i Go.IntKind.u8 (0),       V.i Go.IntKind.u8 (0), V.i Go.IntKind.u8 (0), V.i Go.IntKind.u8 (0),       V.i Go.IntKind.u8 (0), V.i Go.IntKind.u8 (0), V.i Go.IntKind.u8 (0),       V.i Go.IntKind.u8 (0), V.i Go.IntKind.u8 (0), V.i Go.IntKind.u8 (0),       V.i Go.IntKind.u8 (0), V.i Go.IntKind.u8 (0), V.i Go.IntKind.u8 (0),       V.i Go.IntKind.u8 (0), V.i Go.IntKind.u8 (0), V.i Go.IntKind.u8 (0),       V.i Go.IntKind.u8 (0), V.i Go.IntKind.u8 (0), V.i Go.IntKind.u8 (0),       V.i Go.IntKind.u8 (0), V.i Go.IntKind.u8 (0), V.i Go.IntKind.u8 (0),       V.i Go.IntKind.u8 (0), V.i Go.IntKind.u8 (0), V.i Go.IntKind.u8 (0),       V.i Go.IntKind.u8 (0), V.i Go.IntKind.u8 (0), V.i Go.IntKind.u8 (0),       V.i Go.IntKind.u8 (0), V.i Go.IntKind.u8 (0), V.i Go.IntKind.u8 (0),       V.i Go.IntKind.u8 (0), V.i Go.IntKind.u8 (0), V.i Go.IntKind.u8 (0),       V.i Go.IntKind.u8 (0), V.i Go.IntKind.u8 (0), V.i Go.IntKind.u8 (0),       V.i Go.IntKind.u8 (0), V.i Go.IntKind.u8 (0), V.i Go.IntKind.u8 (0),       V.i Go.IntKind.u8 (0), V.i Go.IntKind.u8 (0), V.i Go.IntKind.u8 (0),       V.i Go.IntKind.u8 (0), V.i Go.IntKind.u8 (0), V.i Go.IntKind.u8 (0),       V.i Go.IntKind.u8 (0), V.i Go.IntKind.u8 (0), V.i Go.IntKind.u8 (0),       V.i Go.IntKind.u8 (0), V.i Go.IntKind.u8 (0), V.i Go.IntKind.u8 (0),       V.i Go.IntKind.u8 (0), V.i Go.IntKind.u8 (0), V.i Go.IntKind.u8 (0),       V.i Go.IntKind.u8 (0), V.i Go.IntKind.u8 (0), V.i Go.IntKind.u8 (0),       V.i Go.IntKind.u8 (0), V.i Go.IntKind.u8 (0), V.i Go.IntKind.u8 (0),       V.i Go.IntKind.u8 (0), V.i Go.IntKind.u8 (0), V.i Go.IntKind.u8 (0),       V.i Go.IntKind.u8 (0), V.i Go.IntKind.u8 (0), V.i Go.IntKind.u8 (0),       V.i Go.IntKind.u8 (0), V.i Go.IntKind.u8 (0), V.i Go.IntKind.u8 (0),       V.i Go.IntKind.u8 (0), V.i Go.IntKind.u8 (0), V.i Go.IntKind.u8 (0),       V.i Go.IntKind.u8 (0), V.i Go.IntKind.u8 (0), V.i Go.IntKind.u8 (0),       V.i Go.IntKind.u8 (0), V.i Go.IntKind.u8 (0), V.i Go.IntKind.u8 (0),       V.i Go.IntKind.u8 (0), V.i Go.IntKind.u8 (0), V.i Go.IntKind.u8 (0),       V.i Go.IntKind.u8 (0), V.i Go.IntKind.u8 (0), V.i Go.IntKind.u8 (0),       V.i Go.IntKind.u8 (0), V.i Go.IntKind.u8 (0), V.i Go.IntKind.u8 (0),       V.i Go.IntKind.u8 (0), V.i Go.IntKind.u8 (0), V.i Go.IntKind.u8 (0),       V.i Go.IntKind.u8 (0), V.i Go.IntKind.u8 (0), V.i Go.IntKind.u8 (0),       V.i Go.IntKind.u8 (0), V.i Go.IntKind.u8 (0), V.i Go.IntKind.u8 (0),       V.i Go.IntKind.u8 (0), V.i Go.IntKind.u8 (0), V.i Go.IntKind.u8 (0),       V.i Go.IntKind.u8 (0), V.i Go.IntKind.u8 (0), V.i Go.IntKind.u8 (0),       V.i Go.IntKind.u8 (0), V.i Go.IntKind.u8 (0), V.i Go.IntKind.u8 (0),       V.i Go.IntKind.u8 (0), V.i Go.IntKind.u8 (0), V.i Go.IntKind.u8 (0),       V.i Go.IntKind.u8 (0), V.i Go.IntKind.u8 (0), V.i Go.IntKind.u8 (0),       V.i Go.IntKind.u8 (0), V.i Go.IntKind.u8 (0), V.i Go.IntKind.u8 (0),       V.i Go.IntKind.u8 (0), V.i Go.IntKind.u8 (0), V.i Go.IntKind.u8 (0),       V.i Go.IntKind.u8 (0), V.i Go.IntKind.u8 (0), V.i Go.IntKind.u8 (0),       V.i Go.IntKind.u8 (0), V.i Go.IntKind.u8 (0), V.i Go.IntKind.u8 (0),       V.i Go.IntKind.u8 (0), V.i Go.IntKind.u8 (0), V.i Go.IntKind.u8 (0),       V.i Go.IntKind.u8 (0), V.i Go.IntKind.u8 (0), V.i Go.IntKind.u8 (0),       V.i Go.IntKind.u8 (0), V.i Go.IntKind.u8 (0), V.i Go.IntKind.u8 (0),       V.i Go.IntKind.u8 (0), V.i Go.IntKind.u8 (0), V.i Go.IntKind.u8 (0),       V.i Go.IntKind.u8 (0), V.i Go.IntKind.u8 (0), V.i Go.IntKind.u8 (0),       V.i Go.IntKind.u8 (0), V.i Go.IntKind.u8 (0), V.i Go.IntKind.u8 (0),       V.i Go.IntKind.u8 (0), V.i Go.IntKind.u8 (0), V.i Go.IntKind.u8 (0),       V.i Go.IntKind.u8 (0), V.i Go.IntKind.u8 (0), V.i Go.IntKind.u8 (0),       V.i Go.IntKind.u8 (0), V.i Go.IntKind.u8 (0), V.i Go.IntKind.u8 (0),       V.i Go.IntKind.u8 (0), V.i Go.IntKind.u8 (0), V.i Go.IntKind.u8 (0),       V.i Go.IntKind.u8 (0), V.i Go.IntKind.u8 (0), V.i Go.IntKind.u8 (0),       V.i Go.IntKind.u8 (0), V.i Go.IntKind.u8 (0), V.i Go.IntKind.u8 (0),       V.i Go.IntKind.u8 (0), V.i Go.IntKind.u8 (0), V.i Go.IntKind.u8 (0),       V.i Go.IntKind.u8 (0), V.i Go.IntKind.u8 (0), V.i Go.IntKind.u8 (0),       V.i Go.IntKind.u8 (0), V.i Go.IntKind.u8 (0), V.i Go.IntKind.u8 (0),       V.i Go.IntKind.u8 (0), V.i Go.IntKind.u8 (0), V.i Go.IntKind.u8 (0),       V.i Go.IntKind.u8 (0), V.i Go.IntKind.u8 (0), V.i Go.IntKind.u8 (0),       V.i Go.IntKind.u8 (0), V.i Go.IntKind.u8 (0), V.i Go.IntKind.u8 (0),       V.i Go.IntKind.u8 (0), V.i Go.IntKind.u8 (0), V.i Go.IntKind.u8 (0),       V.i Go.IntKind.u8 (0), V.i Go.IntKind.u8 (0), V.i Go.IntKind.u8 (0),       V.i Go.IntKind.u8 (0), V.i Go.IntKind.u8 (0), V.i Go.IntKind.u8 (0),       V.i Go.IntKind.u8 (0), V.i Go.IntKind.u8 (0), V.i Go.IntKind.u8 (0),       V.i Go.IntKind.u8 (0), V.i Go.IntKind.u8 (0), V.i Go.IntKind.u8 (0),       V.i Go.IntKind.u8 (0), V.i Go.IntKind.u8 (0), V.i Go.IntKind.u8 (0),       V.i Go.IntKind.u8 (0), V.i Go.IntKind.u8 (0), V.i Go.IntKind.u8 (0),       V.i Go.IntKind.u8 (0), V.i Go.IntKind.u8 (0), V.i Go.IntKind.u8 (0),       V.i Go.IntKind.u8 (0), V.i Go.IntKind.u8 (0), V.i Go.IntKind.u8 (0),       V.i Go.IntKind.u8 (0), V.i Go.IntKind.u8 (0), V.i Go.IntKind.u8 (0),       V.i Go.IntKind.u8 (0), V.i Go.IntKind.u8 (0), V.i Go.IntKind.u8 (0),       V.i Go.IntKind.u8 (0), V.i Go.IntKind.u8 (0), V.i Go.IntKind.u8 (0),       V.i Go.IntKind.u8 (0), V.i Go.IntKind.u8 (0), V.i Go.IntKind.u8 (0),       V.i Go.IntKind.u8 (0), V.i Go.IntKind.u8 (0), V.i Go.IntKind.u8 (0),       V.i Go.IntKind.u8 (0)]) := by kernel_rfl
@[simp] theorem qconcrete_141 : qconcrete Tryd.prog 141 = true := by kernel_rfl
@[simp] theorem qthere_141 : qthere Tryd.prog 141 = true := by kernel_rfl
@[simp] theorem cellsOf_141 : Go.Program.cellsOf Tryd.prog 141 = 256 := by kernel_rfl
@[simp] theorem bytesOf_141 : Go.Program.bytesOf Tryd.prog 141 = 256 := by kernel_rfl
@[simp] theorem qarr_141 : qarr Tryd.prog 141 = some (256, 5) := by kernel_rfl
@[simp] theorem qsize_143 : qsize Tryd.prog 143 = some 2 := by kernel_rfl
@[simp] theorem qbytes_143 : qbytes Tryd.prog 143 = some 2 := by kernel_rfl
@[simp] theorem qagg_143 : qagg Tryd.prog 143 = some true := by kernel_rfl
@[simp] theorem qzero_143 : qzero Tryd.prog 143 = some (V.agg [V.i Go.IntKind.u8 (0), V.i Go.IntKind.u8 (0)]) := by kernel_rfl
@[simp] theorem qplaces_143 : qplaces Tryd.prog 143 = some [(0, 1), (1, 1)] := by kernel_rfl
@[simp] theorem qconcrete_143 : qconcrete Tryd.prog 143 = true := by kernel_rfl
@[simp] theorem qkey_143 : qkey Tryd.prog 143 = true := by kernel_rfl
@[simp] theorem qthere_143 : qthere Tryd.prog 143 = true := by kernel_rfl
@[simp] theorem qeq_143 : qeq Tryd.prog 143 = some [CK.i Go.IntKind.u8, CK.i Go.IntKind.u8] := by kernel_rfl
@[simp] theorem cellsOf_143 : Go.Program.cellsOf Tryd.prog 143 = 2 := by kernel_rfl
@[simp] theorem bytesOf_143 : Go.Program.bytesOf Tryd.prog 143 = 2 := by kernel_rfl
@[simp] theorem qsize_144 : qsize Tryd.prog 144 = some 32 := by kernel_rfl
@[simp] theorem qbytes_144 : qbytes Tryd.prog 144 = some 32 := by kernel_rfl
@[simp] theorem qagg_144 : qagg Tryd.prog 144 = some true := by kernel_rfl
@[simp] theorem qzero_144 : qzero Tryd.prog 144 = some   (V.agg     [V.i Go.IntKind.u8 (0), V.i Go.IntKind.u8 (0), V.i Go.IntKind.u8 (0),       V.i Go.IntKind.u8 (0), V.i Go.IntKind.u8 (0), V.i Go.IntKind.u8 (0),       V.i Go.IntKind.u8 (0), V.i Go.IntKind.u8 (0), V.i Go.IntKind.u8 (0),       V.i Go.IntKind.u8 (0), V.i Go.IntKind.u8 (0), V.i Go.IntKind.u8 (0),       V.i Go.IntKind.u8 (0), V.i Go.IntKind.u8 (0), V.i Go.IntKind.u8 (0),       V.i Go.IntKind.u8 (0), V.i Go.IntKind.u8 (0), V.i Go.IntKind.u8 (0),       V.i Go.IntKind.u8 (0), V.i Go.IntKind.u8 (0), V.i Go.IntKind.u8 (0),       V.i Go.IntKind.u8 (0), V.i Go.IntKind.u8 (0), V.i Go.IntKind.u8 (0),       V.i Go.IntKind.u8 (0), V.i Go.IntKind.u8 (0), V.i Go.IntKind.u8 (0),       V.i Go.IntKind.u8 (0), V.i Go.IntKind.u8 (0), V.i Go.IntKind.u8 (0),       V.i Go.IntKind.u8 (0), V.i Go.IntKind.u8 (0)]) := by kernel_rfl
@[simp] theorem qconcrete_144 : qconcrete Tryd.prog 144 = true := by kernel_rfl
@[simp] theorem qthere_144 : qthere Tryd.prog 144 = true := by kernel_rfl
@[simp] theorem cellsOf_144 : Go.Program.cellsOf Tryd.prog 144 = 32 := by kernel_rfl
@[simp] theorem bytesOf_144 : Go.Program.bytesOf Tryd.prog 144 = 32 := by kernel_rfl
@[simp] theorem qarr_144 : qarr Tryd.prog 144 = some (16, 143) := by kernel_rfl
@[simp] theorem qsize_151 : qsize Tryd.prog 151 = some 1 := by kernel_rfl
@[simp] theorem qbytes_151 : qbytes Tryd.prog 151 = some 1 := by kernel_rfl
@[simp] theorem qagg_151 : qagg Tryd.prog 151 = some false := by kernel_rfl
@[simp] theorem qzero_151 : qzero Tryd.prog 151 = some (V.i Go.IntKind.u8 (0)) := by kernel_rfl
@[simp] theorem qint_151 : qint Tryd.prog 151 = some Go.IntKind.u8 := by kernel_rfl
@[simp] theorem keqi_151 (a c : Int) : keq Tryd.prog 151 (.i Go.IntKind.u8 a) (.i Go.IntKind.u8 c) = some (a == c) := keq_i qint_151
@[simp] theorem qconcrete_151 : qconcrete Tryd.prog 151 = true := by kernel_rfl
@[simp] theorem qkey_151 : qkey Tryd.prog 151 = true := by kernel_rfl
@[simp] theorem qplainKey_151 : qplainKey Tryd.prog 151 = true := by kernel_rfl
@[simp] theorem kf_151 (k : V) : keyFits Tryd.prog 151 k = true := keyFits_plain qplainKey_151
@[simp] theorem qthere_151 : qthere Tryd.prog 151 = true := by kernel_rfl
@[simp] theorem cellsOf_151 : Go.Program.cellsOf Tryd.prog 151 = 1 := by kernel_rfl
@[simp] theorem bytesOf_151 : Go.Program.bytesOf Tryd.prog 151 = 1 := by kernel_rfl
@[simp] theorem qfield_27_0 : qfield Tryd.prog 27 0 = some (0, 1, false) := by kernel_rfl
@[simp] theorem qfield_27_1 : qfield Tryd.prog 27 1 = some (1, 1, false) := by kernel_rfl
@[simp] theorem qfield_27_2 : qfield Tryd.prog 27 2 = some (2, 1, false) := by kernel_rfl
@[simp] theorem qfield_27_3 : qfield Tryd.prog 27 3 = some (3, 1, false) := by kernel_rfl
@[simp] theorem qfield_27_4 : qfield Tryd.prog 27 4 = some (4, 1, false) := by kernel_rfl
@[simp] theorem qfield_27_5 : qfield Tryd.prog 27 5 = some (5, 1, false) := by kernel_rfl
@[simp] theorem qfield_27_6 : qfield Tryd.prog 27 6 = some (6, 1, false) := by kernel_rfl
@[simp] theorem qfield_27_7 : qfield Tryd.prog 27 7 = some (7, 1, false) := by kernel_rfl
@[simp] theorem qfield_33_0 : qfield Tryd.prog 33 0 = some (0, 1, false) := by kernel_rfl
@[simp] theorem qfield_33_1 : qfield Tryd.prog 33 1 = some (1, 1, false) := by kernel_rfl
@[simp] theorem qfield_33_2 : qfield Tryd.prog 33 2 = some (2, 1, false) := by kernel_rfl
@[simp] theorem qfield_33_3 : qfield Tryd.prog 33 3 = some (3, 1, false) := by kernel_rfl
@[simp] theorem qfield_33_4 : qfield Tryd.prog 33 4 = some (4, 1, false) := by kernel_rfl
@[simp] theorem qfield_33_5 : qfield Tryd.prog 33 5 = some (5, 8, true) := by kernel_rfl
@[simp] theorem qfield_33_6 : qfield Tryd.prog 33 6 = some (13, 8, true) := by kernel_rfl
@[simp] theorem qfield_33_7 : qfield Tryd.prog 33 7 = some (21, 1, false) := by kernel_rfl
@[simp] theorem qfield_33_8 : qfield Tryd.prog 33 8 = some (22, 1, false) := by kernel_rfl
@[simp] theorem qfield_33_9 : qfield Tryd.prog 33 9 = some (23, 1, false) := by kernel_rfl
@[simp] theorem qfield_33_10 : qfield Tryd.prog 33 10 = some (24, 4, true) := by kernel_rfl
@[simp] theorem qfield_33_11 : qfield Tryd.prog 33 11 = some (28, 1, false) := by kernel_rfl
@[simp] theorem qfield_33_12 : qfield Tryd.prog 33 12 = some (29, 1, false) := by kernel_rfl
@[simp] theorem qfield_33_13 : qfield Tryd.prog 33 13 = some (30, 1, false) := by kernel_rfl
@[simp] theorem qfield_33_14 : qfield Tryd.prog 33 14 = some (31, 1, false) := by kernel_rfl
@[simp] theorem qfield_40_0 : qfield Tryd.prog 40 0 = some (0, 1, false) := by kernel_rfl
@[simp] theorem qfield_40_1 : qfield Tryd.prog 40 1 = some (1, 8, true) := by kernel_rfl
@[simp] theorem qfield_40_2 : qfield Tryd.prog 40 2 = some (9, 8, true) := by kernel_rfl
@[simp] theorem qfield_40_3 : qfield Tryd.prog 40 3 = some (17, 1, false) := by kernel_rfl
@[simp] theorem qfield_40_4 : qfield Tryd.prog 40 4 = some (18, 1, false) := by kernel_rfl
@[simp] theorem qfield_40_5 : qfield Tryd.prog 40 5 = some (19, 1, false) := by kernel_rfl
@[simp] theorem qfield_40_6 : qfield Tryd.prog 40 6 = some (20, 1, false) := by kernel_rfl
@[simp] theorem qfield_40_7 : qfield Tryd.prog 40 7 = some (21, 1, false) := by kernel_rfl
@[simp] theorem qfield_41_7 : qfield Tryd.prog 41 7 = some (21, 1, false) := by kernel_rfl
@[simp] theorem qfield_61_0 : qfield Tryd.prog 61 0 = some (0, 1, false) := by kernel_rfl
@[simp] theorem qfield_61_1 : qfield Tryd.prog 61 1 = some (1, 1, false) := by kernel_rfl
@[simp] theorem qfield_61_2 : qfield Tryd.prog 61 2 = some (2, 1, false) := by kernel_rfl
@[simp] theorem qfield_61_3 : qfield Tryd.prog 61 3 = some (3, 1, false) := by kernel_rfl
@[simp] theorem qfield_61_4 : qfield Tryd.prog 61 4 = some (4, 8, true) := by kernel_rfl
@[simp] theorem qfield_61_5 : qfield Tryd.prog 61 5 = some (12, 1, false) := by kernel_rfl
@[simp] theorem qfield_61_6 : qfield Tryd.prog 61 6 = some (13, 1, false) := by kernel_rfl
@[simp] theorem qfield_99_0 : qfield Tryd.prog 99 0 = some (0, 1, false) := by kernel_rfl
@[simp] theorem qfield_99_1 : qfield Tryd.prog 99 1 = some (1, 1, false) := by kernel_rfl
@[simp] theorem qfield_104_0 : qfield Tryd.prog 104 0 = some (0, 1, false) := by kernel_rfl
@[simp] theorem qfield_104_1 : qfield Tryd.prog 104 1 = some (1, 1, false) := by kernel_rfl
@[simp] theorem qfield_104_2 : qfield Tryd.prog 104 2 = some (2, 8, true) := by kernel_rfl
@[simp] theorem qfield_108_0 : qfield Tryd.prog 108 0 = some (0, 1, false) := by kernel_rfl
@[simp] theorem qfield_108_1 : qfield Tryd.prog 108 1 = some (1, 1, false) := by kernel_rfl
@[simp] theorem qfield_108_2 : qfield Tryd.prog 108 2 = some (2, 1, false) := by kernel_rfl
@[simp] theorem qfield_108_3 : qfield Tryd.prog 108 3 = some (3, 1, false) := by kernel_rfl
@[simp] theorem qfield_108_4 : qfield Tryd.prog 108 4 = some (4, 1, false) := by kernel_rfl
@[simp] theorem qfield_108_5 : qfield Tryd.prog 108 5 = some (5, 1, false) := by kernel_rfl
@[simp] theorem qfield_108_6 : qfield Tryd.prog 108 6 = some (6, 1, false) := by kernel_rfl
@[simp] theorem qfield_137_0 : qfield Tryd.prog 137 0 = some (0, 1, false) := by kernel_rfl
@[simp] theorem qfield_137_1 : qfield Tryd.prog 137 1 = some (1, 1, false) := by kernel_rfl
@[simp] theorem qfield_137_2 : qfield Tryd.prog 137 2 = some (2, 1, false) := by kernel_rfl
@[simp] theorem qfield_143_0 : qfield Tryd.prog 143 0 = some (0, 1, false) := by kernel_rfl
@[simp] theorem qfield_143_1 : qfield Tryd.prog 143 1 = some (1, 1, false) := by kernel_rfl
/-- 14 operations, 15 nodes, looks at memory: true -/
def pl_3_20 : Plan := .take 0 (.take 1 (.take 2 (.take 3 (.take 4 (.take 5 (.take 6 (.take 7 (.take 8 (.take 9 (.take 10 (.take 11 (.take 12 (.take 13 (.done))))))))))))))
def pe_3_20 : Bool := true
/-- 15 operations, 16 nodes, looks at memory: true -/
def pl_7_7 : Plan := .take 0 (.take 1 (.take 3 (.take 4 (.take 6 (.take 7 (.alt 2 true (.alt 5 true (.alt 8 true (.take 9 (.alt 10 false (.take 11 (.alt 12 false (.take 13 (.alt 14 false (.done) (.stop))) (.stop))) (.stop))) (.stop)) (.stop)) (.stop)))))))
def pe_7_7 : Bool := true
/-- 17 operations, 18 nodes, looks at memory: true -/
def pl_7_11 : Plan := .take 0 (.take 1 (.take 2 (.take 3 (.take 4 (.take 5 (.take 6 (.take 7 (.take 8 (.take 9 (.alt 10 true (.take 11 (.alt 12 false (.take 13 (.alt 14 false (.take 15 (.alt 16 false (.done) (.stop))) (.stop))) (.stop))) (.stop)))))))))))
def pe_7_11 : Bool := true
/-- 8 operations, 9 nodes, looks at memory: true -/
def pl_7_19 : Plan := .take 0 (.take 1 (.take 2 (.take 3 (.alt 4 true (.alt 5 false (.take 6 (.alt 7 false (.done) (.stop))) (.stop)) (.stop)))))
def pe_7_19 : Bool := true
/-- 14 operations, 15 nodes, looks at memory: true -/
def pl_7_21 : Plan := .take 0 (.take 1 (.take 2 (.alt 3 true (.take 4 (.take 5 (.take 6 (.take 7 (.take 8 (.take 9 (.alt 10 true (.take 11 (.take 12 (.take 13 (.done)))) (.stop)))))))) (.stop))))
def pe_7_21 : Bool := true
/-- 8 operations, 61 nodes, looks at memory: true -/
def pl_8_1 : Plan := .take 0 (.take 2 (.alt 1 true (.alt 3 false (.alt 4 true (.alt 5 true (.alt 6 false (.alt 7 false (.done) (.stop)) (.stop)) (.stop)) (.alt 5 true (.alt 4 true (.alt 6 false (.alt 7 false (.done) (.stop)) (.stop)) (.stop)) (.stop))) (.alt 4 true (.alt 3 false (.alt 5 true (.alt 6 false (.alt 7 false (.done) (.stop)) (.stop)) (.stop)) (.alt 5 true (.alt 3 false (.alt 6 false (.alt 7 false (.done) (.stop)) (.stop)) (.stop)) (.stop))) (.alt 5 true (.alt 3 false (.alt 4 true (.alt 6 false (.alt 7 false (.done) (.stop)) (.stop)) (.stop)) (.alt 4 true (.alt 3 false (.alt 6 false (.alt 7 false (.done) (.stop)) (.stop)) (.stop)) (.stop))) (.stop)))) (.alt 4 true (.alt 1 true (.alt 3 false (.alt 5 true (.alt 6 false (.alt 7 false (.done) (.stop)) (.stop)) (.stop)) (.alt 5 true (.alt 3 false (.alt 6 false (.alt 7 false (.done) (.stop)) (.stop)) (.stop)) (.stop))) (.alt 5 true (.alt 1 true (.alt 3 false (.alt 6 false (.alt 7 false (.done) (.stop)) (.stop)) (.stop)) (.stop)) (.stop))) (.alt 5 true (.alt 1 true (.alt 3 false (.alt 4 true (.alt 6 false (.alt 7 false (.done) (.stop)) (.stop)) (.stop)) (.alt 4 true (.alt 3 false (.alt 6 false (.alt 7 false (.done) (.stop)) (.stop)) (.stop)) (.stop))) (.alt 4 true (.alt 1 true (.alt 3 false (.alt 6 false (.alt 7 false (.done) (.stop)) (.stop)) (.stop)) (.stop)) (.stop))) (.stop)))))
def pe_8_1 : Bool := true
/-- 4 operations, 5 nodes, looks at memory: true -/
def pl_8_2 : Plan := .take 0 (.take 1 (.alt 2 false (.take 3 (.done)) (.stop)))
def pe_8_2 : Bool := true
/-- 14 operations, 15 nodes, looks at memory: true -/
def pl_10_1 : Plan := .take 0 (.take 1 (.take 2 (.take 3 (.take 4 (.take 5 (.take 6 (.take 7 (.take 8 (.take 9 (.take 10 (.alt 11 true (.take 12 (.take 13 (.done))) (.stop))))))))))))
def pe_10_1 : Bool := true
/-- 26 operations, 77 nodes, looks at memory: true -/
def pl_20_1 : Plan := .take 0 (.take 1 (.take 2 (.take 3 (.take 4 (.take 5 (.take 6 (.take 7 (.take 8 (.take 10 (.take 11 (.take 12 (.take 13 (.take 16 (.take 17 (.take 18 (.take 19 (.take 20 (.take 21 (.alt 9 true (.alt 14 true (.alt 15 true (.alt 22 true (.take 23 (.alt 24 true (.alt 25 false (.done) (.stop)) (.stop))) (.alt 24 true (.alt 22 true (.take 23 (.alt 25 false (.done) (.stop))) (.stop)) (.stop))) (.alt 24 true (.alt 15 true (.alt 22 true (.take 23 (.alt 25 false (.done) (.stop))) (.stop)) (.stop)) (.stop))) (.alt 24 true (.alt 14 true (.alt 15 true (.alt 22 true (.take 23 (.alt 25 false (.done) (.stop))) (.stop)) (.stop)) (.stop)) (.stop))) (.alt 14 true (.alt 9 true (.alt 15 true (.alt 22 true (.take 23 (.alt 24 true (.alt 25 false (.done) (.stop)) (.stop))) (.alt 24 true (.alt 22 true (.take 23 (.alt 25 false (.done) (.stop))) (.stop)) (.stop))) (.alt 24 true (.alt 15 true (.alt 22 true (.take 23 (.alt 25 false (.done) (.stop))) (.stop)) (.stop)) (.stop))) (.alt 24 true (.alt 9 true (.alt 15 true (.alt 22 true (.take 23 (.alt 25 false (.done) (.stop))) (.stop)) (.stop)) (.stop)) (.stop))) (.alt 24 true (.alt 9 true (.alt 14 true (.alt 15 true (.alt 22 true (.take 23 (.alt 25 false (.done) (.stop))) (.stop)) (.stop)) (.stop)) (.alt 14 true (.alt 9 true (.alt 15 true (.alt 22 true (.take 23 (.alt 25 false (.done) (.stop))) (.stop)) (.stop)) (.stop)) (.stop))) (.stop))))))))))))))))))))))
def pe_20_1 : Bool := true
/-- 8 operations, 12 nodes, looks at memory: true -/
def pl_20_2 : Plan := .take 0 (.take 1 (.take 2 (.take 3 (.take 4 (.alt 5 false (.alt 6 true (.alt 7 false (.done) (.stop)) (.stop)) (.alt 6 true (.alt 5 false (.alt 7 false (.done) (.stop)) (.stop)) (.stop)))))))
def pe_20_2 : Bool := true
/-- 8 operations, 9 nodes, looks at memory: true -/
def pl_24_5 : Plan := .take 0 (.take 1 (.take 2 (.take 3 (.take 4 (.alt 5 true (.take 6 (.alt 7 false (.done) (.stop))) (.stop))))))
def pe_24_5 : Bool := true
/-- 8 operations, 9 nodes, looks at memory: true -/
def pl_24_9 : Plan := .take 0 (.take 1 (.take 2 (.take 3 (.take 4 (.alt 5 true (.take 6 (.alt 7 false (.done) (.stop))) (.stop))))))
def pe_24_9 : Bool := true
/-- 8 operations, 9 nodes, looks at memory: true -/
def pl_24_11 : Plan := .take 0 (.take 1 (.take 2 (.take 3 (.take 4 (.alt 5 true (.take 6 (.alt 7 false (.done) (.stop))) (.stop))))))
def pe_24_11 : Bool := true
/-- 8 operations, 9 nodes, looks at memory: true -/
def pl_28_1 : Plan := .take 0 (.take 1 (.take 2 (.take 3 (.take 4 (.take 5 (.take 6 (.take 7 (.done))))))))
def pe_28_1 : Bool := true
/-- 12 operations, 13 nodes, looks at memory: true -/
def pl_29_1 : Plan := .take 0 (.take 1 (.take 2 (.take 3 (.take 4 (.take 5 (.take 6 (.take 7 (.take 8 (.take 9 (.take 10 (.take 11 (.done))))))))))))
def pe_29_1 : Bool := true
/-- 26 operations, 27 nodes, looks at memory: true -/
def pl_31_1 : Plan := .take 0 (.take 1 (.take 2 (.take 3 (.take 4 (.take 5 (.take 6 (.take 7 (.take 8 (.take 9 (.take 10 (.take 11 (.take 12 (.take 13 (.take 14 (.take 15 (.take 16 (.take 17 (.take 18 (.take 19 (.take 20 (.take 21 (.take 22 (.take 23 (.take 24 (.take 25 (.done))))))))))))))))))))))))))
def pe_31_1 : Bool := true
/-- 12 operations, 13 nodes, looks at memory: true -/
def pl_32_1 : Plan := .take 0 (.take 1 (.take 2 (.take 3 (.take 4 (.take 5 (.take 6 (.take 7 (.alt 8 true (.take 9 (.take 10 (.take 11 (.done)))) (.stop)))))))))
def pe_32_1 : Bool := true
/-- 18 operations, 19 nodes, looks at memory: true -/
def pl_34_1 : Plan := .take 0 (.take 1 (.take 2 (.take 3 (.take 4 (.take 5 (.take 6 (.take 7 (.take 8 (.take 9 (.take 10 (.take 11 (.take 12 (.alt 13 true (.take 14 (.take 15 (.take 16 (.take 17 (.done))))) (.stop))))))))))))))
def pe_34_1 : Bool := true
/-- 12 operations, 13 nodes, looks at memory: true -/
def pl_36_1 : Plan := .take 0 (.take 1 (.take 2 (.take 3 (.take 4 (.take 5 (.take 6 (.take 7 (.alt 8 true (.take 9 (.take 10 (.take 11 (.done)))) (.stop)))))))))
def pe_36_1 : Bool := true
/-- 11 operations, 12 nodes, looks at memory: true -/
def pl_38_1 : Plan := .take 0 (.take 1 (.take 2 (.take 3 (.take 4 (.take 5 (.take 6 (.take 7 (.take 8 (.take 9 (.take 10 (.done)))))))))))
def pe_38_1 : Bool := true
/-- 11 operations, 12 nodes, looks at memory: true -/
def pl_39_1 : Plan := .take 0 (.take 1 (.take 2 (.take 3 (.take 4 (.take 5 (.take 6 (.take 7 (.take 8 (.take 9 (.take 10 (.done)))))))))))
def pe_39_1 : Bool := true
/-- 12 operations, 13 nodes, looks at memory: true -/
def pl_40_1 : Plan := .take 0 (.take 1 (.take 2 (.take 3 (.take 4 (.take 5 (.take 6 (.take 7 (.alt 8 true (.take 9 (.take 10 (.take 11 (.done)))) (.stop)))))))))
def pe_40_1 : Bool := true
/-- 14 operations, 22 nodes, looks at memory: true -/
def pl_42_2 : Plan := .take 0 (.take 1 (.take 2 (.take 3 (.take 4 (.take 5 (.take 6 (.alt 7 true (.take 8 (.take 9 (.take 10 (.alt 11 true (.alt 12 false (.take 13 (.done)) (.stop)) (.stop))))) (.alt 11 true (.alt 7 true (.take 8 (.take 9 (.take 10 (.alt 12 false (.take 13 (.done)) (.stop))))) (.stop)) (.stop)))))))))
def pe_42_2 : Bool := true
/-- 8 operations, 9 nodes, looks at memory: true -/
def pl_42_4 : Plan := .take 0 (.take 1 (.take 2 (.take 3 (.take 4 (.take 5 (.take 6 (.take 7 (.done))))))))
def pe_42_4 : Bool := true
/-- 9 operations, 10 nodes, looks at memory: true -/
def pl_44_11 : Plan := .take 0 (.take 1 (.take 2 (.take 3 (.take 4 (.take 5 (.take 6 (.take 7 (.alt 8 false (.done) (.stop)))))))))
def pe_44_11 : Bool := true
/-- 9 operations, 10 nodes, looks at memory: true -/
def pl_44_15 : Plan := .take 0 (.take 1 (.take 2 (.take 3 (.take 4 (.take 5 (.take 6 (.take 7 (.alt 8 false (.done) (.stop)))))))))
def pe_44_15 : Bool := true
/-- 16 operations, 17 nodes, looks at memory: true -/
def pl_48_2 : Plan := .take 0 (.take 2 (.take 4 (.take 6 (.alt 1 true (.take 8 (.alt 3 true (.alt 5 true (.alt 7 true (.alt 9 true (.take 10 (.alt 11 true (.take 12 (.alt 13 true (.take 14 (.alt 15 false (.done) (.stop))) (.stop))) (.stop))) (.stop)) (.stop)) (.stop)) (.stop))) (.stop)))))
def pe_48_2 : Bool := true
/-- 8 operations, 9 nodes, looks at memory: true -/
def pl_65_1 : Plan := .take 0 (.take 2 (.take 3 (.take 4 (.alt 1 true (.alt 5 true (.take 6 (.alt 7 false (.done) (.stop))) (.stop)) (.stop)))))
def pe_65_1 : Bool := true
/-- 15 operations, 16 nodes, looks at memory: true -/
def pl_84_2 : Plan := .take 0 (.take 1 (.take 2 (.take 3 (.take 4 (.take 5 (.take 6 (.take 7 (.take 8 (.take 9 (.take 10 (.take 11 (.take 12 (.take 13 (.take 14 (.done)))))))))))))))
def pe_84_2 : Bool := true
/-- 7 operations, 8 nodes, looks at memory: true -/
def pl_84_5 : Plan := .take 0 (.take 1 (.take 2 (.take 3 (.take 4 (.alt 5 false (.take 6 (.done)) (.stop))))))
def pe_84_5 : Bool := true
/-- 42 operations, 43 nodes, looks at memory: true -/
def pl_84_6 : Plan := .take 0 (.alt 1 true (.take 2 (.take 3 (.take 4 (.take 5 (.take 6 (.take 7 (.take 8 (.take 9 (.alt 10 true (.take 11 (.take 12 (.take 13 (.take 14 (.take 15 (.take 16 (.take 17 (.take 18 (.take 19 (.take 20 (.take 21 (.take 22 (.take 23 (.take 24 (.take 25 (.take 26 (.take 27 (.take 28 (.take 29 (.take 30 (.take 31 (.take 32 (.take 33 (.take 34 (.take 35 (.take 36 (.take 37 (.take 38 (.take 39 (.take 40 (.take 41 (.done)))))))))))))))))))))))))))))))) (.stop)))))))))) (.stop))
def pe_84_6 : Bool := true
/-- 30 operations, 31 nodes, looks at memory: true -/
def pl_85_6 : Plan := .take 0 (.alt 1 true (.take 2 (.take 3 (.take 4 (.take 5 (.take 6 (.take 7 (.take 8 (.take 9 (.take 10 (.take 11 (.take 12 (.take 13 (.take 14 (.take 15 (.take 16 (.take 17 (.take 18 (.take 19 (.take 20 (.take 21 (.take 22 (.take 23 (.take 24 (.take 25 (.take 26 (.take 27 (.take 28 (.take 29 (.done))))))))))))))))))))))))))))) (.stop))
def pe_85_6 : Bool := true
/-- 16 operations, 17 nodes, looks at memory: true -/
def pl_86_3 : Plan := .take 0 (.take 1 (.take 2 (.take 3 (.take 4 (.take 5 (.take 6 (.take 7 (.take 8 (.take 9 (.take 10 (.take 11 (.take 12 (.alt 13 false (.take 14 (.alt 15 false (.done) (.stop))) (.stop))))))))))))))
def pe_86_3 : Bool := true
instance : Laid Tryd.prog := ⟨utf8Tabs 0 1⟩
def planTab : PlanTab := [(3, [(20, pe_3_20, Mode.ext, pl_3_20)]), (7, [(7, pe_7_7, Mode.ext, pl_7_7), (11, pe_7_11, Mode.ext, pl_7_11), (19, pe_7_19, Mode.ext, pl_7_19), (21, pe_7_21, Mode.ext, pl_7_21)]), (8, [(1, pe_8_1, Mode.ext, pl_8_1), (2, pe_8_2, Mode.ext, pl_8_2), (1000000, false, Mode.ext, Plan.stop)]), (10, [(1, pe_10_1, Mode.ext, pl_10_1), (1000000, false, Mode.ext, Plan.stop)]), (11, [(1000000, false, Mode.ext, Plan.stop)]), (20, [(1, pe_20_1, Mode.ext, pl_20_1), (2, pe_20_2, Mode.ext, pl_20_2)]), (24, [(5, pe_24_5, Mode.only [1], pl_24_5), (9, pe_24_9, Mode.only [1], pl_24_9), (11, pe_24_11, Mode.only [1], pl_24_11)]), (28, [(1, pe_28_1, Mode.ext, pl_28_1)]), (29, [(1, pe_29_1, Mode.ext, pl_29_1)]), (31, [(1, pe_31_1, Mode.ext, pl_31_1)]), (32, [(1, pe_32_1, Mode.ext, pl_32_1)]), (34, [(1, pe_34_1, Mode.ext, pl_34_1)]), (36, [(1, pe_36_1, Mode.ext, pl_36_1)]), (38, [(1, pe_38_1, Mode.ext, pl_38_1)]), (39, [(1, pe_39_1, Mode.ext, pl_39_1)]), (40, [(1, pe_40_1, Mode.ext, pl_40_1)]), (42, [(2, pe_42_2, Mode.ext, pl_42_2), (4, pe_42_4, Mode.ext, pl_42_4)]), (44, [(11, pe_44_11, Mode.ext, pl_44_11), (15, pe_44_15, Mode.ext, pl_44_15)]), (48, [(2, pe_48_2, Mode.only [1], pl_48_2)]), (65, [(1, pe_65_1, Mode.ext, pl_65_1)]), (69, [(1000000, false, Mode.ext, Plan.stop)]), (84, [(2, pe_84_2, Mode.ext, pl_84_2), (5, pe_84_5, Mode.ext, pl_84_5), (6, pe_84_6, Mode.ext, pl_84_6)]), (85, [(6, pe_85_6, Mode.ext, pl_85_6)]), (86, [(3, pe_86_3, Mode.ext, pl_86_3)])]
end Go.Proofs.YtoccjilbfkhmoaaDoor
