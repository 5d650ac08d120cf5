/-
  Facts about this program's types, by program.
-/
import Derived.Test.YtnfnkmodcjkabaaDoorAbsC
import Derived.Test.YtnfnkmodcjkabaaDoorProg
set_option linter.unusedVariables false
namespace Go.Proofs.YtnfnkmodcjkabaaDoor
open Go Go.Abs Go.Proofs
@[simp] theorem qsize_2 : qsize Tryd.prog 2 = some 1 := by kernel_rfl
@[simp] theorem qbytes_2 : qbytes Tryd.prog 2 = some 8 := by kernel_rfl
@[simp] theorem qagg_2 : qagg Tryd.prog 2 = some false := by kernel_rfl
@[simp] theorem qzero_2 : qzero Tryd.prog 2 = some (V.i Go.IntKind.i64 (0)) := by kernel_rfl
@[simp] theorem qint_2 : qint Tryd.prog 2 = some Go.IntKind.i64 := by kernel_rfl
@[simp] theorem keqi_2 (a c : Int) : keq Tryd.prog 2 (.i Go.IntKind.i64 a) (.i Go.IntKind.i64 c) = some (a == c) := keq_i qint_2
@[simp] theorem qconcrete_2 : qconcrete Tryd.prog 2 = true := by kernel_rfl
@[simp] theorem qkey_2 : qkey Tryd.prog 2 = true := by kernel_rfl
@[simp] theorem qplainKey_2 : qplainKey Tryd.prog 2 = true := by kernel_rfl
@[simp] theorem kf_2 (k : V) : keyFits Tryd.prog 2 k = true := keyFits_plain qplainKey_2
@[simp] theorem qthere_2 : qthere Tryd.prog 2 = true := by kernel_rfl
@[simp] theorem cellsOf_2 : Go.Program.cellsOf Tryd.prog 2 = 1 := by kernel_rfl
@[simp] theorem bytesOf_2 : Go.Program.bytesOf Tryd.prog 2 = 8 := by kernel_rfl
@[simp] theorem qsize_3 : qsize Tryd.prog 3 = some 1 := by kernel_rfl
@[simp] theorem qbytes_3 : qbytes Tryd.prog 3 = some 8 := by kernel_rfl
@[simp] theorem qagg_3 : qagg Tryd.prog 3 = some false := by kernel_rfl
@[simp] theorem qzero_3 : qzero Tryd.prog 3 = some (V.i Go.IntKind.i64 (0)) := by kernel_rfl
@[simp] theorem qint_3 : qint Tryd.prog 3 = some Go.IntKind.i64 := by kernel_rfl
@[simp] theorem keqi_3 (a c : Int) : keq Tryd.prog 3 (.i Go.IntKind.i64 a) (.i Go.IntKind.i64 c) = some (a == c) := keq_i qint_3
@[simp] theorem qconcrete_3 : qconcrete Tryd.prog 3 = true := by kernel_rfl
@[simp] theorem qkey_3 : qkey Tryd.prog 3 = true := by kernel_rfl
@[simp] theorem qplainKey_3 : qplainKey Tryd.prog 3 = true := by kernel_rfl
@[simp] theorem kf_3 (k : V) : keyFits Tryd.prog 3 k = true := keyFits_plain qplainKey_3
@[simp] theorem qthere_3 : qthere Tryd.prog 3 = true := by kernel_rfl
@[simp] theorem cellsOf_3 : Go.Program.cellsOf Tryd.prog 3 = 1 := by kernel_rfl
@[simp] theorem bytesOf_3 : Go.Program.bytesOf Tryd.prog 3 = 8 := by kernel_rfl
@[simp] theorem qsize_4 : qsize Tryd.prog 4 = some 1 := by kernel_rfl
@[simp] theorem qbytes_4 : qbytes Tryd.prog 4 = some 1 := by kernel_rfl
@[simp] theorem qagg_4 : qagg Tryd.prog 4 = some false := by kernel_rfl
@[simp] theorem qzero_4 : qzero Tryd.prog 4 = some (V.b false) := by kernel_rfl
@[simp] theorem qconcrete_4 : qconcrete Tryd.prog 4 = true := by kernel_rfl
@[simp] theorem qbool_4 : qbool Tryd.prog 4 = true := by kernel_rfl
@[simp] theorem bb_4 (x y : Bool) : aeq Tryd.prog 4 (.b x) (.b y) = some (x == y) := aeq_bb qbool_4
@[simp] theorem qthere_4 : qthere Tryd.prog 4 = true := by kernel_rfl
@[simp] theorem cellsOf_4 : Go.Program.cellsOf Tryd.prog 4 = 1 := by kernel_rfl
@[simp] theorem bytesOf_4 : Go.Program.bytesOf Tryd.prog 4 = 1 := by kernel_rfl
@[simp] theorem qsize_5 : qsize Tryd.prog 5 = some 1 := by kernel_rfl
@[simp] theorem qbytes_5 : qbytes Tryd.prog 5 = some 1 := by kernel_rfl
@[simp] theorem qagg_5 : qagg Tryd.prog 5 = some false := by kernel_rfl
@[simp] theorem qzero_5 : qzero Tryd.prog 5 = some (V.i Go.IntKind.u8 (0)) := by kernel_rfl
@[simp] theorem qint_5 : qint Tryd.prog 5 = some Go.IntKind.u8 := by kernel_rfl
@[simp] theorem keqi_5 (a c : Int) : keq Tryd.prog 5 (.i Go.IntKind.u8 a) (.i Go.IntKind.u8 c) = some (a == c) := keq_i qint_5
@[simp] theorem qconcrete_5 : qconcrete Tryd.prog 5 = true := by kernel_rfl
@[simp] theorem qkey_5 : qkey Tryd.prog 5 = true := by kernel_rfl
@[simp] theorem qplainKey_5 : qplainKey Tryd.prog 5 = true := by kernel_rfl
@[simp] theorem kf_5 (k : V) : keyFits Tryd.prog 5 k = true := keyFits_plain qplainKey_5
@[simp] theorem qthere_5 : qthere Tryd.prog 5 = true := by kernel_rfl
@[simp] theorem cellsOf_5 : Go.Program.cellsOf Tryd.prog 5 = 1 := by kernel_rfl
@[simp] theorem bytesOf_5 : Go.Program.bytesOf Tryd.prog 5 = 1 := by kernel_rfl
@[simp] theorem qsize_9 : qsize Tryd.prog 9 = some 1 := by kernel_rfl
@[simp] theorem qbytes_9 : qbytes Tryd.prog 9 = some 16 := by kernel_rfl
@[simp] theorem qagg_9 : qagg Tryd.prog 9 = some false := by kernel_rfl
@[simp] theorem qzero_9 : qzero Tryd.prog 9 = some (V.s []) := by kernel_rfl
@[simp] theorem qstr_9 : qstr Tryd.prog 9 = true := by kernel_rfl
@[simp] theorem keqs_9 (a c : List UInt8) : keq Tryd.prog 9 (.s a) (.s c) = some (a == c) := keq_s qstr_9
@[simp] theorem qconcrete_9 : qconcrete Tryd.prog 9 = true := by kernel_rfl
@[simp] theorem qkey_9 : qkey Tryd.prog 9 = true := by kernel_rfl
@[simp] theorem qsrc_9 : qsrc Tryd.prog 9 = true := by kernel_rfl
@[simp] theorem qplainKey_9 : qplainKey Tryd.prog 9 = true := by kernel_rfl
@[simp] theorem kf_9 (k : V) : keyFits Tryd.prog 9 k = true := keyFits_plain qplainKey_9
@[simp] theorem qthere_9 : qthere Tryd.prog 9 = true := by kernel_rfl
@[simp] theorem cellsOf_9 : Go.Program.cellsOf Tryd.prog 9 = 1 := by kernel_rfl
@[simp] theorem bytesOf_9 : Go.Program.bytesOf Tryd.prog 9 = 16 := by kernel_rfl
@[simp] theorem qsize_21 : qsize Tryd.prog 21 = some 1 := by kernel_rfl
@[simp] theorem qbytes_21 : qbytes Tryd.prog 21 = some 4 := by kernel_rfl
@[simp] theorem qagg_21 : qagg Tryd.prog 21 = some false := by kernel_rfl
@[simp] theorem qzero_21 : qzero Tryd.prog 21 = some (V.i Go.IntKind.i32 (0)) := by kernel_rfl
@[simp] theorem qint_21 : qint Tryd.prog 21 = some Go.IntKind.i32 := by kernel_rfl
@[simp] theorem keqi_21 (a c : Int) : keq Tryd.prog 21 (.i Go.IntKind.i32 a) (.i Go.IntKind.i32 c) = some (a == c) := keq_i qint_21
@[simp] theorem qconcrete_21 : qconcrete Tryd.prog 21 = true := by kernel_rfl
@[simp] theorem qkey_21 : qkey Tryd.prog 21 = true := by kernel_rfl
@[simp] theorem qplainKey_21 : qplainKey Tryd.prog 21 = true := by kernel_rfl
@[simp] theorem kf_21 (k : V) : keyFits Tryd.prog 21 k = true := keyFits_plain qplainKey_21
@[simp] theorem qthere_21 : qthere Tryd.prog 21 = true := by kernel_rfl
@[simp] theorem cellsOf_21 : Go.Program.cellsOf Tryd.prog 21 = 1 := by kernel_rfl
@[simp] theorem bytesOf_21 : Go.Program.bytesOf Tryd.prog 21 = 4 := by kernel_rfl
@[simp] theorem qsize_22 : qsize Tryd.prog 22 = some 1 := by kernel_rfl
@[simp] theorem qbytes_22 : qbytes Tryd.prog 22 = some 4 := by kernel_rfl
@[simp] theorem qagg_22 : qagg Tryd.prog 22 = some false := by kernel_rfl
@[simp] theorem qzero_22 : qzero Tryd.prog 22 = some (V.i Go.IntKind.u32 (0)) := by kernel_rfl
@[simp] theorem qint_22 : qint Tryd.prog 22 = some Go.IntKind.u32 := by kernel_rfl
@[simp] theorem keqi_22 (a c : Int) : keq Tryd.prog 22 (.i Go.IntKind.u32 a) (.i Go.IntKind.u32 c) = some (a == c) := keq_i qint_22
@[simp] theorem qconcrete_22 : qconcrete Tryd.prog 22 = true := by kernel_rfl
@[simp] theorem qkey_22 : qkey Tryd.prog 22 = true := by kernel_rfl
@[simp] theorem qplainKey_22 : qplainKey Tryd.prog 22 = true := by kernel_rfl
@[simp] theorem kf_22 (k : V) : keyFits Tryd.prog 22 k = true := keyFits_plain qplainKey_22
@[simp] theorem qthere_22 : qthere Tryd.prog 22 = true := by kernel_rfl
@[simp] theorem cellsOf_22 : Go.Program.cellsOf Tryd.prog 22 = 1 := by kernel_rfl
@[simp] theorem bytesOf_22 : Go.Program.bytesOf Tryd.prog 22 = 4 := by kernel_rfl
@[simp] theorem qsize_24 : qsize Tryd.prog 24 = some 8 := by kernel_rfl
@[simp] theorem qbytes_24 : qbytes Tryd.prog 24 = some 56 := by kernel_rfl
@[simp] theorem qagg_24 : qagg Tryd.prog 24 = some true := by kernel_rfl
@[simp] theorem qzero_24 : qzero Tryd.prog 24 = some   (V.agg     [V.i Go.IntKind.i64 (0), V.i Go.IntKind.i64 (0), V.i Go.IntKind.i64 (0),       V.i Go.IntKind.i64 (0), V.i Go.IntKind.i64 (0), V.i Go.IntKind.i64 (0),       V.i Go.IntKind.u32 (0), V.i Go.IntKind.u32 (0)]) := by kernel_rfl
@[simp] theorem qplaces_24 : qplaces Tryd.prog 24 = some [(0, 1), (1, 1), (2, 1), (3, 1), (4, 1), (5, 1), (6, 1), (7, 1)] := by kernel_rfl
@[simp] theorem qconcrete_24 : qconcrete Tryd.prog 24 = true := by kernel_rfl
@[simp] theorem qkey_24 : qkey Tryd.prog 24 = true := by kernel_rfl
@[simp] theorem qthere_24 : qthere Tryd.prog 24 = true := by kernel_rfl
@[simp] theorem qeq_24 : qeq Tryd.prog 24 = some   [CK.i Go.IntKind.i64, CK.i Go.IntKind.i64, CK.i Go.IntKind.i64, CK.i Go.IntKind.i64, CK.i Go.IntKind.i64,     CK.i Go.IntKind.i64, CK.i Go.IntKind.u32, CK.i Go.IntKind.u32] := by kernel_rfl
@[simp] theorem cellsOf_24 : Go.Program.cellsOf Tryd.prog 24 = 8 := by kernel_rfl
@[simp] theorem bytesOf_24 : Go.Program.bytesOf Tryd.prog 24 = 56 := by kernel_rfl
@[simp] theorem qsize_25 : qsize Tryd.prog 25 = some 1 := by kernel_rfl
@[simp] theorem qbytes_25 : qbytes Tryd.prog 25 = some 24 := by kernel_rfl
@[simp] theorem qagg_25 : qagg Tryd.prog 25 = some false := by kernel_rfl
@[simp] theorem qzero_25 : qzero Tryd.prog 25 = some (V.sl none 0 false) := by kernel_rfl
@[simp] theorem qconcrete_25 : qconcrete Tryd.prog 25 = true := by kernel_rfl
@[simp] theorem qsrc_25 : qsrc Tryd.prog 25 = true := by kernel_rfl
@[simp] theorem qthere_25 : qthere Tryd.prog 25 = true := by kernel_rfl
@[simp] theorem cellsOf_25 : Go.Program.cellsOf Tryd.prog 25 = 1 := by kernel_rfl
@[simp] theorem bytesOf_25 : Go.Program.bytesOf Tryd.prog 25 = 24 := by kernel_rfl
@[simp] theorem qelem_25 : qelem Tryd.prog 25 = some 43 := by kernel_rfl
@[simp] theorem qsize_26 : qsize Tryd.prog 26 = some 1 := by kernel_rfl
@[simp] theorem qbytes_26 : qbytes Tryd.prog 26 = some 24 := by kernel_rfl
@[simp] theorem qagg_26 : qagg Tryd.prog 26 = some false := by kernel_rfl
@[simp] theorem qzero_26 : qzero Tryd.prog 26 = some (V.sl none 0 false) := by kernel_rfl
@[simp] theorem qconcrete_26 : qconcrete Tryd.prog 26 = true := by kernel_rfl
@[simp] theorem qsrc_26 : qsrc Tryd.prog 26 = true := by kernel_rfl
@[simp] theorem qthere_26 : qthere Tryd.prog 26 = true := by kernel_rfl
@[simp] theorem cellsOf_26 : Go.Program.cellsOf Tryd.prog 26 = 1 := by kernel_rfl
@[simp] theorem bytesOf_26 : Go.Program.bytesOf Tryd.prog 26 = 24 := by kernel_rfl
@[simp] theorem qelem_26 : qelem Tryd.prog 26 = some 53 := by kernel_rfl
@[simp] theorem qsize_28 : qsize Tryd.prog 28 = some 14 := by kernel_rfl
@[simp] theorem qbytes_28 : qbytes Tryd.prog 28 = some 136 := by kernel_rfl
@[simp] theorem qagg_28 : qagg Tryd.prog 28 = some true := by kernel_rfl
@[simp] theorem qzero_28 : qzero Tryd.prog 28 = some   (V.agg     [V.i Go.IntKind.i64 (0), V.i Go.IntKind.i64 (0), V.i Go.IntKind.i64 (0),       V.i Go.IntKind.i64 (0), V.i Go.IntKind.i64 (0), V.i Go.IntKind.i64 (0),       V.i Go.IntKind.i64 (0), V.i Go.IntKind.i64 (0), V.i Go.IntKind.i64 (0),       V.i Go.IntKind.i64 (0), V.i Go.IntKind.u32 (0), V.i Go.IntKind.u32 (0),       V.sl none 0 false, V.sl none 0 false]) := by kernel_rfl
@[simp] theorem qplaces_28 : qplaces Tryd.prog 28 = some [(0, 1), (1, 1), (2, 1), (3, 1), (4, 8), (12, 1), (13, 1)] := by kernel_rfl
@[simp] theorem qconcrete_28 : qconcrete Tryd.prog 28 = true := by kernel_rfl
@[simp] theorem qthere_28 : qthere Tryd.prog 28 = true := by kernel_rfl
@[simp] theorem cellsOf_28 : Go.Program.cellsOf Tryd.prog 28 = 14 := by kernel_rfl
@[simp] theorem bytesOf_28 : Go.Program.bytesOf Tryd.prog 28 = 136 := by kernel_rfl
@[simp] theorem qsize_31 : qsize Tryd.prog 31 = some 1 := by kernel_rfl
@[simp] theorem qbytes_31 : qbytes Tryd.prog 31 = some 8 := by kernel_rfl
@[simp] theorem qagg_31 : qagg Tryd.prog 31 = some false := by kernel_rfl
@[simp] theorem qzero_31 : qzero Tryd.prog 31 = some (V.i Go.IntKind.i64 (0)) := by kernel_rfl
@[simp] theorem qint_31 : qint Tryd.prog 31 = some Go.IntKind.i64 := by kernel_rfl
@[simp] theorem keqi_31 (a c : Int) : keq Tryd.prog 31 (.i Go.IntKind.i64 a) (.i Go.IntKind.i64 c) = some (a == c) := keq_i qint_31
@[simp] theorem qconcrete_31 : qconcrete Tryd.prog 31 = true := by kernel_rfl
@[simp] theorem qkey_31 : qkey Tryd.prog 31 = true := by kernel_rfl
@[simp] theorem qplainKey_31 : qplainKey Tryd.prog 31 = true := by kernel_rfl
@[simp] theorem kf_31 (k : V) : keyFits Tryd.prog 31 k = true := keyFits_plain qplainKey_31
@[simp] theorem qthere_31 : qthere Tryd.prog 31 = true := by kernel_rfl
@[simp] theorem cellsOf_31 : Go.Program.cellsOf Tryd.prog 31 = 1 := by kernel_rfl
@[simp] theorem bytesOf_31 : Go.Program.bytesOf Tryd.prog 31 = 8 := by kernel_rfl
@[simp] theorem qsize_33 : qsize Tryd.prog 33 = some 1 := by kernel_rfl
@[simp] theorem qbytes_33 : qbytes Tryd.prog 33 = some 24 := by kernel_rfl
@[simp] theorem qagg_33 : qagg Tryd.prog 33 = some false := by kernel_rfl
@[simp] theorem qzero_33 : qzero Tryd.prog 33 = some (V.sl none 0 false) := by kernel_rfl
@[simp] theorem qconcrete_33 : qconcrete Tryd.prog 33 = true := by kernel_rfl
@[simp] theorem qsrc_33 : qsrc Tryd.prog 33 = true := by kernel_rfl
@[simp] theorem qbs_33 : qbs Tryd.prog 33 = true := by kernel_rfl
@[simp] theorem qthere_33 : qthere Tryd.prog 33 = true := by kernel_rfl
@[simp] theorem cellsOf_33 : Go.Program.cellsOf Tryd.prog 33 = 1 := by kernel_rfl
@[simp] theorem bytesOf_33 : Go.Program.bytesOf Tryd.prog 33 = 24 := by kernel_rfl
@[simp] theorem qelem_33 : qelem Tryd.prog 33 = some 5 := by kernel_rfl
@[simp] theorem qsize_38 : qsize Tryd.prog 38 = some 10 := by kernel_rfl
@[simp] theorem qbytes_38 : qbytes Tryd.prog 38 = some 80 := by kernel_rfl
@[simp] theorem qagg_38 : qagg Tryd.prog 38 = some true := by kernel_rfl
@[simp] theorem qzero_38 : qzero Tryd.prog 38 = some   (V.agg     [V.i Go.IntKind.i64 (0), V.i Go.IntKind.i64 (0), V.i Go.IntKind.i64 (0),       V.i Go.IntKind.i64 (0), V.i Go.IntKind.i64 (0), V.i Go.IntKind.i64 (0),       V.i Go.IntKind.i64 (0), V.i Go.IntKind.i64 (0), V.i Go.IntKind.i64 (0),       V.i Go.IntKind.i64 (0)]) := by kernel_rfl
@[simp] theorem qplaces_38 : qplaces Tryd.prog 38 = some [(0, 1), (1, 1), (2, 1), (3, 1), (4, 1), (5, 1), (6, 1), (7, 1), (8, 1), (9, 1)] := by kernel_rfl
@[simp] theorem qconcrete_38 : qconcrete Tryd.prog 38 = true := by kernel_rfl
@[simp] theorem qkey_38 : qkey Tryd.prog 38 = true := by kernel_rfl
@[simp] theorem qthere_38 : qthere Tryd.prog 38 = true := by kernel_rfl
@[simp] theorem qeq_38 : qeq Tryd.prog 38 = some   [CK.i Go.IntKind.i64, CK.i Go.IntKind.i64, CK.i Go.IntKind.i64, CK.i Go.IntKind.i64, CK.i Go.IntKind.i64,     CK.i Go.IntKind.i64, CK.i Go.IntKind.i64, CK.i Go.IntKind.i64, CK.i Go.IntKind.i64, CK.i Go.IntKind.i64] := by kernel_rfl
@[simp] theorem cellsOf_38 : Go.Program.cellsOf Tryd.prog 38 = 10 := by kernel_rfl
@[simp] theorem bytesOf_38 : Go.Program.bytesOf Tryd.prog 38 = 80 := by kernel_rfl
@[simp] theorem qsize_43 : qsize Tryd.prog 43 = some 10 := by kernel_rfl
@[simp] theorem qbytes_43 : qbytes Tryd.prog 43 = some 72 := by kernel_rfl
@[simp] theorem qagg_43 : qagg Tryd.prog 43 = some true := by kernel_rfl
@[simp] theorem qzero_43 : qzero Tryd.prog 43 = some   (V.agg     [V.i Go.IntKind.i64 (0), V.i Go.IntKind.i64 (0), V.i Go.IntKind.i64 (0),       V.i Go.IntKind.i64 (0), V.i Go.IntKind.i64 (0), V.i Go.IntKind.i64 (0),       V.i Go.IntKind.i64 (0), V.i Go.IntKind.i64 (0), V.i Go.IntKind.u32 (0),       V.i Go.IntKind.u32 (0)]) := by kernel_rfl
@[simp] theorem qplaces_43 : qplaces Tryd.prog 43 = some [(0, 1), (1, 1), (2, 8)] := by kernel_rfl
@[simp] theorem qconcrete_43 : qconcrete Tryd.prog 43 = true := by kernel_rfl
@[simp] theorem qkey_43 : qkey Tryd.prog 43 = true := by kernel_rfl
@[simp] theorem qthere_43 : qthere Tryd.prog 43 = true := by kernel_rfl
@[simp] theorem qeq_43 : qeq Tryd.prog 43 = some   [CK.i Go.IntKind.i64, CK.i Go.IntKind.i64, CK.i Go.IntKind.i64, CK.i Go.IntKind.i64, CK.i Go.IntKind.i64,     CK.i Go.IntKind.i64, CK.i Go.IntKind.i64, CK.i Go.IntKind.i64, CK.i Go.IntKind.u32, CK.i Go.IntKind.u32] := by kernel_rfl
@[simp] theorem cellsOf_43 : Go.Program.cellsOf Tryd.prog 43 = 10 := by kernel_rfl
@[simp] theorem bytesOf_43 : Go.Program.bytesOf Tryd.prog 43 = 72 := by kernel_rfl
@[simp] theorem qsize_51 : qsize Tryd.prog 51 = some 1 := by kernel_rfl
@[simp] theorem qbytes_51 : qbytes Tryd.prog 51 = some 8 := by kernel_rfl
@[simp] theorem qagg_51 : qagg Tryd.prog 51 = some false := by kernel_rfl
@[simp] theorem qzero_51 : qzero Tryd.prog 51 = some V.nf := by kernel_rfl
@[simp] theorem qconcrete_51 : qconcrete Tryd.prog 51 = true := by kernel_rfl
@[simp] theorem qthere_51 : qthere Tryd.prog 51 = true := by kernel_rfl
@[simp] theorem cellsOf_51 : Go.Program.cellsOf Tryd.prog 51 = 1 := by kernel_rfl
@[simp] theorem bytesOf_51 : Go.Program.bytesOf Tryd.prog 51 = 8 := by kernel_rfl
@[simp] theorem qsize_53 : qsize Tryd.prog 53 = some 7 := by kernel_rfl
@[simp] theorem qbytes_53 : qbytes Tryd.prog 53 = some 88 := by kernel_rfl
@[simp] theorem qagg_53 : qagg Tryd.prog 53 = some true := by kernel_rfl
@[simp] theorem qzero_53 : qzero Tryd.prog 53 = some   (V.agg     [V.i Go.IntKind.i64 (0), V.s [], V.s [], V.s [], V.s [], V.i Go.IntKind.i64 (0),       V.i Go.IntKind.i64 (0)]) := by kernel_rfl
@[simp] theorem qplaces_53 : qplaces Tryd.prog 53 = some [(0, 1), (1, 1), (2, 1), (3, 1), (4, 1), (5, 1), (6, 1)] := by kernel_rfl
@[simp] theorem qconcrete_53 : qconcrete Tryd.prog 53 = true := by kernel_rfl
@[simp] theorem qkey_53 : qkey Tryd.prog 53 = true := by kernel_rfl
@[simp] theorem qthere_53 : qthere Tryd.prog 53 = true := by kernel_rfl
@[simp] theorem qeq_53 : qeq Tryd.prog 53 = some [CK.i Go.IntKind.i64, CK.s, CK.s, CK.s, CK.s, CK.i Go.IntKind.i64, CK.i Go.IntKind.i64] := by kernel_rfl
@[simp] theorem cellsOf_53 : Go.Program.cellsOf Tryd.prog 53 = 7 := by kernel_rfl
@[simp] theorem bytesOf_53 : Go.Program.bytesOf Tryd.prog 53 = 88 := by kernel_rfl
@[simp] theorem qsize_58 : qsize Tryd.prog 58 = some 1 := by kernel_rfl
@[simp] theorem qbytes_58 : qbytes Tryd.prog 58 = some 8 := by kernel_rfl
@[simp] theorem qagg_58 : qagg Tryd.prog 58 = some false := by kernel_rfl
@[simp] theorem qzero_58 : qzero Tryd.prog 58 = some (V.p none) := by kernel_rfl
@[simp] theorem qconcrete_58 : qconcrete Tryd.prog 58 = true := by kernel_rfl
@[simp] theorem qptr_58 : qptr Tryd.prog 58 = true := by kernel_rfl
@[simp] theorem pnn_58 : aeq Tryd.prog 58 (.p none) (.p none) = some true := aeq_pnn qptr_58
@[simp] theorem psn_58 (q : Nat × Nat × Nat) : aeq Tryd.prog 58 (.p (some q)) (.p none) = some false := aeq_psn qptr_58
@[simp] theorem qthere_58 : qthere Tryd.prog 58 = true := by kernel_rfl
@[simp] theorem cellsOf_58 : Go.Program.cellsOf Tryd.prog 58 = 1 := by kernel_rfl
@[simp] theorem bytesOf_58 : Go.Program.bytesOf Tryd.prog 58 = 8 := by kernel_rfl
@[simp] theorem qsize_68 : qsize Tryd.prog 68 = some 1 := by kernel_rfl
@[simp] theorem qbytes_68 : qbytes Tryd.prog 68 = some 8 := by kernel_rfl
@[simp] theorem qagg_68 : qagg Tryd.prog 68 = some false := by kernel_rfl
@[simp] theorem qzero_68 : qzero Tryd.prog 68 = some (V.p none) := by kernel_rfl
@[simp] theorem qconcrete_68 : qconcrete Tryd.prog 68 = true := by kernel_rfl
@[simp] theorem qptr_68 : qptr Tryd.prog 68 = true := by kernel_rfl
@[simp] theorem pnn_68 : aeq Tryd.prog 68 (.p none) (.p none) = some true := aeq_pnn qptr_68
@[simp] theorem psn_68 (q : Nat × Nat × Nat) : aeq Tryd.prog 68 (.p (some q)) (.p none) = some false := aeq_psn qptr_68
@[simp] theorem qthere_68 : qthere Tryd.prog 68 = true := by kernel_rfl
@[simp] theorem cellsOf_68 : Go.Program.cellsOf Tryd.prog 68 = 1 := by kernel_rfl
@[simp] theorem bytesOf_68 : Go.Program.bytesOf Tryd.prog 68 = 8 := by kernel_rfl
@[simp] theorem qsize_78 : qsize Tryd.prog 78 = some 1 := by kernel_rfl
@[simp] theorem qbytes_78 : qbytes Tryd.prog 78 = some 24 := by kernel_rfl
@[simp] theorem qagg_78 : qagg Tryd.prog 78 = some false := by kernel_rfl
@[simp] theorem qzero_78 : qzero Tryd.prog 78 = some (V.sl none 0 false) := by kernel_rfl
@[simp] theorem qconcrete_78 : qconcrete Tryd.prog 78 = true := by kernel_rfl
@[simp] theorem qsrc_78 : qsrc Tryd.prog 78 = true := by kernel_rfl
@[simp] theorem qthere_78 : qthere Tryd.prog 78 = true := by kernel_rfl
@[simp] theorem cellsOf_78 : Go.Program.cellsOf Tryd.prog 78 = 1 := by kernel_rfl
@[simp] theorem bytesOf_78 : Go.Program.bytesOf Tryd.prog 78 = 24 := by kernel_rfl
@[simp] theorem qelem_78 : qelem Tryd.prog 78 = some 2 := by kernel_rfl
@[simp] theorem qsize_87 : qsize Tryd.prog 87 = some 2 := by kernel_rfl
@[simp] theorem qbytes_87 : qbytes Tryd.prog 87 = some 32 := by kernel_rfl
@[simp] theorem qagg_87 : qagg Tryd.prog 87 = some true := by kernel_rfl
@[simp] theorem qzero_87 : qzero Tryd.prog 87 = some (V.agg [V.sl none 0 false, V.i Go.IntKind.i64 (0)]) := by kernel_rfl
@[simp] theorem qplaces_87 : qplaces Tryd.prog 87 = some [(0, 1), (1, 1)] := by kernel_rfl
@[simp] theorem qconcrete_87 : qconcrete Tryd.prog 87 = true := by kernel_rfl
@[simp] theorem qthere_87 : qthere Tryd.prog 87 = true := by kernel_rfl
@[simp] theorem cellsOf_87 : Go.Program.cellsOf Tryd.prog 87 = 2 := by kernel_rfl
@[simp] theorem bytesOf_87 : Go.Program.bytesOf Tryd.prog 87 = 32 := by kernel_rfl
@[simp] theorem qsize_91 : qsize Tryd.prog 91 = some 1 := by kernel_rfl
@[simp] theorem qbytes_91 : qbytes Tryd.prog 91 = some 8 := by kernel_rfl
@[simp] theorem qagg_91 : qagg Tryd.prog 91 = some false := by kernel_rfl
@[simp] theorem qzero_91 : qzero Tryd.prog 91 = some V.nf := by kernel_rfl
@[simp] theorem qconcrete_91 : qconcrete Tryd.prog 91 = true := by kernel_rfl
@[simp] theorem qthere_91 : qthere Tryd.prog 91 = true := by kernel_rfl
@[simp] theorem cellsOf_91 : Go.Program.cellsOf Tryd.prog 91 = 1 := by kernel_rfl
@[simp] theorem bytesOf_91 : Go.Program.bytesOf Tryd.prog 91 = 8 := by kernel_rfl
@[simp] theorem qsize_94 : qsize Tryd.prog 94 = some 1 := by kernel_rfl
@[simp] theorem qbytes_94 : qbytes Tryd.prog 94 = some 8 := by kernel_rfl
@[simp] theorem qagg_94 : qagg Tryd.prog 94 = some false := by kernel_rfl
@[simp] theorem qzero_94 : qzero Tryd.prog 94 = some V.nf := by kernel_rfl
@[simp] theorem qconcrete_94 : qconcrete Tryd.prog 94 = true := by kernel_rfl
@[simp] theorem qthere_94 : qthere Tryd.prog 94 = true := by kernel_rfl
@[simp] theorem cellsOf_94 : Go.Program.cellsOf Tryd.prog 94 = 1 := by kernel_rfl
@[simp] theorem bytesOf_94 : Go.Program.bytesOf Tryd.prog 94 = 8 := by kernel_rfl
@[simp] theorem qsize_99 : qsize Tryd.prog 99 = some 1 := by kernel_rfl
@[simp] theorem qbytes_99 : qbytes Tryd.prog 99 = some 8 := by kernel_rfl
@[simp] theorem qagg_99 : qagg Tryd.prog 99 = some false := by kernel_rfl
@[simp] theorem qzero_99 : qzero Tryd.prog 99 = some (V.i Go.IntKind.u64 (0)) := by kernel_rfl
@[simp] theorem qint_99 : qint Tryd.prog 99 = some Go.IntKind.u64 := by kernel_rfl
@[simp] theorem keqi_99 (a c : Int) : keq Tryd.prog 99 (.i Go.IntKind.u64 a) (.i Go.IntKind.u64 c) = some (a == c) := keq_i qint_99
@[simp] theorem qconcrete_99 : qconcrete Tryd.prog 99 = true := by kernel_rfl
@[simp] theorem qkey_99 : qkey Tryd.prog 99 = true := by kernel_rfl
@[simp] theorem qplainKey_99 : qplainKey Tryd.prog 99 = true := by kernel_rfl
@[simp] theorem kf_99 (k : V) : keyFits Tryd.prog 99 k = true := keyFits_plain qplainKey_99
@[simp] theorem qthere_99 : qthere Tryd.prog 99 = true := by kernel_rfl
@[simp] theorem cellsOf_99 : Go.Program.cellsOf Tryd.prog 99 = 1 := by kernel_rfl
@[simp] theorem bytesOf_99 : Go.Program.bytesOf Tryd.prog 99 = 8 := by kernel_rfl
@[simp] theorem qsize_100 : qsize Tryd.prog 100 = some 1 := by kernel_rfl
@[simp] theorem qbytes_100 : qbytes Tryd.prog 100 = some 24 := by kernel_rfl
@[simp] theorem qagg_100 : qagg Tryd.prog 100 = some false := by kernel_rfl
@[simp] theorem qzero_100 : qzero Tryd.prog 100 = some (V.sl none 0 false) := by kernel_rfl
@[simp] theorem qconcrete_100 : qconcrete Tryd.prog 100 = true := by kernel_rfl
@[simp] theorem qsrc_100 : qsrc Tryd.prog 100 = true := by kernel_rfl
@[simp] theorem qthere_100 : qthere Tryd.prog 100 = true := by kernel_rfl
@[simp] theorem cellsOf_100 : Go.Program.cellsOf Tryd.prog 100 = 1 := by kernel_rfl
@[simp] theorem bytesOf_100 : Go.Program.bytesOf Tryd.prog 100 = 24 := by kernel_rfl
@[simp] theorem qelem_100 : qelem Tryd.prog 100 = some 3 := by kernel_rfl
@[simp] theorem qsize_109 : qsize Tryd.prog 109 = some 3 := by kernel_rfl
@[simp] theorem qbytes_109 : qbytes Tryd.prog 109 = some 12 := by kernel_rfl
@[simp] theorem qagg_109 : qagg Tryd.prog 109 = some true := by kernel_rfl
@[simp] theorem qzero_109 : qzero Tryd.prog 109 = some (V.agg [V.i Go.IntKind.i32 (0), V.i Go.IntKind.i32 (0), V.i Go.IntKind.i32 (0)]) := by kernel_rfl
@[simp] theorem qplaces_109 : qplaces Tryd.prog 109 = some [(0, 1), (1, 1), (2, 1)] := by kernel_rfl
@[simp] theorem qconcrete_109 : qconcrete Tryd.prog 109 = true := by kernel_rfl
@[simp] theorem qkey_109 : qkey Tryd.prog 109 = true := by kernel_rfl
@[simp] theorem qthere_109 : qthere Tryd.prog 109 = true := by kernel_rfl
@[simp] theorem qeq_109 : qeq Tryd.prog 109 = some [CK.i Go.IntKind.i32, CK.i Go.IntKind.i32, CK.i Go.IntKind.i32] := by kernel_rfl
@[simp] theorem cellsOf_109 : Go.Program.cellsOf Tryd.prog 109 = 3 := by kernel_rfl
@[simp] theorem bytesOf_109 : Go.Program.bytesOf Tryd.prog 109 = 12 := by kernel_rfl
@[simp] theorem qsize_110 : qsize Tryd.prog 110 = some 18 := by kernel_rfl
@[simp] theorem qbytes_110 : qbytes Tryd.prog 110 = some 72 := by kernel_rfl
@[simp] theorem qagg_110 : qagg Tryd.prog 110 = some true := by kernel_rfl
@[simp] theorem qzero_110 : qzero Tryd.prog 110 = some   (V.agg     [V.i Go.IntKind.i32 (0), V.i Go.IntKind.i32 (0), V.i Go.IntKind.i32 (0),       V.i Go.IntKind.i32 (0), V.i Go.IntKind.i32 (0), V.i Go.IntKind.i32 (0),       V.i Go.IntKind.i32 (0), V.i Go.IntKind.i32 (0), V.i Go.IntKind.i32 (0),       V.i Go.IntKind.i32 (0), V.i Go.IntKind.i32 (0), V.i Go.IntKind.i32 (0),       V.i Go.IntKind.i32 (0), V.i Go.IntKind.i32 (0), V.i Go.IntKind.i32 (0),       V.i Go.IntKind.i32 (0), V.i Go.IntKind.i32 (0), V.i Go.IntKind.i32 (0)]) := by kernel_rfl
@[simp] theorem qconcrete_110 : qconcrete Tryd.prog 110 = true := by kernel_rfl
@[simp] theorem qthere_110 : qthere Tryd.prog 110 = true := by kernel_rfl
@[simp] theorem cellsOf_110 : Go.Program.cellsOf Tryd.prog 110 = 18 := by kernel_rfl
@[simp] theorem bytesOf_110 : Go.Program.bytesOf Tryd.prog 110 = 72 := by kernel_rfl
@[simp] theorem qarr_110 : qarr Tryd.prog 110 = some (6, 109) := by kernel_rfl
@[simp] theorem qsize_116 : qsize Tryd.prog 116 = some 1 := by kernel_rfl
@[simp] theorem qbytes_116 : qbytes Tryd.prog 116 = some 8 := by kernel_rfl
@[simp] theorem qagg_116 : qagg Tryd.prog 116 = some false := by kernel_rfl
@[simp] theorem qzero_116 : qzero Tryd.prog 116 = some (V.i Go.IntKind.u64 (0)) := by kernel_rfl
@[simp] theorem qint_116 : qint Tryd.prog 116 = some Go.IntKind.u64 := by kernel_rfl
@[simp] theorem keqi_116 (a c : Int) : keq Tryd.prog 116 (.i Go.IntKind.u64 a) (.i Go.IntKind.u64 c) = some (a == c) := keq_i qint_116
@[simp] theorem qconcrete_116 : qconcrete Tryd.prog 116 = true := by kernel_rfl
@[simp] theorem qkey_116 : qkey Tryd.prog 116 = true := by kernel_rfl
@[simp] theorem qplainKey_116 : qplainKey Tryd.prog 116 = true := by kernel_rfl
@[simp] theorem kf_116 (k : V) : keyFits Tryd.prog 116 k = true := keyFits_plain qplainKey_116
@[simp] theorem qthere_116 : qthere Tryd.prog 116 = true := by kernel_rfl
@[simp] theorem cellsOf_116 : Go.Program.cellsOf Tryd.prog 116 = 1 := by kernel_rfl
@[simp] theorem bytesOf_116 : Go.Program.bytesOf Tryd.prog 116 = 8 := by kernel_rfl
@[simp] theorem qfield_24_0 : qfield Tryd.prog 24 0 = some (0, 1, false) := by kernel_rfl
@[simp] theorem qfield_24_1 : qfield Tryd.prog 24 1 = some (1, 1, false) := by kernel_rfl
@[simp] theorem qfield_24_2 : qfield Tryd.prog 24 2 = some (2, 1, false) := by kernel_rfl
@[simp] theorem qfield_24_3 : qfield Tryd.prog 24 3 = some (3, 1, false) := by kernel_rfl
@[simp] theorem qfield_24_4 : qfield Tryd.prog 24 4 = some (4, 1, false) := by kernel_rfl
@[simp] theorem qfield_24_5 : qfield Tryd.prog 24 5 = some (5, 1, false) := by kernel_rfl
@[simp] theorem qfield_24_6 : qfield Tryd.prog 24 6 = some (6, 1, false) := by kernel_rfl
@[simp] theorem qfield_24_7 : qfield Tryd.prog 24 7 = some (7, 1, false) := by kernel_rfl
@[simp] theorem qfield_28_0 : qfield Tryd.prog 28 0 = some (0, 1, false) := by kernel_rfl
@[simp] theorem qfield_28_1 : qfield Tryd.prog 28 1 = some (1, 1, false) := by kernel_rfl
@[simp] theorem qfield_28_2 : qfield Tryd.prog 28 2 = some (2, 1, false) := by kernel_rfl
@[simp] theorem qfield_28_3 : qfield Tryd.prog 28 3 = some (3, 1, false) := by kernel_rfl
@[simp] theorem qfield_28_4 : qfield Tryd.prog 28 4 = some (4, 8, true) := by kernel_rfl
@[simp] theorem qfield_28_5 : qfield Tryd.prog 28 5 = some (12, 1, false) := by kernel_rfl
@[simp] theorem qfield_28_6 : qfield Tryd.prog 28 6 = some (13, 1, false) := by kernel_rfl
@[simp] theorem qfield_43_0 : qfield Tryd.prog 43 0 = some (0, 1, false) := by kernel_rfl
@[simp] theorem qfield_43_1 : qfield Tryd.prog 43 1 = some (1, 1, false) := by kernel_rfl
@[simp] theorem qfield_43_2 : qfield Tryd.prog 43 2 = some (2, 8, true) := by kernel_rfl
@[simp] theorem qfield_53_0 : qfield Tryd.prog 53 0 = some (0, 1, false) := by kernel_rfl
@[simp] theorem qfield_53_1 : qfield Tryd.prog 53 1 = some (1, 1, false) := by kernel_rfl
@[simp] theorem qfield_53_2 : qfield Tryd.prog 53 2 = some (2, 1, false) := by kernel_rfl
@[simp] theorem qfield_53_3 : qfield Tryd.prog 53 3 = some (3, 1, false) := by kernel_rfl
@[simp] theorem qfield_53_4 : qfield Tryd.prog 53 4 = some (4, 1, false) := by kernel_rfl
@[simp] theorem qfield_53_5 : qfield Tryd.prog 53 5 = some (5, 1, false) := by kernel_rfl
@[simp] theorem qfield_53_6 : qfield Tryd.prog 53 6 = some (6, 1, false) := by kernel_rfl
@[simp] theorem qfield_87_0 : qfield Tryd.prog 87 0 = some (0, 1, false) := by kernel_rfl
@[simp] theorem qfield_87_1 : qfield Tryd.prog 87 1 = some (1, 1, false) := by kernel_rfl
@[simp] theorem qfield_109_0 : qfield Tryd.prog 109 0 = some (0, 1, false) := by kernel_rfl
@[simp] theorem qfield_109_1 : qfield Tryd.prog 109 1 = some (1, 1, false) := by kernel_rfl
@[simp] theorem qfield_109_2 : qfield Tryd.prog 109 2 = some (2, 1, false) := by kernel_rfl
/-- 19 operations, 20 nodes, looks at memory: true -/
def pl_3_8 : Plan := .take 0 (.take 1 (.take 2 (.take 3 (.take 4 (.take 5 (.take 7 (.take 8 (.take 9 (.take 10 (.take 11 (.take 12 (.take 13 (.take 14 (.take 15 (.take 16 (.alt 6 true (.take 17 (.take 18 (.done))) (.stop)))))))))))))))))
def pe_3_8 : Bool := true
/-- 10 operations, 11 nodes, looks at memory: true -/
def pl_3_12 : Plan := .take 0 (.take 1 (.take 2 (.take 3 (.take 4 (.take 5 (.alt 6 true (.take 7 (.take 8 (.take 9 (.done)))) (.stop)))))))
def pe_3_12 : Bool := true
/-- 21 operations, 22 nodes, looks at memory: true -/
def pl_4_4 : Plan := .take 0 (.take 1 (.take 2 (.alt 3 true (.take 4 (.take 5 (.take 6 (.take 7 (.take 8 (.take 9 (.take 10 (.take 11 (.take 12 (.take 13 (.take 14 (.take 16 (.alt 15 true (.alt 17 true (.take 18 (.take 19 (.take 20 (.done)))) (.stop)) (.stop)))))))))))))) (.stop))))
def pe_4_4 : Bool := true
/-- 13 operations, 14 nodes, looks at memory: true -/
def pl_6_5 : Plan := .take 0 (.take 1 (.take 3 (.take 4 (.alt 2 true (.alt 5 true (.take 6 (.take 7 (.take 8 (.take 9 (.alt 10 true (.take 11 (.take 12 (.done))) (.stop)))))) (.stop)) (.stop)))))
def pe_6_5 : Bool := true
/-- 38 operations, 39 nodes, looks at memory: true -/
def pl_11_24 : Plan := .take 0 (.take 1 (.take 2 (.take 3 (.take 4 (.alt 5 true (.take 6 (.take 7 (.take 8 (.take 9 (.take 10 (.take 11 (.take 12 (.take 13 (.take 14 (.take 15 (.take 16 (.take 17 (.take 18 (.take 19 (.take 20 (.take 21 (.take 22 (.take 23 (.take 24 (.take 25 (.take 26 (.take 27 (.take 28 (.take 29 (.take 30 (.take 31 (.take 32 (.take 33 (.take 34 (.take 35 (.take 36 (.take 37 (.done))))))))))))))))))))))))))))))))) (.stop))))))
def pe_11_24 : Bool := true
/-- 25 operations, 26 nodes, looks at memory: true -/
def pl_13_1 : Plan := .take 0 (.take 1 (.take 3 (.take 4 (.take 7 (.take 8 (.take 11 (.take 12 (.take 15 (.take 16 (.take 19 (.take 20 (.take 21 (.alt 2 true (.alt 5 true (.take 6 (.alt 9 true (.take 10 (.alt 13 true (.take 14 (.alt 17 true (.take 18 (.alt 22 true (.take 23 (.take 24 (.done))) (.stop))) (.stop))) (.stop))) (.stop))) (.stop)) (.stop))))))))))))))
def pe_13_1 : Bool := true
/-- 18 operations, 19 nodes, looks at memory: true -/
def pl_13_5 : Plan := .take 0 (.take 1 (.take 2 (.take 3 (.take 4 (.take 5 (.take 6 (.take 9 (.take 10 (.take 11 (.take 12 (.take 13 (.take 14 (.alt 7 true (.take 8 (.alt 15 true (.take 16 (.take 17 (.done))) (.stop))) (.stop))))))))))))))
def pe_13_5 : Bool := true
/-- 11 operations, 12 nodes, looks at memory: true -/
def pl_20_6 : Plan := .take 0 (.take 1 (.take 2 (.take 3 (.take 4 (.take 5 (.take 6 (.take 7 (.take 8 (.take 9 (.take 10 (.done)))))))))))
def pe_20_6 : Bool := true
/-- 15 operations, 16 nodes, looks at memory: true -/
def pl_26_2 : Plan := .take 0 (.take 1 (.take 2 (.take 3 (.take 4 (.take 5 (.take 6 (.take 7 (.take 8 (.take 9 (.take 10 (.take 11 (.take 12 (.take 13 (.take 14 (.done)))))))))))))))
def pe_26_2 : Bool := true
/-- 7 operations, 8 nodes, looks at memory: true -/
def pl_26_5 : Plan := .take 0 (.take 1 (.take 2 (.take 3 (.take 4 (.alt 5 false (.take 6 (.done)) (.stop))))))
def pe_26_5 : Bool := true
/-- 42 operations, 43 nodes, looks at memory: true -/
def pl_26_6 : Plan := .take 0 (.alt 1 true (.take 2 (.take 3 (.take 4 (.take 5 (.take 6 (.take 7 (.take 8 (.take 9 (.alt 10 true (.take 11 (.take 12 (.take 13 (.take 14 (.take 15 (.take 16 (.take 17 (.take 18 (.take 19 (.take 20 (.take 21 (.take 22 (.take 23 (.take 24 (.take 25 (.take 26 (.take 27 (.take 28 (.take 29 (.take 30 (.take 31 (.take 32 (.take 33 (.take 34 (.take 35 (.take 36 (.take 37 (.take 38 (.take 39 (.take 40 (.take 41 (.done)))))))))))))))))))))))))))))))) (.stop)))))))))) (.stop))
def pe_26_6 : Bool := true
/-- 30 operations, 31 nodes, looks at memory: true -/
def pl_27_6 : Plan := .take 0 (.alt 1 true (.take 2 (.take 3 (.take 4 (.take 5 (.take 6 (.take 7 (.take 8 (.take 9 (.take 10 (.take 11 (.take 12 (.take 13 (.take 14 (.take 15 (.take 16 (.take 17 (.take 18 (.take 19 (.take 20 (.take 21 (.take 22 (.take 23 (.take 24 (.take 25 (.take 26 (.take 27 (.take 28 (.take 29 (.done))))))))))))))))))))))))))))) (.stop))
def pe_27_6 : Bool := true
/-- 19 operations, 20 nodes, looks at memory: true -/
def pl_36_3 : Plan := .take 0 (.take 1 (.take 2 (.take 5 (.take 6 (.take 9 (.take 10 (.take 13 (.take 14 (.take 15 (.alt 3 true (.take 4 (.alt 7 true (.take 8 (.alt 11 true (.take 12 (.alt 16 true (.take 17 (.take 18 (.done))) (.stop))) (.stop))) (.stop))) (.stop)))))))))))
def pe_36_3 : Bool := true
/-- 15 operations, 16 nodes, looks at memory: true -/
def pl_36_5 : Plan := .take 0 (.take 1 (.take 2 (.take 5 (.take 6 (.take 9 (.take 10 (.take 11 (.alt 3 true (.take 4 (.alt 7 true (.take 8 (.alt 12 true (.take 13 (.take 14 (.done))) (.stop))) (.stop))) (.stop)))))))))
def pe_36_5 : Bool := true
/-- 10 operations, 11 nodes, looks at memory: true -/
def pl_37_2 : Plan := .take 0 (.take 1 (.take 3 (.take 5 (.take 6 (.alt 2 true (.take 4 (.alt 7 false (.take 8 (.take 9 (.done))) (.stop))) (.stop))))))
def pe_37_2 : Bool := true
/-- 10 operations, 11 nodes, looks at memory: true -/
def pl_37_6 : Plan := .take 0 (.take 1 (.take 2 (.take 5 (.take 6 (.alt 3 true (.take 4 (.alt 7 false (.take 8 (.take 9 (.done))) (.stop))) (.stop))))))
def pe_37_6 : Bool := true
/-- 16 operations, 17 nodes, looks at memory: true -/
def pl_40_2 : Plan := .take 0 (.take 2 (.take 4 (.take 6 (.alt 1 true (.take 8 (.alt 3 true (.alt 5 true (.alt 7 true (.alt 9 true (.take 10 (.alt 11 true (.take 12 (.alt 13 true (.take 14 (.alt 15 false (.done) (.stop))) (.stop))) (.stop))) (.stop)) (.stop)) (.stop)) (.stop))) (.stop)))))
def pe_40_2 : Bool := true
/-- 9 operations, 10 nodes, looks at memory: true -/
def pl_42_6 : Plan := .take 0 (.take 1 (.take 2 (.take 3 (.take 4 (.take 5 (.take 6 (.take 7 (.take 8 (.done)))))))))
def pe_42_6 : Bool := true
/-- 9 operations, 10 nodes, looks at memory: true -/
def pl_43_6 : Plan := .take 0 (.take 1 (.take 2 (.take 3 (.take 4 (.take 5 (.take 6 (.take 7 (.take 8 (.done)))))))))
def pe_43_6 : Bool := true
/-- 9 operations, 10 nodes, looks at memory: true -/
def pl_44_6 : Plan := .take 0 (.take 1 (.take 2 (.take 3 (.take 4 (.take 5 (.take 6 (.take 7 (.take 8 (.done)))))))))
def pe_44_6 : Bool := true
/-- 8 operations, 9 nodes, looks at memory: true -/
def pl_62_1 : Plan := .take 0 (.take 2 (.take 3 (.take 4 (.alt 1 true (.alt 5 true (.take 6 (.alt 7 false (.done) (.stop))) (.stop)) (.stop)))))
def pe_62_1 : Bool := true
instance : Laid Tryd.prog := ⟨utf8Tabs 0 1⟩
def planTab : PlanTab := [(3, [(8, pe_3_8, Mode.ext, pl_3_8), (12, pe_3_12, Mode.ext, pl_3_12)]), (4, [(4, pe_4_4, Mode.ext, pl_4_4)]), (6, [(5, pe_6_5, Mode.ext, pl_6_5)]), (11, [(24, pe_11_24, Mode.ext, pl_11_24)]), (13, [(1, pe_13_1, Mode.ext, pl_13_1), (5, pe_13_5, Mode.ext, pl_13_5)]), (20, [(6, pe_20_6, Mode.ext, pl_20_6)]), (26, [(2, pe_26_2, Mode.ext, pl_26_2), (5, pe_26_5, Mode.ext, pl_26_5), (6, pe_26_6, Mode.ext, pl_26_6)]), (27, [(6, pe_27_6, Mode.ext, pl_27_6)]), (36, [(3, pe_36_3, Mode.ext, pl_36_3), (5, pe_36_5, Mode.ext, pl_36_5)]), (37, [(2, pe_37_2, Mode.ext, pl_37_2), (6, pe_37_6, Mode.ext, pl_37_6)]), (40, [(2, pe_40_2, Mode.only [1], pl_40_2)]), (42, [(6, pe_42_6, Mode.ext, pl_42_6)]), (43, [(6, pe_43_6, Mode.ext, pl_43_6)]), (44, [(6, pe_44_6, Mode.ext, pl_44_6)]), (62, [(1, pe_62_1, Mode.ext, pl_62_1)])]
end Go.Proofs.YtnfnkmodcjkabaaDoor
