/-
  Facts about this program's types, by program.
-/
import Derived.Test.YtikonppmjkipoaaDoorAbsC
import Derived.Test.YtikonppmjkipoaaDoorProg
set_option linter.unusedVariables false
namespace Go.Proofs.YtikonppmjkipoaaDoor
open Go Go.Abs Go.Proofs
@[simp] theorem qsize_2 : qsize Tryd.prog 2 = some 1 := by kernel_rfl
@[simp] theorem qbytes_2 : qbytes Tryd.prog 2 = some 8 := by kernel_rfl
@[simp] theorem qagg_2 : qagg Tryd.prog 2 = some false := by kernel_rfl
@[simp] theorem qzero_2 : qzero Tryd.prog 2 = some (V.i Go.IntKind.i64 (0)) := by kernel_rfl
@[simp] theorem qint_2 : qint Tryd.prog 2 = some Go.IntKind.i64 := by kernel_rfl
@[simp] theorem keqi_2 (a c : Int) : keq Tryd.prog 2 (.i Go.IntKind.i64 a) (.i Go.IntKind.i64 c) = some (a == c) := keq_i qint_2
@[simp] theorem qconcrete_2 : qconcrete Tryd.prog 2 = true := by kernel_rfl
@[simp] theorem qkey_2 : qkey Tryd.prog 2 = true := by kernel_rfl
@[simp] theorem qplainKey_2 : qplainKey Tryd.prog 2 = true := by kernel_rfl
@[simp] theorem kf_2 (k : V) : keyFits Tryd.prog 2 k = true := keyFits_plain qplainKey_2
@[simp] theorem qthere_2 : qthere Tryd.prog 2 = true := by kernel_rfl
@[simp] theorem qgen_2 : qgen Tryd.prog 2 = 0 := by kernel_rfl
@[simp] theorem cellsOf_2 : Go.Program.cellsOf Tryd.prog 2 = 1 := by kernel_rfl
@[simp] theorem bytesOf_2 : Go.Program.bytesOf Tryd.prog 2 = 8 := by kernel_rfl
@[simp] theorem qsize_3 : qsize Tryd.prog 3 = some 1 := by kernel_rfl
@[simp] theorem qbytes_3 : qbytes Tryd.prog 3 = some 8 := by kernel_rfl
@[simp] theorem qagg_3 : qagg Tryd.prog 3 = some false := by kernel_rfl
@[simp] theorem qzero_3 : qzero Tryd.prog 3 = some (V.i Go.IntKind.i64 (0)) := by kernel_rfl
@[simp] theorem qint_3 : qint Tryd.prog 3 = some Go.IntKind.i64 := by kernel_rfl
@[simp] theorem keqi_3 (a c : Int) : keq Tryd.prog 3 (.i Go.IntKind.i64 a) (.i Go.IntKind.i64 c) = some (a == c) := keq_i qint_3
@[simp] theorem qconcrete_3 : qconcrete Tryd.prog 3 = true := by kernel_rfl
@[simp] theorem qkey_3 : qkey Tryd.prog 3 = true := by kernel_rfl
@[simp] theorem qplainKey_3 : qplainKey Tryd.prog 3 = true := by kernel_rfl
@[simp] theorem kf_3 (k : V) : keyFits Tryd.prog 3 k = true := keyFits_plain qplainKey_3
@[simp] theorem qthere_3 : qthere Tryd.prog 3 = true := by kernel_rfl
@[simp] theorem qgen_3 : qgen Tryd.prog 3 = 0 := by kernel_rfl
@[simp] theorem cellsOf_3 : Go.Program.cellsOf Tryd.prog 3 = 1 := by kernel_rfl
@[simp] theorem bytesOf_3 : Go.Program.bytesOf Tryd.prog 3 = 8 := by kernel_rfl
@[simp] theorem qsize_4 : qsize Tryd.prog 4 = some 1 := by kernel_rfl
@[simp] theorem qbytes_4 : qbytes Tryd.prog 4 = some 1 := by kernel_rfl
@[simp] theorem qagg_4 : qagg Tryd.prog 4 = some false := by kernel_rfl
@[simp] theorem qzero_4 : qzero Tryd.prog 4 = some (V.b false) := by kernel_rfl
@[simp] theorem qconcrete_4 : qconcrete Tryd.prog 4 = true := by kernel_rfl
@[simp] theorem qbool_4 : qbool Tryd.prog 4 = true := by kernel_rfl
@[simp] theorem bb_4 (x y : Bool) : aeq Tryd.prog 4 (.b x) (.b y) = some (x == y) := aeq_bb qbool_4
@[simp] theorem qthere_4 : qthere Tryd.prog 4 = true := by kernel_rfl
@[simp] theorem qgen_4 : qgen Tryd.prog 4 = 0 := by kernel_rfl
@[simp] theorem cellsOf_4 : Go.Program.cellsOf Tryd.prog 4 = 1 := by kernel_rfl
@[simp] theorem bytesOf_4 : Go.Program.bytesOf Tryd.prog 4 = 1 := by kernel_rfl
@[simp] theorem qsize_5 : qsize Tryd.prog 5 = some 1 := by kernel_rfl
@[simp] theorem qbytes_5 : qbytes Tryd.prog 5 = some 1 := by kernel_rfl
@[simp] theorem qagg_5 : qagg Tryd.prog 5 = some false := by kernel_rfl
@[simp] theorem qzero_5 : qzero Tryd.prog 5 = some (V.i Go.IntKind.u8 (0)) := by kernel_rfl
@[simp] theorem qint_5 : qint Tryd.prog 5 = some Go.IntKind.u8 := by kernel_rfl
@[simp] theorem keqi_5 (a c : Int) : keq Tryd.prog 5 (.i Go.IntKind.u8 a) (.i Go.IntKind.u8 c) = some (a == c) := keq_i qint_5
@[simp] theorem qconcrete_5 : qconcrete Tryd.prog 5 = true := by kernel_rfl
@[simp] theorem qkey_5 : qkey Tryd.prog 5 = true := by kernel_rfl
@[simp] theorem qplainKey_5 : qplainKey Tryd.prog 5 = true := by kernel_rfl
@[simp] theorem kf_5 (k : V) : keyFits Tryd.prog 5 k = true := keyFits_plain qplainKey_5
@[simp] theorem qthere_5 : qthere Tryd.prog 5 = true := by kernel_rfl
@[simp] theorem qgen_5 : qgen Tryd.prog 5 = 0 := by kernel_rfl
@[simp] theorem qgenB_5 : qgenB Tryd.prog 5 = 6 := by kernel_rfl
@[simp] theorem cellsOf_5 : Go.Program.cellsOf Tryd.prog 5 = 1 := by kernel_rfl
@[simp] theorem bytesOf_5 : Go.Program.bytesOf Tryd.prog 5 = 1 := by kernel_rfl
@[simp] theorem qsize_8 : qsize Tryd.prog 8 = some 4 := by kernel_rfl
@[simp] theorem qbytes_8 : qbytes Tryd.prog 8 = some 24 := by kernel_rfl
@[simp] theorem qagg_8 : qagg Tryd.prog 8 = some true := by kernel_rfl
@[simp] theorem qzero_8 : qzero Tryd.prog 8 = some   (V.agg     [V.i Go.IntKind.i64 (0), V.i Go.IntKind.i64 (0), V.b false, V.i Go.IntKind.u8 (0)]) := by kernel_rfl
@[simp] theorem qplaces_8 : qplaces Tryd.prog 8 = some [(0, 1), (1, 1), (2, 1), (3, 1)] := by kernel_rfl
@[simp] theorem qconcrete_8 : qconcrete Tryd.prog 8 = true := by kernel_rfl
@[simp] theorem qkey_8 : qkey Tryd.prog 8 = true := by kernel_rfl
@[simp] theorem qthere_8 : qthere Tryd.prog 8 = true := by kernel_rfl
@[simp] theorem qeq_8 : qeq Tryd.prog 8 = some [CK.i Go.IntKind.i64, CK.i Go.IntKind.i64, CK.b, CK.i Go.IntKind.u8] := by kernel_rfl
@[simp] theorem qgen_8 : qgen Tryd.prog 8 = 0 := by kernel_rfl
@[simp] theorem cellsOf_8 : Go.Program.cellsOf Tryd.prog 8 = 4 := by kernel_rfl
@[simp] theorem bytesOf_8 : Go.Program.bytesOf Tryd.prog 8 = 24 := by kernel_rfl
@[simp] theorem qsize_9 : qsize Tryd.prog 9 = some 1 := by kernel_rfl
@[simp] theorem qbytes_9 : qbytes Tryd.prog 9 = some 16 := by kernel_rfl
@[simp] theorem qagg_9 : qagg Tryd.prog 9 = some false := by kernel_rfl
@[simp] theorem qzero_9 : qzero Tryd.prog 9 = some (V.s []) := by kernel_rfl
@[simp] theorem qstr_9 : qstr Tryd.prog 9 = true := by kernel_rfl
@[simp] theorem keqs_9 (a c : List UInt8) : keq Tryd.prog 9 (.s a) (.s c) = some (a == c) := keq_s qstr_9
@[simp] theorem qconcrete_9 : qconcrete Tryd.prog 9 = true := by kernel_rfl
@[simp] theorem qkey_9 : qkey Tryd.prog 9 = true := by kernel_rfl
@[simp] theorem qsrc_9 : qsrc Tryd.prog 9 = true := by kernel_rfl
@[simp] theorem qplainKey_9 : qplainKey Tryd.prog 9 = true := by kernel_rfl
@[simp] theorem kf_9 (k : V) : keyFits Tryd.prog 9 k = true := keyFits_plain qplainKey_9
@[simp] theorem qthere_9 : qthere Tryd.prog 9 = true := by kernel_rfl
@[simp] theorem qgen_9 : qgen Tryd.prog 9 = 0 := by kernel_rfl
@[simp] theorem cellsOf_9 : Go.Program.cellsOf Tryd.prog 9 = 1 := by kernel_rfl
@[simp] theorem bytesOf_9 : Go.Program.bytesOf Tryd.prog 9 = 16 := by kernel_rfl
@[simp] theorem qsize_10 : qsize Tryd.prog 10 = some 1 := by kernel_rfl
@[simp] theorem qbytes_10 : qbytes Tryd.prog 10 = some 16 := by kernel_rfl
@[simp] theorem qagg_10 : qagg Tryd.prog 10 = some false := by kernel_rfl
@[simp] theorem qzero_10 : qzero Tryd.prog 10 = some (V.s []) := by kernel_rfl
@[simp] theorem qstr_10 : qstr Tryd.prog 10 = true := by kernel_rfl
@[simp] theorem keqs_10 (a c : List UInt8) : keq Tryd.prog 10 (.s a) (.s c) = some (a == c) := keq_s qstr_10
@[simp] theorem qconcrete_10 : qconcrete Tryd.prog 10 = true := by kernel_rfl
@[simp] theorem qkey_10 : qkey Tryd.prog 10 = true := by kernel_rfl
@[simp] theorem qsrc_10 : qsrc Tryd.prog 10 = true := by kernel_rfl
@[simp] theorem qplainKey_10 : qplainKey Tryd.prog 10 = true := by kernel_rfl
@[simp] theorem kf_10 (k : V) : keyFits Tryd.prog 10 k = true := keyFits_plain qplainKey_10
@[simp] theorem qthere_10 : qthere Tryd.prog 10 = true := by kernel_rfl
@[simp] theorem qgen_10 : qgen Tryd.prog 10 = 0 := by kernel_rfl
@[simp] theorem cellsOf_10 : Go.Program.cellsOf Tryd.prog 10 = 1 := by kernel_rfl
@[simp] theorem bytesOf_10 : Go.Program.bytesOf Tryd.prog 10 = 16 := by kernel_rfl
@[simp] theorem qsize_11 : qsize Tryd.prog 11 = some 1 := by kernel_rfl
@[simp] theorem qbytes_11 : qbytes Tryd.prog 11 = some 16 := by kernel_rfl
@[simp] theorem qagg_11 : qagg Tryd.prog 11 = some false := by kernel_rfl
@[simp] theorem qzero_11 : qzero Tryd.prog 11 = some (V.s []) := by kernel_rfl
@[simp] theorem qstr_11 : qstr Tryd.prog 11 = true := by kernel_rfl
@[simp] theorem keqs_11 (a c : List UInt8) : keq Tryd.prog 11 (.s a) (.s c) = some (a == c) := keq_s qstr_11
@[simp] theorem qconcrete_11 : qconcrete Tryd.prog 11 = true := by kernel_rfl
@[simp] theorem qkey_11 : qkey Tryd.prog 11 = true := by kernel_rfl
@[simp] theorem qsrc_11 : qsrc Tryd.prog 11 = true := by kernel_rfl
@[simp] theorem qplainKey_11 : qplainKey Tryd.prog 11 = true := by kernel_rfl
@[simp] theorem kf_11 (k : V) : keyFits Tryd.prog 11 k = true := keyFits_plain qplainKey_11
@[simp] theorem qthere_11 : qthere Tryd.prog 11 = true := by kernel_rfl
@[simp] theorem qgen_11 : qgen Tryd.prog 11 = 0 := by kernel_rfl
@[simp] theorem cellsOf_11 : Go.Program.cellsOf Tryd.prog 11 = 1 := by kernel_rfl
@[simp] theorem bytesOf_11 : Go.Program.bytesOf Tryd.prog 11 = 16 := by kernel_rfl
@[simp] theorem qsize_14 : qsize Tryd.prog 14 = some 2 := by kernel_rfl
@[simp] theorem qbytes_14 : qbytes Tryd.prog 14 = some 24 := by kernel_rfl
@[simp] theorem qagg_14 : qagg Tryd.prog 14 = some true := by kernel_rfl
@[simp] theorem qzero_14 : qzero Tryd.prog 14 = some (V.agg [V.s [], V.i Go.IntKind.u64 (0)]) := by kernel_rfl
@[simp] theorem qplaces_14 : qplaces Tryd.prog 14 = some [(0, 1), (1, 1)] := by kernel_rfl
@[simp] theorem qconcrete_14 : qconcrete Tryd.prog 14 = true := by kernel_rfl
@[simp] theorem qthere_14 : qthere Tryd.prog 14 = true := by kernel_rfl
@[simp] theorem qgen_14 : qgen Tryd.prog 14 = 0 := by kernel_rfl
@[simp] theorem cellsOf_14 : Go.Program.cellsOf Tryd.prog 14 = 2 := by kernel_rfl
@[simp] theorem bytesOf_14 : Go.Program.bytesOf Tryd.prog 14 = 24 := by kernel_rfl
@[simp] theorem qsize_15 : qsize Tryd.prog 15 = some 1 := by kernel_rfl
@[simp] theorem qbytes_15 : qbytes Tryd.prog 15 = some 8 := by kernel_rfl
@[simp] theorem qagg_15 : qagg Tryd.prog 15 = some false := by kernel_rfl
@[simp] theorem qzero_15 : qzero Tryd.prog 15 = some (V.p none) := by kernel_rfl
@[simp] theorem qconcrete_15 : qconcrete Tryd.prog 15 = true := by kernel_rfl
@[simp] theorem qptr_15 : qptr Tryd.prog 15 = true := by kernel_rfl
@[simp] theorem pnn_15 : aeq Tryd.prog 15 (.p none) (.p none) = some true := aeq_pnn qptr_15
@[simp] theorem psn_15 (q : Nat × Nat × Nat) : aeq Tryd.prog 15 (.p (some q)) (.p none) = some false := aeq_psn qptr_15
@[simp] theorem qthere_15 : qthere Tryd.prog 15 = true := by kernel_rfl
@[simp] theorem qgen_15 : qgen Tryd.prog 15 = 0 := by kernel_rfl
@[simp] theorem cellsOf_15 : Go.Program.cellsOf Tryd.prog 15 = 1 := by kernel_rfl
@[simp] theorem bytesOf_15 : Go.Program.bytesOf Tryd.prog 15 = 8 := by kernel_rfl
@[simp] theorem qsize_16 : qsize Tryd.prog 16 = some 1 := by kernel_rfl
@[simp] theorem qbytes_16 : qbytes Tryd.prog 16 = some 8 := by kernel_rfl
@[simp] theorem qagg_16 : qagg Tryd.prog 16 = some false := by kernel_rfl
@[simp] theorem qzero_16 : qzero Tryd.prog 16 = some (V.p none) := by kernel_rfl
@[simp] theorem qconcrete_16 : qconcrete Tryd.prog 16 = true := by kernel_rfl
@[simp] theorem qptr_16 : qptr Tryd.prog 16 = true := by kernel_rfl
@[simp] theorem pnn_16 : aeq Tryd.prog 16 (.p none) (.p none) = some true := aeq_pnn qptr_16
@[simp] theorem psn_16 (q : Nat × Nat × Nat) : aeq Tryd.prog 16 (.p (some q)) (.p none) = some false := aeq_psn qptr_16
@[simp] theorem qthere_16 : qthere Tryd.prog 16 = true := by kernel_rfl
@[simp] theorem qgen_16 : qgen Tryd.prog 16 = 0 := by kernel_rfl
@[simp] theorem cellsOf_16 : Go.Program.cellsOf Tryd.prog 16 = 1 := by kernel_rfl
@[simp] theorem bytesOf_16 : Go.Program.bytesOf Tryd.prog 16 = 8 := by kernel_rfl
@[simp] theorem qsize_17 : qsize Tryd.prog 17 = some 1 := by kernel_rfl
@[simp] theorem qbytes_17 : qbytes Tryd.prog 17 = some 8 := by kernel_rfl
@[simp] theorem qagg_17 : qagg Tryd.prog 17 = some false := by kernel_rfl
@[simp] theorem qzero_17 : qzero Tryd.prog 17 = some (V.p none) := by kernel_rfl
@[simp] theorem qconcrete_17 : qconcrete Tryd.prog 17 = true := by kernel_rfl
@[simp] theorem qptr_17 : qptr Tryd.prog 17 = true := by kernel_rfl
@[simp] theorem pnn_17 : aeq Tryd.prog 17 (.p none) (.p none) = some true := aeq_pnn qptr_17
@[simp] theorem psn_17 (q : Nat × Nat × Nat) : aeq Tryd.prog 17 (.p (some q)) (.p none) = some false := aeq_psn qptr_17
@[simp] theorem qthere_17 : qthere Tryd.prog 17 = true := by kernel_rfl
@[simp] theorem qgen_17 : qgen Tryd.prog 17 = 0 := by kernel_rfl
@[simp] theorem cellsOf_17 : Go.Program.cellsOf Tryd.prog 17 = 1 := by kernel_rfl
@[simp] theorem bytesOf_17 : Go.Program.bytesOf Tryd.prog 17 = 8 := by kernel_rfl
@[simp] theorem qsize_19 : qsize Tryd.prog 19 = some 1 := by kernel_rfl
@[simp] theorem qbytes_19 : qbytes Tryd.prog 19 = some 8 := by kernel_rfl
@[simp] theorem qagg_19 : qagg Tryd.prog 19 = some true := by kernel_rfl
@[simp] theorem qzero_19 : qzero Tryd.prog 19 = some (V.agg [V.p none]) := by kernel_rfl
@[simp] theorem qplaces_19 : qplaces Tryd.prog 19 = some [(0, 1)] := by kernel_rfl
@[simp] theorem qconcrete_19 : qconcrete Tryd.prog 19 = true := by kernel_rfl
@[simp] theorem qthere_19 : qthere Tryd.prog 19 = true := by kernel_rfl
@[simp] theorem qgen_19 : qgen Tryd.prog 19 = 0 := by kernel_rfl
@[simp] theorem cellsOf_19 : Go.Program.cellsOf Tryd.prog 19 = 1 := by kernel_rfl
@[simp] theorem bytesOf_19 : Go.Program.bytesOf Tryd.prog 19 = 8 := by kernel_rfl
@[simp] theorem qsize_20 : qsize Tryd.prog 20 = some 1 := by kernel_rfl
@[simp] theorem qbytes_20 : qbytes Tryd.prog 20 = some 16 := by kernel_rfl
@[simp] theorem qagg_20 : qagg Tryd.prog 20 = some false := by kernel_rfl
@[simp] theorem qzero_20 : qzero Tryd.prog 20 = some V.nif := by kernel_rfl
@[simp] theorem qthere_20 : qthere Tryd.prog 20 = true := by kernel_rfl
@[simp] theorem qgen_20 : qgen Tryd.prog 20 = 0 := by kernel_rfl
@[simp] theorem cellsOf_20 : Go.Program.cellsOf Tryd.prog 20 = 1 := by kernel_rfl
@[simp] theorem bytesOf_20 : Go.Program.bytesOf Tryd.prog 20 = 16 := by kernel_rfl
@[simp] theorem qsize_21 : qsize Tryd.prog 21 = some 1 := by kernel_rfl
@[simp] theorem qbytes_21 : qbytes Tryd.prog 21 = some 4 := by kernel_rfl
@[simp] theorem qagg_21 : qagg Tryd.prog 21 = some false := by kernel_rfl
@[simp] theorem qzero_21 : qzero Tryd.prog 21 = some (V.i Go.IntKind.i32 (0)) := by kernel_rfl
@[simp] theorem qint_21 : qint Tryd.prog 21 = some Go.IntKind.i32 := by kernel_rfl
@[simp] theorem keqi_21 (a c : Int) : keq Tryd.prog 21 (.i Go.IntKind.i32 a) (.i Go.IntKind.i32 c) = some (a == c) := keq_i qint_21
@[simp] theorem qconcrete_21 : qconcrete Tryd.prog 21 = true := by kernel_rfl
@[simp] theorem qkey_21 : qkey Tryd.prog 21 = true := by kernel_rfl
@[simp] theorem qplainKey_21 : qplainKey Tryd.prog 21 = true := by kernel_rfl
@[simp] theorem kf_21 (k : V) : keyFits Tryd.prog 21 k = true := keyFits_plain qplainKey_21
@[simp] theorem qthere_21 : qthere Tryd.prog 21 = true := by kernel_rfl
@[simp] theorem qgen_21 : qgen Tryd.prog 21 = 0 := by kernel_rfl
@[simp] theorem cellsOf_21 : Go.Program.cellsOf Tryd.prog 21 = 1 := by kernel_rfl
@[simp] theorem bytesOf_21 : Go.Program.bytesOf Tryd.prog 21 = 4 := by kernel_rfl
@[simp] theorem qsize_22 : qsize Tryd.prog 22 = some 1 := by kernel_rfl
@[simp] theorem qbytes_22 : qbytes Tryd.prog 22 = some 24 := by kernel_rfl
@[simp] theorem qagg_22 : qagg Tryd.prog 22 = some false := by kernel_rfl
@[simp] theorem qzero_22 : qzero Tryd.prog 22 = some (V.sl none 0 false) := by kernel_rfl
@[simp] theorem qconcrete_22 : qconcrete Tryd.prog 22 = true := by kernel_rfl
@[simp] theorem qsrc_22 : qsrc Tryd.prog 22 = true := by kernel_rfl
@[simp] theorem qthere_22 : qthere Tryd.prog 22 = true := by kernel_rfl
@[simp] theorem qgen_22 : qgen Tryd.prog 22 = 0 := by kernel_rfl
@[simp] theorem cellsOf_22 : Go.Program.cellsOf Tryd.prog 22 = 1 := by kernel_rfl
@[simp] theorem bytesOf_22 : Go.Program.bytesOf Tryd.prog 22 = 24 := by kernel_rfl
@[simp] theorem qelem_22 : qelem Tryd.prog 22 = some 51 := by kernel_rfl
@[simp] theorem qsize_23 : qsize Tryd.prog 23 = some 1 := by kernel_rfl
@[simp] theorem qbytes_23 : qbytes Tryd.prog 23 = some 24 := by kernel_rfl
@[simp] theorem qagg_23 : qagg Tryd.prog 23 = some false := by kernel_rfl
@[simp] theorem qzero_23 : qzero Tryd.prog 23 = some (V.sl none 0 false) := by kernel_rfl
@[simp] theorem qconcrete_23 : qconcrete Tryd.prog 23 = true := by kernel_rfl
@[simp] theorem qsrc_23 : qsrc Tryd.prog 23 = true := by kernel_rfl
@[simp] theorem qthere_23 : qthere Tryd.prog 23 = true := by kernel_rfl
@[simp] theorem qgen_23 : qgen Tryd.prog 23 = 0 := by kernel_rfl
@[simp] theorem cellsOf_23 : Go.Program.cellsOf Tryd.prog 23 = 1 := by kernel_rfl
@[simp] theorem bytesOf_23 : Go.Program.bytesOf Tryd.prog 23 = 24 := by kernel_rfl
@[simp] theorem qelem_23 : qelem Tryd.prog 23 = some 25 := by kernel_rfl
@[simp] theorem qsize_25 : qsize Tryd.prog 25 = some 7 := by kernel_rfl
@[simp] theorem qbytes_25 : qbytes Tryd.prog 25 = some 88 := by kernel_rfl
@[simp] theorem qagg_25 : qagg Tryd.prog 25 = some true := by kernel_rfl
@[simp] theorem qzero_25 : qzero Tryd.prog 25 = some   (V.agg     [V.i Go.IntKind.i64 (0), V.s [], V.s [], V.s [], V.s [], V.i Go.IntKind.i64 (0),       V.i Go.IntKind.i64 (0)]) := by kernel_rfl
@[simp] theorem qplaces_25 : qplaces Tryd.prog 25 = some [(0, 1), (1, 1), (2, 1), (3, 1), (4, 1), (5, 1), (6, 1)] := by kernel_rfl
@[simp] theorem qconcrete_25 : qconcrete Tryd.prog 25 = true := by kernel_rfl
@[simp] theorem qkey_25 : qkey Tryd.prog 25 = true := by kernel_rfl
@[simp] theorem qthere_25 : qthere Tryd.prog 25 = true := by kernel_rfl
@[simp] theorem qeq_25 : qeq Tryd.prog 25 = some [CK.i Go.IntKind.i64, CK.s, CK.s, CK.s, CK.s, CK.i Go.IntKind.i64, CK.i Go.IntKind.i64] := by kernel_rfl
@[simp] theorem qgen_25 : qgen Tryd.prog 25 = 0 := by kernel_rfl
@[simp] theorem cellsOf_25 : Go.Program.cellsOf Tryd.prog 25 = 7 := by kernel_rfl
@[simp] theorem bytesOf_25 : Go.Program.bytesOf Tryd.prog 25 = 88 := by kernel_rfl
@[simp] theorem qsize_29 : qsize Tryd.prog 29 = some 1 := by kernel_rfl
@[simp] theorem qbytes_29 : qbytes Tryd.prog 29 = some 8 := by kernel_rfl
@[simp] theorem qagg_29 : qagg Tryd.prog 29 = some false := by kernel_rfl
@[simp] theorem qzero_29 : qzero Tryd.prog 29 = some (V.p none) := by kernel_rfl
@[simp] theorem qconcrete_29 : qconcrete Tryd.prog 29 = true := by kernel_rfl
@[simp] theorem qptr_29 : qptr Tryd.prog 29 = true := by kernel_rfl
@[simp] theorem pnn_29 : aeq Tryd.prog 29 (.p none) (.p none) = some true := aeq_pnn qptr_29
@[simp] theorem psn_29 (q : Nat × Nat × Nat) : aeq Tryd.prog 29 (.p (some q)) (.p none) = some false := aeq_psn qptr_29
@[simp] theorem qthere_29 : qthere Tryd.prog 29 = true := by kernel_rfl
@[simp] theorem qgen_29 : qgen Tryd.prog 29 = 0 := by kernel_rfl
@[simp] theorem cellsOf_29 : Go.Program.cellsOf Tryd.prog 29 = 1 := by kernel_rfl
@[simp] theorem bytesOf_29 : Go.Program.bytesOf Tryd.prog 29 = 8 := by kernel_rfl
@[simp] theorem qsize_30 : qsize Tryd.prog 30 = some 1 := by kernel_rfl
@[simp] theorem qbytes_30 : qbytes Tryd.prog 30 = some 8 := by kernel_rfl
@[simp] theorem qagg_30 : qagg Tryd.prog 30 = some false := by kernel_rfl
@[simp] theorem qzero_30 : qzero Tryd.prog 30 = some (V.i Go.IntKind.i64 (0)) := by kernel_rfl
@[simp] theorem qint_30 : qint Tryd.prog 30 = some Go.IntKind.i64 := by kernel_rfl
@[simp] theorem keqi_30 (a c : Int) : keq Tryd.prog 30 (.i Go.IntKind.i64 a) (.i Go.IntKind.i64 c) = some (a == c) := keq_i qint_30
@[simp] theorem qconcrete_30 : qconcrete Tryd.prog 30 = true := by kernel_rfl
@[simp] theorem qkey_30 : qkey Tryd.prog 30 = true := by kernel_rfl
@[simp] theorem qplainKey_30 : qplainKey Tryd.prog 30 = true := by kernel_rfl
@[simp] theorem kf_30 (k : V) : keyFits Tryd.prog 30 k = true := keyFits_plain qplainKey_30
@[simp] theorem qthere_30 : qthere Tryd.prog 30 = true := by kernel_rfl
@[simp] theorem qgen_30 : qgen Tryd.prog 30 = 0 := by kernel_rfl
@[simp] theorem cellsOf_30 : Go.Program.cellsOf Tryd.prog 30 = 1 := by kernel_rfl
@[simp] theorem bytesOf_30 : Go.Program.bytesOf Tryd.prog 30 = 8 := by kernel_rfl
@[simp] theorem qsize_40 : qsize Tryd.prog 40 = some 1 := by kernel_rfl
@[simp] theorem qbytes_40 : qbytes Tryd.prog 40 = some 24 := by kernel_rfl
@[simp] theorem qagg_40 : qagg Tryd.prog 40 = some false := by kernel_rfl
@[simp] theorem qzero_40 : qzero Tryd.prog 40 = some (V.sl none 0 false) := by kernel_rfl
@[simp] theorem qconcrete_40 : qconcrete Tryd.prog 40 = true := by kernel_rfl
@[simp] theorem qsrc_40 : qsrc Tryd.prog 40 = true := by kernel_rfl
@[simp] theorem qthere_40 : qthere Tryd.prog 40 = true := by kernel_rfl
@[simp] theorem qgen_40 : qgen Tryd.prog 40 = 0 := by kernel_rfl
@[simp] theorem cellsOf_40 : Go.Program.cellsOf Tryd.prog 40 = 1 := by kernel_rfl
@[simp] theorem bytesOf_40 : Go.Program.bytesOf Tryd.prog 40 = 24 := by kernel_rfl
@[simp] theorem qelem_40 : qelem Tryd.prog 40 = some 94 := by kernel_rfl
@[simp] theorem qsize_41 : qsize Tryd.prog 41 = some 1 := by kernel_rfl
@[simp] theorem qbytes_41 : qbytes Tryd.prog 41 = some 24 := by kernel_rfl
@[simp] theorem qagg_41 : qagg Tryd.prog 41 = some false := by kernel_rfl
@[simp] theorem qzero_41 : qzero Tryd.prog 41 = some (V.sl none 0 false) := by kernel_rfl
@[simp] theorem qconcrete_41 : qconcrete Tryd.prog 41 = true := by kernel_rfl
@[simp] theorem qsrc_41 : qsrc Tryd.prog 41 = true := by kernel_rfl
@[simp] theorem qthere_41 : qthere Tryd.prog 41 = true := by kernel_rfl
@[simp] theorem qgen_41 : qgen Tryd.prog 41 = 0 := by kernel_rfl
@[simp] theorem cellsOf_41 : Go.Program.cellsOf Tryd.prog 41 = 1 := by kernel_rfl
@[simp] theorem bytesOf_41 : Go.Program.bytesOf Tryd.prog 41 = 24 := by kernel_rfl
@[simp] theorem qelem_41 : qelem Tryd.prog 41 = some 97 := by kernel_rfl
@[simp] theorem qsize_43 : qsize Tryd.prog 43 = some 2 := by kernel_rfl
@[simp] theorem qbytes_43 : qbytes Tryd.prog 43 = some 48 := by kernel_rfl
@[simp] theorem qagg_43 : qagg Tryd.prog 43 = some true := by kernel_rfl
@[simp] theorem qzero_43 : qzero Tryd.prog 43 = some (V.agg [V.sl none 0 false, V.sl none 0 false]) := by kernel_rfl
@[simp] theorem qplaces_43 : qplaces Tryd.prog 43 = some [(0, 1), (1, 1)] := by kernel_rfl
@[simp] theorem qconcrete_43 : qconcrete Tryd.prog 43 = true := by kernel_rfl
@[simp] theorem qthere_43 : qthere Tryd.prog 43 = true := by kernel_rfl
@[simp] theorem qgen_43 : qgen Tryd.prog 43 = 0 := by kernel_rfl
@[simp] theorem cellsOf_43 : Go.Program.cellsOf Tryd.prog 43 = 2 := by kernel_rfl
@[simp] theorem bytesOf_43 : Go.Program.bytesOf Tryd.prog 43 = 48 := by kernel_rfl
@[simp] theorem qsize_51 : qsize Tryd.prog 51 = some 2 := by kernel_rfl
@[simp] theorem qbytes_51 : qbytes Tryd.prog 51 = some 24 := by kernel_rfl
@[simp] theorem qagg_51 : qagg Tryd.prog 51 = some true := by kernel_rfl
@[simp] theorem qzero_51 : qzero Tryd.prog 51 = some (V.agg [V.s [], V.i Go.IntKind.i64 (0)]) := by kernel_rfl
@[simp] theorem qplaces_51 : qplaces Tryd.prog 51 = some [(0, 1), (1, 1)] := by kernel_rfl
@[simp] theorem qconcrete_51 : qconcrete Tryd.prog 51 = true := by kernel_rfl
@[simp] theorem qkey_51 : qkey Tryd.prog 51 = true := by kernel_rfl
@[simp] theorem qthere_51 : qthere Tryd.prog 51 = true := by kernel_rfl
@[simp] theorem qeq_51 : qeq Tryd.prog 51 = some [CK.s, CK.i Go.IntKind.i64] := by kernel_rfl
@[simp] theorem qgen_51 : qgen Tryd.prog 51 = 0 := by kernel_rfl
@[simp] theorem cellsOf_51 : Go.Program.cellsOf Tryd.prog 51 = 2 := by kernel_rfl
@[simp] theorem bytesOf_51 : Go.Program.bytesOf Tryd.prog 51 = 24 := by kernel_rfl
@[simp] theorem qsize_52 : qsize Tryd.prog 52 = some 1 := by kernel_rfl
@[simp] theorem qbytes_52 : qbytes Tryd.prog 52 = some 8 := by kernel_rfl
@[simp] theorem qagg_52 : qagg Tryd.prog 52 = some false := by kernel_rfl
@[simp] theorem qzero_52 : qzero Tryd.prog 52 = some (V.m none) := by kernel_rfl
@[simp] theorem qconcrete_52 : qconcrete Tryd.prog 52 = true := by kernel_rfl
@[simp] theorem qthere_52 : qthere Tryd.prog 52 = true := by kernel_rfl
@[simp] theorem qgen_52 : qgen Tryd.prog 52 = 0 := by kernel_rfl
@[simp] theorem cellsOf_52 : Go.Program.cellsOf Tryd.prog 52 = 1 := by kernel_rfl
@[simp] theorem bytesOf_52 : Go.Program.bytesOf Tryd.prog 52 = 8 := by kernel_rfl
@[simp] theorem qmap_52 : qmap Tryd.prog 52 = some (9, 58) := by kernel_rfl
@[simp] theorem qsize_53 : qsize Tryd.prog 53 = some 1 := by kernel_rfl
@[simp] theorem qbytes_53 : qbytes Tryd.prog 53 = some 8 := by kernel_rfl
@[simp] theorem qagg_53 : qagg Tryd.prog 53 = some false := by kernel_rfl
@[simp] theorem qzero_53 : qzero Tryd.prog 53 = some (V.m none) := by kernel_rfl
@[simp] theorem qconcrete_53 : qconcrete Tryd.prog 53 = true := by kernel_rfl
@[simp] theorem qthere_53 : qthere Tryd.prog 53 = true := by kernel_rfl
@[simp] theorem qgen_53 : qgen Tryd.prog 53 = 0 := by kernel_rfl
@[simp] theorem cellsOf_53 : Go.Program.cellsOf Tryd.prog 53 = 1 := by kernel_rfl
@[simp] theorem bytesOf_53 : Go.Program.bytesOf Tryd.prog 53 = 8 := by kernel_rfl
@[simp] theorem qmap_53 : qmap Tryd.prog 53 = some (65, 63) := by kernel_rfl
@[simp] theorem qsize_55 : qsize Tryd.prog 55 = some 2 := by kernel_rfl
@[simp] theorem qbytes_55 : qbytes Tryd.prog 55 = some 16 := by kernel_rfl
@[simp] theorem qagg_55 : qagg Tryd.prog 55 = some true := by kernel_rfl
@[simp] theorem qzero_55 : qzero Tryd.prog 55 = some (V.agg [V.m none, V.m none]) := by kernel_rfl
@[simp] theorem qplaces_55 : qplaces Tryd.prog 55 = some [(0, 1), (1, 1)] := by kernel_rfl
@[simp] theorem qconcrete_55 : qconcrete Tryd.prog 55 = true := by kernel_rfl
@[simp] theorem qthere_55 : qthere Tryd.prog 55 = true := by kernel_rfl
@[simp] theorem qgen_55 : qgen Tryd.prog 55 = 0 := by kernel_rfl
@[simp] theorem cellsOf_55 : Go.Program.cellsOf Tryd.prog 55 = 2 := by kernel_rfl
@[simp] theorem bytesOf_55 : Go.Program.bytesOf Tryd.prog 55 = 16 := by kernel_rfl
@[simp] theorem qsize_58 : qsize Tryd.prog 58 = some 2 := by kernel_rfl
@[simp] theorem qbytes_58 : qbytes Tryd.prog 58 = some 16 := by kernel_rfl
@[simp] theorem qagg_58 : qagg Tryd.prog 58 = some true := by kernel_rfl
@[simp] theorem qzero_58 : qzero Tryd.prog 58 = some (V.agg [V.i Go.IntKind.i64 (0), V.i Go.IntKind.i64 (0)]) := by kernel_rfl
@[simp] theorem qplaces_58 : qplaces Tryd.prog 58 = some [(0, 1), (1, 1)] := by kernel_rfl
@[simp] theorem qconcrete_58 : qconcrete Tryd.prog 58 = true := by kernel_rfl
@[simp] theorem qkey_58 : qkey Tryd.prog 58 = true := by kernel_rfl
@[simp] theorem qthere_58 : qthere Tryd.prog 58 = true := by kernel_rfl
@[simp] theorem qeq_58 : qeq Tryd.prog 58 = some [CK.i Go.IntKind.i64, CK.i Go.IntKind.i64] := by kernel_rfl
@[simp] theorem qgen_58 : qgen Tryd.prog 58 = 0 := by kernel_rfl
@[simp] theorem cellsOf_58 : Go.Program.cellsOf Tryd.prog 58 = 2 := by kernel_rfl
@[simp] theorem bytesOf_58 : Go.Program.bytesOf Tryd.prog 58 = 16 := by kernel_rfl
@[simp] theorem qsize_63 : qsize Tryd.prog 63 = some 1 := by kernel_rfl
@[simp] theorem qbytes_63 : qbytes Tryd.prog 63 = some 16 := by kernel_rfl
@[simp] theorem qagg_63 : qagg Tryd.prog 63 = some true := by kernel_rfl
@[simp] theorem qzero_63 : qzero Tryd.prog 63 = some (V.agg [V.s []]) := by kernel_rfl
@[simp] theorem qplaces_63 : qplaces Tryd.prog 63 = some [(0, 1)] := by kernel_rfl
@[simp] theorem qconcrete_63 : qconcrete Tryd.prog 63 = true := by kernel_rfl
@[simp] theorem qkey_63 : qkey Tryd.prog 63 = true := by kernel_rfl
@[simp] theorem qthere_63 : qthere Tryd.prog 63 = true := by kernel_rfl
@[simp] theorem qeq_63 : qeq Tryd.prog 63 = some [CK.s] := by kernel_rfl
@[simp] theorem qgen_63 : qgen Tryd.prog 63 = 0 := by kernel_rfl
@[simp] theorem cellsOf_63 : Go.Program.cellsOf Tryd.prog 63 = 1 := by kernel_rfl
@[simp] theorem bytesOf_63 : Go.Program.bytesOf Tryd.prog 63 = 16 := by kernel_rfl
@[simp] theorem qsize_65 : qsize Tryd.prog 65 = some 2 := by kernel_rfl
@[simp] theorem qbytes_65 : qbytes Tryd.prog 65 = some 32 := by kernel_rfl
@[simp] theorem qagg_65 : qagg Tryd.prog 65 = some true := by kernel_rfl
@[simp] theorem qzero_65 : qzero Tryd.prog 65 = some (V.agg [V.s [], V.s []]) := by kernel_rfl
@[simp] theorem qplaces_65 : qplaces Tryd.prog 65 = some [(0, 1), (1, 1)] := by kernel_rfl
@[simp] theorem qconcrete_65 : qconcrete Tryd.prog 65 = true := by kernel_rfl
@[simp] theorem qkey_65 : qkey Tryd.prog 65 = true := by kernel_rfl
@[simp] theorem qthere_65 : qthere Tryd.prog 65 = true := by kernel_rfl
@[simp] theorem qeq_65 : qeq Tryd.prog 65 = some [CK.s, CK.s] := by kernel_rfl
@[simp] theorem qgen_65 : qgen Tryd.prog 65 = 0 := by kernel_rfl
@[simp] theorem cellsOf_65 : Go.Program.cellsOf Tryd.prog 65 = 2 := by kernel_rfl
@[simp] theorem bytesOf_65 : Go.Program.bytesOf Tryd.prog 65 = 32 := by kernel_rfl
@[simp] theorem qsize_68 : qsize Tryd.prog 68 = some 1 := by kernel_rfl
@[simp] theorem qbytes_68 : qbytes Tryd.prog 68 = some 8 := by kernel_rfl
@[simp] theorem qagg_68 : qagg Tryd.prog 68 = some false := by kernel_rfl
@[simp] theorem qzero_68 : qzero Tryd.prog 68 = some (V.p none) := by kernel_rfl
@[simp] theorem qconcrete_68 : qconcrete Tryd.prog 68 = true := by kernel_rfl
@[simp] theorem qptr_68 : qptr Tryd.prog 68 = true := by kernel_rfl
@[simp] theorem pnn_68 : aeq Tryd.prog 68 (.p none) (.p none) = some true := aeq_pnn qptr_68
@[simp] theorem psn_68 (q : Nat × Nat × Nat) : aeq Tryd.prog 68 (.p (some q)) (.p none) = some false := aeq_psn qptr_68
@[simp] theorem qthere_68 : qthere Tryd.prog 68 = true := by kernel_rfl
@[simp] theorem qgen_68 : qgen Tryd.prog 68 = 0 := by kernel_rfl
@[simp] theorem cellsOf_68 : Go.Program.cellsOf Tryd.prog 68 = 1 := by kernel_rfl
@[simp] theorem bytesOf_68 : Go.Program.bytesOf Tryd.prog 68 = 8 := by kernel_rfl
@[simp] theorem qsize_69 : qsize Tryd.prog 69 = some 1 := by kernel_rfl
@[simp] theorem qbytes_69 : qbytes Tryd.prog 69 = some 24 := by kernel_rfl
@[simp] theorem qagg_69 : qagg Tryd.prog 69 = some false := by kernel_rfl
@[simp] theorem qzero_69 : qzero Tryd.prog 69 = some (V.sl none 0 false) := by kernel_rfl
@[simp] theorem qconcrete_69 : qconcrete Tryd.prog 69 = true := by kernel_rfl
@[simp] theorem qsrc_69 : qsrc Tryd.prog 69 = true := by kernel_rfl
@[simp] theorem qbs_69 : qbs Tryd.prog 69 = true := by kernel_rfl
@[simp] theorem qthere_69 : qthere Tryd.prog 69 = true := by kernel_rfl
@[simp] theorem qgen_69 : qgen Tryd.prog 69 = 0 := by kernel_rfl
@[simp] theorem cellsOf_69 : Go.Program.cellsOf Tryd.prog 69 = 1 := by kernel_rfl
@[simp] theorem bytesOf_69 : Go.Program.bytesOf Tryd.prog 69 = 24 := by kernel_rfl
@[simp] theorem qelem_69 : qelem Tryd.prog 69 = some 5 := by kernel_rfl
@[simp] theorem qsize_71 : qsize Tryd.prog 71 = some 2 := by kernel_rfl
@[simp] theorem qbytes_71 : qbytes Tryd.prog 71 = some 32 := by kernel_rfl
@[simp] theorem qagg_71 : qagg Tryd.prog 71 = some true := by kernel_rfl
@[simp] theorem qzero_71 : qzero Tryd.prog 71 = some (V.agg [V.p none, V.sl none 0 false]) := by kernel_rfl
@[simp] theorem qplaces_71 : qplaces Tryd.prog 71 = some [(0, 1), (1, 1)] := by kernel_rfl
@[simp] theorem qconcrete_71 : qconcrete Tryd.prog 71 = true := by kernel_rfl
@[simp] theorem qthere_71 : qthere Tryd.prog 71 = true := by kernel_rfl
@[simp] theorem qgen_71 : qgen Tryd.prog 71 = 72 := by kernel_rfl
@[simp] theorem cellsOf_71 : Go.Program.cellsOf Tryd.prog 71 = 2 := by kernel_rfl
@[simp] theorem bytesOf_71 : Go.Program.bytesOf Tryd.prog 71 = 32 := by kernel_rfl
@[simp] theorem qsize_72 : qsize Tryd.prog 72 = some 1 := by kernel_rfl
@[simp] theorem qbytes_72 : qbytes Tryd.prog 72 = some 24 := by kernel_rfl
@[simp] theorem qagg_72 : qagg Tryd.prog 72 = some false := by kernel_rfl
@[simp] theorem qzero_72 : qzero Tryd.prog 72 = some (V.sl none 0 false) := by kernel_rfl
@[simp] theorem qconcrete_72 : qconcrete Tryd.prog 72 = true := by kernel_rfl
@[simp] theorem qsrc_72 : qsrc Tryd.prog 72 = true := by kernel_rfl
@[simp] theorem qthere_72 : qthere Tryd.prog 72 = true := by kernel_rfl
@[simp] theorem qgen_72 : qgen Tryd.prog 72 = 0 := by kernel_rfl
@[simp] theorem cellsOf_72 : Go.Program.cellsOf Tryd.prog 72 = 1 := by kernel_rfl
@[simp] theorem bytesOf_72 : Go.Program.bytesOf Tryd.prog 72 = 24 := by kernel_rfl
@[simp] theorem qelem_72 : qelem Tryd.prog 72 = some 9 := by kernel_rfl
@[simp] theorem qsize_75 : qsize Tryd.prog 75 = some 1 := by kernel_rfl
@[simp] theorem qbytes_75 : qbytes Tryd.prog 75 = some 8 := by kernel_rfl
@[simp] theorem qagg_75 : qagg Tryd.prog 75 = some false := by kernel_rfl
@[simp] theorem qzero_75 : qzero Tryd.prog 75 = some V.nf := by kernel_rfl
@[simp] theorem qconcrete_75 : qconcrete Tryd.prog 75 = true := by kernel_rfl
@[simp] theorem qthere_75 : qthere Tryd.prog 75 = true := by kernel_rfl
@[simp] theorem qgen_75 : qgen Tryd.prog 75 = 0 := by kernel_rfl
@[simp] theorem cellsOf_75 : Go.Program.cellsOf Tryd.prog 75 = 1 := by kernel_rfl
@[simp] theorem bytesOf_75 : Go.Program.bytesOf Tryd.prog 75 = 8 := by kernel_rfl
@[simp] theorem qsize_77 : qsize Tryd.prog 77 = some 1 := by kernel_rfl
@[simp] theorem qbytes_77 : qbytes Tryd.prog 77 = some 8 := by kernel_rfl
@[simp] theorem qagg_77 : qagg Tryd.prog 77 = some false := by kernel_rfl
@[simp] theorem qzero_77 : qzero Tryd.prog 77 = some V.nf := by kernel_rfl
@[simp] theorem qconcrete_77 : qconcrete Tryd.prog 77 = true := by kernel_rfl
@[simp] theorem qthere_77 : qthere Tryd.prog 77 = true := by kernel_rfl
@[simp] theorem qgen_77 : qgen Tryd.prog 77 = 0 := by kernel_rfl
@[simp] theorem cellsOf_77 : Go.Program.cellsOf Tryd.prog 77 = 1 := by kernel_rfl
@[simp] theorem bytesOf_77 : Go.Program.bytesOf Tryd.prog 77 = 8 := by kernel_rfl
@[simp] theorem qsize_79 : qsize Tryd.prog 79 = some 1 := by kernel_rfl
@[simp] theorem qbytes_79 : qbytes Tryd.prog 79 = some 16 := by kernel_rfl
@[simp] theorem qagg_79 : qagg Tryd.prog 79 = some false := by kernel_rfl
@[simp] theorem qzero_79 : qzero Tryd.prog 79 = some V.nif := by kernel_rfl
@[simp] theorem qthere_79 : qthere Tryd.prog 79 = true := by kernel_rfl
@[simp] theorem qgen_79 : qgen Tryd.prog 79 = 0 := by kernel_rfl
@[simp] theorem cellsOf_79 : Go.Program.cellsOf Tryd.prog 79 = 1 := by kernel_rfl
@[simp] theorem bytesOf_79 : Go.Program.bytesOf Tryd.prog 79 = 16 := by kernel_rfl
@[simp] theorem qsize_83 : qsize Tryd.prog 83 = some 1 := by kernel_rfl
@[simp] theorem qbytes_83 : qbytes Tryd.prog 83 = some 8 := by kernel_rfl
@[simp] theorem qagg_83 : qagg Tryd.prog 83 = some false := by kernel_rfl
@[simp] theorem qzero_83 : qzero Tryd.prog 83 = some V.nf := by kernel_rfl
@[simp] theorem qconcrete_83 : qconcrete Tryd.prog 83 = true := by kernel_rfl
@[simp] theorem qthere_83 : qthere Tryd.prog 83 = true := by kernel_rfl
@[simp] theorem qgen_83 : qgen Tryd.prog 83 = 0 := by kernel_rfl
@[simp] theorem cellsOf_83 : Go.Program.cellsOf Tryd.prog 83 = 1 := by kernel_rfl
@[simp] theorem bytesOf_83 : Go.Program.bytesOf Tryd.prog 83 = 8 := by kernel_rfl
@[simp] theorem qsize_84 : qsize Tryd.prog 84 = some 1 := by kernel_rfl
@[simp] theorem qbytes_84 : qbytes Tryd.prog 84 = some 24 := by kernel_rfl
@[simp] theorem qagg_84 : qagg Tryd.prog 84 = some false := by kernel_rfl
@[simp] theorem qzero_84 : qzero Tryd.prog 84 = some (V.sl none 0 false) := by kernel_rfl
@[simp] theorem qconcrete_84 : qconcrete Tryd.prog 84 = true := by kernel_rfl
@[simp] theorem qsrc_84 : qsrc Tryd.prog 84 = true := by kernel_rfl
@[simp] theorem qthere_84 : qthere Tryd.prog 84 = true := by kernel_rfl
@[simp] theorem qgen_84 : qgen Tryd.prog 84 = 0 := by kernel_rfl
@[simp] theorem cellsOf_84 : Go.Program.cellsOf Tryd.prog 84 = 1 := by kernel_rfl
@[simp] theorem bytesOf_84 : Go.Program.bytesOf Tryd.prog 84 = 24 := by kernel_rfl
@[simp] theorem qelem_84 : qelem Tryd.prog 84 = some 65 := by kernel_rfl
@[simp] theorem qsize_87 : qsize Tryd.prog 87 = some 1 := by kernel_rfl
@[simp] theorem qbytes_87 : qbytes Tryd.prog 87 = some 8 := by kernel_rfl
@[simp] theorem qagg_87 : qagg Tryd.prog 87 = some false := by kernel_rfl
@[simp] theorem qzero_87 : qzero Tryd.prog 87 = some V.nf := by kernel_rfl
@[simp] theorem qconcrete_87 : qconcrete Tryd.prog 87 = true := by kernel_rfl
@[simp] theorem qthere_87 : qthere Tryd.prog 87 = true := by kernel_rfl
@[simp] theorem qgen_87 : qgen Tryd.prog 87 = 0 := by kernel_rfl
@[simp] theorem cellsOf_87 : Go.Program.cellsOf Tryd.prog 87 = 1 := by kernel_rfl
@[simp] theorem bytesOf_87 : Go.Program.bytesOf Tryd.prog 87 = 8 := by kernel_rfl
@[simp] theorem qsize_89 : qsize Tryd.prog 89 = some 1 := by kernel_rfl
@[simp] theorem qbytes_89 : qbytes Tryd.prog 89 = some 8 := by kernel_rfl
@[simp] theorem qagg_89 : qagg Tryd.prog 89 = some false := by kernel_rfl
@[simp] theorem qzero_89 : qzero Tryd.prog 89 = some V.nf := by kernel_rfl
@[simp] theorem qconcrete_89 : qconcrete Tryd.prog 89 = true := by kernel_rfl
@[simp] theorem qthere_89 : qthere Tryd.prog 89 = true := by kernel_rfl
@[simp] theorem qgen_89 : qgen Tryd.prog 89 = 0 := by kernel_rfl
@[simp] theorem cellsOf_89 : Go.Program.cellsOf Tryd.prog 89 = 1 := by kernel_rfl
@[simp] theorem bytesOf_89 : Go.Program.bytesOf Tryd.prog 89 = 8 := by kernel_rfl
@[simp] theorem qsize_94 : qsize Tryd.prog 94 = some 3 := by kernel_rfl
@[simp] theorem qbytes_94 : qbytes Tryd.prog 94 = some 32 := by kernel_rfl
@[simp] theorem qagg_94 : qagg Tryd.prog 94 = some true := by kernel_rfl
@[simp] theorem qzero_94 : qzero Tryd.prog 94 = some (V.agg [V.s [], V.i Go.IntKind.i64 (0), V.i Go.IntKind.i64 (0)]) := by kernel_rfl
@[simp] theorem qplaces_94 : qplaces Tryd.prog 94 = some [(0, 1), (1, 1), (2, 1)] := by kernel_rfl
@[simp] theorem qconcrete_94 : qconcrete Tryd.prog 94 = true := by kernel_rfl
@[simp] theorem qkey_94 : qkey Tryd.prog 94 = true := by kernel_rfl
@[simp] theorem qthere_94 : qthere Tryd.prog 94 = true := by kernel_rfl
@[simp] theorem qeq_94 : qeq Tryd.prog 94 = some [CK.s, CK.i Go.IntKind.i64, CK.i Go.IntKind.i64] := by kernel_rfl
@[simp] theorem qgen_94 : qgen Tryd.prog 94 = 0 := by kernel_rfl
@[simp] theorem cellsOf_94 : Go.Program.cellsOf Tryd.prog 94 = 3 := by kernel_rfl
@[simp] theorem bytesOf_94 : Go.Program.bytesOf Tryd.prog 94 = 32 := by kernel_rfl
@[simp] theorem qsize_97 : qsize Tryd.prog 97 = some 3 := by kernel_rfl
@[simp] theorem qbytes_97 : qbytes Tryd.prog 97 = some 48 := by kernel_rfl
@[simp] theorem qagg_97 : qagg Tryd.prog 97 = some true := by kernel_rfl
@[simp] theorem qzero_97 : qzero Tryd.prog 97 = some (V.agg [V.s [], V.s [], V.s []]) := by kernel_rfl
@[simp] theorem qplaces_97 : qplaces Tryd.prog 97 = some [(0, 1), (1, 1), (2, 1)] := by kernel_rfl
@[simp] theorem qconcrete_97 : qconcrete Tryd.prog 97 = true := by kernel_rfl
@[simp] theorem qkey_97 : qkey Tryd.prog 97 = true := by kernel_rfl
@[simp] theorem qthere_97 : qthere Tryd.prog 97 = true := by kernel_rfl
@[simp] theorem qeq_97 : qeq Tryd.prog 97 = some [CK.s, CK.s, CK.s] := by kernel_rfl
@[simp] theorem qgen_97 : qgen Tryd.prog 97 = 0 := by kernel_rfl
@[simp] theorem cellsOf_97 : Go.Program.cellsOf Tryd.prog 97 = 3 := by kernel_rfl
@[simp] theorem bytesOf_97 : Go.Program.bytesOf Tryd.prog 97 = 48 := by kernel_rfl
@[simp] theorem qsize_106 : qsize Tryd.prog 106 = some 20 := by kernel_rfl
@[simp] theorem qbytes_106 : qbytes Tryd.prog 106 = some 20 := by kernel_rfl
@[simp] theorem qagg_106 : qagg Tryd.prog 106 = some true := by kernel_rfl
@[simp] theorem qzero_106 : qzero Tryd.prog 106 = some   (V.agg     [V.i Go.IntKind.u8 (0), V.i Go.IntKind.u8 (0), V.i Go.IntKind.u8 (0),       V.i Go.IntKind.u8 (0), V.i Go.IntKind.u8 (0), V.i Go.IntKind.u8 (0),       V.i Go.IntKind.u8 (0), V.i Go.IntKind.u8 (0), V.i Go.IntKind.u8 (0),       V.i Go.IntKind.u8 (0), V.i Go.IntKind.u8 (0), V.i Go.IntKind.u8 (0),       V.i Go.IntKind.u8 (0), V.i Go.IntKind.u8 (0), V.i Go.IntKind.u8 (0),       V.i Go.IntKind.u8 (0), V.i Go.IntKind.u8 (0), V.i Go.IntKind.u8 (0),       V.i Go.IntKind.u8 (0), V.i Go.IntKind.u8 (0)]) := by kernel_rfl
@[simp] theorem qconcrete_106 : qconcrete Tryd.prog 106 = true := by kernel_rfl
@[simp] theorem qthere_106 : qthere Tryd.prog 106 = true := by kernel_rfl
@[simp] theorem qgen_106 : qgen Tryd.prog 106 = 0 := by kernel_rfl
@[simp] theorem cellsOf_106 : Go.Program.cellsOf Tryd.prog 106 = 20 := by kernel_rfl
@[simp] theorem bytesOf_106 : Go.Program.bytesOf Tryd.prog 106 = 20 := by kernel_rfl
@[simp] theorem qarr_106 : qarr Tryd.prog 106 = some (20, 5) := by kernel_rfl
@[simp] theorem qsize_109 : qsize Tryd.prog 109 = some 1 := by kernel_rfl
@[simp] theorem qbytes_109 : qbytes Tryd.prog 109 = some 8 := by kernel_rfl
@[simp] theorem qagg_109 : qagg Tryd.prog 109 = some false := by kernel_rfl
@[simp] theorem qzero_109 : qzero Tryd.prog 109 = some V.nf := by kernel_rfl
@[simp] theorem qconcrete_109 : qconcrete Tryd.prog 109 = true := by kernel_rfl
@[simp] theorem qthere_109 : qthere Tryd.prog 109 = true := by kernel_rfl
@[simp] theorem qgen_109 : qgen Tryd.prog 109 = 0 := by kernel_rfl
@[simp] theorem cellsOf_109 : Go.Program.cellsOf Tryd.prog 109 = 1 := by kernel_rfl
@[simp] theorem bytesOf_109 : Go.Program.bytesOf Tryd.prog 109 = 8 := by kernel_rfl
@[simp] theorem qsize_110 : qsize Tryd.prog 110 = some 1 := by kernel_rfl
@[simp] theorem qbytes_110 : qbytes Tryd.prog 110 = some 8 := by kernel_rfl
@[simp] theorem qagg_110 : qagg Tryd.prog 110 = some false := by kernel_rfl
@[simp] theorem qzero_110 : qzero Tryd.prog 110 = some (V.p none) := by kernel_rfl
@[simp] theorem qconcrete_110 : qconcrete Tryd.prog 110 = true := by kernel_rfl
@[simp] theorem qptr_110 : qptr Tryd.prog 110 = true := by kernel_rfl
@[simp] theorem pnn_110 : aeq Tryd.prog 110 (.p none) (.p none) = some true := aeq_pnn qptr_110
@[simp] theorem psn_110 (q : Nat × Nat × Nat) : aeq Tryd.prog 110 (.p (some q)) (.p none) = some false := aeq_psn qptr_110
@[simp] theorem qthere_110 : qthere Tryd.prog 110 = true := by kernel_rfl
@[simp] theorem qgen_110 : qgen Tryd.prog 110 = 0 := by kernel_rfl
@[simp] theorem cellsOf_110 : Go.Program.cellsOf Tryd.prog 110 = 1 := by kernel_rfl
@[simp] theorem bytesOf_110 : Go.Program.bytesOf Tryd.prog 110 = 8 := by kernel_rfl
@[simp] theorem qsize_111 : qsize Tryd.prog 111 = some 1 := by kernel_rfl
@[simp] theorem qbytes_111 : qbytes Tryd.prog 111 = some 24 := by kernel_rfl
@[simp] theorem qagg_111 : qagg Tryd.prog 111 = some false := by kernel_rfl
@[simp] theorem qzero_111 : qzero Tryd.prog 111 = some (V.sl none 0 false) := by kernel_rfl
@[simp] theorem qconcrete_111 : qconcrete Tryd.prog 111 = true := by kernel_rfl
@[simp] theorem qsrc_111 : qsrc Tryd.prog 111 = true := by kernel_rfl
@[simp] theorem qthere_111 : qthere Tryd.prog 111 = true := by kernel_rfl
@[simp] theorem qgen_111 : qgen Tryd.prog 111 = 0 := by kernel_rfl
@[simp] theorem cellsOf_111 : Go.Program.cellsOf Tryd.prog 111 = 1 := by kernel_rfl
@[simp] theorem bytesOf_111 : Go.Program.bytesOf Tryd.prog 111 = 24 := by kernel_rfl
@[simp] theorem qelem_111 : qelem Tryd.prog 111 = some 3 := by kernel_rfl
@[simp] theorem qsize_117 : qsize Tryd.prog 117 = some 3 := by kernel_rfl
@[simp] theorem qbytes_117 : qbytes Tryd.prog 117 = some 12 := by kernel_rfl
@[simp] theorem qagg_117 : qagg Tryd.prog 117 = some true := by kernel_rfl
@[simp] theorem qzero_117 : qzero Tryd.prog 117 = some (V.agg [V.i Go.IntKind.i32 (0), V.i Go.IntKind.i32 (0), V.i Go.IntKind.i32 (0)]) := by kernel_rfl
@[simp] theorem qplaces_117 : qplaces Tryd.prog 117 = some [(0, 1), (1, 1), (2, 1)] := by kernel_rfl
@[simp] theorem qconcrete_117 : qconcrete Tryd.prog 117 = true := by kernel_rfl
@[simp] theorem qkey_117 : qkey Tryd.prog 117 = true := by kernel_rfl
@[simp] theorem qthere_117 : qthere Tryd.prog 117 = true := by kernel_rfl
@[simp] theorem qeq_117 : qeq Tryd.prog 117 = some [CK.i Go.IntKind.i32, CK.i Go.IntKind.i32, CK.i Go.IntKind.i32] := by kernel_rfl
@[simp] theorem qgen_117 : qgen Tryd.prog 117 = 0 := by kernel_rfl
@[simp] theorem cellsOf_117 : Go.Program.cellsOf Tryd.prog 117 = 3 := by kernel_rfl
@[simp] theorem bytesOf_117 : Go.Program.bytesOf Tryd.prog 117 = 12 := by kernel_rfl
@[simp] theorem qsize_118 : qsize Tryd.prog 118 = some 18 := by kernel_rfl
@[simp] theorem qbytes_118 : qbytes Tryd.prog 118 = some 72 := by kernel_rfl
@[simp] theorem qagg_118 : qagg Tryd.prog 118 = some true := by kernel_rfl
@[simp] theorem qzero_118 : qzero Tryd.prog 118 = some   (V.agg     [V.i Go.IntKind.i32 (0), V.i Go.IntKind.i32 (0), V.i Go.IntKind.i32 (0),       V.i Go.IntKind.i32 (0), V.i Go.IntKind.i32 (0), V.i Go.IntKind.i32 (0),       V.i Go.IntKind.i32 (0), V.i Go.IntKind.i32 (0), V.i Go.IntKind.i32 (0),       V.i Go.IntKind.i32 (0), V.i Go.IntKind.i32 (0), V.i Go.IntKind.i32 (0),       V.i Go.IntKind.i32 (0), V.i Go.IntKind.i32 (0), V.i Go.IntKind.i32 (0),       V.i Go.IntKind.i32 (0), V.i Go.IntKind.i32 (0), V.i Go.IntKind.i32 (0)]) := by kernel_rfl
@[simp] theorem qconcrete_118 : qconcrete Tryd.prog 118 = true := by kernel_rfl
@[simp] theorem qthere_118 : qthere Tryd.prog 118 = true := by kernel_rfl
@[simp] theorem qgen_118 : qgen Tryd.prog 118 = 0 := by kernel_rfl
@[simp] theorem cellsOf_118 : Go.Program.cellsOf Tryd.prog 118 = 18 := by kernel_rfl
@[simp] theorem bytesOf_118 : Go.Program.bytesOf Tryd.prog 118 = 72 := by kernel_rfl
@[simp] theorem qarr_118 : qarr Tryd.prog 118 = some (6, 117) := by kernel_rfl
@[simp] theorem qsize_119 : qsize Tryd.prog 119 = some 1 := by kernel_rfl
@[simp] theorem qbytes_119 : qbytes Tryd.prog 119 = some 24 := by kernel_rfl
@[simp] theorem qagg_119 : qagg Tryd.prog 119 = some false := by kernel_rfl
@[simp] theorem qzero_119 : qzero Tryd.prog 119 = some (V.sl none 0 false) := by kernel_rfl
@[simp] theorem qconcrete_119 : qconcrete Tryd.prog 119 = true := by kernel_rfl
@[simp] theorem qsrc_119 : qsrc Tryd.prog 119 = true := by kernel_rfl
@[simp] theorem qthere_119 : qthere Tryd.prog 119 = true := by kernel_rfl
@[simp] theorem qgen_119 : qgen Tryd.prog 119 = 0 := by kernel_rfl
@[simp] theorem cellsOf_119 : Go.Program.cellsOf Tryd.prog 119 = 1 := by kernel_rfl
@[simp] theorem bytesOf_119 : Go.Program.bytesOf Tryd.prog 119 = 24 := by kernel_rfl
@[simp] theorem qelem_119 : qelem Tryd.prog 119 = some 2 := by kernel_rfl
@[simp] theorem qsize_124 : qsize Tryd.prog 124 = some 1 := by kernel_rfl
@[simp] theorem qbytes_124 : qbytes Tryd.prog 124 = some 8 := by kernel_rfl
@[simp] theorem qagg_124 : qagg Tryd.prog 124 = some false := by kernel_rfl
@[simp] theorem qzero_124 : qzero Tryd.prog 124 = some (V.i Go.IntKind.u64 (0)) := by kernel_rfl
@[simp] theorem qint_124 : qint Tryd.prog 124 = some Go.IntKind.u64 := by kernel_rfl
@[simp] theorem keqi_124 (a c : Int) : keq Tryd.prog 124 (.i Go.IntKind.u64 a) (.i Go.IntKind.u64 c) = some (a == c) := keq_i qint_124
@[simp] theorem qconcrete_124 : qconcrete Tryd.prog 124 = true := by kernel_rfl
@[simp] theorem qkey_124 : qkey Tryd.prog 124 = true := by kernel_rfl
@[simp] theorem qplainKey_124 : qplainKey Tryd.prog 124 = true := by kernel_rfl
@[simp] theorem kf_124 (k : V) : keyFits Tryd.prog 124 k = true := keyFits_plain qplainKey_124
@[simp] theorem qthere_124 : qthere Tryd.prog 124 = true := by kernel_rfl
@[simp] theorem qgen_124 : qgen Tryd.prog 124 = 0 := by kernel_rfl
@[simp] theorem cellsOf_124 : Go.Program.cellsOf Tryd.prog 124 = 1 := by kernel_rfl
@[simp] theorem bytesOf_124 : Go.Program.bytesOf Tryd.prog 124 = 8 := by kernel_rfl
@[simp] theorem qsize_125 : qsize Tryd.prog 125 = some 1 := by kernel_rfl
@[simp] theorem qbytes_125 : qbytes Tryd.prog 125 = some 24 := by kernel_rfl
@[simp] theorem qagg_125 : qagg Tryd.prog 125 = some false := by kernel_rfl
@[simp] theorem qzero_125 : qzero Tryd.prog 125 = some (V.sl none 0 false) := by kernel_rfl
@[simp] theorem qconcrete_125 : qconcrete Tryd.prog 125 = true := by kernel_rfl
@[simp] theorem qsrc_125 : qsrc Tryd.prog 125 = true := by kernel_rfl
@[simp] theorem qthere_125 : qthere Tryd.prog 125 = true := by kernel_rfl
@[simp] theorem qgen_125 : qgen Tryd.prog 125 = 0 := by kernel_rfl
@[simp] theorem cellsOf_125 : Go.Program.cellsOf Tryd.prog 125 = 1 := by kernel_rfl
@[simp] theorem bytesOf_125 : Go.Program.bytesOf Tryd.prog 125 = 24 := by kernel_rfl
@[simp] theorem qelem_125 : qelem Tryd.prog 125 = some 21 := by kernel_rfl
@[simp] theorem qsize_127 : qsize Tryd.prog 127 = some 1 := by kernel_rfl
@[simp] theorem qbytes_127 : qbytes Tryd.prog 127 = some 8 := by kernel_rfl
@[simp] theorem qagg_127 : qagg Tryd.prog 127 = some false := by kernel_rfl
@[simp] theorem qzero_127 : qzero Tryd.prog 127 = some (V.p none) := by kernel_rfl
@[simp] theorem qconcrete_127 : qconcrete Tryd.prog 127 = true := by kernel_rfl
@[simp] theorem qthere_127 : qthere Tryd.prog 127 = true := by kernel_rfl
@[simp] theorem qgen_127 : qgen Tryd.prog 127 = 0 := by kernel_rfl
@[simp] theorem cellsOf_127 : Go.Program.cellsOf Tryd.prog 127 = 1 := by kernel_rfl
@[simp] theorem bytesOf_127 : Go.Program.bytesOf Tryd.prog 127 = 8 := by kernel_rfl
@[simp] theorem qsize_136 : qsize Tryd.prog 136 = some 1 := by kernel_rfl
@[simp] theorem qbytes_136 : qbytes Tryd.prog 136 = some 8 := by kernel_rfl
@[simp] theorem qagg_136 : qagg Tryd.prog 136 = some false := by kernel_rfl
@[simp] theorem qzero_136 : qzero Tryd.prog 136 = some (V.i Go.IntKind.i64 (0)) := by kernel_rfl
@[simp] theorem qint_136 : qint Tryd.prog 136 = some Go.IntKind.i64 := by kernel_rfl
@[simp] theorem keqi_136 (a c : Int) : keq Tryd.prog 136 (.i Go.IntKind.i64 a) (.i Go.IntKind.i64 c) = some (a == c) := keq_i qint_136
@[simp] theorem qconcrete_136 : qconcrete Tryd.prog 136 = true := by kernel_rfl
@[simp] theorem qkey_136 : qkey Tryd.prog 136 = true := by kernel_rfl
@[simp] theorem qplainKey_136 : qplainKey Tryd.prog 136 = true := by kernel_rfl
@[simp] theorem kf_136 (k : V) : keyFits Tryd.prog 136 k = true := keyFits_plain qplainKey_136
@[simp] theorem qthere_136 : qthere Tryd.prog 136 = true := by kernel_rfl
@[simp] theorem qgen_136 : qgen Tryd.prog 136 = 0 := by kernel_rfl
@[simp] theorem cellsOf_136 : Go.Program.cellsOf Tryd.prog 136 = 1 := by kernel_rfl
@[simp] theorem bytesOf_136 : Go.Program.bytesOf Tryd.prog 136 = 8 := by kernel_rfl
@[simp] theorem qsize_144 : qsize Tryd.prog 144 = some 1 := by kernel_rfl
@[simp] theorem qbytes_144 : qbytes Tryd.prog 144 = some 4 := by kernel_rfl
@[simp] theorem qagg_144 : qagg Tryd.prog 144 = some false := by kernel_rfl
@[simp] theorem qzero_144 : qzero Tryd.prog 144 = some (V.i Go.IntKind.u32 (0)) := by kernel_rfl
@[simp] theorem qint_144 : qint Tryd.prog 144 = some Go.IntKind.u32 := by kernel_rfl
@[simp] theorem keqi_144 (a c : Int) : keq Tryd.prog 144 (.i Go.IntKind.u32 a) (.i Go.IntKind.u32 c) = some (a == c) := keq_i qint_144
@[simp] theorem qconcrete_144 : qconcrete Tryd.prog 144 = true := by kernel_rfl
@[simp] theorem qkey_144 : qkey Tryd.prog 144 = true := by kernel_rfl
@[simp] theorem qplainKey_144 : qplainKey Tryd.prog 144 = true := by kernel_rfl
@[simp] theorem kf_144 (k : V) : keyFits Tryd.prog 144 k = true := keyFits_plain qplainKey_144
@[simp] theorem qthere_144 : qthere Tryd.prog 144 = true := by kernel_rfl
@[simp] theorem qgen_144 : qgen Tryd.prog 144 = 0 := by kernel_rfl
@[simp] theorem cellsOf_144 : Go.Program.cellsOf Tryd.prog 144 = 1 := by kernel_rfl
@[simp] theorem bytesOf_144 : Go.Program.bytesOf Tryd.prog 144 = 4 := by kernel_rfl
@[simp] theorem qsize_146 : qsize Tryd.prog 146 = some 1 := by kernel_rfl
@[simp] theorem qbytes_146 : qbytes Tryd.prog 146 = some 8 := by kernel_rfl
@[simp] theorem qagg_146 : qagg Tryd.prog 146 = some false := by kernel_rfl
@[simp] theorem qzero_146 : qzero Tryd.prog 146 = some (V.i Go.IntKind.u64 (0)) := by kernel_rfl
@[simp] theorem qint_146 : qint Tryd.prog 146 = some Go.IntKind.u64 := by kernel_rfl
@[simp] theorem keqi_146 (a c : Int) : keq Tryd.prog 146 (.i Go.IntKind.u64 a) (.i Go.IntKind.u64 c) = some (a == c) := keq_i qint_146
@[simp] theorem qconcrete_146 : qconcrete Tryd.prog 146 = true := by kernel_rfl
@[simp] theorem qkey_146 : qkey Tryd.prog 146 = true := by kernel_rfl
@[simp] theorem qplainKey_146 : qplainKey Tryd.prog 146 = true := by kernel_rfl
@[simp] theorem kf_146 (k : V) : keyFits Tryd.prog 146 k = true := keyFits_plain qplainKey_146
@[simp] theorem qthere_146 : qthere Tryd.prog 146 = true := by kernel_rfl
@[simp] theorem qgen_146 : qgen Tryd.prog 146 = 0 := by kernel_rfl
@[simp] theorem cellsOf_146 : Go.Program.cellsOf Tryd.prog 146 = 1 := by kernel_rfl
@[simp] theorem bytesOf_146 : Go.Program.bytesOf Tryd.prog 146 = 8 := by kernel_rfl
@[simp] theorem qsize_153 : qsize Tryd.prog 153 = some 1 := by kernel_rfl
@[simp] theorem qbytes_153 : qbytes Tryd.prog 153 = some 8 := by kernel_rfl
@[simp] theorem qagg_153 : qagg Tryd.prog 153 = some false := by kernel_rfl
@[simp] theorem qzero_153 : qzero Tryd.prog 153 = some (V.i Go.IntKind.u64 (0)) := by kernel_rfl
@[simp] theorem qint_153 : qint Tryd.prog 153 = some Go.IntKind.u64 := by kernel_rfl
@[simp] theorem keqi_153 (a c : Int) : keq Tryd.prog 153 (.i Go.IntKind.u64 a) (.i Go.IntKind.u64 c) = some (a == c) := keq_i qint_153
@[simp] theorem qconcrete_153 : qconcrete Tryd.prog 153 = true := by kernel_rfl
@[simp] theorem qkey_153 : qkey Tryd.prog 153 = true := by kernel_rfl
@[simp] theorem qplainKey_153 : qplainKey Tryd.prog 153 = true := by kernel_rfl
@[simp] theorem kf_153 (k : V) : keyFits Tryd.prog 153 k = true := keyFits_plain qplainKey_153
@[simp] theorem qthere_153 : qthere Tryd.prog 153 = true := by kernel_rfl
@[simp] theorem qgen_153 : qgen Tryd.prog 153 = 0 := by kernel_rfl
@[simp] theorem cellsOf_153 : Go.Program.cellsOf Tryd.prog 153 = 1 := by kernel_rfl
@[simp] theorem bytesOf_153 : Go.Program.bytesOf Tryd.prog 153 = 8 := by kernel_rfl
@[simp] theorem qsize_157 : qsize Tryd.prog 157 = some 1 := by kernel_rfl
@[simp] theorem qbytes_157 : qbytes Tryd.prog 157 = some 8 := by kernel_rfl
@[simp] theorem qagg_157 : qagg Tryd.prog 157 = some false := by kernel_rfl
@[simp] theorem qzero_157 : qzero Tryd.prog 157 = some (V.p none) := by kernel_rfl
@[simp] theorem qconcrete_157 : qconcrete Tryd.prog 157 = true := by kernel_rfl
@[simp] theorem qptr_157 : qptr Tryd.prog 157 = true := by kernel_rfl
@[simp] theorem pnn_157 : aeq Tryd.prog 157 (.p none) (.p none) = some true := aeq_pnn qptr_157
@[simp] theorem psn_157 (q : Nat × Nat × Nat) : aeq Tryd.prog 157 (.p (some q)) (.p none) = some false := aeq_psn qptr_157
@[simp] theorem qthere_157 : qthere Tryd.prog 157 = true := by kernel_rfl
@[simp] theorem qgen_157 : qgen Tryd.prog 157 = 0 := by kernel_rfl
@[simp] theorem cellsOf_157 : Go.Program.cellsOf Tryd.prog 157 = 1 := by kernel_rfl
@[simp] theorem bytesOf_157 : Go.Program.bytesOf Tryd.prog 157 = 8 := by kernel_rfl
@[simp] theorem qsize_161 : qsize Tryd.prog 161 = some 256 := by kernel_rfl
@[simp] theorem qbytes_161 : qbytes Tryd.prog 161 = some 256 := by kernel_rfl
@[simp] theorem qagg_161 : qagg Tryd.prog 161 = some true := by kernel_rfl
@[simp] theorem qzero_161 : qzero Tryd.prog 161 = some   (V.agg     [V.i Go.IntKind.u8 (0), V.i Go.IntKind.u8 (0), V.i Go.IntKind.u8 (0),       V.i Go.IntKind.u8 (0), V.i Go.IntKind.u8 (0), V.i Go.IntKind.u8 (0),       V.i Go.IntKind.u8 (0), V.i Go.IntKind.u8 (0), V.i Go.IntKind.u8 (0),       V.i Go.IntKind.u8 (0), V.i Go.IntKind.u8 (0), V.i Go.IntKind.u8 (0),       V.i Go.IntKind.u8 (0), V.i Go.IntKind.u8 (0), V.i Go.IntKind.u8 (0),       V.i Go.IntKind.u8 (0), V.i Go.IntKind.u8 (0), V.i Go.IntKind.u8 (0),       V.i Go.IntKind.u8 (0), V.i Go.IntKind.u8 (0), V.i Go.IntKind.u8 (0),       V.i Go.IntKind.u8 (0), V.i Go.IntKind.u8 (0), V.i Go.IntKind.u8 (0),       V.i Go.IntKind.u8 (0), V.i Go.IntKind.u8 (0), V.i Go.IntKind.u8 (0),       V.i Go.IntKind.u8 (0), V.i Go.IntKind.u8 (0), V.i Go.IntKind.u8 (0),       V.i Go.IntKind.u8 (0), V.i Go.IntKind.u8 (0), V.i Go.IntKind.u8 (0),       V.i Go.IntKind.u8 (0), V.i Go.IntKind.u8 (0), V.i Go.IntKind.u8 (0),       V.i Go.IntKind.u8 (0), V.i Go.IntKind.u8 (0), V.i Go.IntKind.u8 (0),       V.i Go.IntKind.u8 (0), V.i Go.IntKind.u8 (0), V.i Go.IntKind.u8 (0),       V.i Go.IntKind.u8 (0), V.i Go.IntKind.u8 (0), V.i Go.IntKind.u8 (0),       V.i Go.IntKind.u8 (0), V.i Go.IntKind.u8 (0), V.i Go.IntKind.u8 (0),       V.i Go.IntKind.u8 (0), V.i Go.IntKind.u8 (0), V.i Go.IntKind.u8 (0),       V.i Go.IntKind.u8 (0), V.i Go.IntKind.u8 (0), V.i Go.IntKind.u8 (0),       V.i Go.IntKind.u8 (0), V.i Go.IntKind.u8 (0), V.i Go.IntKind.u8 (0),       V.i Go.IntKind.u8 (0), V.i Go.IntKind.u8 (0), V.i Go.IntKind.u8 (0),       V.i Go.IntKind.u8 (0), V.i Go.IntKind.u8 (0), V.i Go.IntKind.u8 (0),       V.i Go.IntKind.u8 (0), V.i Go.IntKind.u8 (0), V.i Go.IntKind.u8 (0),       V.i Go.IntKind.u8 (0), V.i Go.IntKind.u8 (0), V.i Go.IntKind.u8 (0),       V.i Go.IntKind.u8 (0), V.i Go.IntKind.u8 (0), V.i Go.IntKind.u8 (0),       V.i Go.IntKind.u8 (0), V.i Go.IntKind.u8 (0), V.i Go.IntKind.u8 (0),       V.i Go.IntKind.u8 (0), V.i Go.IntKind.u8 (0), V.i Go.IntKind.u8 (0),       V.i Go.IntKind.u8 (0), V.i Go.IntKind.u8 (0), V.i Go.IntKind.u8 (0),       V.i Go.IntKind.u8 (0), V.i Go.IntKind.u8 (0), V.i Go.IntKind.u8 (0),       V.i Go.IntKind.u8 (0), V.i Go.IntKind.u8 (0), V.i Go.IntKind.u8 (0),       V.i Go.IntKind.u8 (0), V.i Go.IntKind.u8 (0), V.i Go.IntKind.u8 (0),       V.i Go.IntKind.u8 (0), V.i Go.IntKind.u8 (0), V.i Go.IntKind.u8 (0),       V.i Go.IntKind.u8 (0), V.i Go.IntKind.u8 (0), V.i Go.IntKind.u8 (0),       V.i Go.IntKind.u8 (0), V.i Go.IntKind.u8 (0), V.i Go.IntKind.u8 (0),       V.i Go.IntKind.u8 (0), V.i Go.IntKind.u8 (0), V.i Go.IntKind.u8 (0),       V.i Go.IntKind.u8 (0), V.i Go.IntKind.u8 (0), V.i Go.IntKind.u8 (0),       V.i Go.IntKind.u8 (0), V.i Go.IntKind.u8 (0), V.i Go.IntKind.u8 (0),       V.i Go.IntKind.u8 (0), V.i Go.IntKind.u8 (0), V.i Go.IntKind.u8 (0),       V.i Go.IntKind.u8 (0), V.i Go.IntKind.u8 (0), V.i Go.IntKind.u8 (0),       V.i Go.IntKind.u8 (0), V.i Go.IntKind.u8 (0), V.i Go.IntKind.u8 (0),       V.i Go.IntKind.u8 (0), V.i Go.IntKind.u8 (0), V.i Go.IntKind.u8 (0),       V.i Go.IntKind.u8 (0), V.i Go.IntKind.u8 (0), V.i Go.IntKind.u8 (0),       V.i Go.IntKind.u8 (0), V.i Go.IntKind.u8 (0), V.i Go.IntKind.u8 (0),       V.i Go.IntKind.u8 (0), V.i Go.IntKind.u8 (0), V.i Go.IntKind.u8 (0),       V.i Go.IntKind.u8 (0), V.i Go.IntKind.u8 (0), V.i Go.IntKind.u8 (0),       V.i Go.IntKind.u8 (0), V.i Go.IntKind.u8 (0), V.i Go.IntKind.u8 (0),       V.i Go.IntKind.u8 (0), V.i Go.IntKind.u8 (0), V.i Go.IntKind.u8 (0),       V.i Go.IntKind.u8 (0), V.i Go.IntKind.u8 (0), V.i Go.IntKind.u8 (0),       V.i Go.IntKind.u8 (0), V.i Go.IntKind.u8 (0), V.i Go.IntKind.u8 (0),       V.i Go.IntKind.u8 (0), V.i Go.IntKind.u8 (0), V.i Go.IntKind.u8 (0),       V.i Go.IntKind.u8 (0), V.i Go.IntKind.u8 (0), V.i Go.IntKind.u8 (0),       V.i Go.IntKind.u8 (0), V.i Go.IntKind.u8 (0), V.i Go.IntKind.u8 (0),       V.i Go.IntKind.u8 (0), V.i Go.IntKind.u8 (0), V.i Go.IntKind.u8 (0),       V.i Go.IntKind.u8 (0), V.i Go.IntKind.u8 (0), V.i Go.IntKind.u8 (0),       V.i Go.IntKind.u8 (0), V.i Go.IntKind.u8 (0), V.i Go.IntKind.u8 (0),       V.i Go.IntKind.u8 (0), V.i Go.IntKind.u8 (0), V.i Go.IntKind.u8 (0),       V.i Go.IntKind.u8 (0), V.i Go.IntKind.u8 (0), V.i Go.IntKind.u8 (0),       V.i Go.IntKind.u8 (0), V.i Go.IntKind.u8 (0), V.i Go.IntKind.u8 (0),       V.i Go.IntKind.u8 (0), V.i Go.IntKind.u8 (0), V.i Go.IntKind.u8 (0),       V.i Go.IntKind.u8 (0), V.i Go.IntKind.u8 (0), V.i Go.IntKind.u8 (0),       V.i Go.IntKind.u8 (0), V.i Go.IntKind.u8 (0), V.i Go.IntKind.u8 (0),       V.i Go.IntKind.u8 (0), V.i Go.IntKind.u8 (0), V.i Go.IntKind.u8 (0),       V.i Go.IntKind.u8 (0), V.i Go.IntKind.u8 (0), V.i Go.IntKind.u8 (0),       V.i Go.IntKind.u8 (0), V.i Go.IntKind.u8 (0), V.i Go.IntKind.u8 (0),       V.i Go.IntKind.u8 (0), V.i Go.IntKind.u8 (0), V.i Go.IntKind.u8 (0),       V.i Go.IntKind.u8 (0), V.i Go.IntKind.u8 (0), V.i Go.IntKind.u8 (0),       V.i Go.IntKind.u8 (0), V.i Go.IntKind.u8 (0), V.i Go.IntKind.u8 (0),       V.i Go.IntKind.u8 (0), V.i Go.IntKind.u8 (0), V.i Go.IntKind.u8 (0),       V.i Go.IntKind.u8 (0), V.i Go.IntKind.u8 (0), V.i Go.IntKind.u8 (0),       V.i Go.IntKind.u8 (0), V.i Go.IntKind.u8 (0), V.i Go.IntKind.u8 (0),       V.i Go.IntKind.u8 (0), V.i Go.IntKind.u8 (0), V.i Go.IntKind.u8 (0),       V.i Go.IntKind.u8 (0), V.i Go.IntKind.u8 (0), V.i Go.IntKind.u8 (0),       V.i Go.IntKind.u8 (0), V.i Go.IntKind.u8 (0), V.i Go.IntKind.u8 (0),       V.i Go.IntKind.u8 (0), V.i Go.IntKind.u8 (0), V.i Go.IntKind.u8 (0),       V.i Go.IntKind.u8 (0), V.i Go.IntKind.u8 (0), V.i Go.IntKind.u8 (0),       V.i Go.IntKind.u8 (0), V.i Go.IntKind.u8 (0), V.i Go.IntKind.u8 (0),       V.i Go.IntKind.u8 (0), V.i Go.IntKind.u8 (0), V.i Go.IntKind.u8 (0),       V.i Go.IntKind.u8 (0), V.i Go.IntKind.u8 (0), V.i Go.IntKind.u8 (0),       V.i Go.IntKind.u8 (0), V.i Go.IntKind.u8 (0), V.i Go.IntKind.u8 (0),       V.i Go.IntKind.u8 (0), V.i Go.IntKind.u8 (0), V.i Go.IntKind.u8 (0),       V.i Go.IntKind.u8 (0), V.i Go.IntKind.u8 (0), V.i Go.IntKind.u8 (0),       V.i Go.IntKind.u8 (0), V.i Go.IntKind.u8 (0), V.i Go.IntKind.u8 (0),       V.i Go.IntKind.u8 (0), V.i Go.IntKind.u8 (0), V.i Go.IntKind.u8 (0),       V.i Go.IntKind.u8 (0), V.i Go.IntKind.u8 (0), V.i Go.IntKind.u8 (0),       V.i Go.IntKind.u8 (0), V.i Go.IntKind.u8 (0), V.i Go.IntKind.u8 (0),       V.i Go.IntKind.u8 (0), V.i Go.IntKind.u8 (0), V.i Go.IntKind.u8 (0),       V.i Go.IntKind.u8 (0)]) := by kernel_rfl
@[simp] theorem qconcrete_161 : qconcrete Tryd.prog 161 = true := by kernel_rfl
@[simp] theorem qthere_161 : qthere Tryd.prog 161 = true := by kernel_rfl
@[simp] theorem qgen_161 : qgen Tryd.prog 161 = 0 := by kernel_rfl
@[simp] theorem cellsOf_161 : Go.Program.cellsOf Tryd.prog 161 = 256 := by kernel_rfl
@[simp] theorem bytesOf_161 : Go.Program.bytesOf Tryd.prog 161 = 256 := by kernel_rfl
@[simp] theorem qarr_161 : qarr Tryd.prog 161 = some (256, 5) := by kernel_rfl
@[simp] theorem qsize_163 : qsize Tryd.prog 163 = some 2 := by kernel_rfl
@[simp] theorem qbytes_163 : qbytes Tryd.prog 163 = some 2 := by kernel_rfl
@[simp] theorem qagg_163 : qagg Tryd.prog 163 = some true := by kernel_rfl
@[simp] theorem qzero_163 : qzero Tryd.prog 163 = some (V.agg [V.i Go.IntKind.u8 (0), V.i Go.IntKind.u8 (0)]) := by kernel_rfl
@[simp] theorem qplaces_163 : qplaces Tryd.prog 163 = some [(0, 1), (1, 1)] := by kernel_rfl
@[simp] theorem qconcrete_163 : qconcrete Tryd.prog 163 = true := by kernel_rfl
@[simp] theorem qkey_163 : qkey Tryd.prog 163 = true := by kernel_rfl
@[simp] theorem qthere_163 : qthere Tryd.prog 163 = true := by kernel_rfl
@[simp] theorem qeq_163 : qeq Tryd.prog 163 = some [CK.i Go.IntKind.u8, CK.i Go.IntKind.u8] := by kernel_rfl
@[simp] theorem qgen_163 : qgen Tryd.prog 163 = 0 := by kernel_rfl
@[simp] theorem cellsOf_163 : Go.Program.cellsOf Tryd.prog 163 = 2 := by kernel_rfl
@[simp] theorem bytesOf_163 : Go.Program.bytesOf Tryd.prog 163 = 2 := by kernel_rfl
@[simp] theorem qsize_164 : qsize Tryd.prog 164 = some 32 := by kernel_rfl
@[simp] theorem qbytes_164 : qbytes Tryd.prog 164 = some 32 := by kernel_rfl
@[simp] theorem qagg_164 : qagg Tryd.prog 164 = some true := by kernel_rfl
@[simp] theorem qzero_164 : qzero Tryd.prog 164 = some   (V.agg     [V.i Go.IntKind.u8 (0), V.i Go.IntKind.u8 (0), V.i Go.IntKind.u8 (0),       V.i Go.IntKind.u8 (0), V.i Go.IntKind.u8 (0), V.i Go.IntKind.u8 (0),       V.i Go.IntKind.u8 (0), V.i Go.IntKind.u8 (0), V.i Go.IntKind.u8 (0),       V.i Go.IntKind.u8 (0), V.i Go.IntKind.u8 (0), V.i Go.IntKind.u8 (0),       V.i Go.IntKind.u8 (0), V.i Go.IntKind.u8 (0), V.i Go.IntKind.u8 (0),       V.i Go.IntKind.u8 (0), V.i Go.IntKind.u8 (0), V.i Go.IntKind.u8 (0),       V.i Go.IntKind.u8 (0), V.i Go.IntKind.u8 (0), V.i Go.IntKind.u8 (0),       V.i Go.IntKind.u8 (0), V.i Go.IntKind.u8 (0), V.i Go.IntKind.u8 (0),       V.i Go.IntKind.u8 (0), V.i Go.IntKind.u8 (0), V.i Go.IntKind.u8 (0),       V.i Go.IntKind.u8 (0), V.i Go.IntKind.u8 (0), V.i Go.IntKind.u8 (0),       V.i Go.IntKind.u8 (0), V.i Go.IntKind.u8 (0)]) := by kernel_rfl
@[simp] theorem qconcrete_164 : qconcrete Tryd.prog 164 = true := by kernel_rfl
@[simp] theorem qthere_164 : qthere Tryd.prog 164 = true := by kernel_rfl
@[simp] theorem qgen_164 : qgen Tryd.prog 164 = 0 := by kernel_rfl
@[simp] theorem cellsOf_164 : Go.Program.cellsOf Tryd.prog 164 = 32 := by kernel_rfl
@[simp] theorem bytesOf_164 : Go.Program.bytesOf Tryd.prog 164 = 32 := by kernel_rfl
@[simp] theorem qarr_164 : qarr Tryd.prog 164 = some (16, 163) := by kernel_rfl
@[simp] theorem qsize_165 : qsize Tryd.prog 165 = some 1 := by kernel_rfl
@[simp] theorem qbytes_165 : qbytes Tryd.prog 165 = some 8 := by kernel_rfl
@[simp] theorem qagg_165 : qagg Tryd.prog 165 = some false := by kernel_rfl
@[simp] theorem qzero_165 : qzero Tryd.prog 165 = some (V.p none) := by kernel_rfl
@[simp] theorem qconcrete_165 : qconcrete Tryd.prog 165 = true := by kernel_rfl
@[simp] theorem qptr_165 : qptr Tryd.prog 165 = true := by kernel_rfl
@[simp] theorem pnn_165 : aeq Tryd.prog 165 (.p none) (.p none) = some true := aeq_pnn qptr_165
@[simp] theorem psn_165 (q : Nat × Nat × Nat) : aeq Tryd.prog 165 (.p (some q)) (.p none) = some false := aeq_psn qptr_165
@[simp] theorem qthere_165 : qthere Tryd.prog 165 = true := by kernel_rfl
@[simp] theorem qgen_165 : qgen Tryd.prog 165 = 0 := by kernel_rfl
@[simp] theorem cellsOf_165 : Go.Program.cellsOf Tryd.prog 165 = 1 := by kernel_rfl
@[simp] theorem bytesOf_165 : Go.Program.bytesOf Tryd.prog 165 = 8 := by kernel_rfl
@[simp] theorem qsize_176 : qsize Tryd.prog 176 = some 1 := by kernel_rfl
@[simp] theorem qbytes_176 : qbytes Tryd.prog 176 = some 1 := by kernel_rfl
@[simp] theorem qagg_176 : qagg Tryd.prog 176 = some false := by kernel_rfl
@[simp] theorem qzero_176 : qzero Tryd.prog 176 = some (V.i Go.IntKind.u8 (0)) := by kernel_rfl
@[simp] theorem qint_176 : qint Tryd.prog 176 = some Go.IntKind.u8 := by kernel_rfl
@[simp] theorem keqi_176 (a c : Int) : keq Tryd.prog 176 (.i Go.IntKind.u8 a) (.i Go.IntKind.u8 c) = some (a == c) := keq_i qint_176
@[simp] theorem qconcrete_176 : qconcrete Tryd.prog 176 = true := by kernel_rfl
@[simp] theorem qkey_176 : qkey Tryd.prog 176 = true := by kernel_rfl
@[simp] theorem qplainKey_176 : qplainKey Tryd.prog 176 = true := by kernel_rfl
@[simp] theorem kf_176 (k : V) : keyFits Tryd.prog 176 k = true := keyFits_plain qplainKey_176
@[simp] theorem qthere_176 : qthere Tryd.prog 176 = true := by kernel_rfl
@[simp] theorem qgen_176 : qgen Tryd.prog 176 = 0 := by kernel_rfl
@[simp] theorem qgenB_176 : qgenB Tryd.prog 176 = 177 := by kernel_rfl
@[simp] theorem cellsOf_176 : Go.Program.cellsOf Tryd.prog 176 = 1 := by kernel_rfl
@[simp] theorem bytesOf_176 : Go.Program.bytesOf Tryd.prog 176 = 1 := by kernel_rfl
@[simp] theorem qfield_25_0 : qfield Tryd.prog 25 0 = some (0, 1, false) := by kernel_rfl
@[simp] theorem qfield_25_1 : qfield Tryd.prog 25 1 = some (1, 1, false) := by kernel_rfl
@[simp] theorem qfield_25_2 : qfield Tryd.prog 25 2 = some (2, 1, false) := by kernel_rfl
@[simp] theorem qfield_25_3 : qfield Tryd.prog 25 3 = some (3, 1, false) := by kernel_rfl
@[simp] theorem qfield_25_4 : qfield Tryd.prog 25 4 = some (4, 1, false) := by kernel_rfl
@[simp] theorem qfield_25_5 : qfield Tryd.prog 25 5 = some (5, 1, false) := by kernel_rfl
@[simp] theorem qfield_25_6 : qfield Tryd.prog 25 6 = some (6, 1, false) := by kernel_rfl
@[simp] theorem qfield_43_0 : qfield Tryd.prog 43 0 = some (0, 1, false) := by kernel_rfl
@[simp] theorem qfield_43_1 : qfield Tryd.prog 43 1 = some (1, 1, false) := by kernel_rfl
@[simp] theorem qfield_51_0 : qfield Tryd.prog 51 0 = some (0, 1, false) := by kernel_rfl
@[simp] theorem qfield_51_1 : qfield Tryd.prog 51 1 = some (1, 1, false) := by kernel_rfl
@[simp] theorem qfield_55_0 : qfield Tryd.prog 55 0 = some (0, 1, false) := by kernel_rfl
@[simp] theorem qfield_55_1 : qfield Tryd.prog 55 1 = some (1, 1, false) := by kernel_rfl
@[simp] theorem qfield_58_0 : qfield Tryd.prog 58 0 = some (0, 1, false) := by kernel_rfl
@[simp] theorem qfield_58_1 : qfield Tryd.prog 58 1 = some (1, 1, false) := by kernel_rfl
@[simp] theorem qfield_63_0 : qfield Tryd.prog 63 0 = some (0, 1, false) := by kernel_rfl
@[simp] theorem qfield_65_0 : qfield Tryd.prog 65 0 = some (0, 1, false) := by kernel_rfl
@[simp] theorem qfield_65_1 : qfield Tryd.prog 65 1 = some (1, 1, false) := by kernel_rfl
@[simp] theorem qfield_71_0 : qfield Tryd.prog 71 0 = some (0, 1, false) := by kernel_rfl
@[simp] theorem qfield_71_1 : qfield Tryd.prog 71 1 = some (1, 1, false) := by kernel_rfl
@[simp] theorem qfield_94_0 : qfield Tryd.prog 94 0 = some (0, 1, false) := by kernel_rfl
@[simp] theorem qfield_94_1 : qfield Tryd.prog 94 1 = some (1, 1, false) := by kernel_rfl
@[simp] theorem qfield_94_2 : qfield Tryd.prog 94 2 = some (2, 1, false) := by kernel_rfl
@[simp] theorem qfield_97_0 : qfield Tryd.prog 97 0 = some (0, 1, false) := by kernel_rfl
@[simp] theorem qfield_97_1 : qfield Tryd.prog 97 1 = some (1, 1, false) := by kernel_rfl
@[simp] theorem qfield_97_2 : qfield Tryd.prog 97 2 = some (2, 1, false) := by kernel_rfl
@[simp] theorem qfield_117_0 : qfield Tryd.prog 117 0 = some (0, 1, false) := by kernel_rfl
@[simp] theorem qfield_117_1 : qfield Tryd.prog 117 1 = some (1, 1, false) := by kernel_rfl
@[simp] theorem qfield_117_2 : qfield Tryd.prog 117 2 = some (2, 1, false) := by kernel_rfl
@[simp] theorem qfield_163_0 : qfield Tryd.prog 163 0 = some (0, 1, false) := by kernel_rfl
@[simp] theorem qfield_163_1 : qfield Tryd.prog 163 1 = some (1, 1, false) := by kernel_rfl
/-- 8 operations, 9 nodes, looks at memory: true -/
def pl_3_13 : Plan := .take 0 (.take 1 (.take 3 (.take 4 (.alt 2 true (.alt 5 false (.take 6 (.take 7 (.done))) (.stop)) (.stop)))))
def pe_3_13 : Bool := true
/-- 8 operations, 9 nodes, looks at memory: true -/
def pl_3_14 : Plan := .take 0 (.take 1 (.take 3 (.take 4 (.alt 2 true (.alt 5 false (.take 6 (.take 7 (.done))) (.stop)) (.stop)))))
def pe_3_14 : Bool := true
/-- 12 operations, 20 nodes, looks at memory: true -/
def pl_5_13 : Plan := .take 0 (.take 1 (.take 2 (.take 3 (.take 4 (.alt 5 false (.take 6 (.take 7 (.take 8 (.alt 9 true (.alt 10 false (.take 11 (.done)) (.stop)) (.stop))))) (.alt 9 true (.alt 5 false (.take 6 (.take 7 (.take 8 (.alt 10 false (.take 11 (.done)) (.stop))))) (.stop)) (.stop)))))))
def pe_5_13 : Bool := true
/-- 13 operations, 14 nodes, looks at memory: true -/
def pl_10_8 : Plan := .take 0 (.take 1 (.take 2 (.take 3 (.take 4 (.take 5 (.take 6 (.take 7 (.take 8 (.take 9 (.alt 10 true (.alt 11 false (.take 12 (.done)) (.stop)) (.stop)))))))))))
def pe_10_8 : Bool := true
/-- 10 operations, 11 nodes, looks at memory: true -/
def pl_10_15 : Plan := .take 0 (.take 1 (.take 2 (.take 3 (.take 4 (.take 5 (.take 6 (.take 7 (.take 8 (.alt 9 false (.done) (.stop))))))))))
def pe_10_15 : Bool := true
/-- 9 operations, 10 nodes, looks at memory: true -/
def pl_11_6 : Plan := .take 0 (.take 1 (.take 2 (.take 3 (.take 4 (.take 5 (.take 6 (.alt 7 true (.alt 8 false (.done) (.stop)) (.stop))))))))
def pe_11_6 : Bool := true
/-- 13 operations, 14 nodes, looks at memory: true -/
def pl_11_13 : Plan := .take 0 (.take 1 (.take 2 (.take 3 (.take 4 (.take 5 (.take 6 (.take 7 (.take 8 (.take 9 (.take 10 (.take 11 (.alt 12 false (.done) (.stop)))))))))))))
def pe_11_13 : Bool := true
/-- 8 operations, 9 nodes, looks at memory: true -/
def pl_11_15 : Plan := .take 0 (.take 1 (.take 2 (.take 3 (.take 4 (.take 5 (.take 6 (.alt 7 false (.done) (.stop))))))))
def pe_11_15 : Bool := true
/-- 9 operations, 10 nodes, looks at memory: true -/
def pl_11_17 : Plan := .take 0 (.take 1 (.take 2 (.take 3 (.take 4 (.take 5 (.take 6 (.alt 7 true (.alt 8 false (.done) (.stop)) (.stop))))))))
def pe_11_17 : Bool := true
/-- 8 operations, 9 nodes, looks at memory: true -/
def pl_11_19 : Plan := .take 0 (.take 1 (.take 2 (.take 3 (.take 4 (.take 5 (.take 6 (.alt 7 false (.done) (.stop))))))))
def pe_11_19 : Bool := true
/-- 13 operations, 14 nodes, looks at memory: true -/
def pl_12_3 : Plan := .take 0 (.take 1 (.take 2 (.take 3 (.take 5 (.take 6 (.take 7 (.take 8 (.alt 4 true (.alt 9 false (.take 10 (.alt 11 true (.take 12 (.done)) (.stop))) (.stop)) (.stop)))))))))
def pe_12_3 : Bool := true
/-- 13 operations, 14 nodes, looks at memory: true -/
def pl_13_9 : Plan := .take 0 (.take 1 (.take 2 (.take 3 (.take 7 (.take 8 (.alt 4 true (.take 5 (.take 6 (.alt 9 false (.take 10 (.take 11 (.alt 12 true (.done) (.stop)))) (.stop)))) (.stop)))))))
def pe_13_9 : Bool := true
/-- 8 operations, 9 nodes, looks at memory: true -/
def pl_13_15 : Plan := .take 0 (.take 1 (.take 2 (.take 3 (.take 4 (.take 5 (.take 6 (.take 7 (.done))))))))
def pe_13_15 : Bool := true
/-- 11 operations, 12 nodes, looks at memory: true -/
def pl_17_11 : Plan := .take 0 (.take 1 (.take 2 (.take 3 (.take 4 (.take 5 (.take 6 (.take 7 (.take 8 (.take 9 (.take 10 (.done)))))))))))
def pe_17_11 : Bool := true
/-- 14 operations, 15 nodes, looks at memory: true -/
def pl_17_17 : Plan := .take 0 (.take 1 (.take 2 (.take 3 (.take 4 (.take 5 (.take 6 (.take 7 (.take 8 (.take 9 (.take 10 (.take 11 (.alt 12 false (.alt 13 false (.done) (.stop)) (.stop)))))))))))))
def pe_17_17 : Bool := true
/-- 20 operations, 21 nodes, looks at memory: true -/
def pl_18_19 : Plan := .take 0 (.take 1 (.take 2 (.take 3 (.take 4 (.take 5 (.take 6 (.take 7 (.take 8 (.take 9 (.take 10 (.take 11 (.take 12 (.take 13 (.take 14 (.take 15 (.take 16 (.take 17 (.take 18 (.take 19 (.done))))))))))))))))))))
def pe_18_19 : Bool := true
/-- 14 operations, 15 nodes, looks at memory: true -/
def pl_18_21 : Plan := .take 0 (.take 1 (.take 2 (.take 3 (.take 4 (.take 5 (.take 6 (.take 7 (.take 8 (.take 9 (.alt 10 true (.alt 11 true (.take 12 (.alt 13 false (.done) (.stop))) (.stop)) (.stop)))))))))))
def pe_18_21 : Bool := true
/-- 12 operations, 13 nodes, looks at memory: true -/
def pl_19_1 : Plan := .take 0 (.take 2 (.alt 1 true (.alt 3 true (.take 4 (.take 5 (.take 6 (.take 8 (.alt 7 true (.alt 9 true (.take 10 (.take 11 (.done))) (.stop)) (.stop)))))) (.stop)) (.stop)))
def pe_19_1 : Bool := true
/-- 13 operations, 14 nodes, looks at memory: true -/
def pl_19_6 : Plan := .take 0 (.take 1 (.take 2 (.take 3 (.take 4 (.take 5 (.take 6 (.take 7 (.take 8 (.take 9 (.take 12 (.alt 10 true (.take 11 (.done)) (.stop))))))))))))
def pe_19_6 : Bool := true
/-- 33 operations, 34 nodes, looks at memory: true -/
def pl_19_10 : Plan := .take 0 (.take 1 (.take 3 (.take 4 (.alt 2 true (.take 5 (.take 6 (.take 7 (.take 8 (.take 10 (.take 11 (.alt 9 true (.take 12 (.take 13 (.take 14 (.take 15 (.take 16 (.take 17 (.take 18 (.take 19 (.take 20 (.take 21 (.take 23 (.take 24 (.take 25 (.take 26 (.take 27 (.take 28 (.take 29 (.alt 22 true (.alt 30 true (.take 31 (.take 32 (.done))) (.stop)) (.stop))))))))))))))))))) (.stop)))))))) (.stop)))))
def pe_19_10 : Bool := true
/-- 12 operations, 13 nodes, looks at memory: true -/
def pl_35_1 : Plan := .take 0 (.take 1 (.take 2 (.take 3 (.take 5 (.take 6 (.take 7 (.take 8 (.take 9 (.alt 4 true (.alt 10 false (.take 11 (.done)) (.stop)) (.stop))))))))))
def pe_35_1 : Bool := true
/-- 9 operations, 10 nodes, looks at memory: true -/
def pl_38_5 : Plan := .take 0 (.take 1 (.take 2 (.take 3 (.take 4 (.take 5 (.take 6 (.take 7 (.take 8 (.done)))))))))
def pe_38_5 : Bool := true
/-- 8 operations, 9 nodes, looks at memory: true -/
def pl_38_7 : Plan := .take 0 (.take 1 (.take 4 (.take 5 (.alt 2 true (.alt 3 true (.take 6 (.alt 7 false (.done) (.stop))) (.stop)) (.stop)))))
def pe_38_7 : Bool := true
/-- 11 operations, 12 nodes, looks at memory: true -/
def pl_41_8 : Plan := .take 0 (.take 1 (.take 2 (.take 3 (.take 4 (.take 5 (.take 6 (.take 7 (.take 8 (.take 9 (.alt 10 false (.done) (.stop)))))))))))
def pe_41_8 : Bool := true
/-- 25 operations, 26 nodes, looks at memory: true -/
def pl_41_11 : Plan := .take 0 (.take 1 (.take 2 (.take 3 (.take 4 (.take 5 (.take 6 (.take 7 (.take 8 (.take 9 (.take 10 (.take 11 (.take 12 (.take 16 (.take 17 (.take 18 (.take 19 (.take 20 (.alt 13 true (.take 14 (.take 15 (.alt 21 true (.take 22 (.take 23 (.take 24 (.done)))) (.stop)))) (.stop)))))))))))))))))))
def pe_41_11 : Bool := true
/-- 11 operations, 12 nodes, looks at memory: true -/
def pl_41_12 : Plan := .take 1 (.take 2 (.take 3 (.take 5 (.take 6 (.take 7 (.take 8 (.alt 0 true (.alt 4 true (.alt 9 false (.take 10 (.done)) (.stop)) (.stop)) (.stop))))))))
def pe_41_12 : Bool := true
/-- 12 operations, 17 nodes, looks at memory: true -/
def pl_41_19 : Plan := .take 0 (.take 1 (.take 2 (.take 3 (.take 4 (.take 5 (.take 6 (.take 7 (.alt 8 true (.alt 9 true (.alt 10 true (.alt 11 false (.done) (.stop)) (.stop)) (.stop)) (.alt 9 true (.alt 8 true (.alt 10 true (.alt 11 false (.done) (.stop)) (.stop)) (.stop)) (.stop))))))))))
def pe_41_19 : Bool := true
/-- 23 operations, 24 nodes, looks at memory: true -/
def pl_41_23 : Plan := .take 0 (.take 1 (.take 2 (.take 3 (.take 4 (.take 5 (.take 6 (.take 7 (.take 8 (.take 9 (.take 10 (.take 11 (.take 12 (.take 13 (.take 14 (.take 15 (.take 16 (.take 17 (.take 18 (.take 19 (.take 20 (.take 21 (.take 22 (.done)))))))))))))))))))))))
def pe_41_23 : Bool := true
/-- 11 operations, 12 nodes, looks at memory: true -/
def pl_41_24 : Plan := .take 1 (.take 2 (.take 3 (.take 5 (.take 6 (.take 7 (.take 8 (.alt 0 true (.alt 4 true (.alt 9 false (.take 10 (.done)) (.stop)) (.stop)) (.stop))))))))
def pe_41_24 : Bool := true
/-- 9 operations, 10 nodes, looks at memory: true -/
def pl_62_6 : Plan := .take 0 (.take 1 (.take 2 (.take 3 (.take 4 (.take 5 (.take 6 (.take 7 (.take 8 (.done)))))))))
def pe_62_6 : Bool := true
/-- 10 operations, 11 nodes, looks at memory: true -/
def pl_62_7 : Plan := .take 0 (.take 1 (.take 2 (.take 3 (.take 4 (.take 5 (.take 6 (.take 7 (.take 8 (.take 9 (.done))))))))))
def pe_62_7 : Bool := true
/-- 17 operations, 18 nodes, looks at memory: true -/
def pl_67_17 : Plan := .take 0 (.take 1 (.take 2 (.take 3 (.take 4 (.take 5 (.take 6 (.take 7 (.take 8 (.take 9 (.take 10 (.take 11 (.take 12 (.alt 13 false (.take 14 (.take 15 (.take 16 (.done)))) (.stop))))))))))))))
def pe_67_17 : Bool := true
/-- 17 operations, 18 nodes, looks at memory: true -/
def pl_72_17 : Plan := .take 0 (.take 1 (.take 2 (.take 3 (.take 4 (.take 5 (.take 6 (.take 7 (.take 8 (.take 9 (.take 10 (.take 11 (.take 12 (.alt 13 false (.take 14 (.take 15 (.take 16 (.done)))) (.stop))))))))))))))
def pe_72_17 : Bool := true
/-- 17 operations, 18 nodes, looks at memory: true -/
def pl_75_4 : Plan := .take 0 (.take 1 (.take 2 (.take 3 (.take 4 (.take 5 (.take 6 (.take 7 (.take 8 (.take 9 (.take 10 (.take 11 (.take 12 (.take 13 (.alt 14 false (.take 15 (.take 16 (.done))) (.stop)))))))))))))))
def pe_75_4 : Bool := true
/-- 18 operations, 19 nodes, looks at memory: true -/
def pl_75_6 : Plan := .take 0 (.take 1 (.take 2 (.take 3 (.take 4 (.take 5 (.take 6 (.take 7 (.take 8 (.take 9 (.take 10 (.take 11 (.take 12 (.take 13 (.take 14 (.alt 15 false (.take 16 (.alt 17 false (.done) (.stop))) (.stop))))))))))))))))
def pe_75_6 : Bool := true
/-- 20 operations, 21 nodes, looks at memory: true -/
def pl_76_10 : Plan := .take 0 (.take 1 (.take 2 (.take 3 (.take 4 (.take 5 (.take 6 (.take 7 (.take 8 (.take 9 (.take 10 (.take 11 (.take 12 (.take 13 (.take 14 (.take 15 (.take 16 (.alt 17 false (.take 18 (.alt 19 false (.done) (.stop))) (.stop))))))))))))))))))
def pe_76_10 : Bool := true
/-- 20 operations, 21 nodes, looks at memory: true -/
def pl_77_10 : Plan := .take 0 (.take 1 (.take 2 (.take 3 (.take 4 (.take 5 (.take 6 (.take 7 (.take 8 (.take 9 (.take 10 (.take 11 (.take 12 (.take 13 (.take 14 (.take 15 (.take 16 (.alt 17 false (.take 18 (.alt 19 false (.done) (.stop))) (.stop))))))))))))))))))
def pe_77_10 : Bool := true
/-- 16 operations, 17 nodes, looks at memory: true -/
def pl_79_3 : Plan := .take 0 (.take 1 (.take 2 (.take 3 (.take 4 (.take 5 (.take 6 (.take 7 (.take 8 (.take 9 (.take 10 (.take 11 (.take 12 (.alt 13 false (.take 14 (.alt 15 false (.done) (.stop))) (.stop))))))))))))))
def pe_79_3 : Bool := true
/-- 18 operations, 19 nodes, looks at memory: true -/
def pl_80_5 : Plan := .take 0 (.take 1 (.take 2 (.take 3 (.take 4 (.take 5 (.take 6 (.take 7 (.take 8 (.take 9 (.take 10 (.take 11 (.take 12 (.take 13 (.alt 14 false (.take 15 (.take 16 (.take 17 (.done)))) (.stop)))))))))))))))
def pe_80_5 : Bool := true
/-- 18 operations, 19 nodes, looks at memory: true -/
def pl_80_11 : Plan := .take 0 (.take 1 (.take 2 (.take 3 (.take 4 (.take 5 (.take 6 (.take 7 (.take 8 (.take 9 (.take 10 (.take 11 (.take 12 (.take 13 (.take 14 (.alt 15 false (.take 16 (.alt 17 false (.done) (.stop))) (.stop))))))))))))))))
def pe_80_11 : Bool := true
/-- 13 operations, 14 nodes, looks at memory: true -/
def pl_80_16 : Plan := .take 0 (.take 1 (.take 2 (.take 3 (.take 4 (.take 5 (.take 6 (.take 7 (.take 8 (.take 9 (.alt 10 false (.take 11 (.take 12 (.done))) (.stop)))))))))))
def pe_80_16 : Bool := true
/-- 18 operations, 19 nodes, looks at memory: true -/
def pl_80_17 : Plan := .take 0 (.take 1 (.take 2 (.take 3 (.take 4 (.take 5 (.take 6 (.take 7 (.take 8 (.take 9 (.take 10 (.take 11 (.take 12 (.take 13 (.take 14 (.alt 15 false (.take 16 (.alt 17 false (.done) (.stop))) (.stop))))))))))))))))
def pe_80_17 : Bool := true
/-- 13 operations, 14 nodes, looks at memory: true -/
def pl_80_22 : Plan := .take 0 (.take 1 (.take 2 (.take 3 (.take 4 (.take 5 (.take 6 (.take 7 (.take 8 (.take 9 (.alt 10 false (.take 11 (.take 12 (.done))) (.stop)))))))))))
def pe_80_22 : Bool := true
/-- 18 operations, 19 nodes, looks at memory: true -/
def pl_80_23 : Plan := .take 0 (.take 1 (.take 2 (.take 3 (.take 4 (.take 5 (.take 6 (.take 7 (.take 8 (.take 9 (.take 10 (.take 11 (.take 12 (.take 13 (.take 14 (.alt 15 false (.take 16 (.alt 17 false (.done) (.stop))) (.stop))))))))))))))))
def pe_80_23 : Bool := true
/-- 16 operations, 17 nodes, looks at memory: true -/
def pl_81_1 : Plan := .take 0 (.take 1 (.take 2 (.take 3 (.take 4 (.take 5 (.take 6 (.take 7 (.take 8 (.take 9 (.take 10 (.take 11 (.take 12 (.alt 13 false (.take 14 (.alt 15 false (.done) (.stop))) (.stop))))))))))))))
def pe_81_1 : Bool := true
/-- 17 operations, 18 nodes, looks at memory: true -/
def pl_81_3 : Plan := .take 0 (.take 1 (.take 2 (.take 3 (.take 4 (.take 5 (.take 6 (.take 7 (.take 8 (.take 9 (.take 10 (.take 11 (.take 12 (.alt 13 false (.take 14 (.take 15 (.take 16 (.done)))) (.stop))))))))))))))
def pe_81_3 : Bool := true
/-- 16 operations, 17 nodes, looks at memory: true -/
def pl_81_5 : Plan := .take 0 (.take 1 (.take 2 (.take 3 (.take 4 (.take 5 (.take 6 (.take 7 (.take 8 (.take 9 (.take 10 (.take 11 (.take 12 (.alt 13 false (.take 14 (.take 15 (.done))) (.stop))))))))))))))
def pe_81_5 : Bool := true
/-- 16 operations, 17 nodes, looks at memory: true -/
def pl_81_8 : Plan := .take 0 (.take 1 (.take 2 (.take 3 (.take 4 (.take 5 (.take 6 (.take 7 (.take 8 (.take 9 (.take 10 (.take 11 (.take 12 (.alt 13 false (.take 14 (.alt 15 false (.done) (.stop))) (.stop))))))))))))))
def pe_81_8 : Bool := true
/-- 16 operations, 17 nodes, looks at memory: true -/
def pl_82_1 : Plan := .take 0 (.take 1 (.take 2 (.take 3 (.take 4 (.take 5 (.take 6 (.take 7 (.take 8 (.take 9 (.take 10 (.take 11 (.take 12 (.alt 13 false (.take 14 (.alt 15 false (.done) (.stop))) (.stop))))))))))))))
def pe_82_1 : Bool := true
/-- 16 operations, 17 nodes, looks at memory: true -/
def pl_82_3 : Plan := .take 0 (.take 1 (.take 2 (.take 3 (.take 4 (.take 5 (.take 6 (.take 7 (.take 8 (.take 9 (.take 10 (.take 11 (.take 12 (.alt 13 false (.take 14 (.take 15 (.done))) (.stop))))))))))))))
def pe_82_3 : Bool := true
/-- 17 operations, 18 nodes, looks at memory: true -/
def pl_82_5 : Plan := .take 0 (.take 1 (.take 2 (.take 3 (.take 4 (.take 5 (.take 6 (.take 7 (.take 8 (.take 9 (.take 10 (.take 11 (.take 12 (.alt 13 false (.take 14 (.take 15 (.take 16 (.done)))) (.stop))))))))))))))
def pe_82_5 : Bool := true
/-- 16 operations, 17 nodes, looks at memory: true -/
def pl_82_8 : Plan := .take 0 (.take 1 (.take 2 (.take 3 (.take 4 (.take 5 (.take 6 (.take 7 (.take 8 (.take 9 (.take 10 (.take 11 (.take 12 (.alt 13 false (.take 14 (.alt 15 false (.done) (.stop))) (.stop))))))))))))))
def pe_82_8 : Bool := true
/-- 16 operations, 17 nodes, looks at memory: true -/
def pl_82_10 : Plan := .take 0 (.take 1 (.take 2 (.take 3 (.take 4 (.take 5 (.take 6 (.take 7 (.take 8 (.take 9 (.take 10 (.take 11 (.take 12 (.alt 13 false (.take 14 (.alt 15 false (.done) (.stop))) (.stop))))))))))))))
def pe_82_10 : Bool := true
/-- 16 operations, 17 nodes, looks at memory: true -/
def pl_82_13 : Plan := .take 0 (.take 1 (.take 2 (.take 3 (.take 4 (.take 5 (.take 6 (.take 7 (.take 8 (.take 9 (.take 10 (.take 11 (.take 12 (.alt 13 false (.take 14 (.take 15 (.done))) (.stop))))))))))))))
def pe_82_13 : Bool := true
/-- 17 operations, 18 nodes, looks at memory: true -/
def pl_82_15 : Plan := .take 0 (.take 1 (.take 2 (.take 3 (.take 4 (.take 5 (.take 6 (.take 7 (.take 8 (.take 9 (.take 10 (.take 11 (.take 12 (.alt 13 false (.take 14 (.take 15 (.take 16 (.done)))) (.stop))))))))))))))
def pe_82_15 : Bool := true
/-- 16 operations, 17 nodes, looks at memory: true -/
def pl_82_18 : Plan := .take 0 (.take 1 (.take 2 (.take 3 (.take 4 (.take 5 (.take 6 (.take 7 (.take 8 (.take 9 (.take 10 (.take 11 (.take 12 (.alt 13 false (.take 14 (.alt 15 false (.done) (.stop))) (.stop))))))))))))))
def pe_82_18 : Bool := true
/-- 16 operations, 17 nodes, looks at memory: true -/
def pl_82_21 : Plan := .take 0 (.take 1 (.take 2 (.take 3 (.take 4 (.take 5 (.take 6 (.take 7 (.take 8 (.take 9 (.take 10 (.take 11 (.take 12 (.alt 13 false (.take 14 (.alt 15 false (.done) (.stop))) (.stop))))))))))))))
def pe_82_21 : Bool := true
/-- 17 operations, 18 nodes, looks at memory: true -/
def pl_85_4 : Plan := .take 0 (.take 1 (.take 2 (.take 3 (.take 4 (.take 5 (.take 6 (.take 7 (.take 8 (.take 9 (.take 10 (.take 11 (.take 12 (.take 13 (.alt 14 false (.take 15 (.take 16 (.done))) (.stop)))))))))))))))
def pe_85_4 : Bool := true
/-- 18 operations, 19 nodes, looks at memory: true -/
def pl_85_6 : Plan := .take 0 (.take 1 (.take 2 (.take 3 (.take 4 (.take 5 (.take 6 (.take 7 (.take 8 (.take 9 (.take 10 (.take 11 (.take 12 (.take 13 (.take 14 (.alt 15 false (.take 16 (.alt 17 false (.done) (.stop))) (.stop))))))))))))))))
def pe_85_6 : Bool := true
/-- 20 operations, 21 nodes, looks at memory: true -/
def pl_86_10 : Plan := .take 0 (.take 1 (.take 2 (.take 3 (.take 4 (.take 5 (.take 6 (.take 7 (.take 8 (.take 9 (.take 10 (.take 11 (.take 12 (.take 13 (.take 14 (.take 15 (.take 16 (.alt 17 false (.take 18 (.alt 19 false (.done) (.stop))) (.stop))))))))))))))))))
def pe_86_10 : Bool := true
/-- 20 operations, 21 nodes, looks at memory: true -/
def pl_87_10 : Plan := .take 0 (.take 1 (.take 2 (.take 3 (.take 4 (.take 5 (.take 6 (.take 7 (.take 8 (.take 9 (.take 10 (.take 11 (.take 12 (.take 13 (.take 14 (.take 15 (.take 16 (.alt 17 false (.take 18 (.alt 19 false (.done) (.stop))) (.stop))))))))))))))))))
def pe_87_10 : Bool := true
/-- 16 operations, 17 nodes, looks at memory: true -/
def pl_89_3 : Plan := .take 0 (.take 1 (.take 2 (.take 3 (.take 4 (.take 5 (.take 6 (.take 7 (.take 8 (.take 9 (.take 10 (.take 11 (.take 12 (.alt 13 false (.take 14 (.alt 15 false (.done) (.stop))) (.stop))))))))))))))
def pe_89_3 : Bool := true
/-- 18 operations, 19 nodes, looks at memory: true -/
def pl_90_5 : Plan := .take 0 (.take 1 (.take 2 (.take 3 (.take 4 (.take 5 (.take 6 (.take 7 (.take 8 (.take 9 (.take 10 (.take 11 (.take 12 (.take 13 (.alt 14 false (.take 15 (.take 16 (.take 17 (.done)))) (.stop)))))))))))))))
def pe_90_5 : Bool := true
/-- 18 operations, 19 nodes, looks at memory: true -/
def pl_90_11 : Plan := .take 0 (.take 1 (.take 2 (.take 3 (.take 4 (.take 5 (.take 6 (.take 7 (.take 8 (.take 9 (.take 10 (.take 11 (.take 12 (.take 13 (.take 14 (.alt 15 false (.take 16 (.alt 17 false (.done) (.stop))) (.stop))))))))))))))))
def pe_90_11 : Bool := true
/-- 13 operations, 14 nodes, looks at memory: true -/
def pl_90_16 : Plan := .take 0 (.take 1 (.take 2 (.take 3 (.take 4 (.take 5 (.take 6 (.take 7 (.take 8 (.take 9 (.alt 10 false (.take 11 (.take 12 (.done))) (.stop)))))))))))
def pe_90_16 : Bool := true
/-- 18 operations, 19 nodes, looks at memory: true -/
def pl_90_17 : Plan := .take 0 (.take 1 (.take 2 (.take 3 (.take 4 (.take 5 (.take 6 (.take 7 (.take 8 (.take 9 (.take 10 (.take 11 (.take 12 (.take 13 (.take 14 (.alt 15 false (.take 16 (.alt 17 false (.done) (.stop))) (.stop))))))))))))))))
def pe_90_17 : Bool := true
/-- 13 operations, 14 nodes, looks at memory: true -/
def pl_90_22 : Plan := .take 0 (.take 1 (.take 2 (.take 3 (.take 4 (.take 5 (.take 6 (.take 7 (.take 8 (.take 9 (.alt 10 false (.take 11 (.take 12 (.done))) (.stop)))))))))))
def pe_90_22 : Bool := true
/-- 18 operations, 19 nodes, looks at memory: true -/
def pl_90_23 : Plan := .take 0 (.take 1 (.take 2 (.take 3 (.take 4 (.take 5 (.take 6 (.take 7 (.take 8 (.take 9 (.take 10 (.take 11 (.take 12 (.take 13 (.take 14 (.alt 15 false (.take 16 (.alt 17 false (.done) (.stop))) (.stop))))))))))))))))
def pe_90_23 : Bool := true
/-- 16 operations, 17 nodes, looks at memory: true -/
def pl_91_1 : Plan := .take 0 (.take 1 (.take 2 (.take 3 (.take 4 (.take 5 (.take 6 (.take 7 (.take 8 (.take 9 (.take 10 (.take 11 (.take 12 (.alt 13 false (.take 14 (.alt 15 false (.done) (.stop))) (.stop))))))))))))))
def pe_91_1 : Bool := true
/-- 17 operations, 18 nodes, looks at memory: true -/
def pl_91_3 : Plan := .take 0 (.take 1 (.take 2 (.take 3 (.take 4 (.take 5 (.take 6 (.take 7 (.take 8 (.take 9 (.take 10 (.take 11 (.take 12 (.alt 13 false (.take 14 (.take 15 (.take 16 (.done)))) (.stop))))))))))))))
def pe_91_3 : Bool := true
/-- 16 operations, 17 nodes, looks at memory: true -/
def pl_91_5 : Plan := .take 0 (.take 1 (.take 2 (.take 3 (.take 4 (.take 5 (.take 6 (.take 7 (.take 8 (.take 9 (.take 10 (.take 11 (.take 12 (.alt 13 false (.take 14 (.take 15 (.done))) (.stop))))))))))))))
def pe_91_5 : Bool := true
/-- 16 operations, 17 nodes, looks at memory: true -/
def pl_91_8 : Plan := .take 0 (.take 1 (.take 2 (.take 3 (.take 4 (.take 5 (.take 6 (.take 7 (.take 8 (.take 9 (.take 10 (.take 11 (.take 12 (.alt 13 false (.take 14 (.alt 15 false (.done) (.stop))) (.stop))))))))))))))
def pe_91_8 : Bool := true
/-- 16 operations, 17 nodes, looks at memory: true -/
def pl_92_1 : Plan := .take 0 (.take 1 (.take 2 (.take 3 (.take 4 (.take 5 (.take 6 (.take 7 (.take 8 (.take 9 (.take 10 (.take 11 (.take 12 (.alt 13 false (.take 14 (.alt 15 false (.done) (.stop))) (.stop))))))))))))))
def pe_92_1 : Bool := true
/-- 16 operations, 17 nodes, looks at memory: true -/
def pl_92_3 : Plan := .take 0 (.take 1 (.take 2 (.take 3 (.take 4 (.take 5 (.take 6 (.take 7 (.take 8 (.take 9 (.take 10 (.take 11 (.take 12 (.alt 13 false (.take 14 (.take 15 (.done))) (.stop))))))))))))))
def pe_92_3 : Bool := true
/-- 17 operations, 18 nodes, looks at memory: true -/
def pl_92_5 : Plan := .take 0 (.take 1 (.take 2 (.take 3 (.take 4 (.take 5 (.take 6 (.take 7 (.take 8 (.take 9 (.take 10 (.take 11 (.take 12 (.alt 13 false (.take 14 (.take 15 (.take 16 (.done)))) (.stop))))))))))))))
def pe_92_5 : Bool := true
/-- 16 operations, 17 nodes, looks at memory: true -/
def pl_92_8 : Plan := .take 0 (.take 1 (.take 2 (.take 3 (.take 4 (.take 5 (.take 6 (.take 7 (.take 8 (.take 9 (.take 10 (.take 11 (.take 12 (.alt 13 false (.take 14 (.alt 15 false (.done) (.stop))) (.stop))))))))))))))
def pe_92_8 : Bool := true
/-- 16 operations, 17 nodes, looks at memory: true -/
def pl_92_10 : Plan := .take 0 (.take 1 (.take 2 (.take 3 (.take 4 (.take 5 (.take 6 (.take 7 (.take 8 (.take 9 (.take 10 (.take 11 (.take 12 (.alt 13 false (.take 14 (.alt 15 false (.done) (.stop))) (.stop))))))))))))))
def pe_92_10 : Bool := true
/-- 16 operations, 17 nodes, looks at memory: true -/
def pl_92_13 : Plan := .take 0 (.take 1 (.take 2 (.take 3 (.take 4 (.take 5 (.take 6 (.take 7 (.take 8 (.take 9 (.take 10 (.take 11 (.take 12 (.alt 13 false (.take 14 (.take 15 (.done))) (.stop))))))))))))))
def pe_92_13 : Bool := true
/-- 17 operations, 18 nodes, looks at memory: true -/
def pl_92_15 : Plan := .take 0 (.take 1 (.take 2 (.take 3 (.take 4 (.take 5 (.take 6 (.take 7 (.take 8 (.take 9 (.take 10 (.take 11 (.take 12 (.alt 13 false (.take 14 (.take 15 (.take 16 (.done)))) (.stop))))))))))))))
def pe_92_15 : Bool := true
/-- 16 operations, 17 nodes, looks at memory: true -/
def pl_92_18 : Plan := .take 0 (.take 1 (.take 2 (.take 3 (.take 4 (.take 5 (.take 6 (.take 7 (.take 8 (.take 9 (.take 10 (.take 11 (.take 12 (.alt 13 false (.take 14 (.alt 15 false (.done) (.stop))) (.stop))))))))))))))
def pe_92_18 : Bool := true
/-- 16 operations, 17 nodes, looks at memory: true -/
def pl_92_21 : Plan := .take 0 (.take 1 (.take 2 (.take 3 (.take 4 (.take 5 (.take 6 (.take 7 (.take 8 (.take 9 (.take 10 (.take 11 (.take 12 (.alt 13 false (.take 14 (.alt 15 false (.done) (.stop))) (.stop))))))))))))))
def pe_92_21 : Bool := true
/-- 22 operations, 23 nodes, looks at memory: true -/
def pl_95_3 : Plan := .take 0 (.take 1 (.take 2 (.take 3 (.take 4 (.take 5 (.take 6 (.take 7 (.take 8 (.take 9 (.take 10 (.take 11 (.take 12 (.take 13 (.take 14 (.take 15 (.take 16 (.take 17 (.take 18 (.alt 19 false (.take 20 (.take 21 (.done))) (.stop))))))))))))))))))))
def pe_95_3 : Bool := true
/-- 16 operations, 17 nodes, looks at memory: true -/
def pl_95_5 : Plan := .take 0 (.take 1 (.take 2 (.take 3 (.take 4 (.take 5 (.take 6 (.take 7 (.take 8 (.take 9 (.take 10 (.take 11 (.take 12 (.alt 13 false (.take 14 (.take 15 (.done))) (.stop))))))))))))))
def pe_95_5 : Bool := true
/-- 24 operations, 25 nodes, looks at memory: true -/
def pl_95_6 : Plan := .take 0 (.take 1 (.take 2 (.take 3 (.take 4 (.take 5 (.take 6 (.take 7 (.take 8 (.take 9 (.take 10 (.take 11 (.take 12 (.take 13 (.take 14 (.take 15 (.take 16 (.take 17 (.take 18 (.take 19 (.take 20 (.alt 21 false (.take 22 (.alt 23 false (.done) (.stop))) (.stop))))))))))))))))))))))
def pe_95_6 : Bool := true
/-- 10 operations, 11 nodes, looks at memory: true -/
def pl_97_1 : Plan := .take 0 (.take 1 (.take 2 (.take 3 (.take 4 (.take 5 (.take 6 (.take 7 (.take 8 (.alt 9 false (.done) (.stop))))))))))
def pe_97_1 : Bool := true
/-- 10 operations, 11 nodes, looks at memory: true -/
def pl_97_2 : Plan := .take 0 (.take 1 (.take 2 (.take 3 (.take 4 (.take 5 (.take 6 (.take 7 (.take 8 (.alt 9 false (.done) (.stop))))))))))
def pe_97_2 : Bool := true
/-- 10 operations, 11 nodes, looks at memory: true -/
def pl_97_3 : Plan := .take 0 (.take 1 (.take 2 (.take 3 (.take 4 (.take 5 (.take 6 (.take 7 (.take 8 (.alt 9 false (.done) (.stop))))))))))
def pe_97_3 : Bool := true
/-- 22 operations, 23 nodes, looks at memory: true -/
def pl_100_3 : Plan := .take 0 (.take 1 (.take 2 (.take 3 (.take 4 (.take 5 (.take 6 (.take 7 (.take 8 (.take 9 (.take 10 (.take 11 (.take 12 (.take 13 (.take 14 (.take 15 (.take 16 (.take 17 (.take 18 (.alt 19 false (.take 20 (.take 21 (.done))) (.stop))))))))))))))))))))
def pe_100_3 : Bool := true
/-- 16 operations, 17 nodes, looks at memory: true -/
def pl_100_5 : Plan := .take 0 (.take 1 (.take 2 (.take 3 (.take 4 (.take 5 (.take 6 (.take 7 (.take 8 (.take 9 (.take 10 (.take 11 (.take 12 (.alt 13 false (.take 14 (.take 15 (.done))) (.stop))))))))))))))
def pe_100_5 : Bool := true
/-- 24 operations, 25 nodes, looks at memory: true -/
def pl_100_6 : Plan := .take 0 (.take 1 (.take 2 (.take 3 (.take 4 (.take 5 (.take 6 (.take 7 (.take 8 (.take 9 (.take 10 (.take 11 (.take 12 (.take 13 (.take 14 (.take 15 (.take 16 (.take 17 (.take 18 (.take 19 (.take 20 (.alt 21 false (.take 22 (.alt 23 false (.done) (.stop))) (.stop))))))))))))))))))))))
def pe_100_6 : Bool := true
/-- 11 operations, 12 nodes, looks at memory: true -/
def pl_103_1 : Plan := .take 0 (.take 1 (.take 2 (.take 3 (.take 4 (.take 5 (.take 6 (.take 7 (.take 8 (.alt 9 false (.take 10 (.done)) (.stop))))))))))
def pe_103_1 : Bool := true
/-- 11 operations, 12 nodes, looks at memory: true -/
def pl_104_1 : Plan := .take 0 (.take 1 (.take 2 (.take 3 (.take 4 (.take 5 (.take 6 (.take 7 (.take 8 (.alt 9 false (.take 10 (.done)) (.stop))))))))))
def pe_104_1 : Bool := true
instance : Laid Tryd.prog := { tabs := utf8Tabs 0 1 }
def planTab : PlanTab := [(3, [(13, pe_3_13, Mode.ext, pl_3_13), (14, pe_3_14, Mode.ext, pl_3_14)]), (5, [(13, pe_5_13, Mode.ext, pl_5_13)]), (10, [(8, pe_10_8, Mode.ext, pl_10_8), (15, pe_10_15, Mode.ext, pl_10_15)]), (11, [(6, pe_11_6, Mode.ext, pl_11_6), (13, pe_11_13, Mode.ext, pl_11_13), (15, pe_11_15, Mode.ext, pl_11_15), (17, pe_11_17, Mode.ext, pl_11_17), (19, pe_11_19, Mode.ext, pl_11_19)]), (12, [(3, pe_12_3, Mode.ext, pl_12_3)]), (13, [(9, pe_13_9, Mode.only [6], pl_13_9), (15, pe_13_15, Mode.ext, pl_13_15)]), (17, [(11, pe_17_11, Mode.ext, pl_17_11), (17, pe_17_17, Mode.ext, pl_17_17)]), (18, [(19, pe_18_19, Mode.ext, pl_18_19), (21, pe_18_21, Mode.ext, pl_18_21)]), (19, [(1, pe_19_1, Mode.ext, pl_19_1), (6, pe_19_6, Mode.ext, pl_19_6), (10, pe_19_10, Mode.ext, pl_19_10)]), (35, [(1, pe_35_1, Mode.ext, pl_35_1)]), (38, [(5, pe_38_5, Mode.ext, pl_38_5), (7, pe_38_7, Mode.ext, pl_38_7)]), (41, [(8, pe_41_8, Mode.ext, pl_41_8), (11, pe_41_11, Mode.ext, pl_41_11), (12, pe_41_12, Mode.ext, pl_41_12), (19, pe_41_19, Mode.base, pl_41_19), (23, pe_41_23, Mode.ext, pl_41_23), (24, pe_41_24, Mode.ext, pl_41_24)]), (62, [(6, pe_62_6, Mode.ext, pl_62_6), (7, pe_62_7, Mode.ext, pl_62_7)]), (67, [(17, pe_67_17, Mode.ext, pl_67_17)]), (72, [(17, pe_72_17, Mode.ext, pl_72_17)]), (75, [(4, pe_75_4, Mode.ext, pl_75_4), (6, pe_75_6, Mode.ext, pl_75_6)]), (76, [(10, pe_76_10, Mode.ext, pl_76_10)]), (77, [(10, pe_77_10, Mode.ext, pl_77_10)]), (79, [(3, pe_79_3, Mode.ext, pl_79_3)]), (80, [(5, pe_80_5, Mode.ext, pl_80_5), (11, pe_80_11, Mode.ext, pl_80_11), (16, pe_80_16, Mode.ext, pl_80_16), (17, pe_80_17, Mode.ext, pl_80_17), (22, pe_80_22, Mode.ext, pl_80_22), (23, pe_80_23, Mode.ext, pl_80_23)]), (81, [(1, pe_81_1, Mode.ext, pl_81_1), (3, pe_81_3, Mode.ext, pl_81_3), (5, pe_81_5, Mode.ext, pl_81_5), (8, pe_81_8, Mode.ext, pl_81_8)]), (82, [(1, pe_82_1, Mode.ext, pl_82_1), (3, pe_82_3, Mode.ext, pl_82_3), (5, pe_82_5, Mode.ext, pl_82_5), (8, pe_82_8, Mode.ext, pl_82_8), (10, pe_82_10, Mode.ext, pl_82_10), (13, pe_82_13, Mode.ext, pl_82_13), (15, pe_82_15, Mode.ext, pl_82_15), (18, pe_82_18, Mode.ext, pl_82_18), (21, pe_82_21, Mode.ext, pl_82_21)]), (85, [(4, pe_85_4, Mode.ext, pl_85_4), (6, pe_85_6, Mode.ext, pl_85_6)]), (86, [(10, pe_86_10, Mode.ext, pl_86_10)]), (87, [(10, pe_87_10, Mode.ext, pl_87_10)]), (89, [(3, pe_89_3, Mode.ext, pl_89_3)]), (90, [(5, pe_90_5, Mode.ext, pl_90_5), (11, pe_90_11, Mode.ext, pl_90_11), (16, pe_90_16, Mode.ext, pl_90_16), (17, pe_90_17, Mode.ext, pl_90_17), (22, pe_90_22, Mode.ext, pl_90_22), (23, pe_90_23, Mode.ext, pl_90_23)]), (91, [(1, pe_91_1, Mode.ext, pl_91_1), (3, pe_91_3, Mode.ext, pl_91_3), (5, pe_91_5, Mode.ext, pl_91_5), (8, pe_91_8, Mode.ext, pl_91_8)]), (92, [(1, pe_92_1, Mode.ext, pl_92_1), (3, pe_92_3, Mode.ext, pl_92_3), (5, pe_92_5, Mode.ext, pl_92_5), (8, pe_92_8, Mode.ext, pl_92_8), (10, pe_92_10, Mode.ext, pl_92_10), (13, pe_92_13, Mode.ext, pl_92_13), (15, pe_92_15, Mode.ext, pl_92_15), (18, pe_92_18, Mode.ext, pl_92_18), (21, pe_92_21, Mode.ext, pl_92_21)]), (95, [(3, pe_95_3, Mode.ext, pl_95_3), (5, pe_95_5, Mode.ext, pl_95_5), (6, pe_95_6, Mode.ext, pl_95_6)]), (97, [(1, pe_97_1, Mode.ext, pl_97_1), (2, pe_97_2, Mode.ext, pl_97_2), (3, pe_97_3, Mode.ext, pl_97_3)]), (100, [(3, pe_100_3, Mode.ext, pl_100_3), (5, pe_100_5, Mode.ext, pl_100_5), (6, pe_100_6, Mode.ext, pl_100_6)]), (103, [(1, pe_103_1, Mode.ext, pl_103_1)]), (104, [(1, pe_104_1, Mode.ext, pl_104_1)])]
end Go.Proofs.YtikonppmjkipoaaDoor
