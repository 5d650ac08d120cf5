/-
  Facts about this program's types, by program.
-/
import Derived.Test.YtnkheikplfoahaaDoorAbsEval
import Derived.Test.YtnkheikplfoahaaDoorProg
set_option linter.unusedVariables false
namespace Go.Proofs.YtnkheikplfoahaaDoor
open Go Go.Abs Go.Proofs
@[simp] theorem qsize_2 : qsize Tryd.prog 2 = some 1 := by kernel_rfl
@[simp] theorem qbytes_2 : qbytes Tryd.prog 2 = some 8 := by kernel_rfl
@[simp] theorem qagg_2 : qagg Tryd.prog 2 = some false := by kernel_rfl
@[simp] theorem qzero_2 : qzero Tryd.prog 2 = some (V.i Go.IntKind.i64 (0)) := by kernel_rfl
@[simp] theorem qint_2 : qint Tryd.prog 2 = some Go.IntKind.i64 := by kernel_rfl
@[simp] theorem keqi_2 (a c : Int) : keq Tryd.prog 2 (.i Go.IntKind.i64 a) (.i Go.IntKind.i64 c) = some (a == c) := keq_i qint_2
@[simp] theorem qconcrete_2 : qconcrete Tryd.prog 2 = true := by kernel_rfl
@[simp] theorem qkey_2 : qkey Tryd.prog 2 = true := by kernel_rfl
@[simp] theorem qplainKey_2 : qplainKey Tryd.prog 2 = true := by kernel_rfl
@[simp] theorem kf_2 (k : V) : keyFits Tryd.prog 2 k = true := keyFits_plain qplainKey_2
@[simp] theorem qthere_2 : qthere Tryd.prog 2 = true := by kernel_rfl
@[simp] theorem cellsOf_2 : Go.Program.cellsOf Tryd.prog 2 = 1 := by kernel_rfl
@[simp] theorem bytesOf_2 : Go.Program.bytesOf Tryd.prog 2 = 8 := by kernel_rfl
@[simp] theorem qsize_3 : qsize Tryd.prog 3 = some 1 := by kernel_rfl
@[simp] theorem qbytes_3 : qbytes Tryd.prog 3 = some 8 := by kernel_rfl
@[simp] theorem qagg_3 : qagg Tryd.prog 3 = some false := by kernel_rfl
@[simp] theorem qzero_3 : qzero Tryd.prog 3 = some (V.i Go.IntKind.i64 (0)) := by kernel_rfl
@[simp] theorem qint_3 : qint Tryd.prog 3 = some Go.IntKind.i64 := by kernel_rfl
@[simp] theorem keqi_3 (a c : Int) : keq Tryd.prog 3 (.i Go.IntKind.i64 a) (.i Go.IntKind.i64 c) = some (a == c) := keq_i qint_3
@[simp] theorem qconcrete_3 : qconcrete Tryd.prog 3 = true := by kernel_rfl
@[simp] theorem qkey_3 : qkey Tryd.prog 3 = true := by kernel_rfl
@[simp] theorem qplainKey_3 : qplainKey Tryd.prog 3 = true := by kernel_rfl
@[simp] theorem kf_3 (k : V) : keyFits Tryd.prog 3 k = true := keyFits_plain qplainKey_3
@[simp] theorem qthere_3 : qthere Tryd.prog 3 = true := by kernel_rfl
@[simp] theorem cellsOf_3 : Go.Program.cellsOf Tryd.prog 3 = 1 := by kernel_rfl
@[simp] theorem bytesOf_3 : Go.Program.bytesOf Tryd.prog 3 = 8 := by kernel_rfl
@[simp] theorem qsize_4 : qsize Tryd.prog 4 = some 1 := by kernel_rfl
@[simp] theorem qbytes_4 : qbytes Tryd.prog 4 = some 1 := by kernel_rfl
@[simp] theorem qagg_4 : qagg Tryd.prog 4 = some false := by kernel_rfl
@[simp] theorem qzero_4 : qzero Tryd.prog 4 = some (V.b false) := by kernel_rfl
@[simp] theorem qconcrete_4 : qconcrete Tryd.prog 4 = true := by kernel_rfl
@[simp] theorem qbool_4 : qbool Tryd.prog 4 = true := by kernel_rfl
@[simp] theorem bb_4 (x y : Bool) : aeq Tryd.prog 4 (.b x) (.b y) = some (x == y) := aeq_bb qbool_4
@[simp] theorem qthere_4 : qthere Tryd.prog 4 = true := by kernel_rfl
@[simp] theorem cellsOf_4 : Go.Program.cellsOf Tryd.prog 4 = 1 := by kernel_rfl
@[simp] theorem bytesOf_4 : Go.Program.bytesOf Tryd.prog 4 = 1 := by kernel_rfl
@[simp] theorem qsize_5 : qsize Tryd.prog 5 = some 1 := by kernel_rfl
@[simp] theorem qbytes_5 : qbytes Tryd.prog 5 = some 1 := by kernel_rfl
@[simp] theorem qagg_5 : qagg Tryd.prog 5 = some false := by kernel_rfl
@[simp] theorem qzero_5 : qzero Tryd.prog 5 = some (V.i Go.IntKind.u8 (0)) := by kernel_rfl
@[simp] theorem qint_5 : qint Tryd.prog 5 = some Go.IntKind.u8 := by kernel_rfl
@[simp] theorem keqi_5 (a c : Int) : keq Tryd.prog 5 (.i Go.IntKind.u8 a) (.i Go.IntKind.u8 c) = some (a == c) := keq_i qint_5
@[simp] theorem qconcrete_5 : qconcrete Tryd.prog 5 = true := by kernel_rfl
@[simp] theorem qkey_5 : qkey Tryd.prog 5 = true := by kernel_rfl
@[simp] theorem qplainKey_5 : qplainKey Tryd.prog 5 = true := by kernel_rfl
@[simp] theorem kf_5 (k : V) : keyFits Tryd.prog 5 k = true := keyFits_plain qplainKey_5
@[simp] theorem qthere_5 : qthere Tryd.prog 5 = true := by kernel_rfl
@[simp] theorem cellsOf_5 : Go.Program.cellsOf Tryd.prog 5 = 1 := by kernel_rfl
@[simp] theorem bytesOf_5 : Go.Program.bytesOf Tryd.prog 5 = 1 := by kernel_rfl
@[simp] theorem qsize_8 : qsize Tryd.prog 8 = some 4 := by kernel_rfl
@[simp] theorem qbytes_8 : qbytes Tryd.prog 8 = some 24 := by kernel_rfl
@[simp] theorem qagg_8 : qagg Tryd.prog 8 = some true := by kernel_rfl
@[simp] theorem qzero_8 : qzero Tryd.prog 8 = some   (V.agg     [V.i Go.IntKind.i64 (0), V.i Go.IntKind.i64 (0), V.b false, V.i Go.IntKind.u8 (0)]) := by kernel_rfl
@[simp] theorem qplaces_8 : qplaces Tryd.prog 8 = some [(0, 1), (1, 1), (2, 1), (3, 1)] := by kernel_rfl
@[simp] theorem qconcrete_8 : qconcrete Tryd.prog 8 = true := by kernel_rfl
@[simp] theorem qkey_8 : qkey Tryd.prog 8 = true := by kernel_rfl
@[simp] theorem qthere_8 : qthere Tryd.prog 8 = true := by kernel_rfl
@[simp] theorem qeq_8 : qeq Tryd.prog 8 = some [CK.i Go.IntKind.i64, CK.i Go.IntKind.i64, CK.b, CK.i Go.IntKind.u8] := by kernel_rfl
@[simp] theorem cellsOf_8 : Go.Program.cellsOf Tryd.prog 8 = 4 := by kernel_rfl
@[simp] theorem bytesOf_8 : Go.Program.bytesOf Tryd.prog 8 = 24 := by kernel_rfl
@[simp] theorem qsize_9 : qsize Tryd.prog 9 = some 1 := by kernel_rfl
@[simp] theorem qbytes_9 : qbytes Tryd.prog 9 = some 16 := by kernel_rfl
@[simp] theorem qagg_9 : qagg Tryd.prog 9 = some false := by kernel_rfl
@[simp] theorem qzero_9 : qzero Tryd.prog 9 = some (V.s []) := by kernel_rfl
@[simp] theorem qstr_9 : qstr Tryd.prog 9 = true := by kernel_rfl
@[simp] theorem keqs_9 (a c : List UInt8) : keq Tryd.prog 9 (.s a) (.s c) = some (a == c) := keq_s qstr_9
@[simp] theorem qconcrete_9 : qconcrete Tryd.prog 9 = true := by kernel_rfl
@[simp] theorem qkey_9 : qkey Tryd.prog 9 = true := by kernel_rfl
@[simp] theorem qsrc_9 : qsrc Tryd.prog 9 = true := by kernel_rfl
@[simp] theorem qplainKey_9 : qplainKey Tryd.prog 9 = true := by kernel_rfl
@[simp] theorem kf_9 (k : V) : keyFits Tryd.prog 9 k = true := keyFits_plain qplainKey_9
@[simp] theorem qthere_9 : qthere Tryd.prog 9 = true := by kernel_rfl
@[simp] theorem cellsOf_9 : Go.Program.cellsOf Tryd.prog 9 = 1 := by kernel_rfl
@[simp] theorem bytesOf_9 : Go.Program.bytesOf Tryd.prog 9 = 16 := by kernel_rfl
@[simp] theorem qsize_10 : qsize Tryd.prog 10 = some 1 := by kernel_rfl
@[simp] theorem qbytes_10 : qbytes Tryd.prog 10 = some 16 := by kernel_rfl
@[simp] theorem qagg_10 : qagg Tryd.prog 10 = some false := by kernel_rfl
@[simp] theorem qzero_10 : qzero Tryd.prog 10 = some (V.s []) := by kernel_rfl
@[simp] theorem qstr_10 : qstr Tryd.prog 10 = true := by kernel_rfl
@[simp] theorem keqs_10 (a c : List UInt8) : keq Tryd.prog 10 (.s a) (.s c) = some (a == c) := keq_s qstr_10
@[simp] theorem qconcrete_10 : qconcrete Tryd.prog 10 = true := by kernel_rfl
@[simp] theorem qkey_10 : qkey Tryd.prog 10 = true := by kernel_rfl
@[simp] theorem qsrc_10 : qsrc Tryd.prog 10 = true := by kernel_rfl
@[simp] theorem qplainKey_10 : qplainKey Tryd.prog 10 = true := by kernel_rfl
@[simp] theorem kf_10 (k : V) : keyFits Tryd.prog 10 k = true := keyFits_plain qplainKey_10
@[simp] theorem qthere_10 : qthere Tryd.prog 10 = true := by kernel_rfl
@[simp] theorem cellsOf_10 : Go.Program.cellsOf Tryd.prog 10 = 1 := by kernel_rfl
@[simp] theorem bytesOf_10 : Go.Program.bytesOf Tryd.prog 10 = 16 := by kernel_rfl
@[simp] theorem qsize_11 : qsize Tryd.prog 11 = some 1 := by kernel_rfl
@[simp] theorem qbytes_11 : qbytes Tryd.prog 11 = some 16 := by kernel_rfl
@[simp] theorem qagg_11 : qagg Tryd.prog 11 = some false := by kernel_rfl
@[simp] theorem qzero_11 : qzero Tryd.prog 11 = some (V.s []) := by kernel_rfl
@[simp] theorem qstr_11 : qstr Tryd.prog 11 = true := by kernel_rfl
@[simp] theorem keqs_11 (a c : List UInt8) : keq Tryd.prog 11 (.s a) (.s c) = some (a == c) := keq_s qstr_11
@[simp] theorem qconcrete_11 : qconcrete Tryd.prog 11 = true := by kernel_rfl
@[simp] theorem qkey_11 : qkey Tryd.prog 11 = true := by kernel_rfl
@[simp] theorem qsrc_11 : qsrc Tryd.prog 11 = true := by kernel_rfl
@[simp] theorem qplainKey_11 : qplainKey Tryd.prog 11 = true := by kernel_rfl
@[simp] theorem kf_11 (k : V) : keyFits Tryd.prog 11 k = true := keyFits_plain qplainKey_11
@[simp] theorem qthere_11 : qthere Tryd.prog 11 = true := by kernel_rfl
@[simp] theorem cellsOf_11 : Go.Program.cellsOf Tryd.prog 11 = 1 := by kernel_rfl
@[simp] theorem bytesOf_11 : Go.Program.bytesOf Tryd.prog 11 = 16 := by kernel_rfl
@[simp] theorem qsize_14 : qsize Tryd.prog 14 = some 2 := by kernel_rfl
@[simp] theorem qbytes_14 : qbytes Tryd.prog 14 = some 24 := by kernel_rfl
@[simp] theorem qagg_14 : qagg Tryd.prog 14 = some true := by kernel_rfl
@[simp] theorem qzero_14 : qzero Tryd.prog 14 = some (V.agg [V.s [], V.i Go.IntKind.u64 (0)]) := by kernel_rfl
@[simp] theorem qplaces_14 : qplaces Tryd.prog 14 = some [(0, 1), (1, 1)] := by kernel_rfl
@[simp] theorem qconcrete_14 : qconcrete Tryd.prog 14 = true := by kernel_rfl
@[simp] theorem qthere_14 : qthere Tryd.prog 14 = true := by kernel_rfl
@[simp] theorem cellsOf_14 : Go.Program.cellsOf Tryd.prog 14 = 2 := by kernel_rfl
@[simp] theorem bytesOf_14 : Go.Program.bytesOf Tryd.prog 14 = 24 := by kernel_rfl
@[simp] theorem qsize_15 : qsize Tryd.prog 15 = some 1 := by kernel_rfl
@[simp] theorem qbytes_15 : qbytes Tryd.prog 15 = some 8 := by kernel_rfl
@[simp] theorem qagg_15 : qagg Tryd.prog 15 = some false := by kernel_rfl
@[simp] theorem qzero_15 : qzero Tryd.prog 15 = some (V.p none) := by kernel_rfl
@[simp] theorem qconcrete_15 : qconcrete Tryd.prog 15 = true := by kernel_rfl
@[simp] theorem qptr_15 : qptr Tryd.prog 15 = true := by kernel_rfl
@[simp] theorem pnn_15 : aeq Tryd.prog 15 (.p none) (.p none) = some true := aeq_pnn qptr_15
@[simp] theorem psn_15 (q : Nat × Nat × Nat) : aeq Tryd.prog 15 (.p (some q)) (.p none) = some false := aeq_psn qptr_15
@[simp] theorem qthere_15 : qthere Tryd.prog 15 = true := by kernel_rfl
@[simp] theorem cellsOf_15 : Go.Program.cellsOf Tryd.prog 15 = 1 := by kernel_rfl
@[simp] theorem bytesOf_15 : Go.Program.bytesOf Tryd.prog 15 = 8 := by kernel_rfl
@[simp] theorem qsize_16 : qsize Tryd.prog 16 = some 1 := by kernel_rfl
@[simp] theorem qbytes_16 : qbytes Tryd.prog 16 = some 8 := by kernel_rfl
@[simp] theorem qagg_16 : qagg Tryd.prog 16 = some false := by kernel_rfl
@[simp] theorem qzero_16 : qzero Tryd.prog 16 = some (V.p none) := by kernel_rfl
@[simp] theorem qconcrete_16 : qconcrete Tryd.prog 16 = true := by kernel_rfl
@[simp] theorem qptr_16 : qptr Tryd.prog 16 = true := by kernel_rfl
@[simp] theorem pnn_16 : aeq Tryd.prog 16 (.p none) (.p none) = some true := aeq_pnn qptr_16
@[simp] theorem psn_16 (q : Nat × Nat × Nat) : aeq Tryd.prog 16 (.p (some q)) (.p none) = some false := aeq_psn qptr_16
@[simp] theorem qthere_16 : qthere Tryd.prog 16 = true := by kernel_rfl
@[simp] theorem cellsOf_16 : Go.Program.cellsOf Tryd.prog 16 = 1 := by kernel_rfl
@[simp] theorem bytesOf_16 : Go.Program.bytesOf Tryd.prog 16 = 8 := by kernel_rfl
@[simp] theorem qsize_17 : qsize Tryd.prog 17 = some 1 := by kernel_rfl
@[simp] theorem qbytes_17 : qbytes Tryd.prog 17 = some 8 := by kernel_rfl
@[simp] theorem qagg_17 : qagg Tryd.prog 17 = some false := by kernel_rfl
@[simp] theorem qzero_17 : qzero Tryd.prog 17 = some (V.p none) := by kernel_rfl
@[simp] theorem qconcrete_17 : qconcrete Tryd.prog 17 = true := by kernel_rfl
@[simp] theorem qptr_17 : qptr Tryd.prog 17 = true := by kernel_rfl
@[simp] theorem pnn_17 : aeq Tryd.prog 17 (.p none) (.p none) = some true := aeq_pnn qptr_17
@[simp] theorem psn_17 (q : Nat × Nat × Nat) : aeq Tryd.prog 17 (.p (some q)) (.p none) = some false := aeq_psn qptr_17
@[simp] theorem qthere_17 : qthere Tryd.prog 17 = true := by kernel_rfl
@[simp] theorem cellsOf_17 : Go.Program.cellsOf Tryd.prog 17 = 1 := by kernel_rfl
@[simp] theorem bytesOf_17 : Go.Program.bytesOf Tryd.prog 17 = 8 := by kernel_rfl
@[simp] theorem qsize_19 : qsize Tryd.prog 19 = some 1 := by kernel_rfl
@[simp] theorem qbytes_19 : qbytes Tryd.prog 19 = some 8 := by kernel_rfl
@[simp] theorem qagg_19 : qagg Tryd.prog 19 = some true := by kernel_rfl
@[simp] theorem qzero_19 : qzero Tryd.prog 19 = some (V.agg [V.p none]) := by kernel_rfl
@[simp] theorem qplaces_19 : qplaces Tryd.prog 19 = some [(0, 1)] := by kernel_rfl
@[simp] theorem qconcrete_19 : qconcrete Tryd.prog 19 = true := by kernel_rfl
@[simp] theorem qthere_19 : qthere Tryd.prog 19 = true := by kernel_rfl
@[simp] theorem cellsOf_19 : Go.Program.cellsOf Tryd.prog 19 = 1 := by kernel_rfl
@[simp] theorem bytesOf_19 : Go.Program.bytesOf Tryd.prog 19 = 8 := by kernel_rfl
@[simp] theorem qsize_20 : qsize Tryd.prog 20 = some 1 := by kernel_rfl
@[simp] theorem qbytes_20 : qbytes Tryd.prog 20 = some 16 := by kernel_rfl
@[simp] theorem qagg_20 : qagg Tryd.prog 20 = some false := by kernel_rfl
@[simp] theorem qzero_20 : qzero Tryd.prog 20 = some V.nif := by kernel_rfl
@[simp] theorem qthere_20 : qthere Tryd.prog 20 = true := by kernel_rfl
@[simp] theorem cellsOf_20 : Go.Program.cellsOf Tryd.prog 20 = 1 := by kernel_rfl
@[simp] theorem bytesOf_20 : Go.Program.bytesOf Tryd.prog 20 = 16 := by kernel_rfl
@[simp] theorem qsize_21 : qsize Tryd.prog 21 = some 1 := by kernel_rfl
@[simp] theorem qbytes_21 : qbytes Tryd.prog 21 = some 4 := by kernel_rfl
@[simp] theorem qagg_21 : qagg Tryd.prog 21 = some false := by kernel_rfl
@[simp] theorem qzero_21 : qzero Tryd.prog 21 = some (V.i Go.IntKind.i32 (0)) := by kernel_rfl
@[simp] theorem qint_21 : qint Tryd.prog 21 = some Go.IntKind.i32 := by kernel_rfl
@[simp] theorem keqi_21 (a c : Int) : keq Tryd.prog 21 (.i Go.IntKind.i32 a) (.i Go.IntKind.i32 c) = some (a == c) := keq_i qint_21
@[simp] theorem qconcrete_21 : qconcrete Tryd.prog 21 = true := by kernel_rfl
@[simp] theorem qkey_21 : qkey Tryd.prog 21 = true := by kernel_rfl
@[simp] theorem qplainKey_21 : qplainKey Tryd.prog 21 = true := by kernel_rfl
@[simp] theorem kf_21 (k : V) : keyFits Tryd.prog 21 k = true := keyFits_plain qplainKey_21
@[simp] theorem qthere_21 : qthere Tryd.prog 21 = true := by kernel_rfl
@[simp] theorem cellsOf_21 : Go.Program.cellsOf Tryd.prog 21 = 1 := by kernel_rfl
@[simp] theorem bytesOf_21 : Go.Program.bytesOf Tryd.prog 21 = 4 := by kernel_rfl
@[simp] theorem qsize_22 : qsize Tryd.prog 22 = some 1 := by kernel_rfl
@[simp] theorem qbytes_22 : qbytes Tryd.prog 22 = some 4 := by kernel_rfl
@[simp] theorem qagg_22 : qagg Tryd.prog 22 = some false := by kernel_rfl
@[simp] theorem qzero_22 : qzero Tryd.prog 22 = some (V.i Go.IntKind.u32 (0)) := by kernel_rfl
@[simp] theorem qint_22 : qint Tryd.prog 22 = some Go.IntKind.u32 := by kernel_rfl
@[simp] theorem keqi_22 (a c : Int) : keq Tryd.prog 22 (.i Go.IntKind.u32 a) (.i Go.IntKind.u32 c) = some (a == c) := keq_i qint_22
@[simp] theorem qconcrete_22 : qconcrete Tryd.prog 22 = true := by kernel_rfl
@[simp] theorem qkey_22 : qkey Tryd.prog 22 = true := by kernel_rfl
@[simp] theorem qplainKey_22 : qplainKey Tryd.prog 22 = true := by kernel_rfl
@[simp] theorem kf_22 (k : V) : keyFits Tryd.prog 22 k = true := keyFits_plain qplainKey_22
@[simp] theorem qthere_22 : qthere Tryd.prog 22 = true := by kernel_rfl
@[simp] theorem cellsOf_22 : Go.Program.cellsOf Tryd.prog 22 = 1 := by kernel_rfl
@[simp] theorem bytesOf_22 : Go.Program.bytesOf Tryd.prog 22 = 4 := by kernel_rfl
@[simp] theorem qsize_24 : qsize Tryd.prog 24 = some 8 := by kernel_rfl
@[simp] theorem qbytes_24 : qbytes Tryd.prog 24 = some 56 := by kernel_rfl
@[simp] theorem qagg_24 : qagg Tryd.prog 24 = some true := by kernel_rfl
@[simp] theorem qzero_24 : qzero Tryd.prog 24 = some   (V.agg     [V.i Go.IntKind.i64 (0), V.i Go.IntKind.i64 (0), V.i Go.IntKind.i64 (0),       V.i Go.IntKind.i64 (0), V.i Go.IntKind.i64 (0), V.i Go.IntKind.i64 (0),       V.i Go.IntKind.u32 (0), V.i Go.IntKind.u32 (0)]) := by kernel_rfl
@[simp] theorem qplaces_24 : qplaces Tryd.prog 24 = some [(0, 1), (1, 1), (2, 1), (3, 1), (4, 1), (5, 1), (6, 1), (7, 1)] := by kernel_rfl
@[simp] theorem qconcrete_24 : qconcrete Tryd.prog 24 = true := by kernel_rfl
@[simp] theorem qkey_24 : qkey Tryd.prog 24 = true := by kernel_rfl
@[simp] theorem qthere_24 : qthere Tryd.prog 24 = true := by kernel_rfl
@[simp] theorem qeq_24 : qeq Tryd.prog 24 = some   [CK.i Go.IntKind.i64, CK.i Go.IntKind.i64, CK.i Go.IntKind.i64, CK.i Go.IntKind.i64, CK.i Go.IntKind.i64,     CK.i Go.IntKind.i64, CK.i Go.IntKind.u32, CK.i Go.IntKind.u32] := by kernel_rfl
@[simp] theorem cellsOf_24 : Go.Program.cellsOf Tryd.prog 24 = 8 := by kernel_rfl
@[simp] theorem bytesOf_24 : Go.Program.bytesOf Tryd.prog 24 = 56 := by kernel_rfl
@[simp] theorem qsize_25 : qsize Tryd.prog 25 = some 1 := by kernel_rfl
@[simp] theorem qbytes_25 : qbytes Tryd.prog 25 = some 24 := by kernel_rfl
@[simp] theorem qagg_25 : qagg Tryd.prog 25 = some false := by kernel_rfl
@[simp] theorem qzero_25 : qzero Tryd.prog 25 = some (V.sl none 0 false) := by kernel_rfl
@[simp] theorem qconcrete_25 : qconcrete Tryd.prog 25 = true := by kernel_rfl
@[simp] theorem qsrc_25 : qsrc Tryd.prog 25 = true := by kernel_rfl
@[simp] theorem qthere_25 : qthere Tryd.prog 25 = true := by kernel_rfl
@[simp] theorem cellsOf_25 : Go.Program.cellsOf Tryd.prog 25 = 1 := by kernel_rfl
@[simp] theorem bytesOf_25 : Go.Program.bytesOf Tryd.prog 25 = 24 := by kernel_rfl
@[simp] theorem qelem_25 : qelem Tryd.prog 25 = some 108 := by kernel_rfl
@[simp] theorem qsize_26 : qsize Tryd.prog 26 = some 1 := by kernel_rfl
@[simp] theorem qbytes_26 : qbytes Tryd.prog 26 = some 24 := by kernel_rfl
@[simp] theorem qagg_26 : qagg Tryd.prog 26 = some false := by kernel_rfl
@[simp] theorem qzero_26 : qzero Tryd.prog 26 = some (V.sl none 0 false) := by kernel_rfl
@[simp] theorem qconcrete_26 : qconcrete Tryd.prog 26 = true := by kernel_rfl
@[simp] theorem qsrc_26 : qsrc Tryd.prog 26 = true := by kernel_rfl
@[simp] theorem qthere_26 : qthere Tryd.prog 26 = true := by kernel_rfl
@[simp] theorem cellsOf_26 : Go.Program.cellsOf Tryd.prog 26 = 1 := by kernel_rfl
@[simp] theorem bytesOf_26 : Go.Program.bytesOf Tryd.prog 26 = 24 := by kernel_rfl
@[simp] theorem qelem_26 : qelem Tryd.prog 26 = some 54 := by kernel_rfl
@[simp] theorem qsize_28 : qsize Tryd.prog 28 = some 14 := by kernel_rfl
@[simp] theorem qbytes_28 : qbytes Tryd.prog 28 = some 136 := by kernel_rfl
@[simp] theorem qagg_28 : qagg Tryd.prog 28 = some true := by kernel_rfl
@[simp] theorem qzero_28 : qzero Tryd.prog 28 = some   (V.agg     [V.i Go.IntKind.i64 (0), V.i Go.IntKind.i64 (0), V.i Go.IntKind.i64 (0),       V.i Go.IntKind.i64 (0), V.i Go.IntKind.i64 (0), V.i Go.IntKind.i64 (0),       V.i Go.IntKind.i64 (0), V.i Go.IntKind.i64 (0), V.i Go.IntKind.i64 (0),       V.i Go.IntKind.i64 (0), V.i Go.IntKind.u32 (0), V.i Go.IntKind.u32 (0),       V.sl none 0 false, V.sl none 0 false]) := by kernel_rfl
@[simp] theorem qplaces_28 : qplaces Tryd.prog 28 = some [(0, 1), (1, 1), (2, 1), (3, 1), (4, 8), (12, 1), (13, 1)] := by kernel_rfl
@[simp] theorem qconcrete_28 : qconcrete Tryd.prog 28 = true := by kernel_rfl
@[simp] theorem qthere_28 : qthere Tryd.prog 28 = true := by kernel_rfl
@[simp] theorem cellsOf_28 : Go.Program.cellsOf Tryd.prog 28 = 14 := by kernel_rfl
@[simp] theorem bytesOf_28 : Go.Program.bytesOf Tryd.prog 28 = 136 := by kernel_rfl
@[simp] theorem qsize_30 : qsize Tryd.prog 30 = some 1 := by kernel_rfl
@[simp] theorem qbytes_30 : qbytes Tryd.prog 30 = some 8 := by kernel_rfl
@[simp] theorem qagg_30 : qagg Tryd.prog 30 = some false := by kernel_rfl
@[simp] theorem qzero_30 : qzero Tryd.prog 30 = some (V.p none) := by kernel_rfl
@[simp] theorem qconcrete_30 : qconcrete Tryd.prog 30 = true := by kernel_rfl
@[simp] theorem qptr_30 : qptr Tryd.prog 30 = true := by kernel_rfl
@[simp] theorem pnn_30 : aeq Tryd.prog 30 (.p none) (.p none) = some true := aeq_pnn qptr_30
@[simp] theorem psn_30 (q : Nat × Nat × Nat) : aeq Tryd.prog 30 (.p (some q)) (.p none) = some false := aeq_psn qptr_30
@[simp] theorem qthere_30 : qthere Tryd.prog 30 = true := by kernel_rfl
@[simp] theorem cellsOf_30 : Go.Program.cellsOf Tryd.prog 30 = 1 := by kernel_rfl
@[simp] theorem bytesOf_30 : Go.Program.bytesOf Tryd.prog 30 = 8 := by kernel_rfl
@[simp] theorem qsize_31 : qsize Tryd.prog 31 = some 1 := by kernel_rfl
@[simp] theorem qbytes_31 : qbytes Tryd.prog 31 = some 8 := by kernel_rfl
@[simp] theorem qagg_31 : qagg Tryd.prog 31 = some false := by kernel_rfl
@[simp] theorem qzero_31 : qzero Tryd.prog 31 = some (V.i Go.IntKind.i64 (0)) := by kernel_rfl
@[simp] theorem qint_31 : qint Tryd.prog 31 = some Go.IntKind.i64 := by kernel_rfl
@[simp] theorem keqi_31 (a c : Int) : keq Tryd.prog 31 (.i Go.IntKind.i64 a) (.i Go.IntKind.i64 c) = some (a == c) := keq_i qint_31
@[simp] theorem qconcrete_31 : qconcrete Tryd.prog 31 = true := by kernel_rfl
@[simp] theorem qkey_31 : qkey Tryd.prog 31 = true := by kernel_rfl
@[simp] theorem qplainKey_31 : qplainKey Tryd.prog 31 = true := by kernel_rfl
@[simp] theorem kf_31 (k : V) : keyFits Tryd.prog 31 k = true := keyFits_plain qplainKey_31
@[simp] theorem qthere_31 : qthere Tryd.prog 31 = true := by kernel_rfl
@[simp] theorem cellsOf_31 : Go.Program.cellsOf Tryd.prog 31 = 1 := by kernel_rfl
@[simp] theorem bytesOf_31 : Go.Program.bytesOf Tryd.prog 31 = 8 := by kernel_rfl
@[simp] theorem qsize_35 : qsize Tryd.prog 35 = some 1 := by kernel_rfl
@[simp] theorem qbytes_35 : qbytes Tryd.prog 35 = some 24 := by kernel_rfl
@[simp] theorem qagg_35 : qagg Tryd.prog 35 = some false := by kernel_rfl
@[simp] theorem qzero_35 : qzero Tryd.prog 35 = some (V.sl none 0 false) := by kernel_rfl
@[simp] theorem qconcrete_35 : qconcrete Tryd.prog 35 = true := by kernel_rfl
@[simp] theorem qsrc_35 : qsrc Tryd.prog 35 = true := by kernel_rfl
@[simp] theorem qthere_35 : qthere Tryd.prog 35 = true := by kernel_rfl
@[simp] theorem cellsOf_35 : Go.Program.cellsOf Tryd.prog 35 = 1 := by kernel_rfl
@[simp] theorem bytesOf_35 : Go.Program.bytesOf Tryd.prog 35 = 24 := by kernel_rfl
@[simp] theorem qelem_35 : qelem Tryd.prog 35 = some 3 := by kernel_rfl
@[simp] theorem qsize_38 : qsize Tryd.prog 38 = some 1 := by kernel_rfl
@[simp] theorem qbytes_38 : qbytes Tryd.prog 38 = some 24 := by kernel_rfl
@[simp] theorem qagg_38 : qagg Tryd.prog 38 = some false := by kernel_rfl
@[simp] theorem qzero_38 : qzero Tryd.prog 38 = some (V.sl none 0 false) := by kernel_rfl
@[simp] theorem qconcrete_38 : qconcrete Tryd.prog 38 = true := by kernel_rfl
@[simp] theorem qsrc_38 : qsrc Tryd.prog 38 = true := by kernel_rfl
@[simp] theorem qthere_38 : qthere Tryd.prog 38 = true := by kernel_rfl
@[simp] theorem cellsOf_38 : Go.Program.cellsOf Tryd.prog 38 = 1 := by kernel_rfl
@[simp] theorem bytesOf_38 : Go.Program.bytesOf Tryd.prog 38 = 24 := by kernel_rfl
@[simp] theorem qelem_38 : qelem Tryd.prog 38 = some 56 := by kernel_rfl
@[simp] theorem qsize_40 : qsize Tryd.prog 40 = some 1 := by kernel_rfl
@[simp] theorem qbytes_40 : qbytes Tryd.prog 40 = some 8 := by kernel_rfl
@[simp] theorem qagg_40 : qagg Tryd.prog 40 = some false := by kernel_rfl
@[simp] theorem qzero_40 : qzero Tryd.prog 40 = some (V.p none) := by kernel_rfl
@[simp] theorem qconcrete_40 : qconcrete Tryd.prog 40 = true := by kernel_rfl
@[simp] theorem qptr_40 : qptr Tryd.prog 40 = true := by kernel_rfl
@[simp] theorem pnn_40 : aeq Tryd.prog 40 (.p none) (.p none) = some true := aeq_pnn qptr_40
@[simp] theorem psn_40 (q : Nat × Nat × Nat) : aeq Tryd.prog 40 (.p (some q)) (.p none) = some false := aeq_psn qptr_40
@[simp] theorem qthere_40 : qthere Tryd.prog 40 = true := by kernel_rfl
@[simp] theorem cellsOf_40 : Go.Program.cellsOf Tryd.prog 40 = 1 := by kernel_rfl
@[simp] theorem bytesOf_40 : Go.Program.bytesOf Tryd.prog 40 = 8 := by kernel_rfl
@[simp] theorem qsize_43 : qsize Tryd.prog 43 = some 1 := by kernel_rfl
@[simp] theorem qbytes_43 : qbytes Tryd.prog 43 = some 24 := by kernel_rfl
@[simp] theorem qagg_43 : qagg Tryd.prog 43 = some false := by kernel_rfl
@[simp] theorem qzero_43 : qzero Tryd.prog 43 = some (V.sl none 0 false) := by kernel_rfl
@[simp] theorem qconcrete_43 : qconcrete Tryd.prog 43 = true := by kernel_rfl
@[simp] theorem qsrc_43 : qsrc Tryd.prog 43 = true := by kernel_rfl
@[simp] theorem qthere_43 : qthere Tryd.prog 43 = true := by kernel_rfl
@[simp] theorem cellsOf_43 : Go.Program.cellsOf Tryd.prog 43 = 1 := by kernel_rfl
@[simp] theorem bytesOf_43 : Go.Program.bytesOf Tryd.prog 43 = 24 := by kernel_rfl
@[simp] theorem qelem_43 : qelem Tryd.prog 43 = some 70 := by kernel_rfl
@[simp] theorem qsize_44 : qsize Tryd.prog 44 = some 1 := by kernel_rfl
@[simp] theorem qbytes_44 : qbytes Tryd.prog 44 = some 24 := by kernel_rfl
@[simp] theorem qagg_44 : qagg Tryd.prog 44 = some false := by kernel_rfl
@[simp] theorem qzero_44 : qzero Tryd.prog 44 = some (V.sl none 0 false) := by kernel_rfl
@[simp] theorem qconcrete_44 : qconcrete Tryd.prog 44 = true := by kernel_rfl
@[simp] theorem qsrc_44 : qsrc Tryd.prog 44 = true := by kernel_rfl
@[simp] theorem qthere_44 : qthere Tryd.prog 44 = true := by kernel_rfl
@[simp] theorem cellsOf_44 : Go.Program.cellsOf Tryd.prog 44 = 1 := by kernel_rfl
@[simp] theorem bytesOf_44 : Go.Program.bytesOf Tryd.prog 44 = 24 := by kernel_rfl
@[simp] theorem qelem_44 : qelem Tryd.prog 44 = some 50 := by kernel_rfl
@[simp] theorem qsize_50 : qsize Tryd.prog 50 = some 3 := by kernel_rfl
@[simp] theorem qbytes_50 : qbytes Tryd.prog 50 = some 40 := by kernel_rfl
@[simp] theorem qagg_50 : qagg Tryd.prog 50 = some true := by kernel_rfl
@[simp] theorem qzero_50 : qzero Tryd.prog 50 = some (V.agg [V.i Go.IntKind.i64 (0), V.i Go.IntKind.i64 (0), V.sl none 0 false]) := by kernel_rfl
@[simp] theorem qplaces_50 : qplaces Tryd.prog 50 = some [(0, 1), (1, 1), (2, 1)] := by kernel_rfl
@[simp] theorem qconcrete_50 : qconcrete Tryd.prog 50 = true := by kernel_rfl
@[simp] theorem qthere_50 : qthere Tryd.prog 50 = true := by kernel_rfl
@[simp] theorem cellsOf_50 : Go.Program.cellsOf Tryd.prog 50 = 3 := by kernel_rfl
@[simp] theorem bytesOf_50 : Go.Program.bytesOf Tryd.prog 50 = 40 := by kernel_rfl
@[simp] theorem qsize_54 : qsize Tryd.prog 54 = some 7 := by kernel_rfl
@[simp] theorem qbytes_54 : qbytes Tryd.prog 54 = some 88 := by kernel_rfl
@[simp] theorem qagg_54 : qagg Tryd.prog 54 = some true := by kernel_rfl
@[simp] theorem qzero_54 : qzero Tryd.prog 54 = some   (V.agg     [V.i Go.IntKind.i64 (0), V.s [], V.s [], V.s [], V.s [], V.i Go.IntKind.i64 (0),       V.i Go.IntKind.i64 (0)]) := by kernel_rfl
@[simp] theorem qplaces_54 : qplaces Tryd.prog 54 = some [(0, 1), (1, 1), (2, 1), (3, 1), (4, 1), (5, 1), (6, 1)] := by kernel_rfl
@[simp] theorem qconcrete_54 : qconcrete Tryd.prog 54 = true := by kernel_rfl
@[simp] theorem qkey_54 : qkey Tryd.prog 54 = true := by kernel_rfl
@[simp] theorem qthere_54 : qthere Tryd.prog 54 = true := by kernel_rfl
@[simp] theorem qeq_54 : qeq Tryd.prog 54 = some [CK.i Go.IntKind.i64, CK.s, CK.s, CK.s, CK.s, CK.i Go.IntKind.i64, CK.i Go.IntKind.i64] := by kernel_rfl
@[simp] theorem cellsOf_54 : Go.Program.cellsOf Tryd.prog 54 = 7 := by kernel_rfl
@[simp] theorem bytesOf_54 : Go.Program.bytesOf Tryd.prog 54 = 88 := by kernel_rfl
@[simp] theorem qsize_56 : qsize Tryd.prog 56 = some 10 := by kernel_rfl
@[simp] theorem qbytes_56 : qbytes Tryd.prog 56 = some 112 := by kernel_rfl
@[simp] theorem qagg_56 : qagg Tryd.prog 56 = some true := by kernel_rfl
@[simp] theorem qzero_56 : qzero Tryd.prog 56 = some   (V.agg     [V.i Go.IntKind.i64 (0), V.i Go.IntKind.i64 (0), V.i Go.IntKind.i64 (0), V.s [],       V.s [], V.s [], V.s [], V.i Go.IntKind.i64 (0), V.i Go.IntKind.i64 (0),       V.i Go.IntKind.i64 (0)]) := by kernel_rfl
@[simp] theorem qplaces_56 : qplaces Tryd.prog 56 = some [(0, 1), (1, 1), (2, 7), (9, 1)] := by kernel_rfl
@[simp] theorem qconcrete_56 : qconcrete Tryd.prog 56 = true := by kernel_rfl
@[simp] theorem qkey_56 : qkey Tryd.prog 56 = true := by kernel_rfl
@[simp] theorem qthere_56 : qthere Tryd.prog 56 = true := by kernel_rfl
@[simp] theorem qeq_56 : qeq Tryd.prog 56 = some   [CK.i Go.IntKind.i64, CK.i Go.IntKind.i64, CK.i Go.IntKind.i64, CK.s, CK.s, CK.s, CK.s, CK.i Go.IntKind.i64,     CK.i Go.IntKind.i64, CK.i Go.IntKind.i64] := by kernel_rfl
@[simp] theorem cellsOf_56 : Go.Program.cellsOf Tryd.prog 56 = 10 := by kernel_rfl
@[simp] theorem bytesOf_56 : Go.Program.bytesOf Tryd.prog 56 = 112 := by kernel_rfl
@[simp] theorem qsize_62 : qsize Tryd.prog 62 = some 1 := by kernel_rfl
@[simp] theorem qbytes_62 : qbytes Tryd.prog 62 = some 8 := by kernel_rfl
@[simp] theorem qagg_62 : qagg Tryd.prog 62 = some false := by kernel_rfl
@[simp] theorem qzero_62 : qzero Tryd.prog 62 = some (V.m none) := by kernel_rfl
@[simp] theorem qconcrete_62 : qconcrete Tryd.prog 62 = true := by kernel_rfl
@[simp] theorem qthere_62 : qthere Tryd.prog 62 = true := by kernel_rfl
@[simp] theorem cellsOf_62 : Go.Program.cellsOf Tryd.prog 62 = 1 := by kernel_rfl
@[simp] theorem bytesOf_62 : Go.Program.bytesOf Tryd.prog 62 = 8 := by kernel_rfl
@[simp] theorem qmap_62 : qmap Tryd.prog 62 = some (3, 28) := by kernel_rfl
@[simp] theorem qsize_64 : qsize Tryd.prog 64 = some 4 := by kernel_rfl
@[simp] theorem qbytes_64 : qbytes Tryd.prog 64 = some 64 := by kernel_rfl
@[simp] theorem qagg_64 : qagg Tryd.prog 64 = some true := by kernel_rfl
@[simp] theorem qzero_64 : qzero Tryd.prog 64 = some (V.agg [V.p none, V.sl none 0 false, V.m none, V.sl none 0 false]) := by kernel_rfl
@[simp] theorem qplaces_64 : qplaces Tryd.prog 64 = some [(0, 1), (1, 1), (2, 1), (3, 1)] := by kernel_rfl
@[simp] theorem qconcrete_64 : qconcrete Tryd.prog 64 = true := by kernel_rfl
@[simp] theorem qthere_64 : qthere Tryd.prog 64 = true := by kernel_rfl
@[simp] theorem cellsOf_64 : Go.Program.cellsOf Tryd.prog 64 = 4 := by kernel_rfl
@[simp] theorem bytesOf_64 : Go.Program.bytesOf Tryd.prog 64 = 64 := by kernel_rfl
@[simp] theorem qsize_70 : qsize Tryd.prog 70 = some 2 := by kernel_rfl
@[simp] theorem qbytes_70 : qbytes Tryd.prog 70 = some 24 := by kernel_rfl
@[simp] theorem qagg_70 : qagg Tryd.prog 70 = some true := by kernel_rfl
@[simp] theorem qzero_70 : qzero Tryd.prog 70 = some (V.agg [V.s [], V.i Go.IntKind.i64 (0)]) := by kernel_rfl
@[simp] theorem qplaces_70 : qplaces Tryd.prog 70 = some [(0, 1), (1, 1)] := by kernel_rfl
@[simp] theorem qconcrete_70 : qconcrete Tryd.prog 70 = true := by kernel_rfl
@[simp] theorem qkey_70 : qkey Tryd.prog 70 = true := by kernel_rfl
@[simp] theorem qthere_70 : qthere Tryd.prog 70 = true := by kernel_rfl
@[simp] theorem qeq_70 : qeq Tryd.prog 70 = some [CK.s, CK.i Go.IntKind.i64] := by kernel_rfl
@[simp] theorem cellsOf_70 : Go.Program.cellsOf Tryd.prog 70 = 2 := by kernel_rfl
@[simp] theorem bytesOf_70 : Go.Program.bytesOf Tryd.prog 70 = 24 := by kernel_rfl
@[simp] theorem qsize_71 : qsize Tryd.prog 71 = some 1 := by kernel_rfl
@[simp] theorem qbytes_71 : qbytes Tryd.prog 71 = some 8 := by kernel_rfl
@[simp] theorem qagg_71 : qagg Tryd.prog 71 = some false := by kernel_rfl
@[simp] theorem qzero_71 : qzero Tryd.prog 71 = some (V.m none) := by kernel_rfl
@[simp] theorem qconcrete_71 : qconcrete Tryd.prog 71 = true := by kernel_rfl
@[simp] theorem qthere_71 : qthere Tryd.prog 71 = true := by kernel_rfl
@[simp] theorem cellsOf_71 : Go.Program.cellsOf Tryd.prog 71 = 1 := by kernel_rfl
@[simp] theorem bytesOf_71 : Go.Program.bytesOf Tryd.prog 71 = 8 := by kernel_rfl
@[simp] theorem qmap_71 : qmap Tryd.prog 71 = some (9, 77) := by kernel_rfl
@[simp] theorem qsize_72 : qsize Tryd.prog 72 = some 1 := by kernel_rfl
@[simp] theorem qbytes_72 : qbytes Tryd.prog 72 = some 8 := by kernel_rfl
@[simp] theorem qagg_72 : qagg Tryd.prog 72 = some false := by kernel_rfl
@[simp] theorem qzero_72 : qzero Tryd.prog 72 = some (V.m none) := by kernel_rfl
@[simp] theorem qconcrete_72 : qconcrete Tryd.prog 72 = true := by kernel_rfl
@[simp] theorem qthere_72 : qthere Tryd.prog 72 = true := by kernel_rfl
@[simp] theorem cellsOf_72 : Go.Program.cellsOf Tryd.prog 72 = 1 := by kernel_rfl
@[simp] theorem bytesOf_72 : Go.Program.bytesOf Tryd.prog 72 = 8 := by kernel_rfl
@[simp] theorem qmap_72 : qmap Tryd.prog 72 = some (84, 82) := by kernel_rfl
@[simp] theorem qsize_74 : qsize Tryd.prog 74 = some 2 := by kernel_rfl
@[simp] theorem qbytes_74 : qbytes Tryd.prog 74 = some 16 := by kernel_rfl
@[simp] theorem qagg_74 : qagg Tryd.prog 74 = some true := by kernel_rfl
@[simp] theorem qzero_74 : qzero Tryd.prog 74 = some (V.agg [V.m none, V.m none]) := by kernel_rfl
@[simp] theorem qplaces_74 : qplaces Tryd.prog 74 = some [(0, 1), (1, 1)] := by kernel_rfl
@[simp] theorem qconcrete_74 : qconcrete Tryd.prog 74 = true := by kernel_rfl
@[simp] theorem qthere_74 : qthere Tryd.prog 74 = true := by kernel_rfl
@[simp] theorem cellsOf_74 : Go.Program.cellsOf Tryd.prog 74 = 2 := by kernel_rfl
@[simp] theorem bytesOf_74 : Go.Program.bytesOf Tryd.prog 74 = 16 := by kernel_rfl
@[simp] theorem qsize_77 : qsize Tryd.prog 77 = some 2 := by kernel_rfl
@[simp] theorem qbytes_77 : qbytes Tryd.prog 77 = some 16 := by kernel_rfl
@[simp] theorem qagg_77 : qagg Tryd.prog 77 = some true := by kernel_rfl
@[simp] theorem qzero_77 : qzero Tryd.prog 77 = some (V.agg [V.i Go.IntKind.i64 (0), V.i Go.IntKind.i64 (0)]) := by kernel_rfl
@[simp] theorem qplaces_77 : qplaces Tryd.prog 77 = some [(0, 1), (1, 1)] := by kernel_rfl
@[simp] theorem qconcrete_77 : qconcrete Tryd.prog 77 = true := by kernel_rfl
@[simp] theorem qkey_77 : qkey Tryd.prog 77 = true := by kernel_rfl
@[simp] theorem qthere_77 : qthere Tryd.prog 77 = true := by kernel_rfl
@[simp] theorem qeq_77 : qeq Tryd.prog 77 = some [CK.i Go.IntKind.i64, CK.i Go.IntKind.i64] := by kernel_rfl
@[simp] theorem cellsOf_77 : Go.Program.cellsOf Tryd.prog 77 = 2 := by kernel_rfl
@[simp] theorem bytesOf_77 : Go.Program.bytesOf Tryd.prog 77 = 16 := by kernel_rfl
@[simp] theorem qsize_82 : qsize Tryd.prog 82 = some 1 := by kernel_rfl
@[simp] theorem qbytes_82 : qbytes Tryd.prog 82 = some 16 := by kernel_rfl
@[simp] theorem qagg_82 : qagg Tryd.prog 82 = some true := by kernel_rfl
@[simp] theorem qzero_82 : qzero Tryd.prog 82 = some (V.agg [V.s []]) := by kernel_rfl
@[simp] theorem qplaces_82 : qplaces Tryd.prog 82 = some [(0, 1)] := by kernel_rfl
@[simp] theorem qconcrete_82 : qconcrete Tryd.prog 82 = true := by kernel_rfl
@[simp] theorem qkey_82 : qkey Tryd.prog 82 = true := by kernel_rfl
@[simp] theorem qthere_82 : qthere Tryd.prog 82 = true := by kernel_rfl
@[simp] theorem qeq_82 : qeq Tryd.prog 82 = some [CK.s] := by kernel_rfl
@[simp] theorem cellsOf_82 : Go.Program.cellsOf Tryd.prog 82 = 1 := by kernel_rfl
@[simp] theorem bytesOf_82 : Go.Program.bytesOf Tryd.prog 82 = 16 := by kernel_rfl
@[simp] theorem qsize_84 : qsize Tryd.prog 84 = some 2 := by kernel_rfl
@[simp] theorem qbytes_84 : qbytes Tryd.prog 84 = some 32 := by kernel_rfl
@[simp] theorem qagg_84 : qagg Tryd.prog 84 = some true := by kernel_rfl
@[simp] theorem qzero_84 : qzero Tryd.prog 84 = some (V.agg [V.s [], V.s []]) := by kernel_rfl
@[simp] theorem qplaces_84 : qplaces Tryd.prog 84 = some [(0, 1), (1, 1)] := by kernel_rfl
@[simp] theorem qconcrete_84 : qconcrete Tryd.prog 84 = true := by kernel_rfl
@[simp] theorem qkey_84 : qkey Tryd.prog 84 = true := by kernel_rfl
@[simp] theorem qthere_84 : qthere Tryd.prog 84 = true := by kernel_rfl
@[simp] theorem qeq_84 : qeq Tryd.prog 84 = some [CK.s, CK.s] := by kernel_rfl
@[simp] theorem cellsOf_84 : Go.Program.cellsOf Tryd.prog 84 = 2 := by kernel_rfl
@[simp] theorem bytesOf_84 : Go.Program.bytesOf Tryd.prog 84 = 32 := by kernel_rfl
@[simp] theorem qsize_85 : qsize Tryd.prog 85 = some 1 := by kernel_rfl
@[simp] theorem qbytes_85 : qbytes Tryd.prog 85 = some 8 := by kernel_rfl
@[simp] theorem qagg_85 : qagg Tryd.prog 85 = some false := by kernel_rfl
@[simp] theorem qzero_85 : qzero Tryd.prog 85 = some (V.p none) := by kernel_rfl
@[simp] theorem qconcrete_85 : qconcrete Tryd.prog 85 = true := by kernel_rfl
@[simp] theorem qptr_85 : qptr Tryd.prog 85 = true := by kernel_rfl
@[simp] theorem pnn_85 : aeq Tryd.prog 85 (.p none) (.p none) = some true := aeq_pnn qptr_85
@[simp] theorem psn_85 (q : Nat × Nat × Nat) : aeq Tryd.prog 85 (.p (some q)) (.p none) = some false := aeq_psn qptr_85
@[simp] theorem qthere_85 : qthere Tryd.prog 85 = true := by kernel_rfl
@[simp] theorem cellsOf_85 : Go.Program.cellsOf Tryd.prog 85 = 1 := by kernel_rfl
@[simp] theorem bytesOf_85 : Go.Program.bytesOf Tryd.prog 85 = 8 := by kernel_rfl
@[simp] theorem qsize_86 : qsize Tryd.prog 86 = some 1 := by kernel_rfl
@[simp] theorem qbytes_86 : qbytes Tryd.prog 86 = some 24 := by kernel_rfl
@[simp] theorem qagg_86 : qagg Tryd.prog 86 = some false := by kernel_rfl
@[simp] theorem qzero_86 : qzero Tryd.prog 86 = some (V.sl none 0 false) := by kernel_rfl
@[simp] theorem qconcrete_86 : qconcrete Tryd.prog 86 = true := by kernel_rfl
@[simp] theorem qsrc_86 : qsrc Tryd.prog 86 = true := by kernel_rfl
@[simp] theorem qbs_86 : qbs Tryd.prog 86 = true := by kernel_rfl
@[simp] theorem qthere_86 : qthere Tryd.prog 86 = true := by kernel_rfl
@[simp] theorem cellsOf_86 : Go.Program.cellsOf Tryd.prog 86 = 1 := by kernel_rfl
@[simp] theorem bytesOf_86 : Go.Program.bytesOf Tryd.prog 86 = 24 := by kernel_rfl
@[simp] theorem qelem_86 : qelem Tryd.prog 86 = some 5 := by kernel_rfl
@[simp] theorem qsize_88 : qsize Tryd.prog 88 = some 2 := by kernel_rfl
@[simp] theorem qbytes_88 : qbytes Tryd.prog 88 = some 32 := by kernel_rfl
@[simp] theorem qagg_88 : qagg Tryd.prog 88 = some true := by kernel_rfl
@[simp] theorem qzero_88 : qzero Tryd.prog 88 = some (V.agg [V.p none, V.sl none 0 false]) := by kernel_rfl
@[simp] theorem qplaces_88 : qplaces Tryd.prog 88 = some [(0, 1), (1, 1)] := by kernel_rfl
@[simp] theorem qconcrete_88 : qconcrete Tryd.prog 88 = true := by kernel_rfl
@[simp] theorem qthere_88 : qthere Tryd.prog 88 = true := by kernel_rfl
@[simp] theorem cellsOf_88 : Go.Program.cellsOf Tryd.prog 88 = 2 := by kernel_rfl
@[simp] theorem bytesOf_88 : Go.Program.bytesOf Tryd.prog 88 = 32 := by kernel_rfl
@[simp] theorem qsize_89 : qsize Tryd.prog 89 = some 1 := by kernel_rfl
@[simp] theorem qbytes_89 : qbytes Tryd.prog 89 = some 24 := by kernel_rfl
@[simp] theorem qagg_89 : qagg Tryd.prog 89 = some false := by kernel_rfl
@[simp] theorem qzero_89 : qzero Tryd.prog 89 = some (V.sl none 0 false) := by kernel_rfl
@[simp] theorem qconcrete_89 : qconcrete Tryd.prog 89 = true := by kernel_rfl
@[simp] theorem qsrc_89 : qsrc Tryd.prog 89 = true := by kernel_rfl
@[simp] theorem qthere_89 : qthere Tryd.prog 89 = true := by kernel_rfl
@[simp] theorem cellsOf_89 : Go.Program.cellsOf Tryd.prog 89 = 1 := by kernel_rfl
@[simp] theorem bytesOf_89 : Go.Program.bytesOf Tryd.prog 89 = 24 := by kernel_rfl
@[simp] theorem qelem_89 : qelem Tryd.prog 89 = some 9 := by kernel_rfl
@[simp] theorem qsize_92 : qsize Tryd.prog 92 = some 1 := by kernel_rfl
@[simp] theorem qbytes_92 : qbytes Tryd.prog 92 = some 8 := by kernel_rfl
@[simp] theorem qagg_92 : qagg Tryd.prog 92 = some false := by kernel_rfl
@[simp] theorem qzero_92 : qzero Tryd.prog 92 = some V.nf := by kernel_rfl
@[simp] theorem qconcrete_92 : qconcrete Tryd.prog 92 = true := by kernel_rfl
@[simp] theorem qthere_92 : qthere Tryd.prog 92 = true := by kernel_rfl
@[simp] theorem cellsOf_92 : Go.Program.cellsOf Tryd.prog 92 = 1 := by kernel_rfl
@[simp] theorem bytesOf_92 : Go.Program.bytesOf Tryd.prog 92 = 8 := by kernel_rfl
@[simp] theorem qsize_94 : qsize Tryd.prog 94 = some 1 := by kernel_rfl
@[simp] theorem qbytes_94 : qbytes Tryd.prog 94 = some 8 := by kernel_rfl
@[simp] theorem qagg_94 : qagg Tryd.prog 94 = some false := by kernel_rfl
@[simp] theorem qzero_94 : qzero Tryd.prog 94 = some V.nf := by kernel_rfl
@[simp] theorem qconcrete_94 : qconcrete Tryd.prog 94 = true := by kernel_rfl
@[simp] theorem qthere_94 : qthere Tryd.prog 94 = true := by kernel_rfl
@[simp] theorem cellsOf_94 : Go.Program.cellsOf Tryd.prog 94 = 1 := by kernel_rfl
@[simp] theorem bytesOf_94 : Go.Program.bytesOf Tryd.prog 94 = 8 := by kernel_rfl
@[simp] theorem qsize_96 : qsize Tryd.prog 96 = some 1 := by kernel_rfl
@[simp] theorem qbytes_96 : qbytes Tryd.prog 96 = some 16 := by kernel_rfl
@[simp] theorem qagg_96 : qagg Tryd.prog 96 = some false := by kernel_rfl
@[simp] theorem qzero_96 : qzero Tryd.prog 96 = some V.nif := by kernel_rfl
@[simp] theorem qthere_96 : qthere Tryd.prog 96 = true := by kernel_rfl
@[simp] theorem cellsOf_96 : Go.Program.cellsOf Tryd.prog 96 = 1 := by kernel_rfl
@[simp] theorem bytesOf_96 : Go.Program.bytesOf Tryd.prog 96 = 16 := by kernel_rfl
@[simp] theorem qsize_100 : qsize Tryd.prog 100 = some 1 := by kernel_rfl
@[simp] theorem qbytes_100 : qbytes Tryd.prog 100 = some 8 := by kernel_rfl
@[simp] theorem qagg_100 : qagg Tryd.prog 100 = some false := by kernel_rfl
@[simp] theorem qzero_100 : qzero Tryd.prog 100 = some V.nf := by kernel_rfl
@[simp] theorem qconcrete_100 : qconcrete Tryd.prog 100 = true := by kernel_rfl
@[simp] theorem qthere_100 : qthere Tryd.prog 100 = true := by kernel_rfl
@[simp] theorem cellsOf_100 : Go.Program.cellsOf Tryd.prog 100 = 1 := by kernel_rfl
@[simp] theorem bytesOf_100 : Go.Program.bytesOf Tryd.prog 100 = 8 := by kernel_rfl
@[simp] theorem qsize_101 : qsize Tryd.prog 101 = some 1 := by kernel_rfl
@[simp] theorem qbytes_101 : qbytes Tryd.prog 101 = some 24 := by kernel_rfl
@[simp] theorem qagg_101 : qagg Tryd.prog 101 = some false := by kernel_rfl
@[simp] theorem qzero_101 : qzero Tryd.prog 101 = some (V.sl none 0 false) := by kernel_rfl
@[simp] theorem qconcrete_101 : qconcrete Tryd.prog 101 = true := by kernel_rfl
@[simp] theorem qsrc_101 : qsrc Tryd.prog 101 = true := by kernel_rfl
@[simp] theorem qthere_101 : qthere Tryd.prog 101 = true := by kernel_rfl
@[simp] theorem cellsOf_101 : Go.Program.cellsOf Tryd.prog 101 = 1 := by kernel_rfl
@[simp] theorem bytesOf_101 : Go.Program.bytesOf Tryd.prog 101 = 24 := by kernel_rfl
@[simp] theorem qelem_101 : qelem Tryd.prog 101 = some 84 := by kernel_rfl
@[simp] theorem qsize_104 : qsize Tryd.prog 104 = some 1 := by kernel_rfl
@[simp] theorem qbytes_104 : qbytes Tryd.prog 104 = some 8 := by kernel_rfl
@[simp] theorem qagg_104 : qagg Tryd.prog 104 = some false := by kernel_rfl
@[simp] theorem qzero_104 : qzero Tryd.prog 104 = some V.nf := by kernel_rfl
@[simp] theorem qconcrete_104 : qconcrete Tryd.prog 104 = true := by kernel_rfl
@[simp] theorem qthere_104 : qthere Tryd.prog 104 = true := by kernel_rfl
@[simp] theorem cellsOf_104 : Go.Program.cellsOf Tryd.prog 104 = 1 := by kernel_rfl
@[simp] theorem bytesOf_104 : Go.Program.bytesOf Tryd.prog 104 = 8 := by kernel_rfl
@[simp] theorem qsize_119 : qsize Tryd.prog 119 = some 1 := by kernel_rfl
@[simp] theorem qbytes_119 : qbytes Tryd.prog 119 = some 8 := by kernel_rfl
@[simp] theorem qagg_119 : qagg Tryd.prog 119 = some false := by kernel_rfl
@[simp] theorem qzero_119 : qzero Tryd.prog 119 = some V.nf := by kernel_rfl
@[simp] theorem qconcrete_119 : qconcrete Tryd.prog 119 = true := by kernel_rfl
@[simp] theorem qthere_119 : qthere Tryd.prog 119 = true := by kernel_rfl
@[simp] theorem cellsOf_119 : Go.Program.cellsOf Tryd.prog 119 = 1 := by kernel_rfl
@[simp] theorem bytesOf_119 : Go.Program.bytesOf Tryd.prog 119 = 8 := by kernel_rfl
@[simp] theorem qsize_121 : qsize Tryd.prog 121 = some 20 := by kernel_rfl
@[simp] theorem qbytes_121 : qbytes Tryd.prog 121 = some 20 := by kernel_rfl
@[simp] theorem qagg_121 : qagg Tryd.prog 121 = some true := by kernel_rfl
@[simp] theorem qzero_121 : qzero Tryd.prog 121 = some   (V.agg     [V.i Go.IntKind.u8 (0), V.i Go.IntKind.u8 (0), V.i Go.IntKind.u8 (0),       V.i Go.IntKind.u8 (0), V.i Go.IntKind.u8 (0), V.i Go.IntKind.u8 (0),       V.i Go.IntKind.u8 (0), V.i Go.IntKind.u8 (0), V.i Go.IntKind.u8 (0),       V.i Go.IntKind.u8 (0), V.i Go.IntKind.u8 (0), V.i Go.IntKind.u8 (0),       V.i Go.IntKind.u8 (0), V.i Go.IntKind.u8 (0), V.i Go.IntKind.u8 (0),       V.i Go.IntKind.u8 (0), V.i Go.IntKind.u8 (0), V.i Go.IntKind.u8 (0),       V.i Go.IntKind.u8 (0), V.i Go.IntKind.u8 (0)]) := by kernel_rfl
@[simp] theorem qconcrete_121 : qconcrete Tryd.prog 121 = true := by kernel_rfl
@[simp] theorem qthere_121 : qthere Tryd.prog 121 = true := by kernel_rfl
@[simp] theorem cellsOf_121 : Go.Program.cellsOf Tryd.prog 121 = 20 := by kernel_rfl
@[simp] theorem bytesOf_121 : Go.Program.bytesOf Tryd.prog 121 = 20 := by kernel_rfl
@[simp] theorem qarr_121 : qarr Tryd.prog 121 = some (20, 5) := by kernel_rfl
@[simp] theorem qsize_124 : qsize Tryd.prog 124 = some 1 := by kernel_rfl
@[simp] theorem qbytes_124 : qbytes Tryd.prog 124 = some 8 := by kernel_rfl
@[simp] theorem qagg_124 : qagg Tryd.prog 124 = some false := by kernel_rfl
@[simp] theorem qzero_124 : qzero Tryd.prog 124 = some V.nf := by kernel_rfl
@[simp] theorem qconcrete_124 : qconcrete Tryd.prog 124 = true := by kernel_rfl
@[simp] theorem qthere_124 : qthere Tryd.prog 124 = true := by kernel_rfl
@[simp] theorem cellsOf_124 : Go.Program.cellsOf Tryd.prog 124 = 1 := by kernel_rfl
@[simp] theorem bytesOf_124 : Go.Program.bytesOf Tryd.prog 124 = 8 := by kernel_rfl
@[simp] theorem qsize_125 : qsize Tryd.prog 125 = some 1 := by kernel_rfl
@[simp] theorem qbytes_125 : qbytes Tryd.prog 125 = some 8 := by kernel_rfl
@[simp] theorem qagg_125 : qagg Tryd.prog 125 = some false := by kernel_rfl
@[simp] theorem qzero_125 : qzero Tryd.prog 125 = some (V.p none) := by kernel_rfl
@[simp] theorem qconcrete_125 : qconcrete Tryd.prog 125 = true := by kernel_rfl
@[simp] theorem qptr_125 : qptr Tryd.prog 125 = true := by kernel_rfl
@[simp] theorem pnn_125 : aeq Tryd.prog 125 (.p none) (.p none) = some true := aeq_pnn qptr_125
@[simp] theorem psn_125 (q : Nat × Nat × Nat) : aeq Tryd.prog 125 (.p (some q)) (.p none) = some false := aeq_psn qptr_125
@[simp] theorem qthere_125 : qthere Tryd.prog 125 = true := by kernel_rfl
@[simp] theorem cellsOf_125 : Go.Program.cellsOf Tryd.prog 125 = 1 := by kernel_rfl
@[simp] theorem bytesOf_125 : Go.Program.bytesOf Tryd.prog 125 = 8 := by kernel_rfl
@[simp] theorem qsize_128 : qsize Tryd.prog 128 = some 3 := by kernel_rfl
@[simp] theorem qbytes_128 : qbytes Tryd.prog 128 = some 12 := by kernel_rfl
@[simp] theorem qagg_128 : qagg Tryd.prog 128 = some true := by kernel_rfl
@[simp] theorem qzero_128 : qzero Tryd.prog 128 = some (V.agg [V.i Go.IntKind.i32 (0), V.i Go.IntKind.i32 (0), V.i Go.IntKind.i32 (0)]) := by kernel_rfl
@[simp] theorem qplaces_128 : qplaces Tryd.prog 128 = some [(0, 1), (1, 1), (2, 1)] := by kernel_rfl
@[simp] theorem qconcrete_128 : qconcrete Tryd.prog 128 = true := by kernel_rfl
@[simp] theorem qkey_128 : qkey Tryd.prog 128 = true := by kernel_rfl
@[simp] theorem qthere_128 : qthere Tryd.prog 128 = true := by kernel_rfl
@[simp] theorem qeq_128 : qeq Tryd.prog 128 = some [CK.i Go.IntKind.i32, CK.i Go.IntKind.i32, CK.i Go.IntKind.i32] := by kernel_rfl
@[simp] theorem cellsOf_128 : Go.Program.cellsOf Tryd.prog 128 = 3 := by kernel_rfl
@[simp] theorem bytesOf_128 : Go.Program.bytesOf Tryd.prog 128 = 12 := by kernel_rfl
@[simp] theorem qsize_129 : qsize Tryd.prog 129 = some 18 := by kernel_rfl
@[simp] theorem qbytes_129 : qbytes Tryd.prog 129 = some 72 := by kernel_rfl
@[simp] theorem qagg_129 : qagg Tryd.prog 129 = some true := by kernel_rfl
@[simp] theorem qzero_129 : qzero Tryd.prog 129 = some   (V.agg     [V.i Go.IntKind.i32 (0), V.i Go.IntKind.i32 (0), V.i Go.IntKind.i32 (0),       V.i Go.IntKind.i32 (0), V.i Go.IntKind.i32 (0), V.i Go.IntKind.i32 (0),       V.i Go.IntKind.i32 (0), V.i Go.IntKind.i32 (0), V.i Go.IntKind.i32 (0),       V.i Go.IntKind.i32 (0), V.i Go.IntKind.i32 (0), V.i Go.IntKind.i32 (0),       V.i Go.IntKind.i32 (0), V.i Go.IntKind.i32 (0), V.i Go.IntKind.i32 (0),       V.i Go.IntKind.i32 (0), V.i Go.IntKind.i32 (0), V.i Go.IntKind.i32 (0)]) := by kernel_rfl
@[simp] theorem qconcrete_129 : qconcrete Tryd.prog 129 = true := by kernel_rfl
@[simp] theorem qthere_129 : qthere Tryd.prog 129 = true := by kernel_rfl
@[simp] theorem cellsOf_129 : Go.Program.cellsOf Tryd.prog 129 = 18 := by kernel_rfl
@[simp] theorem bytesOf_129 : Go.Program.bytesOf Tryd.prog 129 = 72 := by kernel_rfl
@[simp] theorem qarr_129 : qarr Tryd.prog 129 = some (6, 128) := by kernel_rfl
@[simp] theorem qsize_130 : qsize Tryd.prog 130 = some 1 := by kernel_rfl
@[simp] theorem qbytes_130 : qbytes Tryd.prog 130 = some 24 := by kernel_rfl
@[simp] theorem qagg_130 : qagg Tryd.prog 130 = some false := by kernel_rfl
@[simp] theorem qzero_130 : qzero Tryd.prog 130 = some (V.sl none 0 false) := by kernel_rfl
@[simp] theorem qconcrete_130 : qconcrete Tryd.prog 130 = true := by kernel_rfl
@[simp] theorem qsrc_130 : qsrc Tryd.prog 130 = true := by kernel_rfl
@[simp] theorem qthere_130 : qthere Tryd.prog 130 = true := by kernel_rfl
@[simp] theorem cellsOf_130 : Go.Program.cellsOf Tryd.prog 130 = 1 := by kernel_rfl
@[simp] theorem bytesOf_130 : Go.Program.bytesOf Tryd.prog 130 = 24 := by kernel_rfl
@[simp] theorem qelem_130 : qelem Tryd.prog 130 = some 2 := by kernel_rfl
@[simp] theorem qsize_135 : qsize Tryd.prog 135 = some 1 := by kernel_rfl
@[simp] theorem qbytes_135 : qbytes Tryd.prog 135 = some 8 := by kernel_rfl
@[simp] theorem qagg_135 : qagg Tryd.prog 135 = some false := by kernel_rfl
@[simp] theorem qzero_135 : qzero Tryd.prog 135 = some (V.i Go.IntKind.u64 (0)) := by kernel_rfl
@[simp] theorem qint_135 : qint Tryd.prog 135 = some Go.IntKind.u64 := by kernel_rfl
@[simp] theorem keqi_135 (a c : Int) : keq Tryd.prog 135 (.i Go.IntKind.u64 a) (.i Go.IntKind.u64 c) = some (a == c) := keq_i qint_135
@[simp] theorem qconcrete_135 : qconcrete Tryd.prog 135 = true := by kernel_rfl
@[simp] theorem qkey_135 : qkey Tryd.prog 135 = true := by kernel_rfl
@[simp] theorem qplainKey_135 : qplainKey Tryd.prog 135 = true := by kernel_rfl
@[simp] theorem kf_135 (k : V) : keyFits Tryd.prog 135 k = true := keyFits_plain qplainKey_135
@[simp] theorem qthere_135 : qthere Tryd.prog 135 = true := by kernel_rfl
@[simp] theorem cellsOf_135 : Go.Program.cellsOf Tryd.prog 135 = 1 := by kernel_rfl
@[simp] theorem bytesOf_135 : Go.Program.bytesOf Tryd.prog 135 = 8 := by kernel_rfl
@[simp] theorem qsize_136 : qsize Tryd.prog 136 = some 1 := by kernel_rfl
@[simp] theorem qbytes_136 : qbytes Tryd.prog 136 = some 24 := by kernel_rfl
@[simp] theorem qagg_136 : qagg Tryd.prog 136 = some false := by kernel_rfl
@[simp] theorem qzero_136 : qzero Tryd.prog 136 = some (V.sl none 0 false) := by kernel_rfl
@[simp] theorem qconcrete_136 : qconcrete Tryd.prog 136 = true := by kernel_rfl
@[simp] theorem qsrc_136 : qsrc Tryd.prog 136 = true := by kernel_rfl
@[simp] theorem qthere_136 : qthere Tryd.prog 136 = true := by kernel_rfl
@[simp] theorem cellsOf_136 : Go.Program.cellsOf Tryd.prog 136 = 1 := by kernel_rfl
@[simp] theorem bytesOf_136 : Go.Program.bytesOf Tryd.prog 136 = 24 := by kernel_rfl
@[simp] theorem qelem_136 : qelem Tryd.prog 136 = some 21 := by kernel_rfl
@[simp] theorem qsize_138 : qsize Tryd.prog 138 = some 1 := by kernel_rfl
@[simp] theorem qbytes_138 : qbytes Tryd.prog 138 = some 8 := by kernel_rfl
@[simp] theorem qagg_138 : qagg Tryd.prog 138 = some false := by kernel_rfl
@[simp] theorem qzero_138 : qzero Tryd.prog 138 = some (V.p none) := by kernel_rfl
@[simp] theorem qconcrete_138 : qconcrete Tryd.prog 138 = true := by kernel_rfl
@[simp] theorem qthere_138 : qthere Tryd.prog 138 = true := by kernel_rfl
@[simp] theorem cellsOf_138 : Go.Program.cellsOf Tryd.prog 138 = 1 := by kernel_rfl
@[simp] theorem bytesOf_138 : Go.Program.bytesOf Tryd.prog 138 = 8 := by kernel_rfl
@[simp] theorem qsize_145 : qsize Tryd.prog 145 = some 1 := by kernel_rfl
@[simp] theorem qbytes_145 : qbytes Tryd.prog 145 = some 8 := by kernel_rfl
@[simp] theorem qagg_145 : qagg Tryd.prog 145 = some false := by kernel_rfl
@[simp] theorem qzero_145 : qzero Tryd.prog 145 = some (V.i Go.IntKind.i64 (0)) := by kernel_rfl
@[simp] theorem qint_145 : qint Tryd.prog 145 = some Go.IntKind.i64 := by kernel_rfl
@[simp] theorem keqi_145 (a c : Int) : keq Tryd.prog 145 (.i Go.IntKind.i64 a) (.i Go.IntKind.i64 c) = some (a == c) := keq_i qint_145
@[simp] theorem qconcrete_145 : qconcrete Tryd.prog 145 = true := by kernel_rfl
@[simp] theorem qkey_145 : qkey Tryd.prog 145 = true := by kernel_rfl
@[simp] theorem qplainKey_145 : qplainKey Tryd.prog 145 = true := by kernel_rfl
@[simp] theorem kf_145 (k : V) : keyFits Tryd.prog 145 k = true := keyFits_plain qplainKey_145
@[simp] theorem qthere_145 : qthere Tryd.prog 145 = true := by kernel_rfl
@[simp] theorem cellsOf_145 : Go.Program.cellsOf Tryd.prog 145 = 1 := by kernel_rfl
@[simp] theorem bytesOf_145 : Go.Program.bytesOf Tryd.prog 145 = 8 := by kernel_rfl
@[simp] theorem qsize_154 : qsize Tryd.prog 154 = some 1 := by kernel_rfl
@[simp] theorem qbytes_154 : qbytes Tryd.prog 154 = some 8 := by kernel_rfl
@[simp] theorem qagg_154 : qagg Tryd.prog 154 = some false := by kernel_rfl
@[simp] theorem qzero_154 : qzero Tryd.prog 154 = some (V.i Go.IntKind.u64 (0)) := by kernel_rfl
@[simp] theorem qint_154 : qint Tryd.prog 154 = some Go.IntKind.u64 := by kernel_rfl
@[simp] theorem keqi_154 (a c : Int) : keq Tryd.prog 154 (.i Go.IntKind.u64 a) (.i Go.IntKind.u64 c) = some (a == c) := keq_i qint_154
@[simp] theorem qconcrete_154 : qconcrete Tryd.prog 154 = true := by kernel_rfl
@[simp] theorem qkey_154 : qkey Tryd.prog 154 = true := by kernel_rfl
@[simp] theorem qplainKey_154 : qplainKey Tryd.prog 154 = true := by kernel_rfl
@[simp] theorem kf_154 (k : V) : keyFits Tryd.prog 154 k = true := keyFits_plain qplainKey_154
@[simp] theorem qthere_154 : qthere Tryd.prog 154 = true := by kernel_rfl
@[simp] theorem cellsOf_154 : Go.Program.cellsOf Tryd.prog 154 = 1 := by kernel_rfl
@[simp] theorem bytesOf_154 : Go.Program.bytesOf Tryd.prog 154 = 8 := by kernel_rfl
@[simp] theorem qsize_160 : qsize Tryd.prog 160 = some 1 := by kernel_rfl
@[simp] theorem qbytes_160 : qbytes Tryd.prog 160 = some 8 := by kernel_rfl
@[simp] theorem qagg_160 : qagg Tryd.prog 160 = some false := by kernel_rfl
@[simp] theorem qzero_160 : qzero Tryd.prog 160 = some (V.i Go.IntKind.u64 (0)) := by kernel_rfl
@[simp] theorem qint_160 : qint Tryd.prog 160 = some Go.IntKind.u64 := by kernel_rfl
@[simp] theorem keqi_160 (a c : Int) : keq Tryd.prog 160 (.i Go.IntKind.u64 a) (.i Go.IntKind.u64 c) = some (a == c) := keq_i qint_160
@[simp] theorem qconcrete_160 : qconcrete Tryd.prog 160 = true := by kernel_rfl
@[simp] theorem qkey_160 : qkey Tryd.prog 160 = true := by kernel_rfl
@[simp] theorem qplainKey_160 : qplainKey Tryd.prog 160 = true := by kernel_rfl
@[simp] theorem kf_160 (k : V) : keyFits Tryd.prog 160 k = true := keyFits_plain qplainKey_160
@[simp] theorem qthere_160 : qthere Tryd.prog 160 = true := by kernel_rfl
@[simp] theorem cellsOf_160 : Go.Program.cellsOf Tryd.prog 160 = 1 := by kernel_rfl
@[simp] theorem bytesOf_160 : Go.Program.bytesOf Tryd.prog 160 = 8 := by kernel_rfl
@[simp] theorem qsize_164 : qsize Tryd.prog 164 = some 1 := by kernel_rfl
@[simp] theorem qbytes_164 : qbytes Tryd.prog 164 = some 8 := by kernel_rfl
@[simp] theorem qagg_164 : qagg Tryd.prog 164 = some false := by kernel_rfl
@[simp] theorem qzero_164 : qzero Tryd.prog 164 = some (V.p none) := by kernel_rfl
@[simp] theorem qconcrete_164 : qconcrete Tryd.prog 164 = true := by kernel_rfl
@[simp] theorem qptr_164 : qptr Tryd.prog 164 = true := by kernel_rfl
@[simp] theorem pnn_164 : aeq Tryd.prog 164 (.p none) (.p none) = some true := aeq_pnn qptr_164
@[simp] theorem psn_164 (q : Nat × Nat × Nat) : aeq Tryd.prog 164 (.p (some q)) (.p none) = some false := aeq_psn qptr_164
@[simp] theorem qthere_164 : qthere Tryd.prog 164 = true := by kernel_rfl
@[simp] theorem cellsOf_164 : Go.Program.cellsOf Tryd.prog 164 = 1 := by kernel_rfl
@[simp] theorem bytesOf_164 : Go.Program.bytesOf Tryd.prog 164 = 8 := by kernel_rfl
@[simp] theorem qsize_168 : qsize Tryd.prog 168 = some 256 := by kernel_rfl
@[simp] theorem qbytes_168 : qbytes Tryd.prog 168 = some 256 := by kernel_rfl
@[simp] theorem qagg_168 : qagg Tryd.prog 168 = some true := by kernel_rfl
@[simp] theorem qzero_168 : qzero Tryd.prog 168 = some   (V.agg     [V.i Go.IntKind.u8 (0), V.i Go.IntKind.u8 (0), V.i Go.IntKind.u8 (0),       V.i Go.IntKind.u8 (0), V.i Go.IntKind.u8 (0), V.i Go.IntKind.u8 (0),       V.i Go.IntKind.u8 (0), V.i Go.IntKind.u8 (0), V.i Go.IntKind.u8 (0),       V.i Go.IntKind.u8 (0), V.i Go.IntKind.u8 (0), V.i Go.IntKind.u8 (0),       V.i Go.IntKind.u8 (0), V.i Go.IntKind.u8 (0), V.i Go.IntKind.u8 (0),       V.i Go.IntKind.u8 (0), V.i Go.IntKind.u8 (0), V.i Go.IntKind.u8 (0),       V.i Go.IntKind.u8 (0), V.i Go.IntKind.u8 (0), V.i Go.IntKind.u8 (0),       V.i Go.IntKind.u8 (0), V.i Go.IntKind.u8 (0), V.i Go.IntKind.u8 (0),       V.i Go.IntKind.u8 (0), V.i Go.IntKind.u8 (0), V.i Go.IntKind.u8 (0),       V.i Go.IntKind.u8 (0), V.i Go.IntKind.u8 (0), V.i Go.IntKind.u8 (0),       V.i Go.IntKind.u8 (0), V.i Go.IntKind.u8 (0), V.i Go.IntKind.u8 (0),       V.i Go.IntKind.u8 (0), V.i Go.IntKind.u8 (0), V.i Go.IntKind.u8 (0),       V.i Go.IntKind.u8 (0), V.i Go.IntKind.u8 (0), V.i Go.IntKind.u8 (0),       V.i Go.IntKind.u8 (0), V.i Go.IntKind.u8 (0), V.i Go.IntKind.u8 (0),       V.i Go.IntKind.u8 (0), V.i Go.IntKind.u8 (0), V.i Go.IntKind.u8 (0),       V.i Go.IntKind.u8 (0), V.i Go.IntKind.u8 (0), V.i Go.IntKind.u8 (0),       V.i Go.IntKind.u8 (0), V.i Go.IntKind.u8 (0), V.i Go.IntKind.u8 (0),       V.i Go.IntKind.u8 (0), V.i Go.IntKind.u8 (0), V.i Go.IntKind.u8 (0),       V.i Go.IntKind.u8 (0), V.i Go.IntKind.u8 (0), V.i Go.IntKind.u8 (0),       V.i Go.IntKind.u8 (0), V.i Go.IntKind.u8 (0), V.i Go.IntKind.u8 (0),       V.i Go.IntKind.u8 (0), V.i Go.IntKind.u8 (0), V.i Go.IntKind.u8 (0),       V.i Go.IntKind.u8 (0), V.i Go.IntKind.u8 (0), V.i Go.IntKind.u8 (0),       V.i Go.IntKind.u8 (0), V.i Go.IntKind.u8 (0), V.i Go.IntKind.u8 (0),       V.i Go.IntKind.u8 (0), V.i Go.IntKind.u8 (0), V.i Go.IntKind.u8 (0),       V.i Go.IntKind.u8 (0), V.i Go.IntKind.u8 (0), V.i Go.IntKind.u8 (0),       V.i Go.IntKind.u8 (0), V.i Go.IntKind.u8 (0), V.i Go.IntKind.u8 (0),       V.i Go.IntKind.u8 (0), V.i Go.IntKind.u8 (0), V.i Go.IntKind.u8 (0),       V.i Go.IntKind.u8 (0), V.i Go.IntKind.u8 (0), V.i Go.IntKind.u8 (0),       V.i Go.IntKind.u8 (0), V.i Go.IntKind.u8 (0), V.i Go.IntKind.u8 (0),       V.i Go.IntKind.u8 (0), V.i Go.IntKind.u8 (0), V.i Go.IntKind.u8 (0),       V.i Go.IntKind.u8 (0), V.i Go.IntKind.u8 (0), V.i Go.IntKind.u8 (0),       V.i Go.IntKind.u8 (0), V.i Go.IntKind.u8 (0), V.i Go.IntKind.u8 (0),       V.i Go.IntKind.u8 (0), V.i Go.IntKind.u8 (0), V.i Go.IntKind.u8 (0),       V.i Go.IntKind.u8 (0), V.i Go.IntKind.u8 (0), V.i Go.IntKind.u8 (0),       V.i Go.IntKind.u8 (0), V.i Go.IntKind.u8 (0), V.i Go.IntKind.u8 (0),       V.i Go.IntKind.u8 (0), V.i Go.IntKind.u8 (0), V.i Go.IntKind.u8 (0),       V.i Go.IntKind.u8 (0), V.i Go.IntKind.u8 (0), V.i Go.IntKind.u8 (0),       V.i Go.IntKind.u8 (0), V.i Go.IntKind.u8 (0), V.i Go.IntKind.u8 (0),       V.i Go.IntKind.u8 (0), V.i Go.IntKind.u8 (0), V.i Go.IntKind.u8 (0),       V.i Go.IntKind.u8 (0), V.i Go.IntKind.u8 (0), V.i Go.IntKind.u8 (0),       V.i Go.IntKind.u8 (0), V.i Go.IntKind.u8 (0), V.i Go.IntKind.u8 (0),       V.i Go.IntKind.u8 (0), V.i Go.IntKind.u8 (0), V.i Go.IntKind.u8 (0),       V.i Go.IntKind.u8 (0), V.i Go.IntKind.u8 (0), V.i Go.IntKind.u8 (0),       V.i Go.IntKind.u8 (0), V.i Go.IntKind.u8 (0), V.i Go.IntKind.u8 (0),       V.i Go.IntKind.u8 (0), V.i Go.IntKind.u8 (0), V.i Go.IntKind.u8 (0),       V.i Go.IntKind.u8 (0), V.i Go.IntKind.u8 (0), V.i Go.IntKind.u8 (0),       V.i Go.IntKind.u8 (0), V.i Go.IntKind.u8 (0), V.i Go.IntKind.u8 (0),       V.i Go.IntKind.u8 (0), V.i Go.IntKind.u8 (0), V.i Go.IntKind.u8 (0),       V.i Go.IntKind.u8 (0), V.i Go.IntKind.u8 (0), V.i Go.IntKind.u8 (0),       V.i Go.IntKind.u8 (0), V.i Go.IntKind.u8 (0), V.i Go.IntKind.u8 (0),       V.i Go.IntKind.u8 (0), V.i Go.IntKind.u8 (0), V.i Go.IntKind.u8 (0),       V.i Go.IntKind.u8 (0), V.i Go.IntKind.u8 (0), V.i Go.IntKind.u8 (0),       V.i Go.IntKind.u8 (0), V.i Go.IntKind.u8 (0), V.i Go.IntKind.u8 (0),       V.i Go.IntKind.u8 (0), V.i Go.IntKind.u8 (0), V.i Go.IntKind.u8 (0),       V.i Go.IntKind.u8 (0), V.i Go.IntKind.u8 (0), V.i Go.IntKind.u8 (0),       V.i Go.IntKind.u8 (0), V.i Go.IntKind.u8 (0), V.i Go.IntKind.u8 (0),       V.i Go.IntKind.u8 (0), V.i Go.IntKind.u8 (0), V.i Go.IntKind.u8 (0),       V.i Go.IntKind.u8 (0), V.i Go.IntKind.u8 (0), V.i Go.IntKind.u8 (0),       V.i Go.IntKind.u8 (0), V.i Go.IntKind.u8 (0), V.i Go.IntKind.u8 (0),       V.i Go.IntKind.u8 (0), V.i Go.IntKind.u8 (0), V.i Go.IntKind.u8 (0),       V.i Go.IntKind.u8 (0), V.i Go.IntKind.u8 (0), V.i Go.IntKind.u8 (0),       V.i Go.IntKind.u8 (0), V.i Go.IntKind.u8 (0), V.i Go.IntKind.u8 (0),       V.i Go.IntKind.u8 (0), V.i Go.IntKind.u8 (0), V.i Go.IntKind.u8 (0),       V.i Go.IntKind.u8 (0), V.i Go.IntKind.u8 (0), V.i Go.IntKind.u8 (0),       V.i Go.IntKind.u8 (0), V.i Go.IntKind.u8 (0), V.i Go.IntKind.u8 (0),       V.i Go.IntKind.u8 (0), V.i Go.IntKind.u8 (0), V.i Go.IntKind.u8 (0),       V.i Go.IntKind.u8 (0), V.i Go.IntKind.u8 (0), V.i Go.IntKind.u8 (0),       V.i Go.IntKind.u8 (0), V.i Go.IntKind.u8 (0), V.i Go.IntKind.u8 (0),       V.i Go.IntKind.u8 (0), V.i Go.IntKind.u8 (0), V.i Go.IntKind.u8 (0),       V.i Go.IntKind.u8 (0), V.i Go.IntKind.u8 (0), V.i Go.IntKind.u8 (0),       V.i Go.IntKind.u8 (0), V.i Go.IntKind.u8 (0), V.i Go.IntKind.u8 (0),       V.i Go.IntKind.u8 (0), V.i Go.IntKind.u8 (0), V.i Go.IntKind.u8 (0),       V.i Go.IntKind.u8 (0), V.i Go.IntKind.u8 (0), V.i Go.IntKind.u8 (0),       V.i Go.IntKind.u8 (0), V.i Go.IntKind.u8 (0), V.i Go.IntKind.u8 (0),       V.i Go.IntKind.u8 (0), V.i Go.IntKind.u8 (0), V.i Go.IntKind.u8 (0),       V.i Go.IntKind.u8 (0), V.i Go.IntKind.u8 (0), V.i Go.IntKind.u8 (0),       V.i Go.IntKind.u8 (0), V.i Go.IntKind.u8 (0), V.i Go.IntKind.u8 (0),       V.i Go.IntKind.u8 (0), V.i Go.IntKind.u8 (0), V.i Go.IntKind.u8 (0),       V.i Go.IntKind.u8 (0), V.i Go.IntKind.u8 (0), V.i Go.IntKind.u8 (0),       V.i Go.IntKind.u8 (0), V.i Go.IntKind.u8 (0), V.i Go.IntKind.u8 (0),       V.i Go.IntKind.u8 (0), V.i Go.IntKind.u8 (0), V.i Go.IntKind.u8 (0),       V.i Go.IntKind.u8 (0), V.i Go.IntKind.u8 (0), V.i Go.IntKind.u8 (0),       V.i Go.IntKind.u8 (0), V.i Go.IntKind.u8 (0), V.i Go.IntKind.u8 (0),       V.i Go.IntKind.u8 (0), V.i Go.IntKind.u8 (0), V.i Go.IntKind.u8 (0),       V.i Go.IntKind.u8 (0), V.i Go.IntKind.u8 (0), V.i Go.IntKind.u8 (0),       V.i Go.IntKind.u8 (0)]) := by kernel_rfl
@[simp] theorem qconcrete_168 : qconcrete Tryd.prog 168 = true := by kernel_rfl
@[simp] theorem qthere_168 : qthere Tryd.prog 168 = true := by kernel_rfl
@[simp] theorem cellsOf_168 : Go.Program.cellsOf Tryd.prog 168 = 256 := by kernel_rfl
@[simp] theorem bytesOf_168 : Go.Program.bytesOf Tryd.prog 168 = 256 := by kernel_rfl
@[simp] theorem qarr_168 : qarr Tryd.prog 168 = some (256, 5) := by kernel_rfl
@[simp] theorem qsize_170 : qsize Tryd.prog 170 = some 2 := by kernel_rfl
@[simp] theorem qbytes_170 : qbytes Tryd.prog 170 = some 2 := by kernel_rfl
@[simp] theorem qagg_170 : qagg Tryd.prog 170 = some true := by kernel_rfl
@[simp] theorem qzero_170 : qzero Tryd.prog 170 = some (V.agg [V.i Go.IntKind.u8 (0), V.i Go.IntKind.u8 (0)]) := by kernel_rfl
@[simp] theorem qplaces_170 : qplaces Tryd.prog 170 = some [(0, 1), (1, 1)] := by kernel_rfl
@[simp] theorem qconcrete_170 : qconcrete Tryd.prog 170 = true := by kernel_rfl
@[simp] theorem qkey_170 : qkey Tryd.prog 170 = true := by kernel_rfl
@[simp] theorem qthere_170 : qthere Tryd.prog 170 = true := by kernel_rfl
@[simp] theorem qeq_170 : qeq Tryd.prog 170 = some [CK.i Go.IntKind.u8, CK.i Go.IntKind.u8] := by kernel_rfl
@[simp] theorem cellsOf_170 : Go.Program.cellsOf Tryd.prog 170 = 2 := by kernel_rfl
@[simp] theorem bytesOf_170 : Go.Program.bytesOf Tryd.prog 170 = 2 := by kernel_rfl
@[simp] theorem qsize_171 : qsize Tryd.prog 171 = some 32 := by kernel_rfl
@[simp] theorem qbytes_171 : qbytes Tryd.prog 171 = some 32 := by kernel_rfl
@[simp] theorem qagg_171 : qagg Tryd.prog 171 = some true := by kernel_rfl
@[simp] theorem qzero_171 : qzero Tryd.prog 171 = some   (V.agg     [V.i Go.IntKind.u8 (0), V.i Go.IntKind.u8 (0), V.i Go.IntKind.u8 (0),       V.i Go.IntKind.u8 (0), V.i Go.IntKind.u8 (0), V.i Go.IntKind.u8 (0),       V.i Go.IntKind.u8 (0), V.i Go.IntKind.u8 (0), V.i Go.IntKind.u8 (0),       V.i Go.IntKind.u8 (0), V.i Go.IntKind.u8 (0), V.i Go.IntKind.u8 (0),       V.i Go.IntKind.u8 (0), V.i Go.IntKind.u8 (0), V.i Go.IntKind.u8 (0),       V.i Go.IntKind.u8 (0), V.i Go.IntKind.u8 (0), V.i Go.IntKind.u8 (0),       V.i Go.IntKind.u8 (0), V.i Go.IntKind.u8 (0), V.i Go.IntKind.u8 (0),       V.i Go.IntKind.u8 (0), V.i Go.IntKind.u8 (0), V.i Go.IntKind.u8 (0),       V.i Go.IntKind.u8 (0), V.i Go.IntKind.u8 (0), V.i Go.IntKind.u8 (0),       V.i Go.IntKind.u8 (0), V.i Go.IntKind.u8 (0), V.i Go.IntKind.u8 (0),       V.i Go.IntKind.u8 (0), V.i Go.IntKind.u8 (0)]) := by kernel_rfl
@[simp] theorem qconcrete_171 : qconcrete Tryd.prog 171 = true := by kernel_rfl
@[simp] theorem qthere_171 : qthere Tryd.prog 171 = true := by kernel_rfl
@[simp] theorem cellsOf_171 : Go.Program.cellsOf Tryd.prog 171 = 32 := by kernel_rfl
@[simp] theorem bytesOf_171 : Go.Program.bytesOf Tryd.prog 171 = 32 := by kernel_rfl
@[simp] theorem qarr_171 : qarr Tryd.prog 171 = some (16, 170) := by kernel_rfl
@[simp] theorem qsize_172 : qsize Tryd.prog 172 = some 1 := by kernel_rfl
@[simp] theorem qbytes_172 : qbytes Tryd.prog 172 = some 8 := by kernel_rfl
@[simp] theorem qagg_172 : qagg Tryd.prog 172 = some false := by kernel_rfl
@[simp] theorem qzero_172 : qzero Tryd.prog 172 = some (V.p none) := by kernel_rfl
@[simp] theorem qconcrete_172 : qconcrete Tryd.prog 172 = true := by kernel_rfl
@[simp] theorem qptr_172 : qptr Tryd.prog 172 = true := by kernel_rfl
@[simp] theorem pnn_172 : aeq Tryd.prog 172 (.p none) (.p none) = some true := aeq_pnn qptr_172
@[simp] theorem psn_172 (q : Nat × Nat × Nat) : aeq Tryd.prog 172 (.p (some q)) (.p none) = some false := aeq_psn qptr_172
@[simp] theorem qthere_172 : qthere Tryd.prog 172 = true := by kernel_rfl
@[simp] theorem cellsOf_172 : Go.Program.cellsOf Tryd.prog 172 = 1 := by kernel_rfl
@[simp] theorem bytesOf_172 : Go.Program.bytesOf Tryd.prog 172 = 8 := by kernel_rfl
@[simp] theorem qsize_182 : qsize Tryd.prog 182 = some 1 := by kernel_rfl
@[simp] theorem qbytes_182 : qbytes Tryd.prog 182 = some 1 := by kernel_rfl
@[simp] theorem qagg_182 : qagg Tryd.prog 182 = some false := by kernel_rfl
@[simp] theorem qzero_182 : qzero Tryd.prog 182 = some (V.i Go.IntKind.u8 (0)) := by kernel_rfl
@[simp] theorem qint_182 : qint Tryd.prog 182 = some Go.IntKind.u8 := by kernel_rfl
@[simp] theorem keqi_182 (a c : Int) : keq Tryd.prog 182 (.i Go.IntKind.u8 a) (.i Go.IntKind.u8 c) = some (a == c) := keq_i qint_182
@[simp] theorem qconcrete_182 : qconcrete Tryd.prog 182 = true := by kernel_rfl
@[simp] theorem qkey_182 : qkey Tryd.prog 182 = true := by kernel_rfl
@[simp] theorem qplainKey_182 : qplainKey Tryd.prog 182 = true := by kernel_rfl
@[simp] theorem kf_182 (k : V) : keyFits Tryd.prog 182 k = true := keyFits_plain qplainKey_182
@[simp] theorem qthere_182 : qthere Tryd.prog 182 = true := by kernel_rfl
@[simp] theorem cellsOf_182 : Go.Program.cellsOf Tryd.prog 182 = 1 := by kernel_rfl
@[simp] theorem bytesOf_182 : Go.Program.bytesOf Tryd.prog 182 = 1 := by kernel_rfl
@[simp] theorem qsize_108 : qsize Tryd.prog 108 = some 10 := by kernel_rfl
@[simp] theorem qbytes_108 : qbytes Tryd.prog 108 = some 72 := by kernel_rfl
@[simp] theorem qagg_108 : qagg Tryd.prog 108 = some true := by kernel_rfl
@[simp] theorem qzero_108 : qzero Tryd.prog 108 = some   (V.agg     [V.i Go.IntKind.i64 (0), V.i Go.IntKind.i64 (0), V.i Go.IntKind.i64 (0),       V.i Go.IntKind.i64 (0), V.i Go.IntKind.i64 (0), V.i Go.IntKind.i64 (0),       V.i Go.IntKind.i64 (0), V.i Go.IntKind.i64 (0), V.i Go.IntKind.u32 (0),       V.i Go.IntKind.u32 (0)]) := by kernel_rfl
@[simp] theorem qplaces_108 : qplaces Tryd.prog 108 = some [(0, 1), (1, 1), (2, 8)] := by kernel_rfl
@[simp] theorem qconcrete_108 : qconcrete Tryd.prog 108 = true := by kernel_rfl
@[simp] theorem qkey_108 : qkey Tryd.prog 108 = true := by kernel_rfl
@[simp] theorem qthere_108 : qthere Tryd.prog 108 = true := by kernel_rfl
@[simp] theorem qeq_108 : qeq Tryd.prog 108 = some   [CK.i Go.IntKind.i64, CK.i Go.IntKind.i64, CK.i Go.IntKind.i64, CK.i Go.IntKind.i64, CK.i Go.IntKind.i64,     CK.i Go.IntKind.i64, CK.i Go.IntKind.i64, CK.i Go.IntKind.i64, CK.i Go.IntKind.u32, CK.i Go.IntKind.u32] := by kernel_rfl
@[simp] theorem cellsOf_108 : Go.Program.cellsOf Tryd.prog 108 = 10 := by kernel_rfl
@[simp] theorem bytesOf_108 : Go.Program.bytesOf Tryd.prog 108 = 72 := by kernel_rfl
@[simp] theorem qfield_24_1 : qfield Tryd.prog 24 1 = some (1, 1, false) := by kernel_rfl
@[simp] theorem qfield_28_4 : qfield Tryd.prog 28 4 = some (4, 8, true) := by kernel_rfl
@[simp] theorem qfield_28_5 : qfield Tryd.prog 28 5 = some (12, 1, false) := by kernel_rfl
@[simp] theorem qfield_28_6 : qfield Tryd.prog 28 6 = some (13, 1, false) := by kernel_rfl
@[simp] theorem qfield_50_0 : qfield Tryd.prog 50 0 = some (0, 1, false) := by kernel_rfl
@[simp] theorem qfield_50_1 : qfield Tryd.prog 50 1 = some (1, 1, false) := by kernel_rfl
@[simp] theorem qfield_50_2 : qfield Tryd.prog 50 2 = some (2, 1, false) := by kernel_rfl
@[simp] theorem qfield_54_0 : qfield Tryd.prog 54 0 = some (0, 1, false) := by kernel_rfl
@[simp] theorem qfield_54_1 : qfield Tryd.prog 54 1 = some (1, 1, false) := by kernel_rfl
@[simp] theorem qfield_54_2 : qfield Tryd.prog 54 2 = some (2, 1, false) := by kernel_rfl
@[simp] theorem qfield_54_3 : qfield Tryd.prog 54 3 = some (3, 1, false) := by kernel_rfl
@[simp] theorem qfield_54_4 : qfield Tryd.prog 54 4 = some (4, 1, false) := by kernel_rfl
@[simp] theorem qfield_54_5 : qfield Tryd.prog 54 5 = some (5, 1, false) := by kernel_rfl
@[simp] theorem qfield_54_6 : qfield Tryd.prog 54 6 = some (6, 1, false) := by kernel_rfl
@[simp] theorem qfield_56_2 : qfield Tryd.prog 56 2 = some (2, 7, true) := by kernel_rfl
@[simp] theorem qfield_56_3 : qfield Tryd.prog 56 3 = some (9, 1, false) := by kernel_rfl
@[simp] theorem qfield_64_0 : qfield Tryd.prog 64 0 = some (0, 1, false) := by kernel_rfl
@[simp] theorem qfield_64_1 : qfield Tryd.prog 64 1 = some (1, 1, false) := by kernel_rfl
@[simp] theorem qfield_64_2 : qfield Tryd.prog 64 2 = some (2, 1, false) := by kernel_rfl
@[simp] theorem qfield_64_3 : qfield Tryd.prog 64 3 = some (3, 1, false) := by kernel_rfl
@[simp] theorem qfield_70_0 : qfield Tryd.prog 70 0 = some (0, 1, false) := by kernel_rfl
@[simp] theorem qfield_70_1 : qfield Tryd.prog 70 1 = some (1, 1, false) := by kernel_rfl
@[simp] theorem qfield_74_0 : qfield Tryd.prog 74 0 = some (0, 1, false) := by kernel_rfl
@[simp] theorem qfield_74_1 : qfield Tryd.prog 74 1 = some (1, 1, false) := by kernel_rfl
@[simp] theorem qfield_77_0 : qfield Tryd.prog 77 0 = some (0, 1, false) := by kernel_rfl
@[simp] theorem qfield_77_1 : qfield Tryd.prog 77 1 = some (1, 1, false) := by kernel_rfl
@[simp] theorem qfield_82_0 : qfield Tryd.prog 82 0 = some (0, 1, false) := by kernel_rfl
@[simp] theorem qfield_84_0 : qfield Tryd.prog 84 0 = some (0, 1, false) := by kernel_rfl
@[simp] theorem qfield_84_1 : qfield Tryd.prog 84 1 = some (1, 1, false) := by kernel_rfl
@[simp] theorem qfield_88_0 : qfield Tryd.prog 88 0 = some (0, 1, false) := by kernel_rfl
@[simp] theorem qfield_88_1 : qfield Tryd.prog 88 1 = some (1, 1, false) := by kernel_rfl
@[simp] theorem qfield_128_0 : qfield Tryd.prog 128 0 = some (0, 1, false) := by kernel_rfl
@[simp] theorem qfield_128_1 : qfield Tryd.prog 128 1 = some (1, 1, false) := by kernel_rfl
@[simp] theorem qfield_128_2 : qfield Tryd.prog 128 2 = some (2, 1, false) := by kernel_rfl
@[simp] theorem qfield_170_0 : qfield Tryd.prog 170 0 = some (0, 1, false) := by kernel_rfl
@[simp] theorem qfield_170_1 : qfield Tryd.prog 170 1 = some (1, 1, false) := by kernel_rfl
/-- 14 operations, 15 nodes, looks at memory: true -/
def pl_4_10 : Plan := .take 0 (.take 1 (.take 2 (.take 3 (.take 4 (.take 5 (.take 6 (.take 7 (.take 8 (.take 9 (.take 10 (.take 11 (.alt 12 true (.alt 13 false (.done) (.stop)) (.stop)))))))))))))
def pe_4_10 : Bool := true
/-- 17 operations, 18 nodes, looks at memory: true -/
def pl_4_11 : Plan := .take 0 (.take 1 (.take 2 (.take 3 (.take 4 (.take 5 (.take 6 (.take 8 (.take 9 (.take 10 (.take 11 (.take 12 (.take 13 (.take 14 (.alt 7 true (.alt 15 false (.take 16 (.done)) (.stop)) (.stop)))))))))))))))
def pe_4_11 : Bool := true
/-- 36 operations, 37 nodes, looks at memory: true -/
def pl_4_22 : Plan := .take 0 (.take 1 (.take 2 (.take 3 (.take 4 (.take 5 (.take 6 (.take 7 (.take 8 (.take 9 (.take 10 (.take 11 (.take 12 (.take 13 (.take 14 (.take 15 (.take 16 (.take 17 (.take 18 (.take 19 (.take 20 (.take 21 (.take 22 (.take 23 (.take 24 (.take 25 (.take 26 (.take 27 (.take 28 (.take 29 (.take 30 (.take 31 (.take 32 (.take 33 (.take 34 (.take 35 (.done))))))))))))))))))))))))))))))))))))
def pe_4_22 : Bool := true
/-- 6 operations, 7 nodes, looks at memory: true -/
def pl_7_8 : Plan := .take 0 (.take 1 (.take 2 (.take 3 (.alt 4 true (.take 5 (.done)) (.stop)))))
def pe_7_8 : Bool := true
/-- 21 operations, 22 nodes, looks at memory: true -/
def pl_7_10 : Plan := .take 0 (.take 1 (.take 2 (.take 3 (.take 4 (.take 5 (.take 6 (.take 7 (.take 8 (.take 9 (.take 10 (.take 13 (.alt 11 true (.alt 12 true (.alt 14 true (.take 15 (.take 16 (.alt 17 false (.alt 18 false (.take 19 (.alt 20 false (.done) (.stop))) (.stop)) (.stop)))) (.stop)) (.stop)) (.stop)))))))))))))
def pe_7_10 : Bool := true
/-- 20 operations, 21 nodes, looks at memory: true -/
def pl_7_14 : Plan := .take 0 (.take 1 (.take 2 (.take 3 (.take 4 (.take 5 (.take 6 (.take 7 (.take 8 (.take 9 (.take 10 (.take 11 (.take 12 (.alt 13 true (.take 14 (.alt 15 true (.alt 16 true (.take 17 (.take 18 (.alt 19 false (.done) (.stop)))) (.stop)) (.stop))) (.stop))))))))))))))
def pe_7_14 : Bool := true
/-- 13 operations, 14 nodes, looks at memory: true -/
def pl_9_3 : Plan := .take 0 (.take 1 (.take 2 (.take 3 (.take 4 (.take 5 (.take 6 (.take 7 (.take 8 (.take 9 (.take 10 (.take 11 (.take 12 (.done)))))))))))))
def pe_9_3 : Bool := true
/-- 13 operations, 14 nodes, looks at memory: true -/
def pl_15_8 : Plan := .take 0 (.take 1 (.take 2 (.take 3 (.take 4 (.take 5 (.take 6 (.take 7 (.take 8 (.take 9 (.alt 10 true (.alt 11 false (.take 12 (.done)) (.stop)) (.stop)))))))))))
def pe_15_8 : Bool := true
/-- 10 operations, 11 nodes, looks at memory: true -/
def pl_15_15 : Plan := .take 0 (.take 1 (.take 2 (.take 3 (.take 4 (.take 5 (.take 6 (.take 7 (.take 8 (.alt 9 false (.done) (.stop))))))))))
def pe_15_15 : Bool := true
/-- 9 operations, 10 nodes, looks at memory: true -/
def pl_16_6 : Plan := .take 0 (.take 1 (.take 2 (.take 3 (.take 4 (.take 5 (.take 6 (.alt 7 true (.alt 8 false (.done) (.stop)) (.stop))))))))
def pe_16_6 : Bool := true
/-- 13 operations, 14 nodes, looks at memory: true -/
def pl_16_13 : Plan := .take 0 (.take 1 (.take 2 (.take 3 (.take 4 (.take 5 (.take 6 (.take 7 (.take 8 (.take 9 (.take 10 (.take 11 (.alt 12 false (.done) (.stop)))))))))))))
def pe_16_13 : Bool := true
/-- 8 operations, 9 nodes, looks at memory: true -/
def pl_16_15 : Plan := .take 0 (.take 1 (.take 2 (.take 3 (.take 4 (.take 5 (.take 6 (.alt 7 false (.done) (.stop))))))))
def pe_16_15 : Bool := true
/-- 9 operations, 10 nodes, looks at memory: true -/
def pl_16_17 : Plan := .take 0 (.take 1 (.take 2 (.take 3 (.take 4 (.take 5 (.take 6 (.alt 7 true (.alt 8 false (.done) (.stop)) (.stop))))))))
def pe_16_17 : Bool := true
/-- 8 operations, 9 nodes, looks at memory: true -/
def pl_16_19 : Plan := .take 0 (.take 1 (.take 2 (.take 3 (.take 4 (.take 5 (.take 6 (.alt 7 false (.done) (.stop))))))))
def pe_16_19 : Bool := true
/-- 13 operations, 14 nodes, looks at memory: true -/
def pl_17_9 : Plan := .take 0 (.take 1 (.take 2 (.take 3 (.take 7 (.take 8 (.alt 4 true (.take 5 (.take 6 (.alt 9 false (.take 10 (.take 11 (.alt 12 true (.done) (.stop)))) (.stop)))) (.stop)))))))
def pe_17_9 : Bool := true
/-- 8 operations, 9 nodes, looks at memory: true -/
def pl_17_15 : Plan := .take 0 (.take 1 (.take 2 (.take 3 (.take 4 (.take 5 (.take 6 (.take 7 (.done))))))))
def pe_17_15 : Bool := true
/-- 10 operations, 11 nodes, looks at memory: true -/
def pl_19_1 : Plan := .take 0 (.take 1 (.take 3 (.take 4 (.alt 2 true (.take 6 (.alt 5 false (.alt 7 false (.take 8 (.alt 9 false (.done) (.stop))) (.stop)) (.stop))) (.stop)))))
def pe_19_1 : Bool := true
/-- 13 operations, 14 nodes, looks at memory: true -/
def pl_22_3 : Plan := .take 0 (.take 1 (.take 2 (.take 3 (.take 5 (.take 6 (.take 7 (.take 8 (.alt 4 true (.alt 9 false (.take 10 (.alt 11 true (.take 12 (.done)) (.stop))) (.stop)) (.stop)))))))))
def pe_22_3 : Bool := true
/-- 12 operations, 13 nodes, looks at memory: true -/
def pl_35_1 : Plan := .take 0 (.take 1 (.take 2 (.take 3 (.take 5 (.take 6 (.take 7 (.take 8 (.take 9 (.alt 4 true (.alt 10 false (.take 11 (.done)) (.stop)) (.stop))))))))))
def pe_35_1 : Bool := true
/-- 17 operations, 18 nodes, looks at memory: true -/
def pl_58_17 : Plan := .take 0 (.take 1 (.take 2 (.take 3 (.take 4 (.take 5 (.take 6 (.take 7 (.take 8 (.take 9 (.take 10 (.take 11 (.take 12 (.alt 13 false (.take 14 (.take 15 (.take 16 (.done)))) (.stop))))))))))))))
def pe_58_17 : Bool := true
/-- 17 operations, 18 nodes, looks at memory: true -/
def pl_63_17 : Plan := .take 0 (.take 1 (.take 2 (.take 3 (.take 4 (.take 5 (.take 6 (.take 7 (.take 8 (.take 9 (.take 10 (.take 11 (.take 12 (.alt 13 false (.take 14 (.take 15 (.take 16 (.done)))) (.stop))))))))))))))
def pe_63_17 : Bool := true
/-- 17 operations, 18 nodes, looks at memory: true -/
def pl_65_4 : Plan := .take 0 (.take 1 (.take 2 (.take 3 (.take 4 (.take 5 (.take 6 (.take 7 (.take 8 (.take 9 (.take 10 (.take 11 (.take 12 (.take 13 (.alt 14 false (.take 15 (.take 16 (.done))) (.stop)))))))))))))))
def pe_65_4 : Bool := true
/-- 18 operations, 19 nodes, looks at memory: true -/
def pl_65_6 : Plan := .take 0 (.take 1 (.take 2 (.take 3 (.take 4 (.take 5 (.take 6 (.take 7 (.take 8 (.take 9 (.take 10 (.take 11 (.take 12 (.take 13 (.take 14 (.alt 15 false (.take 16 (.alt 17 false (.done) (.stop))) (.stop))))))))))))))))
def pe_65_6 : Bool := true
/-- 20 operations, 21 nodes, looks at memory: true -/
def pl_66_10 : Plan := .take 0 (.take 1 (.take 2 (.take 3 (.take 4 (.take 5 (.take 6 (.take 7 (.take 8 (.take 9 (.take 10 (.take 11 (.take 12 (.take 13 (.take 14 (.take 15 (.take 16 (.alt 17 false (.take 18 (.alt 19 false (.done) (.stop))) (.stop))))))))))))))))))
def pe_66_10 : Bool := true
/-- 20 operations, 21 nodes, looks at memory: true -/
def pl_67_10 : Plan := .take 0 (.take 1 (.take 2 (.take 3 (.take 4 (.take 5 (.take 6 (.take 7 (.take 8 (.take 9 (.take 10 (.take 11 (.take 12 (.take 13 (.take 14 (.take 15 (.take 16 (.alt 17 false (.take 18 (.alt 19 false (.done) (.stop))) (.stop))))))))))))))))))
def pe_67_10 : Bool := true
/-- 16 operations, 17 nodes, looks at memory: true -/
def pl_69_3 : Plan := .take 0 (.take 1 (.take 2 (.take 3 (.take 4 (.take 5 (.take 6 (.take 7 (.take 8 (.take 9 (.take 10 (.take 11 (.take 12 (.alt 13 false (.take 14 (.alt 15 false (.done) (.stop))) (.stop))))))))))))))
def pe_69_3 : Bool := true
/-- 18 operations, 19 nodes, looks at memory: true -/
def pl_70_5 : Plan := .take 0 (.take 1 (.take 2 (.take 3 (.take 4 (.take 5 (.take 6 (.take 7 (.take 8 (.take 9 (.take 10 (.take 11 (.take 12 (.take 13 (.alt 14 false (.take 15 (.take 16 (.take 17 (.done)))) (.stop)))))))))))))))
def pe_70_5 : Bool := true
/-- 18 operations, 19 nodes, looks at memory: true -/
def pl_70_11 : Plan := .take 0 (.take 1 (.take 2 (.take 3 (.take 4 (.take 5 (.take 6 (.take 7 (.take 8 (.take 9 (.take 10 (.take 11 (.take 12 (.take 13 (.take 14 (.alt 15 false (.take 16 (.alt 17 false (.done) (.stop))) (.stop))))))))))))))))
def pe_70_11 : Bool := true
/-- 13 operations, 14 nodes, looks at memory: true -/
def pl_70_16 : Plan := .take 0 (.take 1 (.take 2 (.take 3 (.take 4 (.take 5 (.take 6 (.take 7 (.take 8 (.take 9 (.alt 10 false (.take 11 (.take 12 (.done))) (.stop)))))))))))
def pe_70_16 : Bool := true
/-- 18 operations, 19 nodes, looks at memory: true -/
def pl_70_17 : Plan := .take 0 (.take 1 (.take 2 (.take 3 (.take 4 (.take 5 (.take 6 (.take 7 (.take 8 (.take 9 (.take 10 (.take 11 (.take 12 (.take 13 (.take 14 (.alt 15 false (.take 16 (.alt 17 false (.done) (.stop))) (.stop))))))))))))))))
def pe_70_17 : Bool := true
/-- 13 operations, 14 nodes, looks at memory: true -/
def pl_70_22 : Plan := .take 0 (.take 1 (.take 2 (.take 3 (.take 4 (.take 5 (.take 6 (.take 7 (.take 8 (.take 9 (.alt 10 false (.take 11 (.take 12 (.done))) (.stop)))))))))))
def pe_70_22 : Bool := true
/-- 18 operations, 19 nodes, looks at memory: true -/
def pl_70_23 : Plan := .take 0 (.take 1 (.take 2 (.take 3 (.take 4 (.take 5 (.take 6 (.take 7 (.take 8 (.take 9 (.take 10 (.take 11 (.take 12 (.take 13 (.take 14 (.alt 15 false (.take 16 (.alt 17 false (.done) (.stop))) (.stop))))))))))))))))
def pe_70_23 : Bool := true
/-- 16 operations, 17 nodes, looks at memory: true -/
def pl_71_1 : Plan := .take 0 (.take 1 (.take 2 (.take 3 (.take 4 (.take 5 (.take 6 (.take 7 (.take 8 (.take 9 (.take 10 (.take 11 (.take 12 (.alt 13 false (.take 14 (.alt 15 false (.done) (.stop))) (.stop))))))))))))))
def pe_71_1 : Bool := true
/-- 17 operations, 18 nodes, looks at memory: true -/
def pl_71_3 : Plan := .take 0 (.take 1 (.take 2 (.take 3 (.take 4 (.take 5 (.take 6 (.take 7 (.take 8 (.take 9 (.take 10 (.take 11 (.take 12 (.alt 13 false (.take 14 (.take 15 (.take 16 (.done)))) (.stop))))))))))))))
def pe_71_3 : Bool := true
/-- 16 operations, 17 nodes, looks at memory: true -/
def pl_71_5 : Plan := .take 0 (.take 1 (.take 2 (.take 3 (.take 4 (.take 5 (.take 6 (.take 7 (.take 8 (.take 9 (.take 10 (.take 11 (.take 12 (.alt 13 false (.take 14 (.take 15 (.done))) (.stop))))))))))))))
def pe_71_5 : Bool := true
/-- 16 operations, 17 nodes, looks at memory: true -/
def pl_71_8 : Plan := .take 0 (.take 1 (.take 2 (.take 3 (.take 4 (.take 5 (.take 6 (.take 7 (.take 8 (.take 9 (.take 10 (.take 11 (.take 12 (.alt 13 false (.take 14 (.alt 15 false (.done) (.stop))) (.stop))))))))))))))
def pe_71_8 : Bool := true
/-- 16 operations, 17 nodes, looks at memory: true -/
def pl_72_1 : Plan := .take 0 (.take 1 (.take 2 (.take 3 (.take 4 (.take 5 (.take 6 (.take 7 (.take 8 (.take 9 (.take 10 (.take 11 (.take 12 (.alt 13 false (.take 14 (.alt 15 false (.done) (.stop))) (.stop))))))))))))))
def pe_72_1 : Bool := true
/-- 16 operations, 17 nodes, looks at memory: true -/
def pl_72_3 : Plan := .take 0 (.take 1 (.take 2 (.take 3 (.take 4 (.take 5 (.take 6 (.take 7 (.take 8 (.take 9 (.take 10 (.take 11 (.take 12 (.alt 13 false (.take 14 (.take 15 (.done))) (.stop))))))))))))))
def pe_72_3 : Bool := true
/-- 17 operations, 18 nodes, looks at memory: true -/
def pl_72_5 : Plan := .take 0 (.take 1 (.take 2 (.take 3 (.take 4 (.take 5 (.take 6 (.take 7 (.take 8 (.take 9 (.take 10 (.take 11 (.take 12 (.alt 13 false (.take 14 (.take 15 (.take 16 (.done)))) (.stop))))))))))))))
def pe_72_5 : Bool := true
/-- 16 operations, 17 nodes, looks at memory: true -/
def pl_72_8 : Plan := .take 0 (.take 1 (.take 2 (.take 3 (.take 4 (.take 5 (.take 6 (.take 7 (.take 8 (.take 9 (.take 10 (.take 11 (.take 12 (.alt 13 false (.take 14 (.alt 15 false (.done) (.stop))) (.stop))))))))))))))
def pe_72_8 : Bool := true
/-- 16 operations, 17 nodes, looks at memory: true -/
def pl_72_10 : Plan := .take 0 (.take 1 (.take 2 (.take 3 (.take 4 (.take 5 (.take 6 (.take 7 (.take 8 (.take 9 (.take 10 (.take 11 (.take 12 (.alt 13 false (.take 14 (.alt 15 false (.done) (.stop))) (.stop))))))))))))))
def pe_72_10 : Bool := true
/-- 16 operations, 17 nodes, looks at memory: true -/
def pl_72_13 : Plan := .take 0 (.take 1 (.take 2 (.take 3 (.take 4 (.take 5 (.take 6 (.take 7 (.take 8 (.take 9 (.take 10 (.take 11 (.take 12 (.alt 13 false (.take 14 (.take 15 (.done))) (.stop))))))))))))))
def pe_72_13 : Bool := true
/-- 17 operations, 18 nodes, looks at memory: true -/
def pl_72_15 : Plan := .take 0 (.take 1 (.take 2 (.take 3 (.take 4 (.take 5 (.take 6 (.take 7 (.take 8 (.take 9 (.take 10 (.take 11 (.take 12 (.alt 13 false (.take 14 (.take 15 (.take 16 (.done)))) (.stop))))))))))))))
def pe_72_15 : Bool := true
/-- 16 operations, 17 nodes, looks at memory: true -/
def pl_72_18 : Plan := .take 0 (.take 1 (.take 2 (.take 3 (.take 4 (.take 5 (.take 6 (.take 7 (.take 8 (.take 9 (.take 10 (.take 11 (.take 12 (.alt 13 false (.take 14 (.alt 15 false (.done) (.stop))) (.stop))))))))))))))
def pe_72_18 : Bool := true
/-- 16 operations, 17 nodes, looks at memory: true -/
def pl_72_21 : Plan := .take 0 (.take 1 (.take 2 (.take 3 (.take 4 (.take 5 (.take 6 (.take 7 (.take 8 (.take 9 (.take 10 (.take 11 (.take 12 (.alt 13 false (.take 14 (.alt 15 false (.done) (.stop))) (.stop))))))))))))))
def pe_72_21 : Bool := true
/-- 17 operations, 18 nodes, looks at memory: true -/
def pl_75_4 : Plan := .take 0 (.take 1 (.take 2 (.take 3 (.take 4 (.take 5 (.take 6 (.take 7 (.take 8 (.take 9 (.take 10 (.take 11 (.take 12 (.take 13 (.alt 14 false (.take 15 (.take 16 (.done))) (.stop)))))))))))))))
def pe_75_4 : Bool := true
/-- 18 operations, 19 nodes, looks at memory: true -/
def pl_75_6 : Plan := .take 0 (.take 1 (.take 2 (.take 3 (.take 4 (.take 5 (.take 6 (.take 7 (.take 8 (.take 9 (.take 10 (.take 11 (.take 12 (.take 13 (.take 14 (.alt 15 false (.take 16 (.alt 17 false (.done) (.stop))) (.stop))))))))))))))))
def pe_75_6 : Bool := true
/-- 20 operations, 21 nodes, looks at memory: true -/
def pl_76_10 : Plan := .take 0 (.take 1 (.take 2 (.take 3 (.take 4 (.take 5 (.take 6 (.take 7 (.take 8 (.take 9 (.take 10 (.take 11 (.take 12 (.take 13 (.take 14 (.take 15 (.take 16 (.alt 17 false (.take 18 (.alt 19 false (.done) (.stop))) (.stop))))))))))))))))))
def pe_76_10 : Bool := true
/-- 20 operations, 21 nodes, looks at memory: true -/
def pl_77_10 : Plan := .take 0 (.take 1 (.take 2 (.take 3 (.take 4 (.take 5 (.take 6 (.take 7 (.take 8 (.take 9 (.take 10 (.take 11 (.take 12 (.take 13 (.take 14 (.take 15 (.take 16 (.alt 17 false (.take 18 (.alt 19 false (.done) (.stop))) (.stop))))))))))))))))))
def pe_77_10 : Bool := true
/-- 16 operations, 17 nodes, looks at memory: true -/
def pl_79_3 : Plan := .take 0 (.take 1 (.take 2 (.take 3 (.take 4 (.take 5 (.take 6 (.take 7 (.take 8 (.take 9 (.take 10 (.take 11 (.take 12 (.alt 13 false (.take 14 (.alt 15 false (.done) (.stop))) (.stop))))))))))))))
def pe_79_3 : Bool := true
/-- 18 operations, 19 nodes, looks at memory: true -/
def pl_80_5 : Plan := .take 0 (.take 1 (.take 2 (.take 3 (.take 4 (.take 5 (.take 6 (.take 7 (.take 8 (.take 9 (.take 10 (.take 11 (.take 12 (.take 13 (.alt 14 false (.take 15 (.take 16 (.take 17 (.done)))) (.stop)))))))))))))))
def pe_80_5 : Bool := true
/-- 18 operations, 19 nodes, looks at memory: true -/
def pl_80_11 : Plan := .take 0 (.take 1 (.take 2 (.take 3 (.take 4 (.take 5 (.take 6 (.take 7 (.take 8 (.take 9 (.take 10 (.take 11 (.take 12 (.take 13 (.take 14 (.alt 15 false (.take 16 (.alt 17 false (.done) (.stop))) (.stop))))))))))))))))
def pe_80_11 : Bool := true
/-- 13 operations, 14 nodes, looks at memory: true -/
def pl_80_16 : Plan := .take 0 (.take 1 (.take 2 (.take 3 (.take 4 (.take 5 (.take 6 (.take 7 (.take 8 (.take 9 (.alt 10 false (.take 11 (.take 12 (.done))) (.stop)))))))))))
def pe_80_16 : Bool := true
/-- 18 operations, 19 nodes, looks at memory: true -/
def pl_80_17 : Plan := .take 0 (.take 1 (.take 2 (.take 3 (.take 4 (.take 5 (.take 6 (.take 7 (.take 8 (.take 9 (.take 10 (.take 11 (.take 12 (.take 13 (.take 14 (.alt 15 false (.take 16 (.alt 17 false (.done) (.stop))) (.stop))))))))))))))))
def pe_80_17 : Bool := true
/-- 13 operations, 14 nodes, looks at memory: true -/
def pl_80_22 : Plan := .take 0 (.take 1 (.take 2 (.take 3 (.take 4 (.take 5 (.take 6 (.take 7 (.take 8 (.take 9 (.alt 10 false (.take 11 (.take 12 (.done))) (.stop)))))))))))
def pe_80_22 : Bool := true
/-- 18 operations, 19 nodes, looks at memory: true -/
def pl_80_23 : Plan := .take 0 (.take 1 (.take 2 (.take 3 (.take 4 (.take 5 (.take 6 (.take 7 (.take 8 (.take 9 (.take 10 (.take 11 (.take 12 (.take 13 (.take 14 (.alt 15 false (.take 16 (.alt 17 false (.done) (.stop))) (.stop))))))))))))))))
def pe_80_23 : Bool := true
/-- 16 operations, 17 nodes, looks at memory: true -/
def pl_81_1 : Plan := .take 0 (.take 1 (.take 2 (.take 3 (.take 4 (.take 5 (.take 6 (.take 7 (.take 8 (.take 9 (.take 10 (.take 11 (.take 12 (.alt 13 false (.take 14 (.alt 15 false (.done) (.stop))) (.stop))))))))))))))
def pe_81_1 : Bool := true
/-- 17 operations, 18 nodes, looks at memory: true -/
def pl_81_3 : Plan := .take 0 (.take 1 (.take 2 (.take 3 (.take 4 (.take 5 (.take 6 (.take 7 (.take 8 (.take 9 (.take 10 (.take 11 (.take 12 (.alt 13 false (.take 14 (.take 15 (.take 16 (.done)))) (.stop))))))))))))))
def pe_81_3 : Bool := true
/-- 16 operations, 17 nodes, looks at memory: true -/
def pl_81_5 : Plan := .take 0 (.take 1 (.take 2 (.take 3 (.take 4 (.take 5 (.take 6 (.take 7 (.take 8 (.take 9 (.take 10 (.take 11 (.take 12 (.alt 13 false (.take 14 (.take 15 (.done))) (.stop))))))))))))))
def pe_81_5 : Bool := true
/-- 16 operations, 17 nodes, looks at memory: true -/
def pl_81_8 : Plan := .take 0 (.take 1 (.take 2 (.take 3 (.take 4 (.take 5 (.take 6 (.take 7 (.take 8 (.take 9 (.take 10 (.take 11 (.take 12 (.alt 13 false (.take 14 (.alt 15 false (.done) (.stop))) (.stop))))))))))))))
def pe_81_8 : Bool := true
/-- 16 operations, 17 nodes, looks at memory: true -/
def pl_82_1 : Plan := .take 0 (.take 1 (.take 2 (.take 3 (.take 4 (.take 5 (.take 6 (.take 7 (.take 8 (.take 9 (.take 10 (.take 11 (.take 12 (.alt 13 false (.take 14 (.alt 15 false (.done) (.stop))) (.stop))))))))))))))
def pe_82_1 : Bool := true
/-- 16 operations, 17 nodes, looks at memory: true -/
def pl_82_3 : Plan := .take 0 (.take 1 (.take 2 (.take 3 (.take 4 (.take 5 (.take 6 (.take 7 (.take 8 (.take 9 (.take 10 (.take 11 (.take 12 (.alt 13 false (.take 14 (.take 15 (.done))) (.stop))))))))))))))
def pe_82_3 : Bool := true
/-- 17 operations, 18 nodes, looks at memory: true -/
def pl_82_5 : Plan := .take 0 (.take 1 (.take 2 (.take 3 (.take 4 (.take 5 (.take 6 (.take 7 (.take 8 (.take 9 (.take 10 (.take 11 (.take 12 (.alt 13 false (.take 14 (.take 15 (.take 16 (.done)))) (.stop))))))))))))))
def pe_82_5 : Bool := true
/-- 16 operations, 17 nodes, looks at memory: true -/
def pl_82_8 : Plan := .take 0 (.take 1 (.take 2 (.take 3 (.take 4 (.take 5 (.take 6 (.take 7 (.take 8 (.take 9 (.take 10 (.take 11 (.take 12 (.alt 13 false (.take 14 (.alt 15 false (.done) (.stop))) (.stop))))))))))))))
def pe_82_8 : Bool := true
/-- 16 operations, 17 nodes, looks at memory: true -/
def pl_82_10 : Plan := .take 0 (.take 1 (.take 2 (.take 3 (.take 4 (.take 5 (.take 6 (.take 7 (.take 8 (.take 9 (.take 10 (.take 11 (.take 12 (.alt 13 false (.take 14 (.alt 15 false (.done) (.stop))) (.stop))))))))))))))
def pe_82_10 : Bool := true
/-- 16 operations, 17 nodes, looks at memory: true -/
def pl_82_13 : Plan := .take 0 (.take 1 (.take 2 (.take 3 (.take 4 (.take 5 (.take 6 (.take 7 (.take 8 (.take 9 (.take 10 (.take 11 (.take 12 (.alt 13 false (.take 14 (.take 15 (.done))) (.stop))))))))))))))
def pe_82_13 : Bool := true
/-- 17 operations, 18 nodes, looks at memory: true -/
def pl_82_15 : Plan := .take 0 (.take 1 (.take 2 (.take 3 (.take 4 (.take 5 (.take 6 (.take 7 (.take 8 (.take 9 (.take 10 (.take 11 (.take 12 (.alt 13 false (.take 14 (.take 15 (.take 16 (.done)))) (.stop))))))))))))))
def pe_82_15 : Bool := true
/-- 16 operations, 17 nodes, looks at memory: true -/
def pl_82_18 : Plan := .take 0 (.take 1 (.take 2 (.take 3 (.take 4 (.take 5 (.take 6 (.take 7 (.take 8 (.take 9 (.take 10 (.take 11 (.take 12 (.alt 13 false (.take 14 (.alt 15 false (.done) (.stop))) (.stop))))))))))))))
def pe_82_18 : Bool := true
/-- 16 operations, 17 nodes, looks at memory: true -/
def pl_82_21 : Plan := .take 0 (.take 1 (.take 2 (.take 3 (.take 4 (.take 5 (.take 6 (.take 7 (.take 8 (.take 9 (.take 10 (.take 11 (.take 12 (.alt 13 false (.take 14 (.alt 15 false (.done) (.stop))) (.stop))))))))))))))
def pe_82_21 : Bool := true
/-- 22 operations, 23 nodes, looks at memory: true -/
def pl_84_3 : Plan := .take 0 (.take 1 (.take 2 (.take 3 (.take 4 (.take 5 (.take 6 (.take 7 (.take 8 (.take 9 (.take 10 (.take 11 (.take 12 (.take 13 (.take 14 (.take 15 (.take 16 (.take 17 (.take 18 (.alt 19 false (.take 20 (.take 21 (.done))) (.stop))))))))))))))))))))
def pe_84_3 : Bool := true
/-- 16 operations, 17 nodes, looks at memory: true -/
def pl_84_5 : Plan := .take 0 (.take 1 (.take 2 (.take 3 (.take 4 (.take 5 (.take 6 (.take 7 (.take 8 (.take 9 (.take 10 (.take 11 (.take 12 (.alt 13 false (.take 14 (.take 15 (.done))) (.stop))))))))))))))
def pe_84_5 : Bool := true
/-- 24 operations, 25 nodes, looks at memory: true -/
def pl_84_6 : Plan := .take 0 (.take 1 (.take 2 (.take 3 (.take 4 (.take 5 (.take 6 (.take 7 (.take 8 (.take 9 (.take 10 (.take 11 (.take 12 (.take 13 (.take 14 (.take 15 (.take 16 (.take 17 (.take 18 (.take 19 (.take 20 (.alt 21 false (.take 22 (.alt 23 false (.done) (.stop))) (.stop))))))))))))))))))))))
def pe_84_6 : Bool := true
/-- 10 operations, 11 nodes, looks at memory: true -/
def pl_86_1 : Plan := .take 0 (.take 1 (.take 2 (.take 3 (.take 4 (.take 5 (.take 6 (.take 7 (.take 8 (.alt 9 false (.done) (.stop))))))))))
def pe_86_1 : Bool := true
/-- 10 operations, 11 nodes, looks at memory: true -/
def pl_86_2 : Plan := .take 0 (.take 1 (.take 2 (.take 3 (.take 4 (.take 5 (.take 6 (.take 7 (.take 8 (.alt 9 false (.done) (.stop))))))))))
def pe_86_2 : Bool := true
/-- 10 operations, 11 nodes, looks at memory: true -/
def pl_86_3 : Plan := .take 0 (.take 1 (.take 2 (.take 3 (.take 4 (.take 5 (.take 6 (.take 7 (.take 8 (.alt 9 false (.done) (.stop))))))))))
def pe_86_3 : Bool := true
/-- 22 operations, 23 nodes, looks at memory: true -/
def pl_89_3 : Plan := .take 0 (.take 1 (.take 2 (.take 3 (.take 4 (.take 5 (.take 6 (.take 7 (.take 8 (.take 9 (.take 10 (.take 11 (.take 12 (.take 13 (.take 14 (.take 15 (.take 16 (.take 17 (.take 18 (.alt 19 false (.take 20 (.take 21 (.done))) (.stop))))))))))))))))))))
def pe_89_3 : Bool := true
/-- 16 operations, 17 nodes, looks at memory: true -/
def pl_89_5 : Plan := .take 0 (.take 1 (.take 2 (.take 3 (.take 4 (.take 5 (.take 6 (.take 7 (.take 8 (.take 9 (.take 10 (.take 11 (.take 12 (.alt 13 false (.take 14 (.take 15 (.done))) (.stop))))))))))))))
def pe_89_5 : Bool := true
/-- 24 operations, 25 nodes, looks at memory: true -/
def pl_89_6 : Plan := .take 0 (.take 1 (.take 2 (.take 3 (.take 4 (.take 5 (.take 6 (.take 7 (.take 8 (.take 9 (.take 10 (.take 11 (.take 12 (.take 13 (.take 14 (.take 15 (.take 16 (.take 17 (.take 18 (.take 19 (.take 20 (.alt 21 false (.take 22 (.alt 23 false (.done) (.stop))) (.stop))))))))))))))))))))))
def pe_89_6 : Bool := true
/-- 11 operations, 12 nodes, looks at memory: true -/
def pl_92_1 : Plan := .take 0 (.take 1 (.take 2 (.take 3 (.take 4 (.take 5 (.take 6 (.take 7 (.take 8 (.alt 9 false (.take 10 (.done)) (.stop))))))))))
def pe_92_1 : Bool := true
/-- 11 operations, 12 nodes, looks at memory: true -/
def pl_93_1 : Plan := .take 0 (.take 1 (.take 2 (.take 3 (.take 4 (.take 5 (.take 6 (.take 7 (.take 8 (.alt 9 false (.take 10 (.done)) (.stop))))))))))
def pe_93_1 : Bool := true
instance : Laid Tryd.prog := ⟨[]⟩
def planTab : PlanTab := [(4, [(10, pe_4_10, false, pl_4_10), (11, pe_4_11, false, pl_4_11), (22, pe_4_22, false, pl_4_22)]), (7, [(8, pe_7_8, false, pl_7_8), (10, pe_7_10, false, pl_7_10), (14, pe_7_14, false, pl_7_14)]), (9, [(3, pe_9_3, false, pl_9_3)]), (15, [(8, pe_15_8, false, pl_15_8), (15, pe_15_15, false, pl_15_15)]), (16, [(6, pe_16_6, false, pl_16_6), (13, pe_16_13, false, pl_16_13), (15, pe_16_15, false, pl_16_15), (17, pe_16_17, false, pl_16_17), (19, pe_16_19, false, pl_16_19)]), (17, [(9, pe_17_9, false, pl_17_9), (15, pe_17_15, false, pl_17_15)]), (19, [(1, pe_19_1, false, pl_19_1)]), (22, [(3, pe_22_3, false, pl_22_3)]), (35, [(1, pe_35_1, false, pl_35_1)]), (58, [(17, pe_58_17, false, pl_58_17)]), (63, [(17, pe_63_17, false, pl_63_17)]), (65, [(4, pe_65_4, false, pl_65_4), (6, pe_65_6, false, pl_65_6)]), (66, [(10, pe_66_10, false, pl_66_10)]), (67, [(10, pe_67_10, false, pl_67_10)]), (69, [(3, pe_69_3, false, pl_69_3)]), (70, [(5, pe_70_5, false, pl_70_5), (11, pe_70_11, false, pl_70_11), (16, pe_70_16, false, pl_70_16), (17, pe_70_17, false, pl_70_17), (22, pe_70_22, false, pl_70_22), (23, pe_70_23, false, pl_70_23)]), (71, [(1, pe_71_1, false, pl_71_1), (3, pe_71_3, false, pl_71_3), (5, pe_71_5, false, pl_71_5), (8, pe_71_8, false, pl_71_8)]), (72, [(1, pe_72_1, false, pl_72_1), (3, pe_72_3, false, pl_72_3), (5, pe_72_5, false, pl_72_5), (8, pe_72_8, false, pl_72_8), (10, pe_72_10, false, pl_72_10), (13, pe_72_13, false, pl_72_13), (15, pe_72_15, false, pl_72_15), (18, pe_72_18, false, pl_72_18), (21, pe_72_21, false, pl_72_21)]), (75, [(4, pe_75_4, false, pl_75_4), (6, pe_75_6, false, pl_75_6)]), (76, [(10, pe_76_10, false, pl_76_10)]), (77, [(10, pe_77_10, false, pl_77_10)]), (79, [(3, pe_79_3, false, pl_79_3)]), (80, [(5, pe_80_5, false, pl_80_5), (11, pe_80_11, false, pl_80_11), (16, pe_80_16, false, pl_80_16), (17, pe_80_17, false, pl_80_17), (22, pe_80_22, false, pl_80_22), (23, pe_80_23, false, pl_80_23)]), (81, [(1, pe_81_1, false, pl_81_1), (3, pe_81_3, false, pl_81_3), (5, pe_81_5, false, pl_81_5), (8, pe_81_8, false, pl_81_8)]), (82, [(1, pe_82_1, false, pl_82_1), (3, pe_82_3, false, pl_82_3), (5, pe_82_5, false, pl_82_5), (8, pe_82_8, false, pl_82_8), (10, pe_82_10, false, pl_82_10), (13, pe_82_13, false, pl_82_13), (15, pe_82_15, false, pl_82_15), (18, pe_82_18, false, pl_82_18), (21, pe_82_21, false, pl_82_21)]), (84, [(3, pe_84_3, false, pl_84_3), (5, pe_84_5, false, pl_84_5), (6, pe_84_6, false, pl_84_6)]), (86, [(1, pe_86_1, false, pl_86_1), (2, pe_86_2, false, pl_86_2), (3, pe_86_3, false, pl_86_3)]), (89, [(3, pe_89_3, false, pl_89_3), (5, pe_89_5, false, pl_89_5), (6, pe_89_6, false, pl_89_6)]), (92, [(1, pe_92_1, false, pl_92_1)]), (93, [(1, pe_93_1, false, pl_93_1)])]
end Go.Proofs.YtnkheikplfoahaaDoor
