/-
  Facts about this program's types, by program.
-/
import Derived.Test.YtfhbdbjgmcopjaaDoorAbsC
import Derived.Test.YtfhbdbjgmcopjaaDoorProg
set_option linter.unusedVariables false
namespace Go.Proofs.YtfhbdbjgmcopjaaDoor
open Go Go.Abs Go.Proofs
@[simp] theorem qsize_2 : qsize Tryd.prog 2 = some 1 := by kernel_rfl
@[simp] theorem qbytes_2 : qbytes Tryd.prog 2 = some 8 := by kernel_rfl
@[simp] theorem qagg_2 : qagg Tryd.prog 2 = some false := by kernel_rfl
@[simp] theorem qzero_2 : qzero Tryd.prog 2 = some (V.i Go.IntKind.i64 (0)) := by kernel_rfl
@[simp] theorem qint_2 : qint Tryd.prog 2 = some Go.IntKind.i64 := by kernel_rfl
@[simp] theorem keqi_2 (a c : Int) : keq Tryd.prog 2 (.i Go.IntKind.i64 a) (.i Go.IntKind.i64 c) = some (a == c) := keq_i qint_2
@[simp] theorem qconcrete_2 : qconcrete Tryd.prog 2 = true := by kernel_rfl
@[simp] theorem qkey_2 : qkey Tryd.prog 2 = true := by kernel_rfl
@[simp] theorem qplainKey_2 : qplainKey Tryd.prog 2 = true := by kernel_rfl
@[simp] theorem kf_2 (k : V) : keyFits Tryd.prog 2 k = true := keyFits_plain qplainKey_2
@[simp] theorem qthere_2 : qthere Tryd.prog 2 = true := by kernel_rfl
@[simp] theorem cellsOf_2 : Go.Program.cellsOf Tryd.prog 2 = 1 := by kernel_rfl
@[simp] theorem bytesOf_2 : Go.Program.bytesOf Tryd.prog 2 = 8 := by kernel_rfl
@[simp] theorem qsize_3 : qsize Tryd.prog 3 = some 1 := by kernel_rfl
@[simp] theorem qbytes_3 : qbytes Tryd.prog 3 = some 8 := by kernel_rfl
@[simp] theorem qagg_3 : qagg Tryd.prog 3 = some false := by kernel_rfl
@[simp] theorem qzero_3 : qzero Tryd.prog 3 = some (V.i Go.IntKind.i64 (0)) := by kernel_rfl
@[simp] theorem qint_3 : qint Tryd.prog 3 = some Go.IntKind.i64 := by kernel_rfl
@[simp] theorem keqi_3 (a c : Int) : keq Tryd.prog 3 (.i Go.IntKind.i64 a) (.i Go.IntKind.i64 c) = some (a == c) := keq_i qint_3
@[simp] theorem qconcrete_3 : qconcrete Tryd.prog 3 = true := by kernel_rfl
@[simp] theorem qkey_3 : qkey Tryd.prog 3 = true := by kernel_rfl
@[simp] theorem qplainKey_3 : qplainKey Tryd.prog 3 = true := by kernel_rfl
@[simp] theorem kf_3 (k : V) : keyFits Tryd.prog 3 k = true := keyFits_plain qplainKey_3
@[simp] theorem qthere_3 : qthere Tryd.prog 3 = true := by kernel_rfl
@[simp] theorem cellsOf_3 : Go.Program.cellsOf Tryd.prog 3 = 1 := by kernel_rfl
@[simp] theorem bytesOf_3 : Go.Program.bytesOf Tryd.prog 3 = 8 := by kernel_rfl
@[simp] theorem qsize_4 : qsize Tryd.prog 4 = some 1 := by kernel_rfl
@[simp] theorem qbytes_4 : qbytes Tryd.prog 4 = some 1 := by kernel_rfl
@[simp] theorem qagg_4 : qagg Tryd.prog 4 = some false := by kernel_rfl
@[simp] theorem qzero_4 : qzero Tryd.prog 4 = some (V.b false) := by kernel_rfl
@[simp] theorem qconcrete_4 : qconcrete Tryd.prog 4 = true := by kernel_rfl
@[simp] theorem qbool_4 : qbool Tryd.prog 4 = true := by kernel_rfl
@[simp] theorem bb_4 (x y : Bool) : aeq Tryd.prog 4 (.b x) (.b y) = some (x == y) := aeq_bb qbool_4
@[simp] theorem qthere_4 : qthere Tryd.prog 4 = true := by kernel_rfl
@[simp] theorem cellsOf_4 : Go.Program.cellsOf Tryd.prog 4 = 1 := by kernel_rfl
@[simp] theorem bytesOf_4 : Go.Program.bytesOf Tryd.prog 4 = 1 := by kernel_rfl
@[simp] theorem qsize_5 : qsize Tryd.prog 5 = some 1 := by kernel_rfl
@[simp] theorem qbytes_5 : qbytes Tryd.prog 5 = some 1 := by kernel_rfl
@[simp] theorem qagg_5 : qagg Tryd.prog 5 = some false := by kernel_rfl
@[simp] theorem qzero_5 : qzero Tryd.prog 5 = some (V.i Go.IntKind.u8 (0)) := by kernel_rfl
@[simp] theorem qint_5 : qint Tryd.prog 5 = some Go.IntKind.u8 := by kernel_rfl
@[simp] theorem keqi_5 (a c : Int) : keq Tryd.prog 5 (.i Go.IntKind.u8 a) (.i Go.IntKind.u8 c) = some (a == c) := keq_i qint_5
@[simp] theorem qconcrete_5 : qconcrete Tryd.prog 5 = true := by kernel_rfl
@[simp] theorem qkey_5 : qkey Tryd.prog 5 = true := by kernel_rfl
@[simp] theorem qplainKey_5 : qplainKey Tryd.prog 5 = true := by kernel_rfl
@[simp] theorem kf_5 (k : V) : keyFits Tryd.prog 5 k = true := keyFits_plain qplainKey_5
@[simp] theorem qthere_5 : qthere Tryd.prog 5 = true := by kernel_rfl
@[simp] theorem cellsOf_5 : Go.Program.cellsOf Tryd.prog 5 = 1 := by kernel_rfl
@[simp] theorem bytesOf_5 : Go.Program.bytesOf Tryd.prog 5 = 1 := by kernel_rfl
@[simp] theorem qsize_8 : qsize Tryd.prog 8 = some 4 := by kernel_rfl
@[simp] theorem qbytes_8 : qbytes Tryd.prog 8 = some 24 := by kernel_rfl
@[simp] theorem qagg_8 : qagg Tryd.prog 8 = some true := by kernel_rfl
@[simp] theorem qzero_8 : qzero Tryd.prog 8 = some   (V.agg     [V.i Go.IntKind.i64 (0), V.i Go.IntKind.i64 (0), V.b false, V.i Go.IntKind.u8 (0)]) := by kernel_rfl
@[simp] theorem qplaces_8 : qplaces Tryd.prog 8 = some [(0, 1), (1, 1), (2, 1), (3, 1)] := by kernel_rfl
@[simp] theorem qconcrete_8 : qconcrete Tryd.prog 8 = true := by kernel_rfl
@[simp] theorem qkey_8 : qkey Tryd.prog 8 = true := by kernel_rfl
@[simp] theorem qthere_8 : qthere Tryd.prog 8 = true := by kernel_rfl
@[simp] theorem qeq_8 : qeq Tryd.prog 8 = some [CK.i Go.IntKind.i64, CK.i Go.IntKind.i64, CK.b, CK.i Go.IntKind.u8] := by kernel_rfl
@[simp] theorem cellsOf_8 : Go.Program.cellsOf Tryd.prog 8 = 4 := by kernel_rfl
@[simp] theorem bytesOf_8 : Go.Program.bytesOf Tryd.prog 8 = 24 := by kernel_rfl
@[simp] theorem qsize_9 : qsize Tryd.prog 9 = some 1 := by kernel_rfl
@[simp] theorem qbytes_9 : qbytes Tryd.prog 9 = some 16 := by kernel_rfl
@[simp] theorem qagg_9 : qagg Tryd.prog 9 = some false := by kernel_rfl
@[simp] theorem qzero_9 : qzero Tryd.prog 9 = some (V.s []) := by kernel_rfl
@[simp] theorem qstr_9 : qstr Tryd.prog 9 = true := by kernel_rfl
@[simp] theorem keqs_9 (a c : List UInt8) : keq Tryd.prog 9 (.s a) (.s c) = some (a == c) := keq_s qstr_9
@[simp] theorem qconcrete_9 : qconcrete Tryd.prog 9 = true := by kernel_rfl
@[simp] theorem qkey_9 : qkey Tryd.prog 9 = true := by kernel_rfl
@[simp] theorem qsrc_9 : qsrc Tryd.prog 9 = true := by kernel_rfl
@[simp] theorem qplainKey_9 : qplainKey Tryd.prog 9 = true := by kernel_rfl
@[simp] theorem kf_9 (k : V) : keyFits Tryd.prog 9 k = true := keyFits_plain qplainKey_9
@[simp] theorem qthere_9 : qthere Tryd.prog 9 = true := by kernel_rfl
@[simp] theorem cellsOf_9 : Go.Program.cellsOf Tryd.prog 9 = 1 := by kernel_rfl
@[simp] theorem bytesOf_9 : Go.Program.bytesOf Tryd.prog 9 = 16 := by kernel_rfl
@[simp] theorem qsize_10 : qsize Tryd.prog 10 = some 1 := by kernel_rfl
@[simp] theorem qbytes_10 : qbytes Tryd.prog 10 = some 16 := by kernel_rfl
@[simp] theorem qagg_10 : qagg Tryd.prog 10 = some false := by kernel_rfl
@[simp] theorem qzero_10 : qzero Tryd.prog 10 = some (V.s []) := by kernel_rfl
@[simp] theorem qstr_10 : qstr Tryd.prog 10 = true := by kernel_rfl
@[simp] theorem keqs_10 (a c : List UInt8) : keq Tryd.prog 10 (.s a) (.s c) = some (a == c) := keq_s qstr_10
@[simp] theorem qconcrete_10 : qconcrete Tryd.prog 10 = true := by kernel_rfl
@[simp] theorem qkey_10 : qkey Tryd.prog 10 = true := by kernel_rfl
@[simp] theorem qsrc_10 : qsrc Tryd.prog 10 = true := by kernel_rfl
@[simp] theorem qplainKey_10 : qplainKey Tryd.prog 10 = true := by kernel_rfl
@[simp] theorem kf_10 (k : V) : keyFits Tryd.prog 10 k = true := keyFits_plain qplainKey_10
@[simp] theorem qthere_10 : qthere Tryd.prog 10 = true := by kernel_rfl
@[simp] theorem cellsOf_10 : Go.Program.cellsOf Tryd.prog 10 = 1 := by kernel_rfl
@[simp] theorem bytesOf_10 : Go.Program.bytesOf Tryd.prog 10 = 16 := by kernel_rfl
@[simp] theorem qsize_11 : qsize Tryd.prog 11 = some 1 := by kernel_rfl
@[simp] theorem qbytes_11 : qbytes Tryd.prog 11 = some 16 := by kernel_rfl
@[simp] theorem qagg_11 : qagg Tryd.prog 11 = some false := by kernel_rfl
@[simp] theorem qzero_11 : qzero Tryd.prog 11 = some (V.s []) := by kernel_rfl
@[simp] theorem qstr_11 : qstr Tryd.prog 11 = true := by kernel_rfl
@[simp] theorem keqs_11 (a c : List UInt8) : keq Tryd.prog 11 (.s a) (.s c) = some (a == c) := keq_s qstr_11
@[simp] theorem qconcrete_11 : qconcrete Tryd.prog 11 = true := by kernel_rfl
@[simp] theorem qkey_11 : qkey Tryd.prog 11 = true := by kernel_rfl
@[simp] theorem qsrc_11 : qsrc Tryd.prog 11 = true := by kernel_rfl
@[simp] theorem qplainKey_11 : qplainKey Tryd.prog 11 = true := by kernel_rfl
@[simp] theorem kf_11 (k : V) : keyFits Tryd.prog 11 k = true := keyFits_plain qplainKey_11
@[simp] theorem qthere_11 : qthere Tryd.prog 11 = true := by kernel_rfl
@[simp] theorem cellsOf_11 : Go.Program.cellsOf Tryd.prog 11 = 1 := by kernel_rfl
@[simp] theorem bytesOf_11 : Go.Program.bytesOf Tryd.prog 11 = 16 := by kernel_rfl
@[simp] theorem qsize_14 : qsize Tryd.prog 14 = some 2 := by kernel_rfl
@[simp] theorem qbytes_14 : qbytes Tryd.prog 14 = some 24 := by kernel_rfl
@[simp] theorem qagg_14 : qagg Tryd.prog 14 = some true := by kernel_rfl
@[simp] theorem qzero_14 : qzero Tryd.prog 14 = some (V.agg [V.s [], V.i Go.IntKind.u64 (0)]) := by kernel_rfl
@[simp] theorem qplaces_14 : qplaces Tryd.prog 14 = some [(0, 1), (1, 1)] := by kernel_rfl
@[simp] theorem qconcrete_14 : qconcrete Tryd.prog 14 = true := by kernel_rfl
@[simp] theorem qthere_14 : qthere Tryd.prog 14 = true := by kernel_rfl
@[simp] theorem cellsOf_14 : Go.Program.cellsOf Tryd.prog 14 = 2 := by kernel_rfl
@[simp] theorem bytesOf_14 : Go.Program.bytesOf Tryd.prog 14 = 24 := by kernel_rfl
@[simp] theorem qsize_15 : qsize Tryd.prog 15 = some 1 := by kernel_rfl
@[simp] theorem qbytes_15 : qbytes Tryd.prog 15 = some 8 := by kernel_rfl
@[simp] theorem qagg_15 : qagg Tryd.prog 15 = some false := by kernel_rfl
@[simp] theorem qzero_15 : qzero Tryd.prog 15 = some (V.p none) := by kernel_rfl
@[simp] theorem qconcrete_15 : qconcrete Tryd.prog 15 = true := by kernel_rfl
@[simp] theorem qptr_15 : qptr Tryd.prog 15 = true := by kernel_rfl
@[simp] theorem pnn_15 : aeq Tryd.prog 15 (.p none) (.p none) = some true := aeq_pnn qptr_15
@[simp] theorem psn_15 (q : Nat × Nat × Nat) : aeq Tryd.prog 15 (.p (some q)) (.p none) = some false := aeq_psn qptr_15
@[simp] theorem qthere_15 : qthere Tryd.prog 15 = true := by kernel_rfl
@[simp] theorem cellsOf_15 : Go.Program.cellsOf Tryd.prog 15 = 1 := by kernel_rfl
@[simp] theorem bytesOf_15 : Go.Program.bytesOf Tryd.prog 15 = 8 := by kernel_rfl
@[simp] theorem qsize_16 : qsize Tryd.prog 16 = some 1 := by kernel_rfl
@[simp] theorem qbytes_16 : qbytes Tryd.prog 16 = some 8 := by kernel_rfl
@[simp] theorem qagg_16 : qagg Tryd.prog 16 = some false := by kernel_rfl
@[simp] theorem qzero_16 : qzero Tryd.prog 16 = some (V.p none) := by kernel_rfl
@[simp] theorem qconcrete_16 : qconcrete Tryd.prog 16 = true := by kernel_rfl
@[simp] theorem qptr_16 : qptr Tryd.prog 16 = true := by kernel_rfl
@[simp] theorem pnn_16 : aeq Tryd.prog 16 (.p none) (.p none) = some true := aeq_pnn qptr_16
@[simp] theorem psn_16 (q : Nat × Nat × Nat) : aeq Tryd.prog 16 (.p (some q)) (.p none) = some false := aeq_psn qptr_16
@[simp] theorem qthere_16 : qthere Tryd.prog 16 = true := by kernel_rfl
@[simp] theorem cellsOf_16 : Go.Program.cellsOf Tryd.prog 16 = 1 := by kernel_rfl
@[simp] theorem bytesOf_16 : Go.Program.bytesOf Tryd.prog 16 = 8 := by kernel_rfl
@[simp] theorem qsize_17 : qsize Tryd.prog 17 = some 1 := by kernel_rfl
@[simp] theorem qbytes_17 : qbytes Tryd.prog 17 = some 8 := by kernel_rfl
@[simp] theorem qagg_17 : qagg Tryd.prog 17 = some false := by kernel_rfl
@[simp] theorem qzero_17 : qzero Tryd.prog 17 = some (V.p none) := by kernel_rfl
@[simp] theorem qconcrete_17 : qconcrete Tryd.prog 17 = true := by kernel_rfl
@[simp] theorem qptr_17 : qptr Tryd.prog 17 = true := by kernel_rfl
@[simp] theorem pnn_17 : aeq Tryd.prog 17 (.p none) (.p none) = some true := aeq_pnn qptr_17
@[simp] theorem psn_17 (q : Nat × Nat × Nat) : aeq Tryd.prog 17 (.p (some q)) (.p none) = some false := aeq_psn qptr_17
@[simp] theorem qthere_17 : qthere Tryd.prog 17 = true := by kernel_rfl
@[simp] theorem cellsOf_17 : Go.Program.cellsOf Tryd.prog 17 = 1 := by kernel_rfl
@[simp] theorem bytesOf_17 : Go.Program.bytesOf Tryd.prog 17 = 8 := by kernel_rfl
@[simp] theorem qsize_19 : qsize Tryd.prog 19 = some 1 := by kernel_rfl
@[simp] theorem qbytes_19 : qbytes Tryd.prog 19 = some 8 := by kernel_rfl
@[simp] theorem qagg_19 : qagg Tryd.prog 19 = some true := by kernel_rfl
@[simp] theorem qzero_19 : qzero Tryd.prog 19 = some (V.agg [V.p none]) := by kernel_rfl
@[simp] theorem qplaces_19 : qplaces Tryd.prog 19 = some [(0, 1)] := by kernel_rfl
@[simp] theorem qconcrete_19 : qconcrete Tryd.prog 19 = true := by kernel_rfl
@[simp] theorem qthere_19 : qthere Tryd.prog 19 = true := by kernel_rfl
@[simp] theorem cellsOf_19 : Go.Program.cellsOf Tryd.prog 19 = 1 := by kernel_rfl
@[simp] theorem bytesOf_19 : Go.Program.bytesOf Tryd.prog 19 = 8 := by kernel_rfl
@[simp] theorem qsize_20 : qsize Tryd.prog 20 = some 1 := by kernel_rfl
@[simp] theorem qbytes_20 : qbytes Tryd.prog 20 = some 16 := by kernel_rfl
@[simp] theorem qagg_20 : qagg Tryd.prog 20 = some false := by kernel_rfl
@[simp] theorem qzero_20 : qzero Tryd.prog 20 = some V.nif := by kernel_rfl
@[simp] theorem qthere_20 : qthere Tryd.prog 20 = true := by kernel_rfl
@[simp] theorem cellsOf_20 : Go.Program.cellsOf Tryd.prog 20 = 1 := by kernel_rfl
@[simp] theorem bytesOf_20 : Go.Program.bytesOf Tryd.prog 20 = 16 := by kernel_rfl
@[simp] theorem qsize_21 : qsize Tryd.prog 21 = some 1 := by kernel_rfl
@[simp] theorem qbytes_21 : qbytes Tryd.prog 21 = some 4 := by kernel_rfl
@[simp] theorem qagg_21 : qagg Tryd.prog 21 = some false := by kernel_rfl
@[simp] theorem qzero_21 : qzero Tryd.prog 21 = some (V.i Go.IntKind.i32 (0)) := by kernel_rfl
@[simp] theorem qint_21 : qint Tryd.prog 21 = some Go.IntKind.i32 := by kernel_rfl
@[simp] theorem keqi_21 (a c : Int) : keq Tryd.prog 21 (.i Go.IntKind.i32 a) (.i Go.IntKind.i32 c) = some (a == c) := keq_i qint_21
@[simp] theorem qconcrete_21 : qconcrete Tryd.prog 21 = true := by kernel_rfl
@[simp] theorem qkey_21 : qkey Tryd.prog 21 = true := by kernel_rfl
@[simp] theorem qplainKey_21 : qplainKey Tryd.prog 21 = true := by kernel_rfl
@[simp] theorem kf_21 (k : V) : keyFits Tryd.prog 21 k = true := keyFits_plain qplainKey_21
@[simp] theorem qthere_21 : qthere Tryd.prog 21 = true := by kernel_rfl
@[simp] theorem cellsOf_21 : Go.Program.cellsOf Tryd.prog 21 = 1 := by kernel_rfl
@[simp] theorem bytesOf_21 : Go.Program.bytesOf Tryd.prog 21 = 4 := by kernel_rfl
@[simp] theorem qsize_22 : qsize Tryd.prog 22 = some 1 := by kernel_rfl
@[simp] theorem qbytes_22 : qbytes Tryd.prog 22 = some 4 := by kernel_rfl
@[simp] theorem qagg_22 : qagg Tryd.prog 22 = some false := by kernel_rfl
@[simp] theorem qzero_22 : qzero Tryd.prog 22 = some (V.i Go.IntKind.u32 (0)) := by kernel_rfl
@[simp] theorem qint_22 : qint Tryd.prog 22 = some Go.IntKind.u32 := by kernel_rfl
@[simp] theorem keqi_22 (a c : Int) : keq Tryd.prog 22 (.i Go.IntKind.u32 a) (.i Go.IntKind.u32 c) = some (a == c) := keq_i qint_22
@[simp] theorem qconcrete_22 : qconcrete Tryd.prog 22 = true := by kernel_rfl
@[simp] theorem qkey_22 : qkey Tryd.prog 22 = true := by kernel_rfl
@[simp] theorem qplainKey_22 : qplainKey Tryd.prog 22 = true := by kernel_rfl
@[simp] theorem kf_22 (k : V) : keyFits Tryd.prog 22 k = true := keyFits_plain qplainKey_22
@[simp] theorem qthere_22 : qthere Tryd.prog 22 = true := by kernel_rfl
@[simp] theorem cellsOf_22 : Go.Program.cellsOf Tryd.prog 22 = 1 := by kernel_rfl
@[simp] theorem bytesOf_22 : Go.Program.bytesOf Tryd.prog 22 = 4 := by kernel_rfl
@[simp] theorem qsize_24 : qsize Tryd.prog 24 = some 8 := by kernel_rfl
@[simp] theorem qbytes_24 : qbytes Tryd.prog 24 = some 56 := by kernel_rfl
@[simp] theorem qagg_24 : qagg Tryd.prog 24 = some true := by kernel_rfl
@[simp] theorem qzero_24 : qzero Tryd.prog 24 = some   (V.agg     [V.i Go.IntKind.i64 (0), V.i Go.IntKind.i64 (0), V.i Go.IntKind.i64 (0),       V.i Go.IntKind.i64 (0), V.i Go.IntKind.i64 (0), V.i Go.IntKind.i64 (0),       V.i Go.IntKind.u32 (0), V.i Go.IntKind.u32 (0)]) := by kernel_rfl
@[simp] theorem qplaces_24 : qplaces Tryd.prog 24 = some [(0, 1), (1, 1), (2, 1), (3, 1), (4, 1), (5, 1), (6, 1), (7, 1)] := by kernel_rfl
@[simp] theorem qconcrete_24 : qconcrete Tryd.prog 24 = true := by kernel_rfl
@[simp] theorem qkey_24 : qkey Tryd.prog 24 = true := by kernel_rfl
@[simp] theorem qthere_24 : qthere Tryd.prog 24 = true := by kernel_rfl
@[simp] theorem qeq_24 : qeq Tryd.prog 24 = some   [CK.i Go.IntKind.i64, CK.i Go.IntKind.i64, CK.i Go.IntKind.i64, CK.i Go.IntKind.i64, CK.i Go.IntKind.i64,     CK.i Go.IntKind.i64, CK.i Go.IntKind.u32, CK.i Go.IntKind.u32] := by kernel_rfl
@[simp] theorem cellsOf_24 : Go.Program.cellsOf Tryd.prog 24 = 8 := by kernel_rfl
@[simp] theorem bytesOf_24 : Go.Program.bytesOf Tryd.prog 24 = 56 := by kernel_rfl
@[simp] theorem qsize_26 : qsize Tryd.prog 26 = some 10 := by kernel_rfl
@[simp] theorem qbytes_26 : qbytes Tryd.prog 26 = some 72 := by kernel_rfl
@[simp] theorem qagg_26 : qagg Tryd.prog 26 = some true := by kernel_rfl
@[simp] theorem qzero_26 : qzero Tryd.prog 26 = some   (V.agg     [V.i Go.IntKind.i64 (0), V.i Go.IntKind.i64 (0), V.i Go.IntKind.i64 (0),       V.i Go.IntKind.i64 (0), V.i Go.IntKind.i64 (0), V.i Go.IntKind.i64 (0),       V.i Go.IntKind.i64 (0), V.i Go.IntKind.i64 (0), V.i Go.IntKind.u32 (0),       V.i Go.IntKind.u32 (0)]) := by kernel_rfl
@[simp] theorem qplaces_26 : qplaces Tryd.prog 26 = some [(0, 1), (1, 1), (2, 8)] := by kernel_rfl
@[simp] theorem qconcrete_26 : qconcrete Tryd.prog 26 = true := by kernel_rfl
@[simp] theorem qkey_26 : qkey Tryd.prog 26 = true := by kernel_rfl
@[simp] theorem qthere_26 : qthere Tryd.prog 26 = true := by kernel_rfl
@[simp] theorem qeq_26 : qeq Tryd.prog 26 = some   [CK.i Go.IntKind.i64, CK.i Go.IntKind.i64, CK.i Go.IntKind.i64, CK.i Go.IntKind.i64, CK.i Go.IntKind.i64,     CK.i Go.IntKind.i64, CK.i Go.IntKind.i64, CK.i Go.IntKind.i64, CK.i Go.IntKind.u32, CK.i Go.IntKind.u32] := by kernel_rfl
@[simp] theorem cellsOf_26 : Go.Program.cellsOf Tryd.prog 26 = 10 := by kernel_rfl
@[simp] theorem bytesOf_26 : Go.Program.bytesOf Tryd.prog 26 = 72 := by kernel_rfl
@[simp] theorem qsize_27 : qsize Tryd.prog 27 = some 1 := by kernel_rfl
@[simp] theorem qbytes_27 : qbytes Tryd.prog 27 = some 24 := by kernel_rfl
@[simp] theorem qagg_27 : qagg Tryd.prog 27 = some false := by kernel_rfl
@[simp] theorem qzero_27 : qzero Tryd.prog 27 = some (V.sl none 0 false) := by kernel_rfl
@[simp] theorem qconcrete_27 : qconcrete Tryd.prog 27 = true := by kernel_rfl
@[simp] theorem qsrc_27 : qsrc Tryd.prog 27 = true := by kernel_rfl
@[simp] theorem qthere_27 : qthere Tryd.prog 27 = true := by kernel_rfl
@[simp] theorem cellsOf_27 : Go.Program.cellsOf Tryd.prog 27 = 1 := by kernel_rfl
@[simp] theorem bytesOf_27 : Go.Program.bytesOf Tryd.prog 27 = 24 := by kernel_rfl
@[simp] theorem qelem_27 : qelem Tryd.prog 27 = some 26 := by kernel_rfl
@[simp] theorem qsize_28 : qsize Tryd.prog 28 = some 1 := by kernel_rfl
@[simp] theorem qbytes_28 : qbytes Tryd.prog 28 = some 24 := by kernel_rfl
@[simp] theorem qagg_28 : qagg Tryd.prog 28 = some false := by kernel_rfl
@[simp] theorem qzero_28 : qzero Tryd.prog 28 = some (V.sl none 0 false) := by kernel_rfl
@[simp] theorem qconcrete_28 : qconcrete Tryd.prog 28 = true := by kernel_rfl
@[simp] theorem qsrc_28 : qsrc Tryd.prog 28 = true := by kernel_rfl
@[simp] theorem qthere_28 : qthere Tryd.prog 28 = true := by kernel_rfl
@[simp] theorem cellsOf_28 : Go.Program.cellsOf Tryd.prog 28 = 1 := by kernel_rfl
@[simp] theorem bytesOf_28 : Go.Program.bytesOf Tryd.prog 28 = 24 := by kernel_rfl
@[simp] theorem qelem_28 : qelem Tryd.prog 28 = some 32 := by kernel_rfl
@[simp] theorem qsize_30 : qsize Tryd.prog 30 = some 14 := by kernel_rfl
@[simp] theorem qbytes_30 : qbytes Tryd.prog 30 = some 136 := by kernel_rfl
@[simp] theorem qagg_30 : qagg Tryd.prog 30 = some true := by kernel_rfl
@[simp] theorem qzero_30 : qzero Tryd.prog 30 = some   (V.agg     [V.i Go.IntKind.i64 (0), V.i Go.IntKind.i64 (0), V.i Go.IntKind.i64 (0),       V.i Go.IntKind.i64 (0), V.i Go.IntKind.i64 (0), V.i Go.IntKind.i64 (0),       V.i Go.IntKind.i64 (0), V.i Go.IntKind.i64 (0), V.i Go.IntKind.i64 (0),       V.i Go.IntKind.i64 (0), V.i Go.IntKind.u32 (0), V.i Go.IntKind.u32 (0),       V.sl none 0 false, V.sl none 0 false]) := by kernel_rfl
@[simp] theorem qplaces_30 : qplaces Tryd.prog 30 = some [(0, 1), (1, 1), (2, 1), (3, 1), (4, 8), (12, 1), (13, 1)] := by kernel_rfl
@[simp] theorem qconcrete_30 : qconcrete Tryd.prog 30 = true := by kernel_rfl
@[simp] theorem qthere_30 : qthere Tryd.prog 30 = true := by kernel_rfl
@[simp] theorem cellsOf_30 : Go.Program.cellsOf Tryd.prog 30 = 14 := by kernel_rfl
@[simp] theorem bytesOf_30 : Go.Program.bytesOf Tryd.prog 30 = 136 := by kernel_rfl
@[simp] theorem qsize_32 : qsize Tryd.prog 32 = some 7 := by kernel_rfl
@[simp] theorem qbytes_32 : qbytes Tryd.prog 32 = some 88 := by kernel_rfl
@[simp] theorem qagg_32 : qagg Tryd.prog 32 = some true := by kernel_rfl
@[simp] theorem qzero_32 : qzero Tryd.prog 32 = some   (V.agg     [V.i Go.IntKind.i64 (0), V.s [], V.s [], V.s [], V.s [], V.i Go.IntKind.i64 (0),       V.i Go.IntKind.i64 (0)]) := by kernel_rfl
@[simp] theorem qplaces_32 : qplaces Tryd.prog 32 = some [(0, 1), (1, 1), (2, 1), (3, 1), (4, 1), (5, 1), (6, 1)] := by kernel_rfl
@[simp] theorem qconcrete_32 : qconcrete Tryd.prog 32 = true := by kernel_rfl
@[simp] theorem qkey_32 : qkey Tryd.prog 32 = true := by kernel_rfl
@[simp] theorem qthere_32 : qthere Tryd.prog 32 = true := by kernel_rfl
@[simp] theorem qeq_32 : qeq Tryd.prog 32 = some [CK.i Go.IntKind.i64, CK.s, CK.s, CK.s, CK.s, CK.i Go.IntKind.i64, CK.i Go.IntKind.i64] := by kernel_rfl
@[simp] theorem cellsOf_32 : Go.Program.cellsOf Tryd.prog 32 = 7 := by kernel_rfl
@[simp] theorem bytesOf_32 : Go.Program.bytesOf Tryd.prog 32 = 88 := by kernel_rfl
@[simp] theorem qsize_34 : qsize Tryd.prog 34 = some 45 := by kernel_rfl
@[simp] theorem qbytes_34 : qbytes Tryd.prog 34 = some 416 := by kernel_rfl
@[simp] theorem qagg_34 : qagg Tryd.prog 34 = some true := by kernel_rfl
@[simp] theorem qzero_34 : qzero Tryd.prog 34 = some   (V.agg     [V.i Go.IntKind.i64 (0), V.i Go.IntKind.i64 (0), V.i Go.IntKind.i64 (0),       V.i Go.IntKind.i64 (0), V.i Go.IntKind.u32 (0), V.i Go.IntKind.i64 (0),       V.i Go.IntKind.i64 (0), V.i Go.IntKind.i64 (0), V.i Go.IntKind.i64 (0),       V.i Go.IntKind.i64 (0), V.i Go.IntKind.i64 (0), V.i Go.IntKind.u32 (0),       V.i Go.IntKind.u32 (0), V.i Go.IntKind.i64 (0), V.i Go.IntKind.i64 (0),       V.i Go.IntKind.i64 (0), V.i Go.IntKind.i64 (0), V.i Go.IntKind.i64 (0),       V.i Go.IntKind.i64 (0), V.i Go.IntKind.i64 (0), V.i Go.IntKind.i64 (0),       V.i Go.IntKind.u32 (0), V.i Go.IntKind.u32 (0), V.sl none 0 false,       V.i Go.IntKind.i64 (0), V.i Go.IntKind.i64 (0), V.i Go.IntKind.i64 (0),       V.i Go.IntKind.i64 (0), V.i Go.IntKind.i64 (0), V.i Go.IntKind.i64 (0),       V.i Go.IntKind.i64 (0), V.i Go.IntKind.i64 (0), V.i Go.IntKind.i64 (0),       V.i Go.IntKind.i64 (0), V.i Go.IntKind.u32 (0), V.i Go.IntKind.u32 (0),       V.sl none 0 false, V.sl none 0 false, V.i Go.IntKind.i64 (0), V.s [], V.s [], V.s [], V.s [],       V.i Go.IntKind.i64 (0), V.i Go.IntKind.i64 (0)]) := by kernel_rfl
@[simp] theorem qplaces_34 : qplaces Tryd.prog 34 = some [(0, 1), (1, 1), (2, 1), (3, 1), (4, 1), (5, 8), (13, 10), (23, 1), (24, 14), (38, 7)] := by kernel_rfl
@[simp] theorem qconcrete_34 : qconcrete Tryd.prog 34 = true := by kernel_rfl
@[simp] theorem qthere_34 : qthere Tryd.prog 34 = true := by kernel_rfl
@[simp] theorem cellsOf_34 : Go.Program.cellsOf Tryd.prog 34 = 45 := by kernel_rfl
@[simp] theorem bytesOf_34 : Go.Program.bytesOf Tryd.prog 34 = 416 := by kernel_rfl
@[simp] theorem qsize_37 : qsize Tryd.prog 37 = some 1 := by kernel_rfl
@[simp] theorem qbytes_37 : qbytes Tryd.prog 37 = some 8 := by kernel_rfl
@[simp] theorem qagg_37 : qagg Tryd.prog 37 = some false := by kernel_rfl
@[simp] theorem qzero_37 : qzero Tryd.prog 37 = some (V.i Go.IntKind.i64 (0)) := by kernel_rfl
@[simp] theorem qint_37 : qint Tryd.prog 37 = some Go.IntKind.i64 := by kernel_rfl
@[simp] theorem keqi_37 (a c : Int) : keq Tryd.prog 37 (.i Go.IntKind.i64 a) (.i Go.IntKind.i64 c) = some (a == c) := keq_i qint_37
@[simp] theorem qconcrete_37 : qconcrete Tryd.prog 37 = true := by kernel_rfl
@[simp] theorem qkey_37 : qkey Tryd.prog 37 = true := by kernel_rfl
@[simp] theorem qplainKey_37 : qplainKey Tryd.prog 37 = true := by kernel_rfl
@[simp] theorem kf_37 (k : V) : keyFits Tryd.prog 37 k = true := keyFits_plain qplainKey_37
@[simp] theorem qthere_37 : qthere Tryd.prog 37 = true := by kernel_rfl
@[simp] theorem cellsOf_37 : Go.Program.cellsOf Tryd.prog 37 = 1 := by kernel_rfl
@[simp] theorem bytesOf_37 : Go.Program.bytesOf Tryd.prog 37 = 8 := by kernel_rfl
@[simp] theorem qsize_40 : qsize Tryd.prog 40 = some 45 := by kernel_rfl
@[simp] theorem qbytes_40 : qbytes Tryd.prog 40 = some 416 := by kernel_rfl
@[simp] theorem qagg_40 : qagg Tryd.prog 40 = some true := by kernel_rfl
@[simp] theorem qzero_40 : qzero Tryd.prog 40 = some   (V.agg     [V.i Go.IntKind.i64 (0), V.i Go.IntKind.i64 (0), V.i Go.IntKind.i64 (0),       V.i Go.IntKind.i64 (0), V.i Go.IntKind.u32 (0), V.i Go.IntKind.i64 (0),       V.i Go.IntKind.i64 (0), V.i Go.IntKind.i64 (0), V.i Go.IntKind.i64 (0),       V.i Go.IntKind.i64 (0), V.i Go.IntKind.i64 (0), V.i Go.IntKind.u32 (0),       V.i Go.IntKind.u32 (0), V.i Go.IntKind.i64 (0), V.i Go.IntKind.i64 (0),       V.i Go.IntKind.i64 (0), V.i Go.IntKind.i64 (0), V.i Go.IntKind.i64 (0),       V.i Go.IntKind.i64 (0), V.i Go.IntKind.i64 (0), V.i Go.IntKind.i64 (0),       V.i Go.IntKind.u32 (0), V.i Go.IntKind.u32 (0), V.sl none 0 false,       V.i Go.IntKind.i64 (0), V.i Go.IntKind.i64 (0), V.i Go.IntKind.i64 (0),       V.i Go.IntKind.i64 (0), V.i Go.IntKind.i64 (0), V.i Go.IntKind.i64 (0),       V.i Go.IntKind.i64 (0), V.i Go.IntKind.i64 (0), V.i Go.IntKind.i64 (0),       V.i Go.IntKind.i64 (0), V.i Go.IntKind.u32 (0), V.i Go.IntKind.u32 (0),       V.sl none 0 false, V.sl none 0 false, V.i Go.IntKind.i64 (0), V.s [], V.s [], V.s [], V.s [],       V.i Go.IntKind.i64 (0), V.i Go.IntKind.i64 (0)]) := by kernel_rfl
@[simp] theorem qplaces_40 : qplaces Tryd.prog 40 = some [(0, 1), (1, 1), (2, 1), (3, 1), (4, 1), (5, 8), (13, 10), (23, 1), (24, 14), (38, 7)] := by kernel_rfl
@[simp] theorem qconcrete_40 : qconcrete Tryd.prog 40 = true := by kernel_rfl
@[simp] theorem qthere_40 : qthere Tryd.prog 40 = true := by kernel_rfl
@[simp] theorem cellsOf_40 : Go.Program.cellsOf Tryd.prog 40 = 45 := by kernel_rfl
@[simp] theorem bytesOf_40 : Go.Program.bytesOf Tryd.prog 40 = 416 := by kernel_rfl
@[simp] theorem qsize_46 : qsize Tryd.prog 46 = some 1 := by kernel_rfl
@[simp] theorem qbytes_46 : qbytes Tryd.prog 46 = some 2 := by kernel_rfl
@[simp] theorem qagg_46 : qagg Tryd.prog 46 = some false := by kernel_rfl
@[simp] theorem qzero_46 : qzero Tryd.prog 46 = some (V.i Go.IntKind.u16 (0)) := by kernel_rfl
@[simp] theorem qint_46 : qint Tryd.prog 46 = some Go.IntKind.u16 := by kernel_rfl
@[simp] theorem keqi_46 (a c : Int) : keq Tryd.prog 46 (.i Go.IntKind.u16 a) (.i Go.IntKind.u16 c) = some (a == c) := keq_i qint_46
@[simp] theorem qconcrete_46 : qconcrete Tryd.prog 46 = true := by kernel_rfl
@[simp] theorem qkey_46 : qkey Tryd.prog 46 = true := by kernel_rfl
@[simp] theorem qplainKey_46 : qplainKey Tryd.prog 46 = true := by kernel_rfl
@[simp] theorem kf_46 (k : V) : keyFits Tryd.prog 46 k = true := keyFits_plain qplainKey_46
@[simp] theorem qthere_46 : qthere Tryd.prog 46 = true := by kernel_rfl
@[simp] theorem cellsOf_46 : Go.Program.cellsOf Tryd.prog 46 = 1 := by kernel_rfl
@[simp] theorem bytesOf_46 : Go.Program.bytesOf Tryd.prog 46 = 2 := by kernel_rfl
@[simp] theorem qsize_49 : qsize Tryd.prog 49 = some 1 := by kernel_rfl
@[simp] theorem qbytes_49 : qbytes Tryd.prog 49 = some 8 := by kernel_rfl
@[simp] theorem qagg_49 : qagg Tryd.prog 49 = some false := by kernel_rfl
@[simp] theorem qzero_49 : qzero Tryd.prog 49 = some V.nf := by kernel_rfl
@[simp] theorem qconcrete_49 : qconcrete Tryd.prog 49 = true := by kernel_rfl
@[simp] theorem qthere_49 : qthere Tryd.prog 49 = true := by kernel_rfl
@[simp] theorem cellsOf_49 : Go.Program.cellsOf Tryd.prog 49 = 1 := by kernel_rfl
@[simp] theorem bytesOf_49 : Go.Program.bytesOf Tryd.prog 49 = 8 := by kernel_rfl
@[simp] theorem qsize_51 : qsize Tryd.prog 51 = some 1 := by kernel_rfl
@[simp] theorem qbytes_51 : qbytes Tryd.prog 51 = some 24 := by kernel_rfl
@[simp] theorem qagg_51 : qagg Tryd.prog 51 = some false := by kernel_rfl
@[simp] theorem qzero_51 : qzero Tryd.prog 51 = some (V.sl none 0 false) := by kernel_rfl
@[simp] theorem qconcrete_51 : qconcrete Tryd.prog 51 = true := by kernel_rfl
@[simp] theorem qsrc_51 : qsrc Tryd.prog 51 = true := by kernel_rfl
@[simp] theorem qbs_51 : qbs Tryd.prog 51 = true := by kernel_rfl
@[simp] theorem qthere_51 : qthere Tryd.prog 51 = true := by kernel_rfl
@[simp] theorem cellsOf_51 : Go.Program.cellsOf Tryd.prog 51 = 1 := by kernel_rfl
@[simp] theorem bytesOf_51 : Go.Program.bytesOf Tryd.prog 51 = 24 := by kernel_rfl
@[simp] theorem qelem_51 : qelem Tryd.prog 51 = some 5 := by kernel_rfl
@[simp] theorem qsize_54 : qsize Tryd.prog 54 = some 1 := by kernel_rfl
@[simp] theorem qbytes_54 : qbytes Tryd.prog 54 = some 8 := by kernel_rfl
@[simp] theorem qagg_54 : qagg Tryd.prog 54 = some false := by kernel_rfl
@[simp] theorem qzero_54 : qzero Tryd.prog 54 = some V.nf := by kernel_rfl
@[simp] theorem qconcrete_54 : qconcrete Tryd.prog 54 = true := by kernel_rfl
@[simp] theorem qthere_54 : qthere Tryd.prog 54 = true := by kernel_rfl
@[simp] theorem cellsOf_54 : Go.Program.cellsOf Tryd.prog 54 = 1 := by kernel_rfl
@[simp] theorem bytesOf_54 : Go.Program.bytesOf Tryd.prog 54 = 8 := by kernel_rfl
@[simp] theorem qsize_58 : qsize Tryd.prog 58 = some 1 := by kernel_rfl
@[simp] theorem qbytes_58 : qbytes Tryd.prog 58 = some 8 := by kernel_rfl
@[simp] theorem qagg_58 : qagg Tryd.prog 58 = some false := by kernel_rfl
@[simp] theorem qzero_58 : qzero Tryd.prog 58 = some (V.p none) := by kernel_rfl
@[simp] theorem qconcrete_58 : qconcrete Tryd.prog 58 = true := by kernel_rfl
@[simp] theorem qptr_58 : qptr Tryd.prog 58 = true := by kernel_rfl
@[simp] theorem pnn_58 : aeq Tryd.prog 58 (.p none) (.p none) = some true := aeq_pnn qptr_58
@[simp] theorem psn_58 (q : Nat × Nat × Nat) : aeq Tryd.prog 58 (.p (some q)) (.p none) = some false := aeq_psn qptr_58
@[simp] theorem qthere_58 : qthere Tryd.prog 58 = true := by kernel_rfl
@[simp] theorem cellsOf_58 : Go.Program.cellsOf Tryd.prog 58 = 1 := by kernel_rfl
@[simp] theorem bytesOf_58 : Go.Program.bytesOf Tryd.prog 58 = 8 := by kernel_rfl
@[simp] theorem qsize_59 : qsize Tryd.prog 59 = some 1 := by kernel_rfl
@[simp] theorem qbytes_59 : qbytes Tryd.prog 59 = some 8 := by kernel_rfl
@[simp] theorem qagg_59 : qagg Tryd.prog 59 = some false := by kernel_rfl
@[simp] theorem qzero_59 : qzero Tryd.prog 59 = some (V.p none) := by kernel_rfl
@[simp] theorem qconcrete_59 : qconcrete Tryd.prog 59 = true := by kernel_rfl
@[simp] theorem qptr_59 : qptr Tryd.prog 59 = true := by kernel_rfl
@[simp] theorem pnn_59 : aeq Tryd.prog 59 (.p none) (.p none) = some true := aeq_pnn qptr_59
@[simp] theorem psn_59 (q : Nat × Nat × Nat) : aeq Tryd.prog 59 (.p (some q)) (.p none) = some false := aeq_psn qptr_59
@[simp] theorem qthere_59 : qthere Tryd.prog 59 = true := by kernel_rfl
@[simp] theorem cellsOf_59 : Go.Program.cellsOf Tryd.prog 59 = 1 := by kernel_rfl
@[simp] theorem bytesOf_59 : Go.Program.bytesOf Tryd.prog 59 = 8 := by kernel_rfl
@[simp] theorem qsize_61 : qsize Tryd.prog 61 = some 1 := by kernel_rfl
@[simp] theorem qbytes_61 : qbytes Tryd.prog 61 = some 8 := by kernel_rfl
@[simp] theorem qagg_61 : qagg Tryd.prog 61 = some false := by kernel_rfl
@[simp] theorem qzero_61 : qzero Tryd.prog 61 = some (V.p none) := by kernel_rfl
@[simp] theorem qconcrete_61 : qconcrete Tryd.prog 61 = true := by kernel_rfl
@[simp] theorem qptr_61 : qptr Tryd.prog 61 = true := by kernel_rfl
@[simp] theorem pnn_61 : aeq Tryd.prog 61 (.p none) (.p none) = some true := aeq_pnn qptr_61
@[simp] theorem psn_61 (q : Nat × Nat × Nat) : aeq Tryd.prog 61 (.p (some q)) (.p none) = some false := aeq_psn qptr_61
@[simp] theorem qthere_61 : qthere Tryd.prog 61 = true := by kernel_rfl
@[simp] theorem cellsOf_61 : Go.Program.cellsOf Tryd.prog 61 = 1 := by kernel_rfl
@[simp] theorem bytesOf_61 : Go.Program.bytesOf Tryd.prog 61 = 8 := by kernel_rfl
@[simp] theorem qsize_62 : qsize Tryd.prog 62 = some 1 := by kernel_rfl
@[simp] theorem qbytes_62 : qbytes Tryd.prog 62 = some 8 := by kernel_rfl
@[simp] theorem qagg_62 : qagg Tryd.prog 62 = some false := by kernel_rfl
@[simp] theorem qzero_62 : qzero Tryd.prog 62 = some (V.p none) := by kernel_rfl
@[simp] theorem qconcrete_62 : qconcrete Tryd.prog 62 = true := by kernel_rfl
@[simp] theorem qptr_62 : qptr Tryd.prog 62 = true := by kernel_rfl
@[simp] theorem pnn_62 : aeq Tryd.prog 62 (.p none) (.p none) = some true := aeq_pnn qptr_62
@[simp] theorem psn_62 (q : Nat × Nat × Nat) : aeq Tryd.prog 62 (.p (some q)) (.p none) = some false := aeq_psn qptr_62
@[simp] theorem qthere_62 : qthere Tryd.prog 62 = true := by kernel_rfl
@[simp] theorem cellsOf_62 : Go.Program.cellsOf Tryd.prog 62 = 1 := by kernel_rfl
@[simp] theorem bytesOf_62 : Go.Program.bytesOf Tryd.prog 62 = 8 := by kernel_rfl
@[simp] theorem qsize_63 : qsize Tryd.prog 63 = some 1 := by kernel_rfl
@[simp] theorem qbytes_63 : qbytes Tryd.prog 63 = some 8 := by kernel_rfl
@[simp] theorem qagg_63 : qagg Tryd.prog 63 = some false := by kernel_rfl
@[simp] theorem qzero_63 : qzero Tryd.prog 63 = some (V.p none) := by kernel_rfl
@[simp] theorem qconcrete_63 : qconcrete Tryd.prog 63 = true := by kernel_rfl
@[simp] theorem qptr_63 : qptr Tryd.prog 63 = true := by kernel_rfl
@[simp] theorem pnn_63 : aeq Tryd.prog 63 (.p none) (.p none) = some true := aeq_pnn qptr_63
@[simp] theorem psn_63 (q : Nat × Nat × Nat) : aeq Tryd.prog 63 (.p (some q)) (.p none) = some false := aeq_psn qptr_63
@[simp] theorem qthere_63 : qthere Tryd.prog 63 = true := by kernel_rfl
@[simp] theorem cellsOf_63 : Go.Program.cellsOf Tryd.prog 63 = 1 := by kernel_rfl
@[simp] theorem bytesOf_63 : Go.Program.bytesOf Tryd.prog 63 = 8 := by kernel_rfl
@[simp] theorem qsize_64 : qsize Tryd.prog 64 = some 1 := by kernel_rfl
@[simp] theorem qbytes_64 : qbytes Tryd.prog 64 = some 8 := by kernel_rfl
@[simp] theorem qagg_64 : qagg Tryd.prog 64 = some false := by kernel_rfl
@[simp] theorem qzero_64 : qzero Tryd.prog 64 = some (V.p none) := by kernel_rfl
@[simp] theorem qconcrete_64 : qconcrete Tryd.prog 64 = true := by kernel_rfl
@[simp] theorem qptr_64 : qptr Tryd.prog 64 = true := by kernel_rfl
@[simp] theorem pnn_64 : aeq Tryd.prog 64 (.p none) (.p none) = some true := aeq_pnn qptr_64
@[simp] theorem psn_64 (q : Nat × Nat × Nat) : aeq Tryd.prog 64 (.p (some q)) (.p none) = some false := aeq_psn qptr_64
@[simp] theorem qthere_64 : qthere Tryd.prog 64 = true := by kernel_rfl
@[simp] theorem cellsOf_64 : Go.Program.cellsOf Tryd.prog 64 = 1 := by kernel_rfl
@[simp] theorem bytesOf_64 : Go.Program.bytesOf Tryd.prog 64 = 8 := by kernel_rfl
@[simp] theorem qsize_67 : qsize Tryd.prog 67 = some 1 := by kernel_rfl
@[simp] theorem qbytes_67 : qbytes Tryd.prog 67 = some 24 := by kernel_rfl
@[simp] theorem qagg_67 : qagg Tryd.prog 67 = some false := by kernel_rfl
@[simp] theorem qzero_67 : qzero Tryd.prog 67 = some (V.sl none 0 false) := by kernel_rfl
@[simp] theorem qconcrete_67 : qconcrete Tryd.prog 67 = true := by kernel_rfl
@[simp] theorem qsrc_67 : qsrc Tryd.prog 67 = true := by kernel_rfl
@[simp] theorem qthere_67 : qthere Tryd.prog 67 = true := by kernel_rfl
@[simp] theorem cellsOf_67 : Go.Program.cellsOf Tryd.prog 67 = 1 := by kernel_rfl
@[simp] theorem bytesOf_67 : Go.Program.bytesOf Tryd.prog 67 = 24 := by kernel_rfl
@[simp] theorem qelem_67 : qelem Tryd.prog 67 = some 3 := by kernel_rfl
@[simp] theorem qsize_68 : qsize Tryd.prog 68 = some 1 := by kernel_rfl
@[simp] theorem qbytes_68 : qbytes Tryd.prog 68 = some 8 := by kernel_rfl
@[simp] theorem qagg_68 : qagg Tryd.prog 68 = some false := by kernel_rfl
@[simp] theorem qzero_68 : qzero Tryd.prog 68 = some (V.p none) := by kernel_rfl
@[simp] theorem qconcrete_68 : qconcrete Tryd.prog 68 = true := by kernel_rfl
@[simp] theorem qptr_68 : qptr Tryd.prog 68 = true := by kernel_rfl
@[simp] theorem pnn_68 : aeq Tryd.prog 68 (.p none) (.p none) = some true := aeq_pnn qptr_68
@[simp] theorem psn_68 (q : Nat × Nat × Nat) : aeq Tryd.prog 68 (.p (some q)) (.p none) = some false := aeq_psn qptr_68
@[simp] theorem qthere_68 : qthere Tryd.prog 68 = true := by kernel_rfl
@[simp] theorem cellsOf_68 : Go.Program.cellsOf Tryd.prog 68 = 1 := by kernel_rfl
@[simp] theorem bytesOf_68 : Go.Program.bytesOf Tryd.prog 68 = 8 := by kernel_rfl
@[simp] theorem qsize_82 : qsize Tryd.prog 82 = some 1 := by kernel_rfl
@[simp] theorem qbytes_82 : qbytes Tryd.prog 82 = some 24 := by kernel_rfl
@[simp] theorem qagg_82 : qagg Tryd.prog 82 = some false := by kernel_rfl
@[simp] theorem qzero_82 : qzero Tryd.prog 82 = some (V.sl none 0 false) := by kernel_rfl
@[simp] theorem qconcrete_82 : qconcrete Tryd.prog 82 = true := by kernel_rfl
@[simp] theorem qsrc_82 : qsrc Tryd.prog 82 = true := by kernel_rfl
@[simp] theorem qthere_82 : qthere Tryd.prog 82 = true := by kernel_rfl
@[simp] theorem cellsOf_82 : Go.Program.cellsOf Tryd.prog 82 = 1 := by kernel_rfl
@[simp] theorem bytesOf_82 : Go.Program.bytesOf Tryd.prog 82 = 24 := by kernel_rfl
@[simp] theorem qelem_82 : qelem Tryd.prog 82 = some 2 := by kernel_rfl
@[simp] theorem qsize_88 : qsize Tryd.prog 88 = some 2 := by kernel_rfl
@[simp] theorem qbytes_88 : qbytes Tryd.prog 88 = some 32 := by kernel_rfl
@[simp] theorem qagg_88 : qagg Tryd.prog 88 = some true := by kernel_rfl
@[simp] theorem qzero_88 : qzero Tryd.prog 88 = some (V.agg [V.sl none 0 false, V.i Go.IntKind.i64 (0)]) := by kernel_rfl
@[simp] theorem qplaces_88 : qplaces Tryd.prog 88 = some [(0, 1), (1, 1)] := by kernel_rfl
@[simp] theorem qconcrete_88 : qconcrete Tryd.prog 88 = true := by kernel_rfl
@[simp] theorem qthere_88 : qthere Tryd.prog 88 = true := by kernel_rfl
@[simp] theorem cellsOf_88 : Go.Program.cellsOf Tryd.prog 88 = 2 := by kernel_rfl
@[simp] theorem bytesOf_88 : Go.Program.bytesOf Tryd.prog 88 = 32 := by kernel_rfl
@[simp] theorem qsize_106 : qsize Tryd.prog 106 = some 1 := by kernel_rfl
@[simp] theorem qbytes_106 : qbytes Tryd.prog 106 = some 8 := by kernel_rfl
@[simp] theorem qagg_106 : qagg Tryd.prog 106 = some false := by kernel_rfl
@[simp] theorem qzero_106 : qzero Tryd.prog 106 = some (V.i Go.IntKind.u64 (0)) := by kernel_rfl
@[simp] theorem qint_106 : qint Tryd.prog 106 = some Go.IntKind.u64 := by kernel_rfl
@[simp] theorem keqi_106 (a c : Int) : keq Tryd.prog 106 (.i Go.IntKind.u64 a) (.i Go.IntKind.u64 c) = some (a == c) := keq_i qint_106
@[simp] theorem qconcrete_106 : qconcrete Tryd.prog 106 = true := by kernel_rfl
@[simp] theorem qkey_106 : qkey Tryd.prog 106 = true := by kernel_rfl
@[simp] theorem qplainKey_106 : qplainKey Tryd.prog 106 = true := by kernel_rfl
@[simp] theorem kf_106 (k : V) : keyFits Tryd.prog 106 k = true := keyFits_plain qplainKey_106
@[simp] theorem qthere_106 : qthere Tryd.prog 106 = true := by kernel_rfl
@[simp] theorem cellsOf_106 : Go.Program.cellsOf Tryd.prog 106 = 1 := by kernel_rfl
@[simp] theorem bytesOf_106 : Go.Program.bytesOf Tryd.prog 106 = 8 := by kernel_rfl
@[simp] theorem qsize_108 : qsize Tryd.prog 108 = some 1 := by kernel_rfl
@[simp] theorem qbytes_108 : qbytes Tryd.prog 108 = some 8 := by kernel_rfl
@[simp] theorem qagg_108 : qagg Tryd.prog 108 = some false := by kernel_rfl
@[simp] theorem qzero_108 : qzero Tryd.prog 108 = some (V.i Go.IntKind.u64 (0)) := by kernel_rfl
@[simp] theorem qint_108 : qint Tryd.prog 108 = some Go.IntKind.u64 := by kernel_rfl
@[simp] theorem keqi_108 (a c : Int) : keq Tryd.prog 108 (.i Go.IntKind.u64 a) (.i Go.IntKind.u64 c) = some (a == c) := keq_i qint_108
@[simp] theorem qconcrete_108 : qconcrete Tryd.prog 108 = true := by kernel_rfl
@[simp] theorem qkey_108 : qkey Tryd.prog 108 = true := by kernel_rfl
@[simp] theorem qplainKey_108 : qplainKey Tryd.prog 108 = true := by kernel_rfl
@[simp] theorem kf_108 (k : V) : keyFits Tryd.prog 108 k = true := keyFits_plain qplainKey_108
@[simp] theorem qthere_108 : qthere Tryd.prog 108 = true := by kernel_rfl
@[simp] theorem cellsOf_108 : Go.Program.cellsOf Tryd.prog 108 = 1 := by kernel_rfl
@[simp] theorem bytesOf_108 : Go.Program.bytesOf Tryd.prog 108 = 8 := by kernel_rfl
@[simp] theorem qsize_110 : qsize Tryd.prog 110 = some 1 := by kernel_rfl
@[simp] theorem qbytes_110 : qbytes Tryd.prog 110 = some 8 := by kernel_rfl
@[simp] theorem qagg_110 : qagg Tryd.prog 110 = some false := by kernel_rfl
@[simp] theorem qzero_110 : qzero Tryd.prog 110 = some V.nf := by kernel_rfl
@[simp] theorem qconcrete_110 : qconcrete Tryd.prog 110 = true := by kernel_rfl
@[simp] theorem qthere_110 : qthere Tryd.prog 110 = true := by kernel_rfl
@[simp] theorem cellsOf_110 : Go.Program.cellsOf Tryd.prog 110 = 1 := by kernel_rfl
@[simp] theorem bytesOf_110 : Go.Program.bytesOf Tryd.prog 110 = 8 := by kernel_rfl
@[simp] theorem qsize_112 : qsize Tryd.prog 112 = some 1 := by kernel_rfl
@[simp] theorem qbytes_112 : qbytes Tryd.prog 112 = some 8 := by kernel_rfl
@[simp] theorem qagg_112 : qagg Tryd.prog 112 = some false := by kernel_rfl
@[simp] theorem qzero_112 : qzero Tryd.prog 112 = some V.nf := by kernel_rfl
@[simp] theorem qconcrete_112 : qconcrete Tryd.prog 112 = true := by kernel_rfl
@[simp] theorem qthere_112 : qthere Tryd.prog 112 = true := by kernel_rfl
@[simp] theorem cellsOf_112 : Go.Program.cellsOf Tryd.prog 112 = 1 := by kernel_rfl
@[simp] theorem bytesOf_112 : Go.Program.bytesOf Tryd.prog 112 = 8 := by kernel_rfl
@[simp] theorem qsize_122 : qsize Tryd.prog 122 = some 3 := by kernel_rfl
@[simp] theorem qbytes_122 : qbytes Tryd.prog 122 = some 12 := by kernel_rfl
@[simp] theorem qagg_122 : qagg Tryd.prog 122 = some true := by kernel_rfl
@[simp] theorem qzero_122 : qzero Tryd.prog 122 = some (V.agg [V.i Go.IntKind.i32 (0), V.i Go.IntKind.i32 (0), V.i Go.IntKind.i32 (0)]) := by kernel_rfl
@[simp] theorem qplaces_122 : qplaces Tryd.prog 122 = some [(0, 1), (1, 1), (2, 1)] := by kernel_rfl
@[simp] theorem qconcrete_122 : qconcrete Tryd.prog 122 = true := by kernel_rfl
@[simp] theorem qkey_122 : qkey Tryd.prog 122 = true := by kernel_rfl
@[simp] theorem qthere_122 : qthere Tryd.prog 122 = true := by kernel_rfl
@[simp] theorem qeq_122 : qeq Tryd.prog 122 = some [CK.i Go.IntKind.i32, CK.i Go.IntKind.i32, CK.i Go.IntKind.i32] := by kernel_rfl
@[simp] theorem cellsOf_122 : Go.Program.cellsOf Tryd.prog 122 = 3 := by kernel_rfl
@[simp] theorem bytesOf_122 : Go.Program.bytesOf Tryd.prog 122 = 12 := by kernel_rfl
@[simp] theorem qsize_123 : qsize Tryd.prog 123 = some 18 := by kernel_rfl
@[simp] theorem qbytes_123 : qbytes Tryd.prog 123 = some 72 := by kernel_rfl
@[simp] theorem qagg_123 : qagg Tryd.prog 123 = some true := by kernel_rfl
@[simp] theorem qzero_123 : qzero Tryd.prog 123 = some   (V.agg     [V.i Go.IntKind.i32 (0), V.i Go.IntKind.i32 (0), V.i Go.IntKind.i32 (0),       V.i Go.IntKind.i32 (0), V.i Go.IntKind.i32 (0), V.i Go.IntKind.i32 (0),       V.i Go.IntKind.i32 (0), V.i Go.IntKind.i32 (0), V.i Go.IntKind.i32 (0),       V.i Go.IntKind.i32 (0), V.i Go.IntKind.i32 (0), V.i Go.IntKind.i32 (0),       V.i Go.IntKind.i32 (0), V.i Go.IntKind.i32 (0), V.i Go.IntKind.i32 (0),       V.i Go.IntKind.i32 (0), V.i Go.IntKind.i32 (0), V.i Go.IntKind.i32 (0)]) := by kernel_rfl
@[simp] theorem qconcrete_123 : qconcrete Tryd.prog 123 = true := by kernel_rfl
@[simp] theorem qthere_123 : qthere Tryd.prog 123 = true := by kernel_rfl
@[simp] theorem cellsOf_123 : Go.Program.cellsOf Tryd.prog 123 = 18 := by kernel_rfl
@[simp] theorem bytesOf_123 : Go.Program.bytesOf Tryd.prog 123 = 72 := by kernel_rfl
@[simp] theorem qarr_123 : qarr Tryd.prog 123 = some (6, 122) := by kernel_rfl
@[simp] theorem qsize_127 : qsize Tryd.prog 127 = some 256 := by kernel_rfl
@[simp] theorem qbytes_127 : qbytes Tryd.prog 127 = some 256 := by kernel_rfl
@[simp] theorem qagg_127 : qagg Tryd.prog 127 = some true := by kernel_rfl
@[simp] theorem qzero_127 : qzero Tryd.prog 127 = some   (V.agg     [V.i Go.IntKind.u8 (0), V.i Go.IntKind.u8 (0), V.i Go.IntKind.u8 (0),       V.i Go.IntKind.u8 (0), V.i Go.IntKind.u8 (0), V.i Go.IntKind.u8 (0),       V.i Go.IntKind.u8 (0), V.i Go.IntKind.u8 (0), V.i Go.IntKind.u8 (0),       V.i Go.IntKind.u8 (0), V.i Go.IntKind.u8 (0), V.i Go.IntKind.u8 (0),       V.i Go.IntKind.u8 (0), V.i Go.IntKind.u8 (0), V.i Go.IntKind.u8 (0),       V.i Go.IntKind.u8 (0), V.i Go.IntKind.u8 (0), V.i Go.IntKind.u8 (0),       V.i Go.IntKind.u8 (0), V.i Go.IntKind.u8 (0), V.i Go.IntKind.u8 (0),       V.i Go.IntKind.u8 (0), V.i Go.IntKind.u8 (0), V.i Go.IntKind.u8 (0),       V.i Go.IntKind.u8 (0), V.i Go.IntKind.u8 (0), V.i Go.IntKind.u8 (0),       V.i Go.IntKind.u8 (0), V.i Go.IntKind.u8 (0), V.i Go.IntKind.u8 (0),       V.i Go.IntKind.u8 (0), V.i Go.IntKind.u8 (0), V.i Go.IntKind.u8 (0),       V.i Go.IntKind.u8 (0), V.i Go.IntKind.u8 (0), V.i Go.IntKind.u8 (0),       V.i Go.IntKind.u8 (0), V.i Go.IntKind.u8 (0), V.i Go.IntKind.u8 (0),       V.i Go.IntKind.u8 (0), V.i Go.IntKind.u8 (0), V.i Go.IntKind.u8 (0),       V.i Go.IntKind.u8 (0), V.i Go.IntKind.u8 (0), V.i Go.IntKind.u8 (0),       V.i Go.IntKind.u8 (0), V.i Go.IntKind.u8 (0), V.i Go.IntKind.u8 (0),       V.i Go.IntKind.u8 (0), V.i Go.IntKind.u8 (0), V.i Go.IntKind.u8 (0),       V.i Go.IntKind.u8 (0), V.i Go.IntKind.u8 (0), V.i Go.IntKind.u8 (0),       V.i Go.IntKind.u8 (0), V.i Go.IntKind.u8 (0), V.i Go.IntKind.u8 (0),       V.i Go.IntKind.u8 (0), V.i Go.IntKind.u8 (0), V.i Go.IntKind.u8 (0),       V.i Go.IntKind.u8 (0), V.i Go.IntKind.u8 (0), V.i Go.IntKind.u8 (0),       V.i Go.IntKind.u8 (0), V.i Go.IntKind.u8 (0), V.i Go.IntKind.u8 (0),       V.i Go.IntKind.u8 (0), V.i Go.IntKind.u8 (0), V.i Go.IntKind.u8 (0),       V.i Go.IntKind.u8 (0), V.i Go.IntKind.u8 (0), V.i Go.IntKind.u8 (0),       V.i Go.IntKind.u8 (0), V.i Go.IntKind.u8 (0), V.i Go.IntKind.u8 (0),       V.i Go.IntKind.u8 (0), V.i Go.IntKind.u8 (0), V.i Go.IntKind.u8 (0),       V.i Go.IntKind.u8 (0), V.i Go.IntKind.u8 (0), V.i Go.IntKind.u8 (0),       V.i Go.IntKind.u8 (0), V.i Go.IntKind.u8 (0), V.i Go.IntKind.u8 (0),       V.i Go.IntKind.u8 (0), V.i Go.IntKind.u8 (0), V.i Go.IntKind.u8 (0),       V.i Go.IntKind.u8 (0), V.i Go.IntKind.u8 (0), V.i Go.IntKind.u8 (0),       V.i Go.IntKind.u8 (0), V.i Go.IntKind.u8 (0), V.i Go.IntKind.u8 (0),       V.i Go.IntKind.u8 (0), V.i Go.IntKind.u8 (0), V.i Go.IntKind.u8 (0),       V.i Go.IntKind.u8 (0), V.i Go.IntKind.u8 (0), V.i Go.IntKind.u8 (0),       V.i Go.IntKind.u8 (0), V.i Go.IntKind.u8 (0), V.i Go.IntKind.u8 (0),       V.i Go.IntKind.u8 (0), V.i Go.IntKind.u8 (0), V.i Go.IntKind.u8 (0),       V.i Go.IntKind.u8 (0), V.i Go.IntKind.u8 (0), V.i Go.IntKind.u8 (0),       V.i Go.IntKind.u8 (0), V.i Go.IntKind.u8 (0), V.i Go.IntKind.u8 (0),       V.i Go.IntKind.u8 (0), V.i Go.IntKind.u8 (0), V.i Go.IntKind.u8 (0),       V.i Go.IntKind.u8 (0), V.i Go.IntKind.u8 (0), V.i Go.IntKind.u8 (0),       V.i Go.IntKind.u8 (0), V.i Go.IntKind.u8 (0), V.i Go.IntKind.u8 (0),       V.i Go.IntKind.u8 (0), V.i Go.IntKind.u8 (0), V.i Go.IntKind.u8 (0),       V.i Go.IntKind.u8 (0), V.i Go.IntKind.u8 (0), V.i Go.IntKind.u8 (0),       V.i Go.IntKind.u8 (0), V.i Go.IntKind.u8 (0), V.i Go.IntKind.u8 (0),       V.i Go.IntKind.u8 (0), V.i Go.IntKind.u8 (0), V.i Go.IntKind.u8 (0),       V.i Go.IntKind.u8 (0), V.i Go.IntKind.u8 (0), V.i Go.IntKind.u8 (0),       V.i Go.IntKind.u8 (0), V.i Go.IntKind.u8 (0), V.i Go.IntKind.u8 (0),       V.i Go.IntKind.u8 (0), V.i Go.IntKind.u8 (0), V.i Go.IntKind.u8 (0),       V.i Go.IntKind.u8 (0), V.i Go.IntKind.u8 (0), V.i Go.IntKind.u8 (0),       V.i Go.IntKind.u8 (0), V.i Go.IntKind.u8 (0), V.i Go.IntKind.u8 (0),       V.i Go.IntKind.u8 (0), V.i Go.IntKind.u8 (0), V.i Go.IntKind.u8 (0),       V.i Go.IntKind.u8 (0), V.i Go.IntKind.u8 (0), V.i Go.IntKind.u8 (0),       V.i Go.IntKind.u8 (0), V.i Go.IntKind.u8 (0), V.i Go.IntKind.u8 (0),       V.i Go.IntKind.u8 (0), V.i Go.IntKind.u8 (0), V.i Go.IntKind.u8 (0),       V.i Go.IntKind.u8 (0), V.i Go.IntKind.u8 (0), V.i Go.IntKind.u8 (0),       V.i Go.IntKind.u8 (0), V.i Go.IntKind.u8 (0), V.i Go.IntKind.u8 (0),       V.i Go.IntKind.u8 (0), V.i Go.IntKind.u8 (0), V.i Go.IntKind.u8 (0),       V.i Go.IntKind.u8 (0), V.i Go.IntKind.u8 (0), V.i Go.IntKind.u8 (0),       V.i Go.IntKind.u8 (0), V.i Go.IntKind.u8 (0), V.i Go.IntKind.u8 (0),       V.i Go.IntKind.u8 (0), V.i Go.IntKind.u8 (0), V.i Go.IntKind.u8 (0),       V.i Go.IntKind.u8 (0), V.i Go.IntKind.u8 (0), V.i Go.IntKind.u8 (0),       V.i Go.IntKind.u8 (0), V.i Go.IntKind.u8 (0), V.i Go.IntKind.u8 (0),       V.i Go.IntKind.u8 (0), V.i Go.IntKind.u8 (0), V.i Go.IntKind.u8 (0),       V.i Go.IntKind.u8 (0), V.i Go.IntKind.u8 (0), V.i Go.IntKind.u8 (0),       V.i Go.IntKind.u8 (0), V.i Go.IntKind.u8 (0), V.i Go.IntKind.u8 (0),       V.i Go.IntKind.u8 (0), V.i Go.IntKind.u8 (0), V.i Go.IntKind.u8 (0),       V.i Go.IntKind.u8 (0), V.i Go.IntKind.u8 (0), V.i Go.IntKind.u8 (0),       V.i Go.IntKind.u8 (0), V.i Go.IntKind.u8 (0), V.i Go.IntKind.u8 (0),       V.i Go.IntKind.u8 (0), V.i Go.IntKind.u8 (0), V.i Go.IntKind.u8 (0),       V.i Go.IntKind.u8 (0), V.i Go.IntKind.u8 (0), V.i Go.IntKind.u8 (0),       V.i Go.IntKind.u8 (0), V.i Go.IntKind.u8 (0), V.i Go.IntKind.u8 (0),       V.i Go.IntKind.u8 (0), V.i Go.IntKind.u8 (0), V.i Go.IntKind.u8 (0),       V.i Go.IntKind.u8 (0), V.i Go.IntKind.u8 (0), V.i Go.IntKind.u8 (0),       V.i Go.IntKind.u8 (0), V.i Go.IntKind.u8 (0), V.i Go.IntKind.u8 (0),       V.i Go.IntKind.u8 (0), V.i Go.IntKind.u8 (0), V.i Go.IntKind.u8 (0),       V.i Go.IntKind.u8 (0), V.i Go.IntKind.u8 (0), V.i Go.IntKind.u8 (0),       V.i Go.IntKind.u8 (0), V.i Go.IntKind.u8 (0), V.i Go.IntKind.u8 (0),       V.i Go.IntKind.u8 (0), V.i Go.IntKind.u8 (0), V.i Go.IntKind.u8 (0),       V.i Go.IntKind.u8 (0), V.i Go.IntKind.u8 (0), V.i Go.IntKind.u8 (0),       V.i Go.IntKind.u8 (0), V.i Go.IntKind.u8 (0), V.i Go.IntKind.u8 (0),       V.i Go.IntKind.u8 (0), V.i Go.IntKind.u8 (0), V.i Go.IntKind.u8 (0),       V.i Go.IntKind.u8 (0), V.i Go.IntKind.u8 (0), V.i Go.IntKind.u8 (0),       V.i Go.IntKind.u8 (0), V.i Go.IntKind.u8 (0), V.i Go.IntKind.u8 (0),       V.i Go.IntKind.u8 (0), V.i Go.IntKind.u8 (0), V.i Go.IntKind.u8 (0),       V.i Go.IntKind.u8 (0), V.i Go.IntKind.u8 (0), V.i Go.IntKind.u8 (0),       V.i Go.IntKind.u8 (0), V.i Go.IntKind.u8 (0), V.i Go.IntKind.u8 (0),       V.i Go.IntKind.u8 (0)]) := by kernel_rfl
@[simp] theorem qconcrete_127 : qconcrete Tryd.prog 127 = true := by kernel_rfl
@[simp] theorem qthere_127 : qthere Tryd.prog 127 = true := by kernel_rfl
@[simp] theorem cellsOf_127 : Go.Program.cellsOf Tryd.prog 127 = 256 := by kernel_rfl
@[simp] theorem bytesOf_127 : Go.Program.bytesOf Tryd.prog 127 = 256 := by kernel_rfl
@[simp] theorem qarr_127 : qarr Tryd.prog 127 = some (256, 5) := by kernel_rfl
@[simp] theorem qsize_129 : qsize Tryd.prog 129 = some 2 := by kernel_rfl
@[simp] theorem qbytes_129 : qbytes Tryd.prog 129 = some 2 := by kernel_rfl
@[simp] theorem qagg_129 : qagg Tryd.prog 129 = some true := by kernel_rfl
@[simp] theorem qzero_129 : qzero Tryd.prog 129 = some (V.agg [V.i Go.IntKind.u8 (0), V.i Go.IntKind.u8 (0)]) := by kernel_rfl
@[simp] theorem qplaces_129 : qplaces Tryd.prog 129 = some [(0, 1), (1, 1)] := by kernel_rfl
@[simp] theorem qconcrete_129 : qconcrete Tryd.prog 129 = true := by kernel_rfl
@[simp] theorem qkey_129 : qkey Tryd.prog 129 = true := by kernel_rfl
@[simp] theorem qthere_129 : qthere Tryd.prog 129 = true := by kernel_rfl
@[simp] theorem qeq_129 : qeq Tryd.prog 129 = some [CK.i Go.IntKind.u8, CK.i Go.IntKind.u8] := by kernel_rfl
@[simp] theorem cellsOf_129 : Go.Program.cellsOf Tryd.prog 129 = 2 := by kernel_rfl
@[simp] theorem bytesOf_129 : Go.Program.bytesOf Tryd.prog 129 = 2 := by kernel_rfl
@[simp] theorem qsize_130 : qsize Tryd.prog 130 = some 32 := by kernel_rfl
@[simp] theorem qbytes_130 : qbytes Tryd.prog 130 = some 32 := by kernel_rfl
@[simp] theorem qagg_130 : qagg Tryd.prog 130 = some true := by kernel_rfl
@[simp] theorem qzero_130 : qzero Tryd.prog 130 = some   (V.agg     [V.i Go.IntKind.u8 (0), V.i Go.IntKind.u8 (0), V.i Go.IntKind.u8 (0),       V.i Go.IntKind.u8 (0), V.i Go.IntKind.u8 (0), V.i Go.IntKind.u8 (0),       V.i Go.IntKind.u8 (0), V.i Go.IntKind.u8 (0), V.i Go.IntKind.u8 (0),       V.i Go.IntKind.u8 (0), V.i Go.IntKind.u8 (0), V.i Go.IntKind.u8 (0),       V.i Go.IntKind.u8 (0), V.i Go.IntKind.u8 (0), V.i Go.IntKind.u8 (0),       V.i Go.IntKind.u8 (0), V.i Go.IntKind.u8 (0), V.i Go.IntKind.u8 (0),       V.i Go.IntKind.u8 (0), V.i Go.IntKind.u8 (0), V.i Go.IntKind.u8 (0),       V.i Go.IntKind.u8 (0), V.i Go.IntKind.u8 (0), V.i Go.IntKind.u8 (0),       V.i Go.IntKind.u8 (0), V.i Go.IntKind.u8 (0), V.i Go.IntKind.u8 (0),       V.i Go.IntKind.u8 (0), V.i Go.IntKind.u8 (0), V.i Go.IntKind.u8 (0),       V.i Go.IntKind.u8 (0), V.i Go.IntKind.u8 (0)]) := by kernel_rfl
@[simp] theorem qconcrete_130 : qconcrete Tryd.prog 130 = true := by kernel_rfl
@[simp] theorem qthere_130 : qthere Tryd.prog 130 = true := by kernel_rfl
@[simp] theorem cellsOf_130 : Go.Program.cellsOf Tryd.prog 130 = 32 := by kernel_rfl
@[simp] theorem bytesOf_130 : Go.Program.bytesOf Tryd.prog 130 = 32 := by kernel_rfl
@[simp] theorem qarr_130 : qarr Tryd.prog 130 = some (16, 129) := by kernel_rfl
@[simp] theorem qsize_137 : qsize Tryd.prog 137 = some 1 := by kernel_rfl
@[simp] theorem qbytes_137 : qbytes Tryd.prog 137 = some 1 := by kernel_rfl
@[simp] theorem qagg_137 : qagg Tryd.prog 137 = some false := by kernel_rfl
@[simp] theorem qzero_137 : qzero Tryd.prog 137 = some (V.i Go.IntKind.u8 (0)) := by kernel_rfl
@[simp] theorem qint_137 : qint Tryd.prog 137 = some Go.IntKind.u8 := by kernel_rfl
@[simp] theorem keqi_137 (a c : Int) : keq Tryd.prog 137 (.i Go.IntKind.u8 a) (.i Go.IntKind.u8 c) = some (a == c) := keq_i qint_137
@[simp] theorem qconcrete_137 : qconcrete Tryd.prog 137 = true := by kernel_rfl
@[simp] theorem qkey_137 : qkey Tryd.prog 137 = true := by kernel_rfl
@[simp] theorem qplainKey_137 : qplainKey Tryd.prog 137 = true := by kernel_rfl
@[simp] theorem kf_137 (k : V) : keyFits Tryd.prog 137 k = true := keyFits_plain qplainKey_137
@[simp] theorem qthere_137 : qthere Tryd.prog 137 = true := by kernel_rfl
@[simp] theorem cellsOf_137 : Go.Program.cellsOf Tryd.prog 137 = 1 := by kernel_rfl
@[simp] theorem bytesOf_137 : Go.Program.bytesOf Tryd.prog 137 = 1 := by kernel_rfl
@[simp] theorem qfield_24_0 : qfield Tryd.prog 24 0 = some (0, 1, false) := by kernel_rfl
@[simp] theorem qfield_24_1 : qfield Tryd.prog 24 1 = some (1, 1, false) := by kernel_rfl
@[simp] theorem qfield_24_2 : qfield Tryd.prog 24 2 = some (2, 1, false) := by kernel_rfl
@[simp] theorem qfield_24_3 : qfield Tryd.prog 24 3 = some (3, 1, false) := by kernel_rfl
@[simp] theorem qfield_24_4 : qfield Tryd.prog 24 4 = some (4, 1, false) := by kernel_rfl
@[simp] theorem qfield_24_5 : qfield Tryd.prog 24 5 = some (5, 1, false) := by kernel_rfl
@[simp] theorem qfield_24_6 : qfield Tryd.prog 24 6 = some (6, 1, false) := by kernel_rfl
@[simp] theorem qfield_24_7 : qfield Tryd.prog 24 7 = some (7, 1, false) := by kernel_rfl
@[simp] theorem qfield_26_0 : qfield Tryd.prog 26 0 = some (0, 1, false) := by kernel_rfl
@[simp] theorem qfield_26_1 : qfield Tryd.prog 26 1 = some (1, 1, false) := by kernel_rfl
@[simp] theorem qfield_26_2 : qfield Tryd.prog 26 2 = some (2, 8, true) := by kernel_rfl
@[simp] theorem qfield_30_0 : qfield Tryd.prog 30 0 = some (0, 1, false) := by kernel_rfl
@[simp] theorem qfield_30_1 : qfield Tryd.prog 30 1 = some (1, 1, false) := by kernel_rfl
@[simp] theorem qfield_30_2 : qfield Tryd.prog 30 2 = some (2, 1, false) := by kernel_rfl
@[simp] theorem qfield_30_3 : qfield Tryd.prog 30 3 = some (3, 1, false) := by kernel_rfl
@[simp] theorem qfield_30_4 : qfield Tryd.prog 30 4 = some (4, 8, true) := by kernel_rfl
@[simp] theorem qfield_30_5 : qfield Tryd.prog 30 5 = some (12, 1, false) := by kernel_rfl
@[simp] theorem qfield_30_6 : qfield Tryd.prog 30 6 = some (13, 1, false) := by kernel_rfl
@[simp] theorem qfield_32_0 : qfield Tryd.prog 32 0 = some (0, 1, false) := by kernel_rfl
@[simp] theorem qfield_32_1 : qfield Tryd.prog 32 1 = some (1, 1, false) := by kernel_rfl
@[simp] theorem qfield_32_2 : qfield Tryd.prog 32 2 = some (2, 1, false) := by kernel_rfl
@[simp] theorem qfield_32_3 : qfield Tryd.prog 32 3 = some (3, 1, false) := by kernel_rfl
@[simp] theorem qfield_32_4 : qfield Tryd.prog 32 4 = some (4, 1, false) := by kernel_rfl
@[simp] theorem qfield_32_5 : qfield Tryd.prog 32 5 = some (5, 1, false) := by kernel_rfl
@[simp] theorem qfield_32_6 : qfield Tryd.prog 32 6 = some (6, 1, false) := by kernel_rfl
@[simp] theorem qfield_34_0 : qfield Tryd.prog 34 0 = some (0, 1, false) := by kernel_rfl
@[simp] theorem qfield_34_1 : qfield Tryd.prog 34 1 = some (1, 1, false) := by kernel_rfl
@[simp] theorem qfield_34_2 : qfield Tryd.prog 34 2 = some (2, 1, false) := by kernel_rfl
@[simp] theorem qfield_34_3 : qfield Tryd.prog 34 3 = some (3, 1, false) := by kernel_rfl
@[simp] theorem qfield_34_4 : qfield Tryd.prog 34 4 = some (4, 1, false) := by kernel_rfl
@[simp] theorem qfield_34_5 : qfield Tryd.prog 34 5 = some (5, 8, true) := by kernel_rfl
@[simp] theorem qfield_34_6 : qfield Tryd.prog 34 6 = some (13, 10, true) := by kernel_rfl
@[simp] theorem qfield_34_7 : qfield Tryd.prog 34 7 = some (23, 1, false) := by kernel_rfl
@[simp] theorem qfield_34_8 : qfield Tryd.prog 34 8 = some (24, 14, true) := by kernel_rfl
@[simp] theorem qfield_34_9 : qfield Tryd.prog 34 9 = some (38, 7, true) := by kernel_rfl
@[simp] theorem qfield_40_0 : qfield Tryd.prog 40 0 = some (0, 1, false) := by kernel_rfl
@[simp] theorem qfield_40_1 : qfield Tryd.prog 40 1 = some (1, 1, false) := by kernel_rfl
@[simp] theorem qfield_40_2 : qfield Tryd.prog 40 2 = some (2, 1, false) := by kernel_rfl
@[simp] theorem qfield_40_3 : qfield Tryd.prog 40 3 = some (3, 1, false) := by kernel_rfl
@[simp] theorem qfield_40_4 : qfield Tryd.prog 40 4 = some (4, 1, false) := by kernel_rfl
@[simp] theorem qfield_40_5 : qfield Tryd.prog 40 5 = some (5, 8, true) := by kernel_rfl
@[simp] theorem qfield_40_6 : qfield Tryd.prog 40 6 = some (13, 10, true) := by kernel_rfl
@[simp] theorem qfield_40_7 : qfield Tryd.prog 40 7 = some (23, 1, false) := by kernel_rfl
@[simp] theorem qfield_40_8 : qfield Tryd.prog 40 8 = some (24, 14, true) := by kernel_rfl
@[simp] theorem qfield_40_9 : qfield Tryd.prog 40 9 = some (38, 7, true) := by kernel_rfl
@[simp] theorem qfield_88_0 : qfield Tryd.prog 88 0 = some (0, 1, false) := by kernel_rfl
@[simp] theorem qfield_88_1 : qfield Tryd.prog 88 1 = some (1, 1, false) := by kernel_rfl
@[simp] theorem qfield_122_0 : qfield Tryd.prog 122 0 = some (0, 1, false) := by kernel_rfl
@[simp] theorem qfield_122_1 : qfield Tryd.prog 122 1 = some (1, 1, false) := by kernel_rfl
@[simp] theorem qfield_122_2 : qfield Tryd.prog 122 2 = some (2, 1, false) := by kernel_rfl
@[simp] theorem qfield_129_0 : qfield Tryd.prog 129 0 = some (0, 1, false) := by kernel_rfl
@[simp] theorem qfield_129_1 : qfield Tryd.prog 129 1 = some (1, 1, false) := by kernel_rfl
/-- 13 operations, 14 nodes, looks at memory: true -/
def pl_4_5 : Plan := .take 0 (.take 1 (.take 3 (.take 4 (.alt 2 true (.alt 5 true (.take 6 (.take 7 (.take 8 (.take 9 (.alt 10 true (.take 11 (.take 12 (.done))) (.stop)))))) (.stop)) (.stop)))))
def pe_4_5 : Bool := true
/-- 11 operations, 12 nodes, looks at memory: false -/
def pl_5_8 : Plan := .take 0 (.alt 1 false (.take 2 (.take 3 (.take 4 (.take 5 (.take 6 (.take 7 (.alt 8 false (.take 9 (.take 10 (.done))) (.stop)))))))) (.stop))
def pe_5_8 : Bool := false
/-- 8 operations, 9 nodes, looks at memory: true -/
def pl_8_10 : Plan := .take 0 (.take 1 (.take 2 (.take 3 (.alt 4 true (.take 5 (.take 6 (.alt 7 false (.done) (.stop)))) (.stop)))))
def pe_8_10 : Bool := true
/-- 8 operations, 9 nodes, looks at memory: true -/
def pl_8_13 : Plan := .take 0 (.take 1 (.take 2 (.take 3 (.alt 4 true (.take 5 (.take 6 (.alt 7 false (.done) (.stop)))) (.stop)))))
def pe_8_13 : Bool := true
/-- 14 operations, 15 nodes, looks at memory: true -/
def pl_8_16 : Plan := .take 0 (.take 1 (.take 2 (.take 3 (.take 4 (.take 5 (.take 6 (.take 7 (.take 8 (.alt 9 true (.alt 10 true (.take 11 (.take 12 (.alt 13 true (.done) (.stop)))) (.stop)) (.stop))))))))))
def pe_8_16 : Bool := true
/-- 9 operations, 10 nodes, looks at memory: true -/
def pl_8_17 : Plan := .take 0 (.take 1 (.take 2 (.take 3 (.take 4 (.alt 5 true (.take 6 (.take 7 (.alt 8 false (.done) (.stop)))) (.stop))))))
def pe_8_17 : Bool := true
/-- 14 operations, 15 nodes, looks at memory: true -/
def pl_8_20 : Plan := .take 0 (.take 1 (.take 2 (.take 3 (.take 4 (.take 5 (.take 6 (.take 7 (.take 8 (.alt 9 true (.alt 10 true (.take 11 (.take 12 (.alt 13 true (.done) (.stop)))) (.stop)) (.stop))))))))))
def pe_8_20 : Bool := true
/-- 8 operations, 9 nodes, looks at memory: true -/
def pl_8_28 : Plan := .take 0 (.take 1 (.take 2 (.take 3 (.alt 4 true (.take 5 (.take 6 (.alt 7 false (.done) (.stop)))) (.stop)))))
def pe_8_28 : Bool := true
/-- 7 operations, 8 nodes, looks at memory: true -/
def pl_8_34 : Plan := .take 0 (.take 1 (.alt 2 true (.alt 3 true (.take 4 (.take 5 (.alt 6 false (.done) (.stop)))) (.stop)) (.stop)))
def pe_8_34 : Bool := true
/-- 7 operations, 8 nodes, looks at memory: true -/
def pl_14_8 : Plan := .take 0 (.take 1 (.take 2 (.take 3 (.take 4 (.alt 5 false (.take 6 (.done)) (.stop))))))
def pe_14_8 : Bool := true
/-- 9 operations, 10 nodes, looks at memory: true -/
def pl_14_21 : Plan := .take 0 (.take 1 (.take 2 (.take 3 (.take 4 (.alt 5 true (.alt 6 false (.take 7 (.take 8 (.done))) (.stop)) (.stop))))))
def pe_14_21 : Bool := true
/-- 8 operations, 9 nodes, looks at memory: true -/
def pl_17_1 : Plan := .take 0 (.take 1 (.take 2 (.alt 3 true (.alt 4 true (.take 5 (.take 6 (.alt 7 true (.done) (.stop)))) (.stop)) (.stop))))
def pe_17_1 : Bool := true
/-- 7 operations, 8 nodes, looks at memory: true -/
def pl_17_2 : Plan := .take 0 (.take 1 (.take 2 (.alt 3 true (.take 4 (.take 5 (.alt 6 false (.done) (.stop)))) (.stop))))
def pe_17_2 : Bool := true
/-- 11 operations, 12 nodes, looks at memory: true -/
def pl_19_17 : Plan := .take 0 (.take 1 (.take 2 (.take 3 (.take 4 (.take 5 (.take 6 (.take 7 (.alt 8 false (.take 9 (.take 10 (.done))) (.stop)))))))))
def pe_19_17 : Bool := true
/-- 12 operations, 13 nodes, looks at memory: true -/
def pl_19_19 : Plan := .take 0 (.take 1 (.take 2 (.take 3 (.take 4 (.take 5 (.take 6 (.take 7 (.take 8 (.alt 9 false (.take 10 (.take 11 (.done))) (.stop))))))))))
def pe_19_19 : Bool := true
/-- 11 operations, 12 nodes, looks at memory: true -/
def pl_19_21 : Plan := .take 0 (.take 1 (.take 2 (.take 3 (.take 4 (.take 5 (.take 6 (.take 7 (.alt 8 false (.take 9 (.take 10 (.done))) (.stop)))))))))
def pe_19_21 : Bool := true
/-- 14 operations, 15 nodes, looks at memory: true -/
def pl_24_20 : Plan := .take 0 (.take 1 (.take 2 (.take 3 (.take 4 (.take 6 (.take 7 (.alt 5 true (.alt 8 true (.take 9 (.alt 10 true (.alt 11 false (.take 12 (.alt 13 false (.done) (.stop))) (.stop)) (.stop))) (.stop)) (.stop))))))))
def pe_24_20 : Bool := true
/-- 9 operations, 10 nodes, looks at memory: true -/
def pl_26_6 : Plan := .take 0 (.take 1 (.take 2 (.take 3 (.take 4 (.take 5 (.take 6 (.take 7 (.take 8 (.done)))))))))
def pe_26_6 : Bool := true
/-- 11 operations, 12 nodes, looks at memory: true -/
def pl_28_6 : Plan := .take 0 (.take 1 (.take 2 (.take 3 (.take 4 (.take 5 (.take 6 (.take 7 (.take 8 (.take 9 (.take 10 (.done)))))))))))
def pe_28_6 : Bool := true
/-- 9 operations, 10 nodes, looks at memory: true -/
def pl_29_6 : Plan := .take 0 (.take 1 (.take 2 (.take 3 (.take 4 (.take 5 (.take 6 (.take 7 (.take 8 (.done)))))))))
def pe_29_6 : Bool := true
/-- 27 operations, 28 nodes, looks at memory: true -/
def pl_33_4 : Plan := .take 0 (.alt 1 true (.take 2 (.take 3 (.take 4 (.take 5 (.take 6 (.take 7 (.take 8 (.take 9 (.take 10 (.take 11 (.take 12 (.take 13 (.take 14 (.take 15 (.take 16 (.take 17 (.take 18 (.take 19 (.take 20 (.take 21 (.take 22 (.take 23 (.take 24 (.take 25 (.take 26 (.done)))))))))))))))))))))))))) (.stop))
def pe_33_4 : Bool := true
/-- 12 operations, 13 nodes, looks at memory: true -/
def pl_35_1 : Plan := .take 0 (.take 1 (.take 2 (.take 3 (.take 5 (.take 6 (.take 7 (.take 8 (.alt 4 true (.alt 9 false (.take 10 (.take 11 (.done))) (.stop)) (.stop)))))))))
def pe_35_1 : Bool := true
/-- 16 operations, 17 nodes, looks at memory: true -/
def pl_36_14 : Plan := .take 0 (.take 1 (.take 2 (.take 3 (.take 4 (.take 5 (.take 6 (.take 7 (.take 8 (.alt 9 true (.take 10 (.alt 11 true (.take 12 (.alt 13 true (.take 14 (.alt 15 false (.done) (.stop))) (.stop))) (.stop))) (.stop))))))))))
def pe_36_14 : Bool := true
/-- 16 operations, 17 nodes, looks at memory: true -/
def pl_44_2 : Plan := .take 0 (.take 2 (.take 4 (.take 6 (.alt 1 true (.take 8 (.alt 3 true (.alt 5 true (.alt 7 true (.alt 9 true (.take 10 (.alt 11 true (.take 12 (.alt 13 true (.take 14 (.alt 15 false (.done) (.stop))) (.stop))) (.stop))) (.stop)) (.stop)) (.stop)) (.stop))) (.stop)))))
def pe_44_2 : Bool := true
/-- 9 operations, 10 nodes, looks at memory: true -/
def pl_48_6 : Plan := .take 0 (.take 1 (.take 2 (.take 3 (.take 4 (.take 5 (.take 6 (.take 7 (.take 8 (.done)))))))))
def pe_48_6 : Bool := true
/-- 9 operations, 10 nodes, looks at memory: true -/
def pl_49_6 : Plan := .take 0 (.take 1 (.take 2 (.take 3 (.take 4 (.take 5 (.take 6 (.take 7 (.take 8 (.done)))))))))
def pe_49_6 : Bool := true
/-- 15 operations, 16 nodes, looks at memory: true -/
def pl_53_2 : Plan := .take 0 (.take 1 (.take 2 (.take 3 (.take 4 (.take 5 (.take 6 (.take 7 (.take 8 (.take 9 (.take 10 (.take 11 (.take 12 (.take 13 (.take 14 (.done)))))))))))))))
def pe_53_2 : Bool := true
/-- 7 operations, 8 nodes, looks at memory: true -/
def pl_53_5 : Plan := .take 0 (.take 1 (.take 2 (.take 3 (.take 4 (.alt 5 false (.take 6 (.done)) (.stop))))))
def pe_53_5 : Bool := true
/-- 42 operations, 43 nodes, looks at memory: true -/
def pl_53_6 : Plan := .take 0 (.alt 1 true (.take 2 (.take 3 (.take 4 (.take 5 (.take 6 (.take 7 (.take 8 (.take 9 (.alt 10 true (.take 11 (.take 12 (.take 13 (.take 14 (.take 15 (.take 16 (.take 17 (.take 18 (.take 19 (.take 20 (.take 21 (.take 22 (.take 23 (.take 24 (.take 25 (.take 26 (.take 27 (.take 28 (.take 29 (.take 30 (.take 31 (.take 32 (.take 33 (.take 34 (.take 35 (.take 36 (.take 37 (.take 38 (.take 39 (.take 40 (.take 41 (.done)))))))))))))))))))))))))))))))) (.stop)))))))))) (.stop))
def pe_53_6 : Bool := true
/-- 30 operations, 31 nodes, looks at memory: true -/
def pl_54_6 : Plan := .take 0 (.alt 1 true (.take 2 (.take 3 (.take 4 (.take 5 (.take 6 (.take 7 (.take 8 (.take 9 (.take 10 (.take 11 (.take 12 (.take 13 (.take 14 (.take 15 (.take 16 (.take 17 (.take 18 (.take 19 (.take 20 (.take 21 (.take 22 (.take 23 (.take 24 (.take 25 (.take 26 (.take 27 (.take 28 (.take 29 (.done))))))))))))))))))))))))))))) (.stop))
def pe_54_6 : Bool := true
/-- 8 operations, 9 nodes, looks at memory: true -/
def pl_67_1 : Plan := .take 0 (.take 2 (.take 3 (.take 4 (.alt 1 true (.alt 5 true (.take 6 (.alt 7 false (.done) (.stop))) (.stop)) (.stop)))))
def pe_67_1 : Bool := true
/-- 19 operations, 20 nodes, looks at memory: false -/
def pl_73_1 : Plan := .take 0 (.take 1 (.take 2 (.take 3 (.take 4 (.take 5 (.take 6 (.take 7 (.take 8 (.take 9 (.take 10 (.take 11 (.take 12 (.take 13 (.take 14 (.take 15 (.take 16 (.take 17 (.take 18 (.done)))))))))))))))))))
def pe_73_1 : Bool := false
instance : Laid Tryd.prog := ⟨utf8Tabs 0 1⟩
def planTab : PlanTab := [(4, [(5, pe_4_5, Mode.ext, pl_4_5)]), (5, [(8, pe_5_8, Mode.ext, pl_5_8)]), (8, [(10, pe_8_10, Mode.ext, pl_8_10), (13, pe_8_13, Mode.ext, pl_8_13), (16, pe_8_16, Mode.ext, pl_8_16), (17, pe_8_17, Mode.ext, pl_8_17), (20, pe_8_20, Mode.ext, pl_8_20), (28, pe_8_28, Mode.ext, pl_8_28), (34, pe_8_34, Mode.ext, pl_8_34)]), (14, [(8, pe_14_8, Mode.ext, pl_14_8), (21, pe_14_21, Mode.ext, pl_14_21)]), (17, [(1, pe_17_1, Mode.ext, pl_17_1), (2, pe_17_2, Mode.ext, pl_17_2)]), (19, [(17, pe_19_17, Mode.ext, pl_19_17), (19, pe_19_19, Mode.ext, pl_19_19), (21, pe_19_21, Mode.ext, pl_19_21)]), (24, [(20, pe_24_20, Mode.ext, pl_24_20)]), (26, [(6, pe_26_6, Mode.ext, pl_26_6)]), (28, [(6, pe_28_6, Mode.ext, pl_28_6)]), (29, [(6, pe_29_6, Mode.ext, pl_29_6)]), (33, [(4, pe_33_4, Mode.ext, pl_33_4)]), (35, [(1, pe_35_1, Mode.ext, pl_35_1)]), (36, [(14, pe_36_14, Mode.only [1], pl_36_14)]), (44, [(2, pe_44_2, Mode.only [1], pl_44_2)]), (48, [(6, pe_48_6, Mode.ext, pl_48_6)]), (49, [(6, pe_49_6, Mode.ext, pl_49_6)]), (53, [(2, pe_53_2, Mode.ext, pl_53_2), (5, pe_53_5, Mode.ext, pl_53_5), (6, pe_53_6, Mode.ext, pl_53_6)]), (54, [(6, pe_54_6, Mode.ext, pl_54_6)]), (67, [(1, pe_67_1, Mode.ext, pl_67_1)]), (73, [(1, pe_73_1, Mode.ext, pl_73_1)])]
end Go.Proofs.YtfhbdbjgmcopjaaDoor
