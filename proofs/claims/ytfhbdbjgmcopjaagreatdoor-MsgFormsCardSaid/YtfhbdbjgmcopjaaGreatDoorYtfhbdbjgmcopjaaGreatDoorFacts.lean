/-
  Facts about this program's types, by program.
-/
import Derived.Test.YtfhbdbjgmcopjaaGreatDoorAbsC
import Derived.Test.YtfhbdbjgmcopjaaGreatDoorProg
set_option linter.unusedVariables false
namespace Go.Proofs.YtfhbdbjgmcopjaaGreatDoor
open Go Go.Abs Go.Proofs
@[simp] theorem qsize_2 : qsize Tryz.prog 2 = some 1 := by kernel_rfl
@[simp] theorem qbytes_2 : qbytes Tryz.prog 2 = some 8 := by kernel_rfl
@[simp] theorem qagg_2 : qagg Tryz.prog 2 = some false := by kernel_rfl
@[simp] theorem qzero_2 : qzero Tryz.prog 2 = some (V.i Go.IntKind.i64 (0)) := by kernel_rfl
@[simp] theorem qint_2 : qint Tryz.prog 2 = some Go.IntKind.i64 := by kernel_rfl
@[simp] theorem keqi_2 (a c : Int) : keq Tryz.prog 2 (.i Go.IntKind.i64 a) (.i Go.IntKind.i64 c) = some (a == c) := keq_i qint_2
@[simp] theorem qconcrete_2 : qconcrete Tryz.prog 2 = true := by kernel_rfl
@[simp] theorem qkey_2 : qkey Tryz.prog 2 = true := by kernel_rfl
@[simp] theorem qplainKey_2 : qplainKey Tryz.prog 2 = true := by kernel_rfl
@[simp] theorem kf_2 (k : V) : keyFits Tryz.prog 2 k = true := keyFits_plain qplainKey_2
@[simp] theorem qthere_2 : qthere Tryz.prog 2 = true := by kernel_rfl
@[simp] theorem cellsOf_2 : Go.Program.cellsOf Tryz.prog 2 = 1 := by kernel_rfl
@[simp] theorem bytesOf_2 : Go.Program.bytesOf Tryz.prog 2 = 8 := by kernel_rfl
@[simp] theorem qsize_3 : qsize Tryz.prog 3 = some 1 := by kernel_rfl
@[simp] theorem qbytes_3 : qbytes Tryz.prog 3 = some 8 := by kernel_rfl
@[simp] theorem qagg_3 : qagg Tryz.prog 3 = some false := by kernel_rfl
@[simp] theorem qzero_3 : qzero Tryz.prog 3 = some (V.i Go.IntKind.i64 (0)) := by kernel_rfl
@[simp] theorem qint_3 : qint Tryz.prog 3 = some Go.IntKind.i64 := by kernel_rfl
@[simp] theorem keqi_3 (a c : Int) : keq Tryz.prog 3 (.i Go.IntKind.i64 a) (.i Go.IntKind.i64 c) = some (a == c) := keq_i qint_3
@[simp] theorem qconcrete_3 : qconcrete Tryz.prog 3 = true := by kernel_rfl
@[simp] theorem qkey_3 : qkey Tryz.prog 3 = true := by kernel_rfl
@[simp] theorem qplainKey_3 : qplainKey Tryz.prog 3 = true := by kernel_rfl
@[simp] theorem kf_3 (k : V) : keyFits Tryz.prog 3 k = true := keyFits_plain qplainKey_3
@[simp] theorem qthere_3 : qthere Tryz.prog 3 = true := by kernel_rfl
@[simp] theorem cellsOf_3 : Go.Program.cellsOf Tryz.prog 3 = 1 := by kernel_rfl
@[simp] theorem bytesOf_3 : Go.Program.bytesOf Tryz.prog 3 = 8 := by kernel_rfl
@[simp] theorem qsize_4 : qsize Tryz.prog 4 = some 1 := by kernel_rfl
@[simp] theorem qbytes_4 : qbytes Tryz.prog 4 = some 1 := by kernel_rfl
@[simp] theorem qagg_4 : qagg Tryz.prog 4 = some false := by kernel_rfl
@[simp] theorem qzero_4 : qzero Tryz.prog 4 = some (V.b false) := by kernel_rfl
@[simp] theorem qconcrete_4 : qconcrete Tryz.prog 4 = true := by kernel_rfl
@[simp] theorem qbool_4 : qbool Tryz.prog 4 = true := by kernel_rfl
@[simp] theorem bb_4 (x y : Bool) : aeq Tryz.prog 4 (.b x) (.b y) = some (x == y) := aeq_bb qbool_4
@[simp] theorem qthere_4 : qthere Tryz.prog 4 = true := by kernel_rfl
@[simp] theorem cellsOf_4 : Go.Program.cellsOf Tryz.prog 4 = 1 := by kernel_rfl
@[simp] theorem bytesOf_4 : Go.Program.bytesOf Tryz.prog 4 = 1 := by kernel_rfl
@[simp] theorem qsize_5 : qsize Tryz.prog 5 = some 1 := by kernel_rfl
@[simp] theorem qbytes_5 : qbytes Tryz.prog 5 = some 1 := by kernel_rfl
@[simp] theorem qagg_5 : qagg Tryz.prog 5 = some false := by kernel_rfl
@[simp] theorem qzero_5 : qzero Tryz.prog 5 = some (V.i Go.IntKind.u8 (0)) := by kernel_rfl
@[simp] theorem qint_5 : qint Tryz.prog 5 = some Go.IntKind.u8 := by kernel_rfl
@[simp] theorem keqi_5 (a c : Int) : keq Tryz.prog 5 (.i Go.IntKind.u8 a) (.i Go.IntKind.u8 c) = some (a == c) := keq_i qint_5
@[simp] theorem qconcrete_5 : qconcrete Tryz.prog 5 = true := by kernel_rfl
@[simp] theorem qkey_5 : qkey Tryz.prog 5 = true := by kernel_rfl
@[simp] theorem qplainKey_5 : qplainKey Tryz.prog 5 = true := by kernel_rfl
@[simp] theorem kf_5 (k : V) : keyFits Tryz.prog 5 k = true := keyFits_plain qplainKey_5
@[simp] theorem qthere_5 : qthere Tryz.prog 5 = true := by kernel_rfl
@[simp] theorem cellsOf_5 : Go.Program.cellsOf Tryz.prog 5 = 1 := by kernel_rfl
@[simp] theorem bytesOf_5 : Go.Program.bytesOf Tryz.prog 5 = 1 := by kernel_rfl
@[simp] theorem qsize_8 : qsize Tryz.prog 8 = some 4 := by kernel_rfl
@[simp] theorem qbytes_8 : qbytes Tryz.prog 8 = some 24 := by kernel_rfl
@[simp] theorem qagg_8 : qagg Tryz.prog 8 = some true := by kernel_rfl
@[simp] theorem qzero_8 : qzero Tryz.prog 8 = some   (V.agg     [V.i Go.IntKind.i64 (0), V.i Go.IntKind.i64 (0), V.b false, V.i Go.IntKind.u8 (0)]) := by kernel_rfl
@[simp] theorem qplaces_8 : qplaces Tryz.prog 8 = some [(0, 1), (1, 1), (2, 1), (3, 1)] := by kernel_rfl
@[simp] theorem qconcrete_8 : qconcrete Tryz.prog 8 = true := by kernel_rfl
@[simp] theorem qkey_8 : qkey Tryz.prog 8 = true := by kernel_rfl
@[simp] theorem qthere_8 : qthere Tryz.prog 8 = true := by kernel_rfl
@[simp] theorem qeq_8 : qeq Tryz.prog 8 = some [CK.i Go.IntKind.i64, CK.i Go.IntKind.i64, CK.b, CK.i Go.IntKind.u8] := by kernel_rfl
@[simp] theorem cellsOf_8 : Go.Program.cellsOf Tryz.prog 8 = 4 := by kernel_rfl
@[simp] theorem bytesOf_8 : Go.Program.bytesOf Tryz.prog 8 = 24 := by kernel_rfl
@[simp] theorem qsize_9 : qsize Tryz.prog 9 = some 1 := by kernel_rfl
@[simp] theorem qbytes_9 : qbytes Tryz.prog 9 = some 16 := by kernel_rfl
@[simp] theorem qagg_9 : qagg Tryz.prog 9 = some false := by kernel_rfl
@[simp] theorem qzero_9 : qzero Tryz.prog 9 = some (V.s []) := by kernel_rfl
@[simp] theorem qstr_9 : qstr Tryz.prog 9 = true := by kernel_rfl
@[simp] theorem keqs_9 (a c : List UInt8) : keq Tryz.prog 9 (.s a) (.s c) = some (a == c) := keq_s qstr_9
@[simp] theorem qconcrete_9 : qconcrete Tryz.prog 9 = true := by kernel_rfl
@[simp] theorem qkey_9 : qkey Tryz.prog 9 = true := by kernel_rfl
@[simp] theorem qsrc_9 : qsrc Tryz.prog 9 = true := by kernel_rfl
@[simp] theorem qplainKey_9 : qplainKey Tryz.prog 9 = true := by kernel_rfl
@[simp] theorem kf_9 (k : V) : keyFits Tryz.prog 9 k = true := keyFits_plain qplainKey_9
@[simp] theorem qthere_9 : qthere Tryz.prog 9 = true := by kernel_rfl
@[simp] theorem cellsOf_9 : Go.Program.cellsOf Tryz.prog 9 = 1 := by kernel_rfl
@[simp] theorem bytesOf_9 : Go.Program.bytesOf Tryz.prog 9 = 16 := by kernel_rfl
@[simp] theorem qsize_10 : qsize Tryz.prog 10 = some 1 := by kernel_rfl
@[simp] theorem qbytes_10 : qbytes Tryz.prog 10 = some 16 := by kernel_rfl
@[simp] theorem qagg_10 : qagg Tryz.prog 10 = some false := by kernel_rfl
@[simp] theorem qzero_10 : qzero Tryz.prog 10 = some (V.s []) := by kernel_rfl
@[simp] theorem qstr_10 : qstr Tryz.prog 10 = true := by kernel_rfl
@[simp] theorem keqs_10 (a c : List UInt8) : keq Tryz.prog 10 (.s a) (.s c) = some (a == c) := keq_s qstr_10
@[simp] theorem qconcrete_10 : qconcrete Tryz.prog 10 = true := by kernel_rfl
@[simp] theorem qkey_10 : qkey Tryz.prog 10 = true := by kernel_rfl
@[simp] theorem qsrc_10 : qsrc Tryz.prog 10 = true := by kernel_rfl
@[simp] theorem qplainKey_10 : qplainKey Tryz.prog 10 = true := by kernel_rfl
@[simp] theorem kf_10 (k : V) : keyFits Tryz.prog 10 k = true := keyFits_plain qplainKey_10
@[simp] theorem qthere_10 : qthere Tryz.prog 10 = true := by kernel_rfl
@[simp] theorem cellsOf_10 : Go.Program.cellsOf Tryz.prog 10 = 1 := by kernel_rfl
@[simp] theorem bytesOf_10 : Go.Program.bytesOf Tryz.prog 10 = 16 := by kernel_rfl
@[simp] theorem qsize_11 : qsize Tryz.prog 11 = some 1 := by kernel_rfl
@[simp] theorem qbytes_11 : qbytes Tryz.prog 11 = some 16 := by kernel_rfl
@[simp] theorem qagg_11 : qagg Tryz.prog 11 = some false := by kernel_rfl
@[simp] theorem qzero_11 : qzero Tryz.prog 11 = some (V.s []) := by kernel_rfl
@[simp] theorem qstr_11 : qstr Tryz.prog 11 = true := by kernel_rfl
@[simp] theorem keqs_11 (a c : List UInt8) : keq Tryz.prog 11 (.s a) (.s c) = some (a == c) := keq_s qstr_11
@[simp] theorem qconcrete_11 : qconcrete Tryz.prog 11 = true := by kernel_rfl
@[simp] theorem qkey_11 : qkey Tryz.prog 11 = true := by kernel_rfl
@[simp] theorem qsrc_11 : qsrc Tryz.prog 11 = true := by kernel_rfl
@[simp] theorem qplainKey_11 : qplainKey Tryz.prog 11 = true := by kernel_rfl
@[simp] theorem kf_11 (k : V) : keyFits Tryz.prog 11 k = true := keyFits_plain qplainKey_11
@[simp] theorem qthere_11 : qthere Tryz.prog 11 = true := by kernel_rfl
@[simp] theorem cellsOf_11 : Go.Program.cellsOf Tryz.prog 11 = 1 := by kernel_rfl
@[simp] theorem bytesOf_11 : Go.Program.bytesOf Tryz.prog 11 = 16 := by kernel_rfl
@[simp] theorem qsize_14 : qsize Tryz.prog 14 = some 2 := by kernel_rfl
@[simp] theorem qbytes_14 : qbytes Tryz.prog 14 = some 24 := by kernel_rfl
@[simp] theorem qagg_14 : qagg Tryz.prog 14 = some true := by kernel_rfl
@[simp] theorem qzero_14 : qzero Tryz.prog 14 = some (V.agg [V.s [], V.i Go.IntKind.u64 (0)]) := by kernel_rfl
@[simp] theorem qplaces_14 : qplaces Tryz.prog 14 = some [(0, 1), (1, 1)] := by kernel_rfl
@[simp] theorem qconcrete_14 : qconcrete Tryz.prog 14 = true := by kernel_rfl
@[simp] theorem qthere_14 : qthere Tryz.prog 14 = true := by kernel_rfl
@[simp] theorem cellsOf_14 : Go.Program.cellsOf Tryz.prog 14 = 2 := by kernel_rfl
@[simp] theorem bytesOf_14 : Go.Program.bytesOf Tryz.prog 14 = 24 := by kernel_rfl
@[simp] theorem qsize_15 : qsize Tryz.prog 15 = some 1 := by kernel_rfl
@[simp] theorem qbytes_15 : qbytes Tryz.prog 15 = some 8 := by kernel_rfl
@[simp] theorem qagg_15 : qagg Tryz.prog 15 = some false := by kernel_rfl
@[simp] theorem qzero_15 : qzero Tryz.prog 15 = some (V.p none) := by kernel_rfl
@[simp] theorem qconcrete_15 : qconcrete Tryz.prog 15 = true := by kernel_rfl
@[simp] theorem qptr_15 : qptr Tryz.prog 15 = true := by kernel_rfl
@[simp] theorem pnn_15 : aeq Tryz.prog 15 (.p none) (.p none) = some true := aeq_pnn qptr_15
@[simp] theorem psn_15 (q : Nat × Nat × Nat) : aeq Tryz.prog 15 (.p (some q)) (.p none) = some false := aeq_psn qptr_15
@[simp] theorem qthere_15 : qthere Tryz.prog 15 = true := by kernel_rfl
@[simp] theorem cellsOf_15 : Go.Program.cellsOf Tryz.prog 15 = 1 := by kernel_rfl
@[simp] theorem bytesOf_15 : Go.Program.bytesOf Tryz.prog 15 = 8 := by kernel_rfl
@[simp] theorem qsize_16 : qsize Tryz.prog 16 = some 1 := by kernel_rfl
@[simp] theorem qbytes_16 : qbytes Tryz.prog 16 = some 8 := by kernel_rfl
@[simp] theorem qagg_16 : qagg Tryz.prog 16 = some false := by kernel_rfl
@[simp] theorem qzero_16 : qzero Tryz.prog 16 = some (V.p none) := by kernel_rfl
@[simp] theorem qconcrete_16 : qconcrete Tryz.prog 16 = true := by kernel_rfl
@[simp] theorem qptr_16 : qptr Tryz.prog 16 = true := by kernel_rfl
@[simp] theorem pnn_16 : aeq Tryz.prog 16 (.p none) (.p none) = some true := aeq_pnn qptr_16
@[simp] theorem psn_16 (q : Nat × Nat × Nat) : aeq Tryz.prog 16 (.p (some q)) (.p none) = some false := aeq_psn qptr_16
@[simp] theorem qthere_16 : qthere Tryz.prog 16 = true := by kernel_rfl
@[simp] theorem cellsOf_16 : Go.Program.cellsOf Tryz.prog 16 = 1 := by kernel_rfl
@[simp] theorem bytesOf_16 : Go.Program.bytesOf Tryz.prog 16 = 8 := by kernel_rfl
@[simp] theorem qsize_17 : qsize Tryz.prog 17 = some 1 := by kernel_rfl
@[simp] theorem qbytes_17 : qbytes Tryz.prog 17 = some 8 := by kernel_rfl
@[simp] theorem qagg_17 : qagg Tryz.prog 17 = some false := by kernel_rfl
@[simp] theorem qzero_17 : qzero Tryz.prog 17 = some (V.p none) := by kernel_rfl
@[simp] theorem qconcrete_17 : qconcrete Tryz.prog 17 = true := by kernel_rfl
@[simp] theorem qptr_17 : qptr Tryz.prog 17 = true := by kernel_rfl
@[simp] theorem pnn_17 : aeq Tryz.prog 17 (.p none) (.p none) = some true := aeq_pnn qptr_17
@[simp] theorem psn_17 (q : Nat × Nat × Nat) : aeq Tryz.prog 17 (.p (some q)) (.p none) = some false := aeq_psn qptr_17
@[simp] theorem qthere_17 : qthere Tryz.prog 17 = true := by kernel_rfl
@[simp] theorem cellsOf_17 : Go.Program.cellsOf Tryz.prog 17 = 1 := by kernel_rfl
@[simp] theorem bytesOf_17 : Go.Program.bytesOf Tryz.prog 17 = 8 := by kernel_rfl
@[simp] theorem qsize_19 : qsize Tryz.prog 19 = some 1 := by kernel_rfl
@[simp] theorem qbytes_19 : qbytes Tryz.prog 19 = some 8 := by kernel_rfl
@[simp] theorem qagg_19 : qagg Tryz.prog 19 = some true := by kernel_rfl
@[simp] theorem qzero_19 : qzero Tryz.prog 19 = some (V.agg [V.p none]) := by kernel_rfl
@[simp] theorem qplaces_19 : qplaces Tryz.prog 19 = some [(0, 1)] := by kernel_rfl
@[simp] theorem qconcrete_19 : qconcrete Tryz.prog 19 = true := by kernel_rfl
@[simp] theorem qthere_19 : qthere Tryz.prog 19 = true := by kernel_rfl
@[simp] theorem cellsOf_19 : Go.Program.cellsOf Tryz.prog 19 = 1 := by kernel_rfl
@[simp] theorem bytesOf_19 : Go.Program.bytesOf Tryz.prog 19 = 8 := by kernel_rfl
@[simp] theorem qsize_20 : qsize Tryz.prog 20 = some 1 := by kernel_rfl
@[simp] theorem qbytes_20 : qbytes Tryz.prog 20 = some 16 := by kernel_rfl
@[simp] theorem qagg_20 : qagg Tryz.prog 20 = some false := by kernel_rfl
@[simp] theorem qzero_20 : qzero Tryz.prog 20 = some V.nif := by kernel_rfl
@[simp] theorem qthere_20 : qthere Tryz.prog 20 = true := by kernel_rfl
@[simp] theorem cellsOf_20 : Go.Program.cellsOf Tryz.prog 20 = 1 := by kernel_rfl
@[simp] theorem bytesOf_20 : Go.Program.bytesOf Tryz.prog 20 = 16 := by kernel_rfl
@[simp] theorem qsize_21 : qsize Tryz.prog 21 = some 1 := by kernel_rfl
@[simp] theorem qbytes_21 : qbytes Tryz.prog 21 = some 4 := by kernel_rfl
@[simp] theorem qagg_21 : qagg Tryz.prog 21 = some false := by kernel_rfl
@[simp] theorem qzero_21 : qzero Tryz.prog 21 = some (V.i Go.IntKind.i32 (0)) := by kernel_rfl
@[simp] theorem qint_21 : qint Tryz.prog 21 = some Go.IntKind.i32 := by kernel_rfl
@[simp] theorem keqi_21 (a c : Int) : keq Tryz.prog 21 (.i Go.IntKind.i32 a) (.i Go.IntKind.i32 c) = some (a == c) := keq_i qint_21
@[simp] theorem qconcrete_21 : qconcrete Tryz.prog 21 = true := by kernel_rfl
@[simp] theorem qkey_21 : qkey Tryz.prog 21 = true := by kernel_rfl
@[simp] theorem qplainKey_21 : qplainKey Tryz.prog 21 = true := by kernel_rfl
@[simp] theorem kf_21 (k : V) : keyFits Tryz.prog 21 k = true := keyFits_plain qplainKey_21
@[simp] theorem qthere_21 : qthere Tryz.prog 21 = true := by kernel_rfl
@[simp] theorem cellsOf_21 : Go.Program.cellsOf Tryz.prog 21 = 1 := by kernel_rfl
@[simp] theorem bytesOf_21 : Go.Program.bytesOf Tryz.prog 21 = 4 := by kernel_rfl
@[simp] theorem qsize_22 : qsize Tryz.prog 22 = some 1 := by kernel_rfl
@[simp] theorem qbytes_22 : qbytes Tryz.prog 22 = some 4 := by kernel_rfl
@[simp] theorem qagg_22 : qagg Tryz.prog 22 = some false := by kernel_rfl
@[simp] theorem qzero_22 : qzero Tryz.prog 22 = some (V.i Go.IntKind.u32 (0)) := by kernel_rfl
@[simp] theorem qint_22 : qint Tryz.prog 22 = some Go.IntKind.u32 := by kernel_rfl
@[simp] theorem keqi_22 (a c : Int) : keq Tryz.prog 22 (.i Go.IntKind.u32 a) (.i Go.IntKind.u32 c) = some (a == c) := keq_i qint_22
@[simp] theorem qconcrete_22 : qconcrete Tryz.prog 22 = true := by kernel_rfl
@[simp] theorem qkey_22 : qkey Tryz.prog 22 = true := by kernel_rfl
@[simp] theorem qplainKey_22 : qplainKey Tryz.prog 22 = true := by kernel_rfl
@[simp] theorem kf_22 (k : V) : keyFits Tryz.prog 22 k = true := keyFits_plain qplainKey_22
@[simp] theorem qthere_22 : qthere Tryz.prog 22 = true := by kernel_rfl
@[simp] theorem cellsOf_22 : Go.Program.cellsOf Tryz.prog 22 = 1 := by kernel_rfl
@[simp] theorem bytesOf_22 : Go.Program.bytesOf Tryz.prog 22 = 4 := by kernel_rfl
@[simp] theorem qsize_24 : qsize Tryz.prog 24 = some 8 := by kernel_rfl
@[simp] theorem qbytes_24 : qbytes Tryz.prog 24 = some 56 := by kernel_rfl
@[simp] theorem qagg_24 : qagg Tryz.prog 24 = some true := by kernel_rfl
@[simp] theorem qzero_24 : qzero Tryz.prog 24 = some   (V.agg     [V.i Go.IntKind.i64 (0), V.i Go.IntKind.i64 (0), V.i Go.IntKind.i64 (0),       V.i Go.IntKind.i64 (0), V.i Go.IntKind.i64 (0), V.i Go.IntKind.i64 (0),       V.i Go.IntKind.u32 (0), V.i Go.IntKind.u32 (0)]) := by kernel_rfl
@[simp] theorem qplaces_24 : qplaces Tryz.prog 24 = some [(0, 1), (1, 1), (2, 1), (3, 1), (4, 1), (5, 1), (6, 1), (7, 1)] := by kernel_rfl
@[simp] theorem qconcrete_24 : qconcrete Tryz.prog 24 = true := by kernel_rfl
@[simp] theorem qkey_24 : qkey Tryz.prog 24 = true := by kernel_rfl
@[simp] theorem qthere_24 : qthere Tryz.prog 24 = true := by kernel_rfl
@[simp] theorem qeq_24 : qeq Tryz.prog 24 = some   [CK.i Go.IntKind.i64, CK.i Go.IntKind.i64, CK.i Go.IntKind.i64, CK.i Go.IntKind.i64, CK.i Go.IntKind.i64,     CK.i Go.IntKind.i64, CK.i Go.IntKind.u32, CK.i Go.IntKind.u32] := by kernel_rfl
@[simp] theorem cellsOf_24 : Go.Program.cellsOf Tryz.prog 24 = 8 := by kernel_rfl
@[simp] theorem bytesOf_24 : Go.Program.bytesOf Tryz.prog 24 = 56 := by kernel_rfl
@[simp] theorem qsize_26 : qsize Tryz.prog 26 = some 10 := by kernel_rfl
@[simp] theorem qbytes_26 : qbytes Tryz.prog 26 = some 72 := by kernel_rfl
@[simp] theorem qagg_26 : qagg Tryz.prog 26 = some true := by kernel_rfl
@[simp] theorem qzero_26 : qzero Tryz.prog 26 = some   (V.agg     [V.i Go.IntKind.i64 (0), V.i Go.IntKind.i64 (0), V.i Go.IntKind.i64 (0),       V.i Go.IntKind.i64 (0), V.i Go.IntKind.i64 (0), V.i Go.IntKind.i64 (0),       V.i Go.IntKind.i64 (0), V.i Go.IntKind.i64 (0), V.i Go.IntKind.u32 (0),       V.i Go.IntKind.u32 (0)]) := by kernel_rfl
@[simp] theorem qplaces_26 : qplaces Tryz.prog 26 = some [(0, 1), (1, 1), (2, 8)] := by kernel_rfl
@[simp] theorem qconcrete_26 : qconcrete Tryz.prog 26 = true := by kernel_rfl
@[simp] theorem qkey_26 : qkey Tryz.prog 26 = true := by kernel_rfl
@[simp] theorem qthere_26 : qthere Tryz.prog 26 = true := by kernel_rfl
@[simp] theorem qeq_26 : qeq Tryz.prog 26 = some   [CK.i Go.IntKind.i64, CK.i Go.IntKind.i64, CK.i Go.IntKind.i64, CK.i Go.IntKind.i64, CK.i Go.IntKind.i64,     CK.i Go.IntKind.i64, CK.i Go.IntKind.i64, CK.i Go.IntKind.i64, CK.i Go.IntKind.u32, CK.i Go.IntKind.u32] := by kernel_rfl
@[simp] theorem cellsOf_26 : Go.Program.cellsOf Tryz.prog 26 = 10 := by kernel_rfl
@[simp] theorem bytesOf_26 : Go.Program.bytesOf Tryz.prog 26 = 72 := by kernel_rfl
@[simp] theorem qsize_27 : qsize Tryz.prog 27 = some 1 := by kernel_rfl
@[simp] theorem qbytes_27 : qbytes Tryz.prog 27 = some 24 := by kernel_rfl
@[simp] theorem qagg_27 : qagg Tryz.prog 27 = some false := by kernel_rfl
@[simp] theorem qzero_27 : qzero Tryz.prog 27 = some (V.sl none 0 false) := by kernel_rfl
@[simp] theorem qconcrete_27 : qconcrete Tryz.prog 27 = true := by kernel_rfl
@[simp] theorem qsrc_27 : qsrc Tryz.prog 27 = true := by kernel_rfl
@[simp] theorem qthere_27 : qthere Tryz.prog 27 = true := by kernel_rfl
@[simp] theorem cellsOf_27 : Go.Program.cellsOf Tryz.prog 27 = 1 := by kernel_rfl
@[simp] theorem bytesOf_27 : Go.Program.bytesOf Tryz.prog 27 = 24 := by kernel_rfl
@[simp] theorem qelem_27 : qelem Tryz.prog 27 = some 26 := by kernel_rfl
@[simp] theorem qsize_28 : qsize Tryz.prog 28 = some 1 := by kernel_rfl
@[simp] theorem qbytes_28 : qbytes Tryz.prog 28 = some 24 := by kernel_rfl
@[simp] theorem qagg_28 : qagg Tryz.prog 28 = some false := by kernel_rfl
@[simp] theorem qzero_28 : qzero Tryz.prog 28 = some (V.sl none 0 false) := by kernel_rfl
@[simp] theorem qconcrete_28 : qconcrete Tryz.prog 28 = true := by kernel_rfl
@[simp] theorem qsrc_28 : qsrc Tryz.prog 28 = true := by kernel_rfl
@[simp] theorem qthere_28 : qthere Tryz.prog 28 = true := by kernel_rfl
@[simp] theorem cellsOf_28 : Go.Program.cellsOf Tryz.prog 28 = 1 := by kernel_rfl
@[simp] theorem bytesOf_28 : Go.Program.bytesOf Tryz.prog 28 = 24 := by kernel_rfl
@[simp] theorem qelem_28 : qelem Tryz.prog 28 = some 32 := by kernel_rfl
@[simp] theorem qsize_30 : qsize Tryz.prog 30 = some 14 := by kernel_rfl
@[simp] theorem qbytes_30 : qbytes Tryz.prog 30 = some 136 := by kernel_rfl
@[simp] theorem qagg_30 : qagg Tryz.prog 30 = some true := by kernel_rfl
@[simp] theorem qzero_30 : qzero Tryz.prog 30 = some   (V.agg     [V.i Go.IntKind.i64 (0), V.i Go.IntKind.i64 (0), V.i Go.IntKind.i64 (0),       V.i Go.IntKind.i64 (0), V.i Go.IntKind.i64 (0), V.i Go.IntKind.i64 (0),       V.i Go.IntKind.i64 (0), V.i Go.IntKind.i64 (0), V.i Go.IntKind.i64 (0),       V.i Go.IntKind.i64 (0), V.i Go.IntKind.u32 (0), V.i Go.IntKind.u32 (0),       V.sl none 0 false, V.sl none 0 false]) := by kernel_rfl
@[simp] theorem qplaces_30 : qplaces Tryz.prog 30 = some [(0, 1), (1, 1), (2, 1), (3, 1), (4, 8), (12, 1), (13, 1)] := by kernel_rfl
@[simp] theorem qconcrete_30 : qconcrete Tryz.prog 30 = true := by kernel_rfl
@[simp] theorem qthere_30 : qthere Tryz.prog 30 = true := by kernel_rfl
@[simp] theorem cellsOf_30 : Go.Program.cellsOf Tryz.prog 30 = 14 := by kernel_rfl
@[simp] theorem bytesOf_30 : Go.Program.bytesOf Tryz.prog 30 = 136 := by kernel_rfl
@[simp] theorem qsize_32 : qsize Tryz.prog 32 = some 7 := by kernel_rfl
@[simp] theorem qbytes_32 : qbytes Tryz.prog 32 = some 88 := by kernel_rfl
@[simp] theorem qagg_32 : qagg Tryz.prog 32 = some true := by kernel_rfl
@[simp] theorem qzero_32 : qzero Tryz.prog 32 = some   (V.agg     [V.i Go.IntKind.i64 (0), V.s [], V.s [], V.s [], V.s [], V.i Go.IntKind.i64 (0),       V.i Go.IntKind.i64 (0)]) := by kernel_rfl
@[simp] theorem qplaces_32 : qplaces Tryz.prog 32 = some [(0, 1), (1, 1), (2, 1), (3, 1), (4, 1), (5, 1), (6, 1)] := by kernel_rfl
@[simp] theorem qconcrete_32 : qconcrete Tryz.prog 32 = true := by kernel_rfl
@[simp] theorem qkey_32 : qkey Tryz.prog 32 = true := by kernel_rfl
@[simp] theorem qthere_32 : qthere Tryz.prog 32 = true := by kernel_rfl
@[simp] theorem qeq_32 : qeq Tryz.prog 32 = some [CK.i Go.IntKind.i64, CK.s, CK.s, CK.s, CK.s, CK.i Go.IntKind.i64, CK.i Go.IntKind.i64] := by kernel_rfl
@[simp] theorem cellsOf_32 : Go.Program.cellsOf Tryz.prog 32 = 7 := by kernel_rfl
@[simp] theorem bytesOf_32 : Go.Program.bytesOf Tryz.prog 32 = 88 := by kernel_rfl
@[simp] theorem qsize_34 : qsize Tryz.prog 34 = some 45 := by kernel_rfl
@[simp] theorem qbytes_34 : qbytes Tryz.prog 34 = some 416 := by kernel_rfl
@[simp] theorem qagg_34 : qagg Tryz.prog 34 = some true := by kernel_rfl
@[simp] theorem qzero_34 : qzero Tryz.prog 34 = some   (V.agg     [V.i Go.IntKind.i64 (0), V.i Go.IntKind.i64 (0), V.i Go.IntKind.i64 (0),       V.i Go.IntKind.i64 (0), V.i Go.IntKind.u32 (0), V.i Go.IntKind.i64 (0),       V.i Go.IntKind.i64 (0), V.i Go.IntKind.i64 (0), V.i Go.IntKind.i64 (0),       V.i Go.IntKind.i64 (0), V.i Go.IntKind.i64 (0), V.i Go.IntKind.u32 (0),       V.i Go.IntKind.u32 (0), V.i Go.IntKind.i64 (0), V.i Go.IntKind.i64 (0),       V.i Go.IntKind.i64 (0), V.i Go.IntKind.i64 (0), V.i Go.IntKind.i64 (0),       V.i Go.IntKind.i64 (0), V.i Go.IntKind.i64 (0), V.i Go.IntKind.i64 (0),       V.i Go.IntKind.u32 (0), V.i Go.IntKind.u32 (0), V.sl none 0 false,       V.i Go.IntKind.i64 (0), V.i Go.IntKind.i64 (0), V.i Go.IntKind.i64 (0),       V.i Go.IntKind.i64 (0), V.i Go.IntKind.i64 (0), V.i Go.IntKind.i64 (0),       V.i Go.IntKind.i64 (0), V.i Go.IntKind.i64 (0), V.i Go.IntKind.i64 (0),       V.i Go.IntKind.i64 (0), V.i Go.IntKind.u32 (0), V.i Go.IntKind.u32 (0),       V.sl none 0 false, V.sl none 0 false, V.i Go.IntKind.i64 (0), V.s [], V.s [], V.s [], V.s [],       V.i Go.IntKind.i64 (0), V.i Go.IntKind.i64 (0)]) := by kernel_rfl
@[simp] theorem qplaces_34 : qplaces Tryz.prog 34 = some [(0, 1), (1, 1), (2, 1), (3, 1), (4, 1), (5, 8), (13, 10), (23, 1), (24, 14), (38, 7)] := by kernel_rfl
@[simp] theorem qconcrete_34 : qconcrete Tryz.prog 34 = true := by kernel_rfl
@[simp] theorem qthere_34 : qthere Tryz.prog 34 = true := by kernel_rfl
@[simp] theorem cellsOf_34 : Go.Program.cellsOf Tryz.prog 34 = 45 := by kernel_rfl
@[simp] theorem bytesOf_34 : Go.Program.bytesOf Tryz.prog 34 = 416 := by kernel_rfl
@[simp] theorem qsize_37 : qsize Tryz.prog 37 = some 1 := by kernel_rfl
@[simp] theorem qbytes_37 : qbytes Tryz.prog 37 = some 8 := by kernel_rfl
@[simp] theorem qagg_37 : qagg Tryz.prog 37 = some false := by kernel_rfl
@[simp] theorem qzero_37 : qzero Tryz.prog 37 = some (V.i Go.IntKind.i64 (0)) := by kernel_rfl
@[simp] theorem qint_37 : qint Tryz.prog 37 = some Go.IntKind.i64 := by kernel_rfl
@[simp] theorem keqi_37 (a c : Int) : keq Tryz.prog 37 (.i Go.IntKind.i64 a) (.i Go.IntKind.i64 c) = some (a == c) := keq_i qint_37
@[simp] theorem qconcrete_37 : qconcrete Tryz.prog 37 = true := by kernel_rfl
@[simp] theorem qkey_37 : qkey Tryz.prog 37 = true := by kernel_rfl
@[simp] theorem qplainKey_37 : qplainKey Tryz.prog 37 = true := by kernel_rfl
@[simp] theorem kf_37 (k : V) : keyFits Tryz.prog 37 k = true := keyFits_plain qplainKey_37
@[simp] theorem qthere_37 : qthere Tryz.prog 37 = true := by kernel_rfl
@[simp] theorem cellsOf_37 : Go.Program.cellsOf Tryz.prog 37 = 1 := by kernel_rfl
@[simp] theorem bytesOf_37 : Go.Program.bytesOf Tryz.prog 37 = 8 := by kernel_rfl
@[simp] theorem qsize_39 : qsize Tryz.prog 39 = some 45 := by kernel_rfl
@[simp] theorem qbytes_39 : qbytes Tryz.prog 39 = some 416 := by kernel_rfl
@[simp] theorem qagg_39 : qagg Tryz.prog 39 = some true := by kernel_rfl
@[simp] theorem qzero_39 : qzero Tryz.prog 39 = some   (V.agg     [V.i Go.IntKind.i64 (0), V.i Go.IntKind.i64 (0), V.i Go.IntKind.i64 (0),       V.i Go.IntKind.i64 (0), V.i Go.IntKind.u32 (0), V.i Go.IntKind.i64 (0),       V.i Go.IntKind.i64 (0), V.i Go.IntKind.i64 (0), V.i Go.IntKind.i64 (0),       V.i Go.IntKind.i64 (0), V.i Go.IntKind.i64 (0), V.i Go.IntKind.u32 (0),       V.i Go.IntKind.u32 (0), V.i Go.IntKind.i64 (0), V.i Go.IntKind.i64 (0),       V.i Go.IntKind.i64 (0), V.i Go.IntKind.i64 (0), V.i Go.IntKind.i64 (0),       V.i Go.IntKind.i64 (0), V.i Go.IntKind.i64 (0), V.i Go.IntKind.i64 (0),       V.i Go.IntKind.u32 (0), V.i Go.IntKind.u32 (0), V.sl none 0 false,       V.i Go.IntKind.i64 (0), V.i Go.IntKind.i64 (0), V.i Go.IntKind.i64 (0),       V.i Go.IntKind.i64 (0), V.i Go.IntKind.i64 (0), V.i Go.IntKind.i64 (0),       V.i Go.IntKind.i64 (0), V.i Go.IntKind.i64 (0), V.i Go.IntKind.i64 (0),       V.i Go.IntKind.i64 (0), V.i Go.IntKind.u32 (0), V.i Go.IntKind.u32 (0),       V.sl none 0 false, V.sl none 0 false, V.i Go.IntKind.i64 (0), V.s [], V.s [], V.s [], V.s [],       V.i Go.IntKind.i64 (0), V.i Go.IntKind.i64 (0)]) := by kernel_rfl
@[simp] theorem qplaces_39 : qplaces Tryz.prog 39 = some [(0, 1), (1, 1), (2, 1), (3, 1), (4, 1), (5, 8), (13, 10), (23, 1), (24, 14), (38, 7)] := by kernel_rfl
@[simp] theorem qconcrete_39 : qconcrete Tryz.prog 39 = true := by kernel_rfl
@[simp] theorem qthere_39 : qthere Tryz.prog 39 = true := by kernel_rfl
@[simp] theorem cellsOf_39 : Go.Program.cellsOf Tryz.prog 39 = 45 := by kernel_rfl
@[simp] theorem bytesOf_39 : Go.Program.bytesOf Tryz.prog 39 = 416 := by kernel_rfl
@[simp] theorem qsize_46 : qsize Tryz.prog 46 = some 1 := by kernel_rfl
@[simp] theorem qbytes_46 : qbytes Tryz.prog 46 = some 8 := by kernel_rfl
@[simp] theorem qagg_46 : qagg Tryz.prog 46 = some false := by kernel_rfl
@[simp] theorem qzero_46 : qzero Tryz.prog 46 = some V.nf := by kernel_rfl
@[simp] theorem qconcrete_46 : qconcrete Tryz.prog 46 = true := by kernel_rfl
@[simp] theorem qthere_46 : qthere Tryz.prog 46 = true := by kernel_rfl
@[simp] theorem cellsOf_46 : Go.Program.cellsOf Tryz.prog 46 = 1 := by kernel_rfl
@[simp] theorem bytesOf_46 : Go.Program.bytesOf Tryz.prog 46 = 8 := by kernel_rfl
@[simp] theorem qsize_48 : qsize Tryz.prog 48 = some 1 := by kernel_rfl
@[simp] theorem qbytes_48 : qbytes Tryz.prog 48 = some 8 := by kernel_rfl
@[simp] theorem qagg_48 : qagg Tryz.prog 48 = some false := by kernel_rfl
@[simp] theorem qzero_48 : qzero Tryz.prog 48 = some (V.p none) := by kernel_rfl
@[simp] theorem qconcrete_48 : qconcrete Tryz.prog 48 = true := by kernel_rfl
@[simp] theorem qptr_48 : qptr Tryz.prog 48 = true := by kernel_rfl
@[simp] theorem pnn_48 : aeq Tryz.prog 48 (.p none) (.p none) = some true := aeq_pnn qptr_48
@[simp] theorem psn_48 (q : Nat × Nat × Nat) : aeq Tryz.prog 48 (.p (some q)) (.p none) = some false := aeq_psn qptr_48
@[simp] theorem qthere_48 : qthere Tryz.prog 48 = true := by kernel_rfl
@[simp] theorem cellsOf_48 : Go.Program.cellsOf Tryz.prog 48 = 1 := by kernel_rfl
@[simp] theorem bytesOf_48 : Go.Program.bytesOf Tryz.prog 48 = 8 := by kernel_rfl
@[simp] theorem qsize_49 : qsize Tryz.prog 49 = some 1 := by kernel_rfl
@[simp] theorem qbytes_49 : qbytes Tryz.prog 49 = some 8 := by kernel_rfl
@[simp] theorem qagg_49 : qagg Tryz.prog 49 = some false := by kernel_rfl
@[simp] theorem qzero_49 : qzero Tryz.prog 49 = some (V.p none) := by kernel_rfl
@[simp] theorem qconcrete_49 : qconcrete Tryz.prog 49 = true := by kernel_rfl
@[simp] theorem qptr_49 : qptr Tryz.prog 49 = true := by kernel_rfl
@[simp] theorem pnn_49 : aeq Tryz.prog 49 (.p none) (.p none) = some true := aeq_pnn qptr_49
@[simp] theorem psn_49 (q : Nat × Nat × Nat) : aeq Tryz.prog 49 (.p (some q)) (.p none) = some false := aeq_psn qptr_49
@[simp] theorem qthere_49 : qthere Tryz.prog 49 = true := by kernel_rfl
@[simp] theorem cellsOf_49 : Go.Program.cellsOf Tryz.prog 49 = 1 := by kernel_rfl
@[simp] theorem bytesOf_49 : Go.Program.bytesOf Tryz.prog 49 = 8 := by kernel_rfl
@[simp] theorem qsize_51 : qsize Tryz.prog 51 = some 1 := by kernel_rfl
@[simp] theorem qbytes_51 : qbytes Tryz.prog 51 = some 8 := by kernel_rfl
@[simp] theorem qagg_51 : qagg Tryz.prog 51 = some false := by kernel_rfl
@[simp] theorem qzero_51 : qzero Tryz.prog 51 = some (V.p none) := by kernel_rfl
@[simp] theorem qconcrete_51 : qconcrete Tryz.prog 51 = true := by kernel_rfl
@[simp] theorem qptr_51 : qptr Tryz.prog 51 = true := by kernel_rfl
@[simp] theorem pnn_51 : aeq Tryz.prog 51 (.p none) (.p none) = some true := aeq_pnn qptr_51
@[simp] theorem psn_51 (q : Nat × Nat × Nat) : aeq Tryz.prog 51 (.p (some q)) (.p none) = some false := aeq_psn qptr_51
@[simp] theorem qthere_51 : qthere Tryz.prog 51 = true := by kernel_rfl
@[simp] theorem cellsOf_51 : Go.Program.cellsOf Tryz.prog 51 = 1 := by kernel_rfl
@[simp] theorem bytesOf_51 : Go.Program.bytesOf Tryz.prog 51 = 8 := by kernel_rfl
@[simp] theorem qsize_53 : qsize Tryz.prog 53 = some 1 := by kernel_rfl
@[simp] theorem qbytes_53 : qbytes Tryz.prog 53 = some 8 := by kernel_rfl
@[simp] theorem qagg_53 : qagg Tryz.prog 53 = some false := by kernel_rfl
@[simp] theorem qzero_53 : qzero Tryz.prog 53 = some (V.p none) := by kernel_rfl
@[simp] theorem qconcrete_53 : qconcrete Tryz.prog 53 = true := by kernel_rfl
@[simp] theorem qptr_53 : qptr Tryz.prog 53 = true := by kernel_rfl
@[simp] theorem pnn_53 : aeq Tryz.prog 53 (.p none) (.p none) = some true := aeq_pnn qptr_53
@[simp] theorem psn_53 (q : Nat × Nat × Nat) : aeq Tryz.prog 53 (.p (some q)) (.p none) = some false := aeq_psn qptr_53
@[simp] theorem qthere_53 : qthere Tryz.prog 53 = true := by kernel_rfl
@[simp] theorem cellsOf_53 : Go.Program.cellsOf Tryz.prog 53 = 1 := by kernel_rfl
@[simp] theorem bytesOf_53 : Go.Program.bytesOf Tryz.prog 53 = 8 := by kernel_rfl
@[simp] theorem qsize_55 : qsize Tryz.prog 55 = some 1 := by kernel_rfl
@[simp] theorem qbytes_55 : qbytes Tryz.prog 55 = some 8 := by kernel_rfl
@[simp] theorem qagg_55 : qagg Tryz.prog 55 = some false := by kernel_rfl
@[simp] theorem qzero_55 : qzero Tryz.prog 55 = some (V.p none) := by kernel_rfl
@[simp] theorem qconcrete_55 : qconcrete Tryz.prog 55 = true := by kernel_rfl
@[simp] theorem qptr_55 : qptr Tryz.prog 55 = true := by kernel_rfl
@[simp] theorem pnn_55 : aeq Tryz.prog 55 (.p none) (.p none) = some true := aeq_pnn qptr_55
@[simp] theorem psn_55 (q : Nat × Nat × Nat) : aeq Tryz.prog 55 (.p (some q)) (.p none) = some false := aeq_psn qptr_55
@[simp] theorem qthere_55 : qthere Tryz.prog 55 = true := by kernel_rfl
@[simp] theorem cellsOf_55 : Go.Program.cellsOf Tryz.prog 55 = 1 := by kernel_rfl
@[simp] theorem bytesOf_55 : Go.Program.bytesOf Tryz.prog 55 = 8 := by kernel_rfl
@[simp] theorem qsize_57 : qsize Tryz.prog 57 = some 1 := by kernel_rfl
@[simp] theorem qbytes_57 : qbytes Tryz.prog 57 = some 8 := by kernel_rfl
@[simp] theorem qagg_57 : qagg Tryz.prog 57 = some false := by kernel_rfl
@[simp] theorem qzero_57 : qzero Tryz.prog 57 = some (V.p none) := by kernel_rfl
@[simp] theorem qconcrete_57 : qconcrete Tryz.prog 57 = true := by kernel_rfl
@[simp] theorem qptr_57 : qptr Tryz.prog 57 = true := by kernel_rfl
@[simp] theorem pnn_57 : aeq Tryz.prog 57 (.p none) (.p none) = some true := aeq_pnn qptr_57
@[simp] theorem psn_57 (q : Nat × Nat × Nat) : aeq Tryz.prog 57 (.p (some q)) (.p none) = some false := aeq_psn qptr_57
@[simp] theorem qthere_57 : qthere Tryz.prog 57 = true := by kernel_rfl
@[simp] theorem cellsOf_57 : Go.Program.cellsOf Tryz.prog 57 = 1 := by kernel_rfl
@[simp] theorem bytesOf_57 : Go.Program.bytesOf Tryz.prog 57 = 8 := by kernel_rfl
@[simp] theorem qsize_59 : qsize Tryz.prog 59 = some 1 := by kernel_rfl
@[simp] theorem qbytes_59 : qbytes Tryz.prog 59 = some 24 := by kernel_rfl
@[simp] theorem qagg_59 : qagg Tryz.prog 59 = some false := by kernel_rfl
@[simp] theorem qzero_59 : qzero Tryz.prog 59 = some (V.sl none 0 false) := by kernel_rfl
@[simp] theorem qconcrete_59 : qconcrete Tryz.prog 59 = true := by kernel_rfl
@[simp] theorem qsrc_59 : qsrc Tryz.prog 59 = true := by kernel_rfl
@[simp] theorem qthere_59 : qthere Tryz.prog 59 = true := by kernel_rfl
@[simp] theorem cellsOf_59 : Go.Program.cellsOf Tryz.prog 59 = 1 := by kernel_rfl
@[simp] theorem bytesOf_59 : Go.Program.bytesOf Tryz.prog 59 = 24 := by kernel_rfl
@[simp] theorem qelem_59 : qelem Tryz.prog 59 = some 3 := by kernel_rfl
@[simp] theorem qsize_60 : qsize Tryz.prog 60 = some 1 := by kernel_rfl
@[simp] theorem qbytes_60 : qbytes Tryz.prog 60 = some 24 := by kernel_rfl
@[simp] theorem qagg_60 : qagg Tryz.prog 60 = some false := by kernel_rfl
@[simp] theorem qzero_60 : qzero Tryz.prog 60 = some (V.sl none 0 false) := by kernel_rfl
@[simp] theorem qconcrete_60 : qconcrete Tryz.prog 60 = true := by kernel_rfl
@[simp] theorem qsrc_60 : qsrc Tryz.prog 60 = true := by kernel_rfl
@[simp] theorem qthere_60 : qthere Tryz.prog 60 = true := by kernel_rfl
@[simp] theorem cellsOf_60 : Go.Program.cellsOf Tryz.prog 60 = 1 := by kernel_rfl
@[simp] theorem bytesOf_60 : Go.Program.bytesOf Tryz.prog 60 = 24 := by kernel_rfl
@[simp] theorem qelem_60 : qelem Tryz.prog 60 = some 3 := by kernel_rfl
@[simp] theorem qsize_64 : qsize Tryz.prog 64 = some 1 := by kernel_rfl
@[simp] theorem qbytes_64 : qbytes Tryz.prog 64 = some 24 := by kernel_rfl
@[simp] theorem qagg_64 : qagg Tryz.prog 64 = some false := by kernel_rfl
@[simp] theorem qzero_64 : qzero Tryz.prog 64 = some (V.sl none 0 false) := by kernel_rfl
@[simp] theorem qconcrete_64 : qconcrete Tryz.prog 64 = true := by kernel_rfl
@[simp] theorem qsrc_64 : qsrc Tryz.prog 64 = true := by kernel_rfl
@[simp] theorem qbs_64 : qbs Tryz.prog 64 = true := by kernel_rfl
@[simp] theorem qthere_64 : qthere Tryz.prog 64 = true := by kernel_rfl
@[simp] theorem cellsOf_64 : Go.Program.cellsOf Tryz.prog 64 = 1 := by kernel_rfl
@[simp] theorem bytesOf_64 : Go.Program.bytesOf Tryz.prog 64 = 24 := by kernel_rfl
@[simp] theorem qelem_64 : qelem Tryz.prog 64 = some 5 := by kernel_rfl
@[simp] theorem qsize_67 : qsize Tryz.prog 67 = some 1 := by kernel_rfl
@[simp] theorem qbytes_67 : qbytes Tryz.prog 67 = some 8 := by kernel_rfl
@[simp] theorem qagg_67 : qagg Tryz.prog 67 = some false := by kernel_rfl
@[simp] theorem qzero_67 : qzero Tryz.prog 67 = some V.nf := by kernel_rfl
@[simp] theorem qconcrete_67 : qconcrete Tryz.prog 67 = true := by kernel_rfl
@[simp] theorem qthere_67 : qthere Tryz.prog 67 = true := by kernel_rfl
@[simp] theorem cellsOf_67 : Go.Program.cellsOf Tryz.prog 67 = 1 := by kernel_rfl
@[simp] theorem bytesOf_67 : Go.Program.bytesOf Tryz.prog 67 = 8 := by kernel_rfl
@[simp] theorem qsize_82 : qsize Tryz.prog 82 = some 1 := by kernel_rfl
@[simp] theorem qbytes_82 : qbytes Tryz.prog 82 = some 8 := by kernel_rfl
@[simp] theorem qagg_82 : qagg Tryz.prog 82 = some false := by kernel_rfl
@[simp] theorem qzero_82 : qzero Tryz.prog 82 = some (V.p none) := by kernel_rfl
@[simp] theorem qconcrete_82 : qconcrete Tryz.prog 82 = true := by kernel_rfl
@[simp] theorem qptr_82 : qptr Tryz.prog 82 = true := by kernel_rfl
@[simp] theorem pnn_82 : aeq Tryz.prog 82 (.p none) (.p none) = some true := aeq_pnn qptr_82
@[simp] theorem psn_82 (q : Nat × Nat × Nat) : aeq Tryz.prog 82 (.p (some q)) (.p none) = some false := aeq_psn qptr_82
@[simp] theorem qthere_82 : qthere Tryz.prog 82 = true := by kernel_rfl
@[simp] theorem cellsOf_82 : Go.Program.cellsOf Tryz.prog 82 = 1 := by kernel_rfl
@[simp] theorem bytesOf_82 : Go.Program.bytesOf Tryz.prog 82 = 8 := by kernel_rfl
@[simp] theorem qsize_98 : qsize Tryz.prog 98 = some 1 := by kernel_rfl
@[simp] theorem qbytes_98 : qbytes Tryz.prog 98 = some 24 := by kernel_rfl
@[simp] theorem qagg_98 : qagg Tryz.prog 98 = some false := by kernel_rfl
@[simp] theorem qzero_98 : qzero Tryz.prog 98 = some (V.sl none 0 false) := by kernel_rfl
@[simp] theorem qconcrete_98 : qconcrete Tryz.prog 98 = true := by kernel_rfl
@[simp] theorem qsrc_98 : qsrc Tryz.prog 98 = true := by kernel_rfl
@[simp] theorem qthere_98 : qthere Tryz.prog 98 = true := by kernel_rfl
@[simp] theorem cellsOf_98 : Go.Program.cellsOf Tryz.prog 98 = 1 := by kernel_rfl
@[simp] theorem bytesOf_98 : Go.Program.bytesOf Tryz.prog 98 = 24 := by kernel_rfl
@[simp] theorem qelem_98 : qelem Tryz.prog 98 = some 2 := by kernel_rfl
@[simp] theorem qsize_107 : qsize Tryz.prog 107 = some 2 := by kernel_rfl
@[simp] theorem qbytes_107 : qbytes Tryz.prog 107 = some 32 := by kernel_rfl
@[simp] theorem qagg_107 : qagg Tryz.prog 107 = some true := by kernel_rfl
@[simp] theorem qzero_107 : qzero Tryz.prog 107 = some (V.agg [V.sl none 0 false, V.i Go.IntKind.i64 (0)]) := by kernel_rfl
@[simp] theorem qplaces_107 : qplaces Tryz.prog 107 = some [(0, 1), (1, 1)] := by kernel_rfl
@[simp] theorem qconcrete_107 : qconcrete Tryz.prog 107 = true := by kernel_rfl
@[simp] theorem qthere_107 : qthere Tryz.prog 107 = true := by kernel_rfl
@[simp] theorem cellsOf_107 : Go.Program.cellsOf Tryz.prog 107 = 2 := by kernel_rfl
@[simp] theorem bytesOf_107 : Go.Program.bytesOf Tryz.prog 107 = 32 := by kernel_rfl
@[simp] theorem qsize_122 : qsize Tryz.prog 122 = some 1 := by kernel_rfl
@[simp] theorem qbytes_122 : qbytes Tryz.prog 122 = some 8 := by kernel_rfl
@[simp] theorem qagg_122 : qagg Tryz.prog 122 = some false := by kernel_rfl
@[simp] theorem qzero_122 : qzero Tryz.prog 122 = some (V.i Go.IntKind.u64 (0)) := by kernel_rfl
@[simp] theorem qint_122 : qint Tryz.prog 122 = some Go.IntKind.u64 := by kernel_rfl
@[simp] theorem keqi_122 (a c : Int) : keq Tryz.prog 122 (.i Go.IntKind.u64 a) (.i Go.IntKind.u64 c) = some (a == c) := keq_i qint_122
@[simp] theorem qconcrete_122 : qconcrete Tryz.prog 122 = true := by kernel_rfl
@[simp] theorem qkey_122 : qkey Tryz.prog 122 = true := by kernel_rfl
@[simp] theorem qplainKey_122 : qplainKey Tryz.prog 122 = true := by kernel_rfl
@[simp] theorem kf_122 (k : V) : keyFits Tryz.prog 122 k = true := keyFits_plain qplainKey_122
@[simp] theorem qthere_122 : qthere Tryz.prog 122 = true := by kernel_rfl
@[simp] theorem cellsOf_122 : Go.Program.cellsOf Tryz.prog 122 = 1 := by kernel_rfl
@[simp] theorem bytesOf_122 : Go.Program.bytesOf Tryz.prog 122 = 8 := by kernel_rfl
@[simp] theorem qsize_125 : qsize Tryz.prog 125 = some 1 := by kernel_rfl
@[simp] theorem qbytes_125 : qbytes Tryz.prog 125 = some 8 := by kernel_rfl
@[simp] theorem qagg_125 : qagg Tryz.prog 125 = some false := by kernel_rfl
@[simp] theorem qzero_125 : qzero Tryz.prog 125 = some (V.i Go.IntKind.u64 (0)) := by kernel_rfl
@[simp] theorem qint_125 : qint Tryz.prog 125 = some Go.IntKind.u64 := by kernel_rfl
@[simp] theorem keqi_125 (a c : Int) : keq Tryz.prog 125 (.i Go.IntKind.u64 a) (.i Go.IntKind.u64 c) = some (a == c) := keq_i qint_125
@[simp] theorem qconcrete_125 : qconcrete Tryz.prog 125 = true := by kernel_rfl
@[simp] theorem qkey_125 : qkey Tryz.prog 125 = true := by kernel_rfl
@[simp] theorem qplainKey_125 : qplainKey Tryz.prog 125 = true := by kernel_rfl
@[simp] theorem kf_125 (k : V) : keyFits Tryz.prog 125 k = true := keyFits_plain qplainKey_125
@[simp] theorem qthere_125 : qthere Tryz.prog 125 = true := by kernel_rfl
@[simp] theorem cellsOf_125 : Go.Program.cellsOf Tryz.prog 125 = 1 := by kernel_rfl
@[simp] theorem bytesOf_125 : Go.Program.bytesOf Tryz.prog 125 = 8 := by kernel_rfl
@[simp] theorem qsize_127 : qsize Tryz.prog 127 = some 1 := by kernel_rfl
@[simp] theorem qbytes_127 : qbytes Tryz.prog 127 = some 8 := by kernel_rfl
@[simp] theorem qagg_127 : qagg Tryz.prog 127 = some false := by kernel_rfl
@[simp] theorem qzero_127 : qzero Tryz.prog 127 = some V.nf := by kernel_rfl
@[simp] theorem qconcrete_127 : qconcrete Tryz.prog 127 = true := by kernel_rfl
@[simp] theorem qthere_127 : qthere Tryz.prog 127 = true := by kernel_rfl
@[simp] theorem cellsOf_127 : Go.Program.cellsOf Tryz.prog 127 = 1 := by kernel_rfl
@[simp] theorem bytesOf_127 : Go.Program.bytesOf Tryz.prog 127 = 8 := by kernel_rfl
@[simp] theorem qsize_129 : qsize Tryz.prog 129 = some 1 := by kernel_rfl
@[simp] theorem qbytes_129 : qbytes Tryz.prog 129 = some 8 := by kernel_rfl
@[simp] theorem qagg_129 : qagg Tryz.prog 129 = some false := by kernel_rfl
@[simp] theorem qzero_129 : qzero Tryz.prog 129 = some V.nf := by kernel_rfl
@[simp] theorem qconcrete_129 : qconcrete Tryz.prog 129 = true := by kernel_rfl
@[simp] theorem qthere_129 : qthere Tryz.prog 129 = true := by kernel_rfl
@[simp] theorem cellsOf_129 : Go.Program.cellsOf Tryz.prog 129 = 1 := by kernel_rfl
@[simp] theorem bytesOf_129 : Go.Program.bytesOf Tryz.prog 129 = 8 := by kernel_rfl
@[simp] theorem qsize_133 : qsize Tryz.prog 133 = some 3 := by kernel_rfl
@[simp] theorem qbytes_133 : qbytes Tryz.prog 133 = some 12 := by kernel_rfl
@[simp] theorem qagg_133 : qagg Tryz.prog 133 = some true := by kernel_rfl
@[simp] theorem qzero_133 : qzero Tryz.prog 133 = some (V.agg [V.i Go.IntKind.i32 (0), V.i Go.IntKind.i32 (0), V.i Go.IntKind.i32 (0)]) := by kernel_rfl
@[simp] theorem qplaces_133 : qplaces Tryz.prog 133 = some [(0, 1), (1, 1), (2, 1)] := by kernel_rfl
@[simp] theorem qconcrete_133 : qconcrete Tryz.prog 133 = true := by kernel_rfl
@[simp] theorem qkey_133 : qkey Tryz.prog 133 = true := by kernel_rfl
@[simp] theorem qthere_133 : qthere Tryz.prog 133 = true := by kernel_rfl
@[simp] theorem qeq_133 : qeq Tryz.prog 133 = some [CK.i Go.IntKind.i32, CK.i Go.IntKind.i32, CK.i Go.IntKind.i32] := by kernel_rfl
@[simp] theorem cellsOf_133 : Go.Program.cellsOf Tryz.prog 133 = 3 := by kernel_rfl
@[simp] theorem bytesOf_133 : Go.Program.bytesOf Tryz.prog 133 = 12 := by kernel_rfl
@[simp] theorem qsize_134 : qsize Tryz.prog 134 = some 18 := by kernel_rfl
@[simp] theorem qbytes_134 : qbytes Tryz.prog 134 = some 72 := by kernel_rfl
@[simp] theorem qagg_134 : qagg Tryz.prog 134 = some true := by kernel_rfl
@[simp] theorem qzero_134 : qzero Tryz.prog 134 = some   (V.agg     [V.i Go.IntKind.i32 (0), V.i Go.IntKind.i32 (0), V.i Go.IntKind.i32 (0),       V.i Go.IntKind.i32 (0), V.i Go.IntKind.i32 (0), V.i Go.IntKind.i32 (0),       V.i Go.IntKind.i32 (0), V.i Go.IntKind.i32 (0), V.i Go.IntKind.i32 (0),       V.i Go.IntKind.i32 (0), V.i Go.IntKind.i32 (0), V.i Go.IntKind.i32 (0),       V.i Go.IntKind.i32 (0), V.i Go.IntKind.i32 (0), V.i Go.IntKind.i32 (0),       V.i Go.IntKind.i32 (0), V.i Go.IntKind.i32 (0), V.i Go.IntKind.i32 (0)]) := by kernel_rfl
@[simp] theorem qconcrete_134 : qconcrete Tryz.prog 134 = true := by kernel_rfl
@[simp] theorem qthere_134 : qthere Tryz.prog 134 = true := by kernel_rfl
@[simp] theorem cellsOf_134 : Go.Program.cellsOf Tryz.prog 134 = 18 := by kernel_rfl
@[simp] theorem bytesOf_134 : Go.Program.bytesOf Tryz.prog 134 = 72 := by kernel_rfl
@[simp] theorem qarr_134 : qarr Tryz.prog 134 = some (6, 133) := by kernel_rfl
@[simp] theorem qsize_142 : qsize Tryz.prog 142 = some 256 := by kernel_rfl
@[simp] theorem qbytes_142 : qbytes Tryz.prog 142 = some 256 := by kernel_rfl
@[simp] theorem qagg_142 : qagg Tryz.prog 142 = some true := by kernel_rfl
@[simp] theorem qzero_142 : qzero Tryz.prog 142 = some   (V.agg     [V.i Go.IntKind.u8 (0), V.i Go.IntKind.u8 (0), V.i Go.IntKind.u8 (0),       V.i Go.IntKind.u8 (0), V.i Go.IntKind.u8 (0), V.i Go.IntKind.u8 (0),       V.i Go.IntKind.u8 (0), V.i Go.IntKind.u8 (0), V.i Go.IntKind.u8 (0),       V.i Go.IntKind.u8 (0), V.i Go.IntKind.u8 (0), V.i Go.IntKind.u8 (0),       V.i Go.IntKind.u8 (0), V.i Go.IntKind.u8 (0), V.i Go.IntKind.u8 (0),       V.i Go.IntKind.u8 (0), V.i Go.IntKind.u8 (0), V.i Go.IntKind.u8 (0),       V.i Go.IntKind.u8 (0), V.i Go.IntKind.u8 (0), V.i Go.IntKind.u8 (0),       V.i Go.IntKind.u8 (0), V.i Go.IntKind.u8 (0), V.i Go.IntKind.u8 (0),       V.i Go.IntKind.u8 (0), V.i Go.IntKind.u8 (0), V.i Go.IntKind.u8 (0),       V.i Go.IntKind.u8 (0), V.i Go.IntKind.u8 (0), V.i Go.IntKind.u8 (0),       V.i Go.IntKind.u8 (0), V.i Go.IntKind.u8 (0), V.i Go.IntKind.u8 (0),       V.i Go.IntKind.u8 (0), V.i Go.IntKind.u8 (0), V.i Go.IntKind.u8 (0),       V.i Go.IntKind.u8 (0), V.i Go.IntKind.u8 (0), V.i Go.IntKind.u8 (0),       V.i Go.IntKind.u8 (0), V.i Go.IntKind.u8 (0), V.i Go.IntKind.u8 (0),       V.i Go.IntKind.u8 (0), V.i Go.IntKind.u8 (0), V.i Go.IntKind.u8 (0),       V.i Go.IntKind.u8 (0), V.i Go.IntKind.u8 (0), V.i Go.IntKind.u8 (0),       V.i Go.IntKind.u8 (0), V.i Go.IntKind.u8 (0), V.i Go.IntKind.u8 (0),       V.i Go.IntKind.u8 (0), V.i Go.IntKind.u8 (0), V.i Go.IntKind.u8 (0),       V.i Go.IntKind.u8 (0), V.i Go.IntKind.u8 (0), V.i Go.IntKind.u8 (0),       V.i Go.IntKind.u8 (0), V.i Go.IntKind.u8 (0), V.i Go.IntKind.u8 (0),       V.i Go.IntKind.u8 (0), V.i Go.IntKind.u8 (0), V.i Go.IntKind.u8 (0),       V.i Go.IntKind.u8 (0), V.i Go.IntKind.u8 (0), V.i Go.IntKind.u8 (0),       V.i Go.IntKind.u8 (0), V.i Go.IntKind.u8 (0), V.i Go.IntKind.u8 (0),       V.i Go.IntKind.u8 (0), V.i Go.IntKind.u8 (0), V.i Go.IntKind.u8 (0),       V.i Go.IntKind.u8 (0), V.i Go.IntKind.u8 (0), V.i Go.IntKind.u8 (0),       V.i Go.IntKind.u8 (0), V.i Go.IntKind.u8 (0), V.i Go.IntKind.u8 (0),       V.i Go.IntKind.u8 (0), V.i Go.IntKind.u8 (0), V.i Go.IntKind.u8 (0),       V.i Go.IntKind.u8 (0), V.i Go.IntKind.u8 (0), V.i Go.IntKind.u8 (0),       V.i Go.IntKind.u8 (0), V.i Go.IntKind.u8 (0), V.i Go.IntKind.u8 (0),       V.i Go.IntKind.u8 (0), V.i Go.IntKind.u8 (0), V.i Go.IntKind.u8 (0),       V.i Go.IntKind.u8 (0), V.i Go.IntKind.u8 (0), V.i Go.IntKind.u8 (0),       V.i Go.IntKind.u8 (0), V.i Go.IntKind.u8 (0), V.i Go.IntKind.u8 (0),       V.i Go.IntKind.u8 (0), V.i Go.IntKind.u8 (0), V.i Go.IntKind.u8 (0),       V.i Go.IntKind.u8 (0), V.i Go.IntKind.u8 (0), V.i Go.IntKind.u8 (0),       V.i Go.IntKind.u8 (0), V.i Go.IntKind.u8 (0), V.i Go.IntKind.u8 (0),       V.i Go.IntKind.u8 (0), V.i Go.IntKind.u8 (0), V.i Go.IntKind.u8 (0),       V.i Go.IntKind.u8 (0), V.i Go.IntKind.u8 (0), V.i Go.IntKind.u8 (0),       V.i Go.IntKind.u8 (0), V.i Go.IntKind.u8 (0), V.i Go.IntKind.u8 (0),       V.i Go.IntKind.u8 (0), V.i Go.IntKind.u8 (0), V.i Go.IntKind.u8 (0),       V.i Go.IntKind.u8 (0), V.i Go.IntKind.u8 (0), V.i Go.IntKind.u8 (0),       V.i Go.IntKind.u8 (0), V.i Go.IntKind.u8 (0), V.i Go.IntKind.u8 (0),       V.i Go.IntKind.u8 (0), V.i Go.IntKind.u8 (0), V.i Go.IntKind.u8 (0),       V.i Go.IntKind.u8 (0), V.i Go.IntKind.u8 (0), V.i Go.IntKind.u8 (0),       V.i Go.IntKind.u8 (0), V.i Go.IntKind.u8 (0), V.i Go.IntKind.u8 (0),       V.i Go.IntKind.u8 (0), V.i Go.IntKind.u8 (0), V.i Go.IntKind.u8 (0),       V.i Go.IntKind.u8 (0), V.i Go.IntKind.u8 (0), V.i Go.IntKind.u8 (0),       V.i Go.IntKind.u8 (0), V.i Go.IntKind.u8 (0), V.i Go.IntKind.u8 (0),       V.i Go.IntKind.u8 (0), V.i Go.IntKind.u8 (0), V.i Go.IntKind.u8 (0),       V.i Go.IntKind.u8 (0), V.i Go.IntKind.u8 (0), V.i Go.IntKind.u8 (0),       V.i Go.IntKind.u8 (0), V.i Go.IntKind.u8 (0), V.i Go.IntKind.u8 (0),       V.i Go.IntKind.u8 (0), V.i Go.IntKind.u8 (0), V.i Go.IntKind.u8 (0),       V.i Go.IntKind.u8 (0), V.i Go.IntKind.u8 (0), V.i Go.IntKind.u8 (0),       V.i Go.IntKind.u8 (0), V.i Go.IntKind.u8 (0), V.i Go.IntKind.u8 (0),       V.i Go.IntKind.u8 (0), V.i Go.IntKind.u8 (0), V.i Go.IntKind.u8 (0),       V.i Go.IntKind.u8 (0), V.i Go.IntKind.u8 (0), V.i Go.IntKind.u8 (0),       V.i Go.IntKind.u8 (0), V.i Go.IntKind.u8 (0), V.i Go.IntKind.u8 (0),       V.i Go.IntKind.u8 (0), V.i Go.IntKind.u8 (0), V.i Go.IntKind.u8 (0),       V.i Go.IntKind.u8 (0), V.i Go.IntKind.u8 (0), V.i Go.IntKind.u8 (0),       V.i Go.IntKind.u8 (0), V.i Go.IntKind.u8 (0), V.i Go.IntKind.u8 (0),       V.i Go.IntKind.u8 (0), V.i Go.IntKind.u8 (0), V.i Go.IntKind.u8 (0),       V.i Go.IntKind.u8 (0), V.i Go.IntKind.u8 (0), V.i Go.IntKind.u8 (0),       V.i Go.IntKind.u8 (0), V.i Go.IntKind.u8 (0), V.i Go.IntKind.u8 (0),       V.i Go.IntKind.u8 (0), V.i Go.IntKind.u8 (0), V.i Go.IntKind.u8 (0),       V.i Go.IntKind.u8 (0), V.i Go.IntKind.u8 (0), V.i Go.IntKind.u8 (0),       V.i Go.IntKind.u8 (0), V.i Go.IntKind.u8 (0), V.i Go.IntKind.u8 (0),       V.i Go.IntKind.u8 (0), V.i Go.IntKind.u8 (0), V.i Go.IntKind.u8 (0),       V.i Go.IntKind.u8 (0), V.i Go.IntKind.u8 (0), V.i Go.IntKind.u8 (0),       V.i Go.IntKind.u8 (0), V.i Go.IntKind.u8 (0), V.i Go.IntKind.u8 (0),       V.i Go.IntKind.u8 (0), V.i Go.IntKind.u8 (0), V.i Go.IntKind.u8 (0),       V.i Go.IntKind.u8 (0), V.i Go.IntKind.u8 (0), V.i Go.IntKind.u8 (0),       V.i Go.IntKind.u8 (0), V.i Go.IntKind.u8 (0), V.i Go.IntKind.u8 (0),       V.i Go.IntKind.u8 (0), V.i Go.IntKind.u8 (0), V.i Go.IntKind.u8 (0),       V.i Go.IntKind.u8 (0), V.i Go.IntKind.u8 (0), V.i Go.IntKind.u8 (0),       V.i Go.IntKind.u8 (0), V.i Go.IntKind.u8 (0), V.i Go.IntKind.u8 (0),       V.i Go.IntKind.u8 (0), V.i Go.IntKind.u8 (0), V.i Go.IntKind.u8 (0),       V.i Go.IntKind.u8 (0), V.i Go.IntKind.u8 (0), V.i Go.IntKind.u8 (0),       V.i Go.IntKind.u8 (0), V.i Go.IntKind.u8 (0), V.i Go.IntKind.u8 (0),       V.i Go.IntKind.u8 (0), V.i Go.IntKind.u8 (0), V.i Go.IntKind.u8 (0),       V.i Go.IntKind.u8 (0), V.i Go.IntKind.u8 (0), V.i Go.IntKind.u8 (0),       V.i Go.IntKind.u8 (0), V.i Go.IntKind.u8 (0), V.i Go.IntKind.u8 (0),       V.i Go.IntKind.u8 (0), V.i Go.IntKind.u8 (0), V.i Go.IntKind.u8 (0),       V.i Go.IntKind.u8 (0), V.i Go.IntKind.u8 (0), V.i Go.IntKind.u8 (0),       V.i Go.IntKind.u8 (0), V.i Go.IntKind.u8 (0), V.i Go.IntKind.u8 (0),       V.i Go.IntKind.u8 (0), V.i Go.IntKind.u8 (0), V.i Go.IntKind.u8 (0),       V.i Go.IntKind.u8 (0), V.i Go.IntKind.u8 (0), V.i Go.IntKind.u8 (0),       V.i Go.IntKind.u8 (0)]) := by kernel_rfl
@[simp] theorem qconcrete_142 : qconcrete Tryz.prog 142 = true := by kernel_rfl
@[simp] theorem qthere_142 : qthere Tryz.prog 142 = true := by kernel_rfl
@[simp] theorem cellsOf_142 : Go.Program.cellsOf Tryz.prog 142 = 256 := by kernel_rfl
@[simp] theorem bytesOf_142 : Go.Program.bytesOf Tryz.prog 142 = 256 := by kernel_rfl
@[simp] theorem qarr_142 : qarr Tryz.prog 142 = some (256, 5) := by kernel_rfl
@[simp] theorem qsize_144 : qsize Tryz.prog 144 = some 2 := by kernel_rfl
@[simp] theorem qbytes_144 : qbytes Tryz.prog 144 = some 2 := by kernel_rfl
@[simp] theorem qagg_144 : qagg Tryz.prog 144 = some true := by kernel_rfl
@[simp] theorem qzero_144 : qzero Tryz.prog 144 = some (V.agg [V.i Go.IntKind.u8 (0), V.i Go.IntKind.u8 (0)]) := by kernel_rfl
@[simp] theorem qplaces_144 : qplaces Tryz.prog 144 = some [(0, 1), (1, 1)] := by kernel_rfl
@[simp] theorem qconcrete_144 : qconcrete Tryz.prog 144 = true := by kernel_rfl
@[simp] theorem qkey_144 : qkey Tryz.prog 144 = true := by kernel_rfl
@[simp] theorem qthere_144 : qthere Tryz.prog 144 = true := by kernel_rfl
@[simp] theorem qeq_144 : qeq Tryz.prog 144 = some [CK.i Go.IntKind.u8, CK.i Go.IntKind.u8] := by kernel_rfl
@[simp] theorem cellsOf_144 : Go.Program.cellsOf Tryz.prog 144 = 2 := by kernel_rfl
@[simp] theorem bytesOf_144 : Go.Program.bytesOf Tryz.prog 144 = 2 := by kernel_rfl
@[simp] theorem qsize_145 : qsize Tryz.prog 145 = some 32 := by kernel_rfl
@[simp] theorem qbytes_145 : qbytes Tryz.prog 145 = some 32 := by kernel_rfl
@[simp] theorem qagg_145 : qagg Tryz.prog 145 = some true := by kernel_rfl
@[simp] theorem qzero_145 : qzero Tryz.prog 145 = some   (V.agg     [V.i Go.IntKind.u8 (0), V.i Go.IntKind.u8 (0), V.i Go.IntKind.u8 (0),       V.i Go.IntKind.u8 (0), V.i Go.IntKind.u8 (0), V.i Go.IntKind.u8 (0),       V.i Go.IntKind.u8 (0), V.i Go.IntKind.u8 (0), V.i Go.IntKind.u8 (0),       V.i Go.IntKind.u8 (0), V.i Go.IntKind.u8 (0), V.i Go.IntKind.u8 (0),       V.i Go.IntKind.u8 (0), V.i Go.IntKind.u8 (0), V.i Go.IntKind.u8 (0),       V.i Go.IntKind.u8 (0), V.i Go.IntKind.u8 (0), V.i Go.IntKind.u8 (0),       V.i Go.IntKind.u8 (0), V.i Go.IntKind.u8 (0), V.i Go.IntKind.u8 (0),       V.i Go.IntKind.u8 (0), V.i Go.IntKind.u8 (0), V.i Go.IntKind.u8 (0),       V.i Go.IntKind.u8 (0), V.i Go.IntKind.u8 (0), V.i Go.IntKind.u8 (0),       V.i Go.IntKind.u8 (0), V.i Go.IntKind.u8 (0), V.i Go.IntKind.u8 (0),       V.i Go.IntKind.u8 (0), V.i Go.IntKind.u8 (0)]) := by kernel_rfl
@[simp] theorem qconcrete_145 : qconcrete Tryz.prog 145 = true := by kernel_rfl
@[simp] theorem qthere_145 : qthere Tryz.prog 145 = true := by kernel_rfl
@[simp] theorem cellsOf_145 : Go.Program.cellsOf Tryz.prog 145 = 32 := by kernel_rfl
@[simp] theorem bytesOf_145 : Go.Program.bytesOf Tryz.prog 145 = 32 := by kernel_rfl
@[simp] theorem qarr_145 : qarr Tryz.prog 145 = some (16, 144) := by kernel_rfl
@[simp] theorem qsize_152 : qsize Tryz.prog 152 = some 1 := by kernel_rfl
@[simp] theorem qbytes_152 : qbytes Tryz.prog 152 = some 1 := by kernel_rfl
@[simp] theorem qagg_152 : qagg Tryz.prog 152 = some false := by kernel_rfl
@[simp] theorem qzero_152 : qzero Tryz.prog 152 = some (V.i Go.IntKind.u8 (0)) := by kernel_rfl
@[simp] theorem qint_152 : qint Tryz.prog 152 = some Go.IntKind.u8 := by kernel_rfl
@[simp] theorem keqi_152 (a c : Int) : keq Tryz.prog 152 (.i Go.IntKind.u8 a) (.i Go.IntKind.u8 c) = some (a == c) := keq_i qint_152
@[simp] theorem qconcrete_152 : qconcrete Tryz.prog 152 = true := by kernel_rfl
@[simp] theorem qkey_152 : qkey Tryz.prog 152 = true := by kernel_rfl
@[simp] theorem qplainKey_152 : qplainKey Tryz.prog 152 = true := by kernel_rfl
@[simp] theorem kf_152 (k : V) : keyFits Tryz.prog 152 k = true := keyFits_plain qplainKey_152
@[simp] theorem qthere_152 : qthere Tryz.prog 152 = true := by kernel_rfl
@[simp] theorem cellsOf_152 : Go.Program.cellsOf Tryz.prog 152 = 1 := by kernel_rfl
@[simp] theorem bytesOf_152 : Go.Program.bytesOf Tryz.prog 152 = 1 := by kernel_rfl
@[simp] theorem qfield_24_0 : qfield Tryz.prog 24 0 = some (0, 1, false) := by kernel_rfl
@[simp] theorem qfield_24_1 : qfield Tryz.prog 24 1 = some (1, 1, false) := by kernel_rfl
@[simp] theorem qfield_24_2 : qfield Tryz.prog 24 2 = some (2, 1, false) := by kernel_rfl
@[simp] theorem qfield_24_3 : qfield Tryz.prog 24 3 = some (3, 1, false) := by kernel_rfl
@[simp] theorem qfield_24_4 : qfield Tryz.prog 24 4 = some (4, 1, false) := by kernel_rfl
@[simp] theorem qfield_24_5 : qfield Tryz.prog 24 5 = some (5, 1, false) := by kernel_rfl
@[simp] theorem qfield_24_6 : qfield Tryz.prog 24 6 = some (6, 1, false) := by kernel_rfl
@[simp] theorem qfield_24_7 : qfield Tryz.prog 24 7 = some (7, 1, false) := by kernel_rfl
@[simp] theorem qfield_26_0 : qfield Tryz.prog 26 0 = some (0, 1, false) := by kernel_rfl
@[simp] theorem qfield_26_1 : qfield Tryz.prog 26 1 = some (1, 1, false) := by kernel_rfl
@[simp] theorem qfield_26_2 : qfield Tryz.prog 26 2 = some (2, 8, true) := by kernel_rfl
@[simp] theorem qfield_30_0 : qfield Tryz.prog 30 0 = some (0, 1, false) := by kernel_rfl
@[simp] theorem qfield_30_1 : qfield Tryz.prog 30 1 = some (1, 1, false) := by kernel_rfl
@[simp] theorem qfield_30_2 : qfield Tryz.prog 30 2 = some (2, 1, false) := by kernel_rfl
@[simp] theorem qfield_30_3 : qfield Tryz.prog 30 3 = some (3, 1, false) := by kernel_rfl
@[simp] theorem qfield_30_4 : qfield Tryz.prog 30 4 = some (4, 8, true) := by kernel_rfl
@[simp] theorem qfield_30_5 : qfield Tryz.prog 30 5 = some (12, 1, false) := by kernel_rfl
@[simp] theorem qfield_30_6 : qfield Tryz.prog 30 6 = some (13, 1, false) := by kernel_rfl
@[simp] theorem qfield_32_0 : qfield Tryz.prog 32 0 = some (0, 1, false) := by kernel_rfl
@[simp] theorem qfield_32_1 : qfield Tryz.prog 32 1 = some (1, 1, false) := by kernel_rfl
@[simp] theorem qfield_32_2 : qfield Tryz.prog 32 2 = some (2, 1, false) := by kernel_rfl
@[simp] theorem qfield_32_3 : qfield Tryz.prog 32 3 = some (3, 1, false) := by kernel_rfl
@[simp] theorem qfield_32_4 : qfield Tryz.prog 32 4 = some (4, 1, false) := by kernel_rfl
@[simp] theorem qfield_32_5 : qfield Tryz.prog 32 5 = some (5, 1, false) := by kernel_rfl
@[simp] theorem qfield_32_6 : qfield Tryz.prog 32 6 = some (6, 1, false) := by kernel_rfl
@[simp] theorem qfield_34_0 : qfield Tryz.prog 34 0 = some (0, 1, false) := by kernel_rfl
@[simp] theorem qfield_34_1 : qfield Tryz.prog 34 1 = some (1, 1, false) := by kernel_rfl
@[simp] theorem qfield_34_2 : qfield Tryz.prog 34 2 = some (2, 1, false) := by kernel_rfl
@[simp] theorem qfield_34_3 : qfield Tryz.prog 34 3 = some (3, 1, false) := by kernel_rfl
@[simp] theorem qfield_34_4 : qfield Tryz.prog 34 4 = some (4, 1, false) := by kernel_rfl
@[simp] theorem qfield_34_5 : qfield Tryz.prog 34 5 = some (5, 8, true) := by kernel_rfl
@[simp] theorem qfield_34_6 : qfield Tryz.prog 34 6 = some (13, 10, true) := by kernel_rfl
@[simp] theorem qfield_34_7 : qfield Tryz.prog 34 7 = some (23, 1, false) := by kernel_rfl
@[simp] theorem qfield_34_8 : qfield Tryz.prog 34 8 = some (24, 14, true) := by kernel_rfl
@[simp] theorem qfield_34_9 : qfield Tryz.prog 34 9 = some (38, 7, true) := by kernel_rfl
@[simp] theorem qfield_39_0 : qfield Tryz.prog 39 0 = some (0, 1, false) := by kernel_rfl
@[simp] theorem qfield_39_1 : qfield Tryz.prog 39 1 = some (1, 1, false) := by kernel_rfl
@[simp] theorem qfield_39_2 : qfield Tryz.prog 39 2 = some (2, 1, false) := by kernel_rfl
@[simp] theorem qfield_39_3 : qfield Tryz.prog 39 3 = some (3, 1, false) := by kernel_rfl
@[simp] theorem qfield_39_4 : qfield Tryz.prog 39 4 = some (4, 1, false) := by kernel_rfl
@[simp] theorem qfield_39_5 : qfield Tryz.prog 39 5 = some (5, 8, true) := by kernel_rfl
@[simp] theorem qfield_39_6 : qfield Tryz.prog 39 6 = some (13, 10, true) := by kernel_rfl
@[simp] theorem qfield_39_7 : qfield Tryz.prog 39 7 = some (23, 1, false) := by kernel_rfl
@[simp] theorem qfield_39_8 : qfield Tryz.prog 39 8 = some (24, 14, true) := by kernel_rfl
@[simp] theorem qfield_39_9 : qfield Tryz.prog 39 9 = some (38, 7, true) := by kernel_rfl
@[simp] theorem qfield_107_0 : qfield Tryz.prog 107 0 = some (0, 1, false) := by kernel_rfl
@[simp] theorem qfield_107_1 : qfield Tryz.prog 107 1 = some (1, 1, false) := by kernel_rfl
@[simp] theorem qfield_133_0 : qfield Tryz.prog 133 0 = some (0, 1, false) := by kernel_rfl
@[simp] theorem qfield_133_1 : qfield Tryz.prog 133 1 = some (1, 1, false) := by kernel_rfl
@[simp] theorem qfield_133_2 : qfield Tryz.prog 133 2 = some (2, 1, false) := by kernel_rfl
@[simp] theorem qfield_144_0 : qfield Tryz.prog 144 0 = some (0, 1, false) := by kernel_rfl
@[simp] theorem qfield_144_1 : qfield Tryz.prog 144 1 = some (1, 1, false) := by kernel_rfl
/-- 7 operations, 8 nodes, looks at memory: true -/
def pl_6_8 : Plan := .take 0 (.take 1 (.take 2 (.take 3 (.take 4 (.alt 5 false (.take 6 (.done)) (.stop))))))
def pe_6_8 : Bool := true
/-- 9 operations, 10 nodes, looks at memory: true -/
def pl_6_21 : Plan := .take 0 (.take 1 (.take 2 (.take 3 (.take 4 (.alt 5 true (.alt 6 false (.take 7 (.take 8 (.done))) (.stop)) (.stop))))))
def pe_6_21 : Bool := true
/-- 8 operations, 9 nodes, looks at memory: true -/
def pl_7_10 : Plan := .take 0 (.take 1 (.take 2 (.take 3 (.alt 4 true (.take 5 (.take 6 (.alt 7 false (.done) (.stop)))) (.stop)))))
def pe_7_10 : Bool := true
/-- 8 operations, 9 nodes, looks at memory: true -/
def pl_7_13 : Plan := .take 0 (.take 1 (.take 2 (.take 3 (.alt 4 true (.take 5 (.take 6 (.alt 7 false (.done) (.stop)))) (.stop)))))
def pe_7_13 : Bool := true
/-- 14 operations, 15 nodes, looks at memory: true -/
def pl_7_16 : Plan := .take 0 (.take 1 (.take 2 (.take 3 (.take 4 (.take 5 (.take 6 (.take 7 (.take 8 (.alt 9 true (.alt 10 true (.take 11 (.take 12 (.alt 13 true (.done) (.stop)))) (.stop)) (.stop))))))))))
def pe_7_16 : Bool := true
/-- 9 operations, 10 nodes, looks at memory: true -/
def pl_7_17 : Plan := .take 0 (.take 1 (.take 2 (.take 3 (.take 4 (.alt 5 true (.take 6 (.take 7 (.alt 8 false (.done) (.stop)))) (.stop))))))
def pe_7_17 : Bool := true
/-- 14 operations, 15 nodes, looks at memory: true -/
def pl_7_20 : Plan := .take 0 (.take 1 (.take 2 (.take 3 (.take 4 (.take 5 (.take 6 (.take 7 (.take 8 (.alt 9 true (.alt 10 true (.take 11 (.take 12 (.alt 13 true (.done) (.stop)))) (.stop)) (.stop))))))))))
def pe_7_20 : Bool := true
/-- 8 operations, 9 nodes, looks at memory: true -/
def pl_7_28 : Plan := .take 0 (.take 1 (.take 2 (.take 3 (.alt 4 true (.take 5 (.take 6 (.alt 7 false (.done) (.stop)))) (.stop)))))
def pe_7_28 : Bool := true
/-- 7 operations, 8 nodes, looks at memory: true -/
def pl_7_34 : Plan := .take 0 (.take 1 (.alt 2 true (.alt 3 true (.take 4 (.take 5 (.alt 6 false (.done) (.stop)))) (.stop)) (.stop)))
def pe_7_34 : Bool := true
/-- 44 operations, 45 nodes, looks at memory: true -/
def pl_8_21 : Plan := .take 0 (.take 1 (.take 2 (.take 3 (.take 4 (.take 5 (.take 6 (.alt 7 true (.take 8 (.take 9 (.take 10 (.take 11 (.take 12 (.take 13 (.take 14 (.take 15 (.take 16 (.take 17 (.take 18 (.take 19 (.take 20 (.take 21 (.take 22 (.take 23 (.take 24 (.take 25 (.take 26 (.take 27 (.take 28 (.take 29 (.take 30 (.take 31 (.take 32 (.take 33 (.take 34 (.take 35 (.take 36 (.take 37 (.take 38 (.take 39 (.take 40 (.take 41 (.take 42 (.take 43 (.done))))))))))))))))))))))))))))))))))))) (.stop))))))))
def pe_8_21 : Bool := true
/-- 17 operations, 18 nodes, looks at memory: true -/
def pl_9_11 : Plan := .take 0 (.take 1 (.take 2 (.take 3 (.take 6 (.take 7 (.take 8 (.take 11 (.take 12 (.take 13 (.alt 4 true (.take 5 (.alt 9 true (.take 10 (.alt 14 true (.take 15 (.take 16 (.done))) (.stop))) (.stop))) (.stop)))))))))))
def pe_9_11 : Bool := true
/-- 14 operations, 15 nodes, looks at memory: true -/
def pl_9_13 : Plan := .take 0 (.take 1 (.take 2 (.take 3 (.take 4 (.take 5 (.take 8 (.take 9 (.take 10 (.alt 6 true (.take 7 (.alt 11 true (.take 12 (.take 13 (.done))) (.stop))) (.stop))))))))))
def pe_9_13 : Bool := true
/-- 18 operations, 19 nodes, looks at memory: true -/
def pl_9_17 : Plan := .take 0 (.take 1 (.take 2 (.take 3 (.take 4 (.take 5 (.take 6 (.take 9 (.take 10 (.take 11 (.take 12 (.take 13 (.take 14 (.alt 7 true (.take 8 (.alt 15 true (.take 16 (.take 17 (.done))) (.stop))) (.stop))))))))))))))
def pe_9_17 : Bool := true
/-- 11 operations, 12 nodes, looks at memory: true -/
def pl_9_20 : Plan := .take 0 (.take 1 (.take 2 (.take 5 (.take 6 (.take 7 (.alt 3 true (.take 4 (.alt 8 false (.take 9 (.take 10 (.done))) (.stop))) (.stop)))))))
def pe_9_20 : Bool := true
/-- 10 operations, 11 nodes, looks at memory: true -/
def pl_9_22 : Plan := .take 0 (.take 1 (.take 2 (.take 5 (.take 6 (.alt 3 true (.take 4 (.alt 7 false (.take 8 (.take 9 (.done))) (.stop))) (.stop))))))
def pe_9_22 : Bool := true
/-- 10 operations, 11 nodes, looks at memory: true -/
def pl_9_25 : Plan := .take 0 (.take 1 (.take 2 (.take 5 (.take 6 (.alt 3 true (.take 4 (.alt 7 false (.take 8 (.take 9 (.done))) (.stop))) (.stop))))))
def pe_9_25 : Bool := true
/-- 11 operations, 12 nodes, looks at memory: true -/
def pl_13_17 : Plan := .take 0 (.take 1 (.take 2 (.take 3 (.take 4 (.take 5 (.take 6 (.take 7 (.alt 8 false (.take 9 (.take 10 (.done))) (.stop)))))))))
def pe_13_17 : Bool := true
/-- 12 operations, 13 nodes, looks at memory: true -/
def pl_13_19 : Plan := .take 0 (.take 1 (.take 2 (.take 3 (.take 4 (.take 5 (.take 6 (.take 7 (.take 8 (.alt 9 false (.take 10 (.take 11 (.done))) (.stop))))))))))
def pe_13_19 : Bool := true
/-- 11 operations, 12 nodes, looks at memory: true -/
def pl_13_21 : Plan := .take 0 (.take 1 (.take 2 (.take 3 (.take 4 (.take 5 (.take 6 (.take 7 (.alt 8 false (.take 9 (.take 10 (.done))) (.stop)))))))))
def pe_13_21 : Bool := true
/-- 27 operations, 28 nodes, looks at memory: true -/
def pl_17_4 : Plan := .take 0 (.alt 1 true (.take 2 (.take 3 (.take 4 (.take 5 (.take 6 (.take 7 (.take 8 (.take 9 (.take 10 (.take 11 (.take 12 (.take 13 (.take 14 (.take 15 (.take 16 (.take 17 (.take 18 (.take 19 (.take 20 (.take 21 (.take 22 (.take 23 (.take 24 (.take 25 (.take 26 (.done)))))))))))))))))))))))))) (.stop))
def pe_17_4 : Bool := true
/-- 12 operations, 13 nodes, looks at memory: true -/
def pl_19_1 : Plan := .take 0 (.take 1 (.take 2 (.take 3 (.take 5 (.take 6 (.take 7 (.take 8 (.alt 4 true (.alt 9 false (.take 10 (.take 11 (.done))) (.stop)) (.stop)))))))))
def pe_19_1 : Bool := true
/-- 16 operations, 17 nodes, looks at memory: true -/
def pl_21_14 : Plan := .take 0 (.take 1 (.take 2 (.take 3 (.take 4 (.take 5 (.take 6 (.take 7 (.take 8 (.alt 9 true (.take 10 (.alt 11 true (.take 12 (.alt 13 true (.take 14 (.alt 15 false (.done) (.stop))) (.stop))) (.stop))) (.stop))))))))))
def pe_21_14 : Bool := true
/-- 8 operations, 9 nodes, looks at memory: true -/
def pl_24_1 : Plan := .take 0 (.take 1 (.take 2 (.alt 3 true (.alt 4 true (.take 5 (.take 6 (.alt 7 true (.done) (.stop)))) (.stop)) (.stop))))
def pe_24_1 : Bool := true
/-- 7 operations, 8 nodes, looks at memory: true -/
def pl_24_2 : Plan := .take 0 (.take 1 (.take 2 (.alt 3 true (.take 4 (.take 5 (.alt 6 false (.done) (.stop)))) (.stop))))
def pe_24_2 : Bool := true
/-- 38 operations, 39 nodes, looks at memory: true -/
def pl_28_24 : Plan := .take 0 (.take 1 (.take 2 (.take 3 (.take 4 (.alt 5 true (.take 6 (.take 7 (.take 8 (.take 9 (.take 10 (.take 11 (.take 12 (.take 13 (.take 14 (.take 15 (.take 16 (.take 17 (.take 18 (.take 19 (.take 20 (.take 21 (.take 22 (.take 23 (.take 24 (.take 25 (.take 26 (.take 27 (.take 28 (.take 29 (.take 30 (.take 31 (.take 32 (.take 33 (.take 34 (.take 35 (.take 36 (.take 37 (.done))))))))))))))))))))))))))))))))) (.stop))))))
def pe_28_24 : Bool := true
/-- 25 operations, 26 nodes, looks at memory: true -/
def pl_37_1 : Plan := .take 0 (.take 1 (.take 3 (.take 4 (.take 7 (.take 8 (.take 11 (.take 12 (.take 15 (.take 16 (.take 19 (.take 20 (.take 21 (.alt 2 true (.alt 5 true (.take 6 (.alt 9 true (.take 10 (.alt 13 true (.take 14 (.alt 17 true (.take 18 (.alt 22 true (.take 23 (.take 24 (.done))) (.stop))) (.stop))) (.stop))) (.stop))) (.stop)) (.stop))))))))))))))
def pe_37_1 : Bool := true
/-- 18 operations, 19 nodes, looks at memory: true -/
def pl_37_5 : Plan := .take 0 (.take 1 (.take 2 (.take 3 (.take 4 (.take 5 (.take 6 (.take 9 (.take 10 (.take 11 (.take 12 (.take 13 (.take 14 (.alt 7 true (.take 8 (.alt 15 true (.take 16 (.take 17 (.done))) (.stop))) (.stop))))))))))))))
def pe_37_5 : Bool := true
/-- 19 operations, 20 nodes, looks at memory: true -/
def pl_38_3 : Plan := .take 0 (.take 1 (.take 2 (.take 5 (.take 6 (.take 9 (.take 10 (.take 13 (.take 14 (.take 15 (.alt 3 true (.take 4 (.alt 7 true (.take 8 (.alt 11 true (.take 12 (.alt 16 true (.take 17 (.take 18 (.done))) (.stop))) (.stop))) (.stop))) (.stop)))))))))))
def pe_38_3 : Bool := true
/-- 15 operations, 16 nodes, looks at memory: true -/
def pl_38_5 : Plan := .take 0 (.take 1 (.take 2 (.take 5 (.take 6 (.take 9 (.take 10 (.take 11 (.alt 3 true (.take 4 (.alt 7 true (.take 8 (.alt 12 true (.take 13 (.take 14 (.done))) (.stop))) (.stop))) (.stop)))))))))
def pe_38_5 : Bool := true
/-- 10 operations, 11 nodes, looks at memory: true -/
def pl_39_2 : Plan := .take 0 (.take 1 (.take 3 (.take 5 (.take 6 (.alt 2 true (.take 4 (.alt 7 false (.take 8 (.take 9 (.done))) (.stop))) (.stop))))))
def pe_39_2 : Bool := true
/-- 10 operations, 11 nodes, looks at memory: true -/
def pl_39_6 : Plan := .take 0 (.take 1 (.take 2 (.take 5 (.take 6 (.alt 3 true (.take 4 (.alt 7 false (.take 8 (.take 9 (.done))) (.stop))) (.stop))))))
def pe_39_6 : Bool := true
/-- 14 operations, 15 nodes, looks at memory: true -/
def pl_42_20 : Plan := .take 0 (.take 1 (.take 2 (.take 3 (.take 4 (.take 6 (.take 7 (.alt 5 true (.alt 8 true (.take 9 (.alt 10 true (.alt 11 false (.take 12 (.alt 13 false (.done) (.stop))) (.stop)) (.stop))) (.stop)) (.stop))))))))
def pe_42_20 : Bool := true
/-- 15 operations, 16 nodes, looks at memory: true -/
def pl_47_2 : Plan := .take 0 (.take 1 (.take 2 (.take 3 (.take 4 (.take 5 (.take 6 (.take 7 (.take 8 (.take 9 (.take 10 (.take 11 (.take 12 (.take 13 (.take 14 (.done)))))))))))))))
def pe_47_2 : Bool := true
/-- 7 operations, 8 nodes, looks at memory: true -/
def pl_47_5 : Plan := .take 0 (.take 1 (.take 2 (.take 3 (.take 4 (.alt 5 false (.take 6 (.done)) (.stop))))))
def pe_47_5 : Bool := true
/-- 42 operations, 43 nodes, looks at memory: true -/
def pl_47_6 : Plan := .take 0 (.alt 1 true (.take 2 (.take 3 (.take 4 (.take 5 (.take 6 (.take 7 (.take 8 (.take 9 (.alt 10 true (.take 11 (.take 12 (.take 13 (.take 14 (.take 15 (.take 16 (.take 17 (.take 18 (.take 19 (.take 20 (.take 21 (.take 22 (.take 23 (.take 24 (.take 25 (.take 26 (.take 27 (.take 28 (.take 29 (.take 30 (.take 31 (.take 32 (.take 33 (.take 34 (.take 35 (.take 36 (.take 37 (.take 38 (.take 39 (.take 40 (.take 41 (.done)))))))))))))))))))))))))))))))) (.stop)))))))))) (.stop))
def pe_47_6 : Bool := true
/-- 30 operations, 31 nodes, looks at memory: true -/
def pl_48_6 : Plan := .take 0 (.alt 1 true (.take 2 (.take 3 (.take 4 (.take 5 (.take 6 (.take 7 (.take 8 (.take 9 (.take 10 (.take 11 (.take 12 (.take 13 (.take 14 (.take 15 (.take 16 (.take 17 (.take 18 (.take 19 (.take 20 (.take 21 (.take 22 (.take 23 (.take 24 (.take 25 (.take 26 (.take 27 (.take 28 (.take 29 (.done))))))))))))))))))))))))))))) (.stop))
def pe_48_6 : Bool := true
/-- 9 operations, 10 nodes, looks at memory: true -/
def pl_58_6 : Plan := .take 0 (.take 1 (.take 2 (.take 3 (.take 4 (.take 5 (.take 6 (.take 7 (.take 8 (.done)))))))))
def pe_58_6 : Bool := true
/-- 11 operations, 12 nodes, looks at memory: true -/
def pl_67_6 : Plan := .take 0 (.take 1 (.take 2 (.take 3 (.take 4 (.take 5 (.take 6 (.take 7 (.take 8 (.take 9 (.take 10 (.done)))))))))))
def pe_67_6 : Bool := true
/-- 9 operations, 10 nodes, looks at memory: true -/
def pl_68_6 : Plan := .take 0 (.take 1 (.take 2 (.take 3 (.take 4 (.take 5 (.take 6 (.take 7 (.take 8 (.done)))))))))
def pe_68_6 : Bool := true
/-- 16 operations, 17 nodes, looks at memory: true -/
def pl_74_2 : Plan := .take 0 (.take 2 (.take 4 (.take 6 (.alt 1 true (.take 8 (.alt 3 true (.alt 5 true (.alt 7 true (.alt 9 true (.take 10 (.alt 11 true (.take 12 (.alt 13 true (.take 14 (.alt 15 false (.done) (.stop))) (.stop))) (.stop))) (.stop)) (.stop)) (.stop)) (.stop))) (.stop)))))
def pe_74_2 : Bool := true
/-- 19 operations, 20 nodes, looks at memory: false -/
def pl_81_1 : Plan := .take 0 (.take 1 (.take 2 (.take 3 (.take 4 (.take 5 (.take 6 (.take 7 (.take 8 (.take 9 (.take 10 (.take 11 (.take 12 (.take 13 (.take 14 (.take 15 (.take 16 (.take 17 (.take 18 (.done)))))))))))))))))))
def pe_81_1 : Bool := false
/-- 9 operations, 10 nodes, looks at memory: true -/
def pl_86_6 : Plan := .take 0 (.take 1 (.take 2 (.take 3 (.take 4 (.take 5 (.take 6 (.take 7 (.take 8 (.done)))))))))
def pe_86_6 : Bool := true
/-- 9 operations, 10 nodes, looks at memory: true -/
def pl_89_6 : Plan := .take 0 (.take 1 (.take 2 (.take 3 (.take 4 (.take 5 (.take 6 (.take 7 (.take 8 (.done)))))))))
def pe_89_6 : Bool := true
/-- 8 operations, 9 nodes, looks at memory: true -/
def pl_92_1 : Plan := .take 0 (.take 2 (.take 3 (.take 4 (.alt 1 true (.alt 5 true (.take 6 (.alt 7 false (.done) (.stop))) (.stop)) (.stop)))))
def pe_92_1 : Bool := true
instance : Laid Tryz.prog := ⟨utf8Tabs 0 1⟩
def planTab : PlanTab := [(6, [(8, pe_6_8, Mode.ext, pl_6_8), (21, pe_6_21, Mode.ext, pl_6_21)]), (7, [(10, pe_7_10, Mode.ext, pl_7_10), (13, pe_7_13, Mode.ext, pl_7_13), (16, pe_7_16, Mode.ext, pl_7_16), (17, pe_7_17, Mode.ext, pl_7_17), (20, pe_7_20, Mode.ext, pl_7_20), (28, pe_7_28, Mode.ext, pl_7_28), (34, pe_7_34, Mode.ext, pl_7_34)]), (8, [(21, pe_8_21, Mode.ext, pl_8_21)]), (9, [(11, pe_9_11, Mode.ext, pl_9_11), (13, pe_9_13, Mode.ext, pl_9_13), (17, pe_9_17, Mode.ext, pl_9_17), (20, pe_9_20, Mode.ext, pl_9_20), (22, pe_9_22, Mode.ext, pl_9_22), (25, pe_9_25, Mode.ext, pl_9_25)]), (13, [(17, pe_13_17, Mode.ext, pl_13_17), (19, pe_13_19, Mode.ext, pl_13_19), (21, pe_13_21, Mode.ext, pl_13_21)]), (17, [(4, pe_17_4, Mode.ext, pl_17_4)]), (19, [(1, pe_19_1, Mode.ext, pl_19_1)]), (21, [(14, pe_21_14, Mode.only [1], pl_21_14)]), (24, [(1, pe_24_1, Mode.ext, pl_24_1), (2, pe_24_2, Mode.ext, pl_24_2)]), (28, [(24, pe_28_24, Mode.ext, pl_28_24)]), (37, [(1, pe_37_1, Mode.ext, pl_37_1), (5, pe_37_5, Mode.ext, pl_37_5)]), (38, [(3, pe_38_3, Mode.ext, pl_38_3), (5, pe_38_5, Mode.ext, pl_38_5)]), (39, [(2, pe_39_2, Mode.ext, pl_39_2), (6, pe_39_6, Mode.ext, pl_39_6)]), (42, [(20, pe_42_20, Mode.ext, pl_42_20)]), (47, [(2, pe_47_2, Mode.ext, pl_47_2), (5, pe_47_5, Mode.ext, pl_47_5), (6, pe_47_6, Mode.ext, pl_47_6)]), (48, [(6, pe_48_6, Mode.ext, pl_48_6)]), (58, [(6, pe_58_6, Mode.ext, pl_58_6)]), (67, [(6, pe_67_6, Mode.ext, pl_67_6)]), (68, [(6, pe_68_6, Mode.ext, pl_68_6)]), (74, [(2, pe_74_2, Mode.only [1], pl_74_2)]), (81, [(1, pe_81_1, Mode.ext, pl_81_1)]), (86, [(6, pe_86_6, Mode.ext, pl_86_6)]), (89, [(6, pe_89_6, Mode.ext, pl_89_6)]), (92, [(1, pe_92_1, Mode.ext, pl_92_1)])]
end Go.Proofs.YtfhbdbjgmcopjaaGreatDoor
