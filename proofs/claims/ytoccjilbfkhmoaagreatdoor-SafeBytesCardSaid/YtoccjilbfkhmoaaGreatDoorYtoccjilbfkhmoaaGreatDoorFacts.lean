/-
  Facts about this program's types, by program.
-/
import Derived.Test.YtoccjilbfkhmoaaGreatDoorAbsC
import Derived.Test.YtoccjilbfkhmoaaGreatDoorProg
set_option linter.unusedVariables false
namespace Go.Proofs.YtoccjilbfkhmoaaGreatDoor
open Go Go.Abs Go.Proofs
@[simp] theorem qsize_2 : qsize Tryz.prog 2 = some 1 := by kernel_rfl
@[simp] theorem qbytes_2 : qbytes Tryz.prog 2 = some 8 := by kernel_rfl
@[simp] theorem qagg_2 : qagg Tryz.prog 2 = some false := by kernel_rfl
@[simp] theorem qzero_2 : qzero Tryz.prog 2 = some (V.i Go.IntKind.i64 (0)) := by kernel_rfl
@[simp] theorem qint_2 : qint Tryz.prog 2 = some Go.IntKind.i64 := by kernel_rfl
@[simp] theorem keqi_2 (a c : Int) : keq Tryz.prog 2 (.i Go.IntKind.i64 a) (.i Go.IntKind.i64 c) = some (a == c) := keq_i qint_2
@[simp] theorem qconcrete_2 : qconcrete Tryz.prog 2 = true := by kernel_rfl
@[simp] theorem qkey_2 : qkey Tryz.prog 2 = true := by kernel_rfl
@[simp] theorem qplainKey_2 : qplainKey Tryz.prog 2 = true := by kernel_rfl
@[simp] theorem kf_2 (k : V) : keyFits Tryz.prog 2 k = true := keyFits_plain qplainKey_2
@[simp] theorem qthere_2 : qthere Tryz.prog 2 = true := by kernel_rfl
@[simp] theorem cellsOf_2 : Go.Program.cellsOf Tryz.prog 2 = 1 := by kernel_rfl
@[simp] theorem bytesOf_2 : Go.Program.bytesOf Tryz.prog 2 = 8 := by kernel_rfl
@[simp] theorem qsize_3 : qsize Tryz.prog 3 = some 1 := by kernel_rfl
@[simp] theorem qbytes_3 : qbytes Tryz.prog 3 = some 8 := by kernel_rfl
@[simp] theorem qagg_3 : qagg Tryz.prog 3 = some false := by kernel_rfl
@[simp] theorem qzero_3 : qzero Tryz.prog 3 = some (V.i Go.IntKind.i64 (0)) := by kernel_rfl
@[simp] theorem qint_3 : qint Tryz.prog 3 = some Go.IntKind.i64 := by kernel_rfl
@[simp] theorem keqi_3 (a c : Int) : keq Tryz.prog 3 (.i Go.IntKind.i64 a) (.i Go.IntKind.i64 c) = some (a == c) := keq_i qint_3
@[simp] theorem qconcrete_3 : qconcrete Tryz.prog 3 = true := by kernel_rfl
@[simp] theorem qkey_3 : qkey Tryz.prog 3 = true := by kernel_rfl
@[simp] theorem qplainKey_3 : qplainKey Tryz.prog 3 = true := by kernel_rfl
@[simp] theorem kf_3 (k : V) : keyFits Tryz.prog 3 k = true := keyFits_plain qplainKey_3
@[simp] theorem qthere_3 : qthere Tryz.prog 3 = true := by kernel_rfl
@[simp] theorem cellsOf_3 : Go.Program.cellsOf Tryz.prog 3 = 1 := by kernel_rfl
@[simp] theorem bytesOf_3 : Go.Program.bytesOf Tryz.prog 3 = 8 := by kernel_rfl
@[simp] theorem qsize_4 : qsize Tryz.prog 4 = some 1 := by kernel_rfl
@[simp] theorem qbytes_4 : qbytes Tryz.prog 4 = some 1 := by kernel_rfl
@[simp] theorem qagg_4 : qagg Tryz.prog 4 = some false := by kernel_rfl
@[simp] theorem qzero_4 : qzero Tryz.prog 4 = some (V.b false) := by kernel_rfl
@[simp] theorem qconcrete_4 : qconcrete Tryz.prog 4 = true := by kernel_rfl
@[simp] theorem qbool_4 : qbool Tryz.prog 4 = true := by kernel_rfl
@[simp] theorem bb_4 (x y : Bool) : aeq Tryz.prog 4 (.b x) (.b y) = some (x == y) := aeq_bb qbool_4
@[simp] theorem qthere_4 : qthere Tryz.prog 4 = true := by kernel_rfl
@[simp] theorem cellsOf_4 : Go.Program.cellsOf Tryz.prog 4 = 1 := by kernel_rfl
@[simp] theorem bytesOf_4 : Go.Program.bytesOf Tryz.prog 4 = 1 := by kernel_rfl
@[simp] theorem qsize_5 : qsize Tryz.prog 5 = some 1 := by kernel_rfl
@[simp] theorem qbytes_5 : qbytes Tryz.prog 5 = some 1 := by kernel_rfl
@[simp] theorem qagg_5 : qagg Tryz.prog 5 = some false := by kernel_rfl
@[simp] theorem qzero_5 : qzero Tryz.prog 5 = some (V.i Go.IntKind.u8 (0)) := by kernel_rfl
@[simp] theorem qint_5 : qint Tryz.prog 5 = some Go.IntKind.u8 := by kernel_rfl
@[simp] theorem keqi_5 (a c : Int) : keq Tryz.prog 5 (.i Go.IntKind.u8 a) (.i Go.IntKind.u8 c) = some (a == c) := keq_i qint_5
@[simp] theorem qconcrete_5 : qconcrete Tryz.prog 5 = true := by kernel_rfl
@[simp] theorem qkey_5 : qkey Tryz.prog 5 = true := by kernel_rfl
@[simp] theorem qplainKey_5 : qplainKey Tryz.prog 5 = true := by kernel_rfl
@[simp] theorem kf_5 (k : V) : keyFits Tryz.prog 5 k = true := keyFits_plain qplainKey_5
@[simp] theorem qthere_5 : qthere Tryz.prog 5 = true := by kernel_rfl
@[simp] theorem cellsOf_5 : Go.Program.cellsOf Tryz.prog 5 = 1 := by kernel_rfl
@[simp] theorem bytesOf_5 : Go.Program.bytesOf Tryz.prog 5 = 1 := by kernel_rfl
@[simp] theorem qsize_8 : qsize Tryz.prog 8 = some 4 := by kernel_rfl
@[simp] theorem qbytes_8 : qbytes Tryz.prog 8 = some 24 := by kernel_rfl
@[simp] theorem qagg_8 : qagg Tryz.prog 8 = some true := by kernel_rfl
@[simp] theorem qzero_8 : qzero Tryz.prog 8 = some   (V.agg     [V.i Go.IntKind.i64 (0), V.i Go.IntKind.i64 (0), V.b false, V.i Go.IntKind.u8 (0)]) := by kernel_rfl
@[simp] theorem qplaces_8 : qplaces Tryz.prog 8 = some [(0, 1), (1, 1), (2, 1), (3, 1)] := by kernel_rfl
@[simp] theorem qconcrete_8 : qconcrete Tryz.prog 8 = true := by kernel_rfl
@[simp] theorem qkey_8 : qkey Tryz.prog 8 = true := by kernel_rfl
@[simp] theorem qthere_8 : qthere Tryz.prog 8 = true := by kernel_rfl
@[simp] theorem qeq_8 : qeq Tryz.prog 8 = some [CK.i Go.IntKind.i64, CK.i Go.IntKind.i64, CK.b, CK.i Go.IntKind.u8] := by kernel_rfl
@[simp] theorem cellsOf_8 : Go.Program.cellsOf Tryz.prog 8 = 4 := by kernel_rfl
@[simp] theorem bytesOf_8 : Go.Program.bytesOf Tryz.prog 8 = 24 := by kernel_rfl
@[simp] theorem qsize_9 : qsize Tryz.prog 9 = some 1 := by kernel_rfl
@[simp] theorem qbytes_9 : qbytes Tryz.prog 9 = some 16 := by kernel_rfl
@[simp] theorem qagg_9 : qagg Tryz.prog 9 = some false := by kernel_rfl
@[simp] theorem qzero_9 : qzero Tryz.prog 9 = some (V.s []) := by kernel_rfl
@[simp] theorem qstr_9 : qstr Tryz.prog 9 = true := by kernel_rfl
@[simp] theorem keqs_9 (a c : List UInt8) : keq Tryz.prog 9 (.s a) (.s c) = some (a == c) := keq_s qstr_9
@[simp] theorem qconcrete_9 : qconcrete Tryz.prog 9 = true := by kernel_rfl
@[simp] theorem qkey_9 : qkey Tryz.prog 9 = true := by kernel_rfl
@[simp] theorem qsrc_9 : qsrc Tryz.prog 9 = true := by kernel_rfl
@[simp] theorem qplainKey_9 : qplainKey Tryz.prog 9 = true := by kernel_rfl
@[simp] theorem kf_9 (k : V) : keyFits Tryz.prog 9 k = true := keyFits_plain qplainKey_9
@[simp] theorem qthere_9 : qthere Tryz.prog 9 = true := by kernel_rfl
@[simp] theorem cellsOf_9 : Go.Program.cellsOf Tryz.prog 9 = 1 := by kernel_rfl
@[simp] theorem bytesOf_9 : Go.Program.bytesOf Tryz.prog 9 = 16 := by kernel_rfl
@[simp] theorem qsize_10 : qsize Tryz.prog 10 = some 1 := by kernel_rfl
@[simp] theorem qbytes_10 : qbytes Tryz.prog 10 = some 16 := by kernel_rfl
@[simp] theorem qagg_10 : qagg Tryz.prog 10 = some false := by kernel_rfl
@[simp] theorem qzero_10 : qzero Tryz.prog 10 = some (V.s []) := by kernel_rfl
@[simp] theorem qstr_10 : qstr Tryz.prog 10 = true := by kernel_rfl
@[simp] theorem keqs_10 (a c : List UInt8) : keq Tryz.prog 10 (.s a) (.s c) = some (a == c) := keq_s qstr_10
@[simp] theorem qconcrete_10 : qconcrete Tryz.prog 10 = true := by kernel_rfl
@[simp] theorem qkey_10 : qkey Tryz.prog 10 = true := by kernel_rfl
@[simp] theorem qsrc_10 : qsrc Tryz.prog 10 = true := by kernel_rfl
@[simp] theorem qplainKey_10 : qplainKey Tryz.prog 10 = true := by kernel_rfl
@[simp] theorem kf_10 (k : V) : keyFits Tryz.prog 10 k = true := keyFits_plain qplainKey_10
@[simp] theorem qthere_10 : qthere Tryz.prog 10 = true := by kernel_rfl
@[simp] theorem cellsOf_10 : Go.Program.cellsOf Tryz.prog 10 = 1 := by kernel_rfl
@[simp] theorem bytesOf_10 : Go.Program.bytesOf Tryz.prog 10 = 16 := by kernel_rfl
@[simp] theorem qsize_11 : qsize Tryz.prog 11 = some 1 := by kernel_rfl
@[simp] theorem qbytes_11 : qbytes Tryz.prog 11 = some 16 := by kernel_rfl
@[simp] theorem qagg_11 : qagg Tryz.prog 11 = some false := by kernel_rfl
@[simp] theorem qzero_11 : qzero Tryz.prog 11 = some (V.s []) := by kernel_rfl
@[simp] theorem qstr_11 : qstr Tryz.prog 11 = true := by kernel_rfl
@[simp] theorem keqs_11 (a c : List UInt8) : keq Tryz.prog 11 (.s a) (.s c) = some (a == c) := keq_s qstr_11
@[simp] theorem qconcrete_11 : qconcrete Tryz.prog 11 = true := by kernel_rfl
@[simp] theorem qkey_11 : qkey Tryz.prog 11 = true := by kernel_rfl
@[simp] theorem qsrc_11 : qsrc Tryz.prog 11 = true := by kernel_rfl
@[simp] theorem qplainKey_11 : qplainKey Tryz.prog 11 = true := by kernel_rfl
@[simp] theorem kf_11 (k : V) : keyFits Tryz.prog 11 k = true := keyFits_plain qplainKey_11
@[simp] theorem qthere_11 : qthere Tryz.prog 11 = true := by kernel_rfl
@[simp] theorem cellsOf_11 : Go.Program.cellsOf Tryz.prog 11 = 1 := by kernel_rfl
@[simp] theorem bytesOf_11 : Go.Program.bytesOf Tryz.prog 11 = 16 := by kernel_rfl
@[simp] theorem qsize_14 : qsize Tryz.prog 14 = some 2 := by kernel_rfl
@[simp] theorem qbytes_14 : qbytes Tryz.prog 14 = some 24 := by kernel_rfl
@[simp] theorem qagg_14 : qagg Tryz.prog 14 = some true := by kernel_rfl
@[simp] theorem qzero_14 : qzero Tryz.prog 14 = some (V.agg [V.s [], V.i Go.IntKind.u64 (0)]) := by kernel_rfl
@[simp] theorem qplaces_14 : qplaces Tryz.prog 14 = some [(0, 1), (1, 1)] := by kernel_rfl
@[simp] theorem qconcrete_14 : qconcrete Tryz.prog 14 = true := by kernel_rfl
@[simp] theorem qthere_14 : qthere Tryz.prog 14 = true := by kernel_rfl
@[simp] theorem cellsOf_14 : Go.Program.cellsOf Tryz.prog 14 = 2 := by kernel_rfl
@[simp] theorem bytesOf_14 : Go.Program.bytesOf Tryz.prog 14 = 24 := by kernel_rfl
@[simp] theorem qsize_15 : qsize Tryz.prog 15 = some 1 := by kernel_rfl
@[simp] theorem qbytes_15 : qbytes Tryz.prog 15 = some 8 := by kernel_rfl
@[simp] theorem qagg_15 : qagg Tryz.prog 15 = some false := by kernel_rfl
@[simp] theorem qzero_15 : qzero Tryz.prog 15 = some (V.p none) := by kernel_rfl
@[simp] theorem qconcrete_15 : qconcrete Tryz.prog 15 = true := by kernel_rfl
@[simp] theorem qptr_15 : qptr Tryz.prog 15 = true := by kernel_rfl
@[simp] theorem pnn_15 : aeq Tryz.prog 15 (.p none) (.p none) = some true := aeq_pnn qptr_15
@[simp] theorem psn_15 (q : Nat × Nat × Nat) : aeq Tryz.prog 15 (.p (some q)) (.p none) = some false := aeq_psn qptr_15
@[simp] theorem qthere_15 : qthere Tryz.prog 15 = true := by kernel_rfl
@[simp] theorem cellsOf_15 : Go.Program.cellsOf Tryz.prog 15 = 1 := by kernel_rfl
@[simp] theorem bytesOf_15 : Go.Program.bytesOf Tryz.prog 15 = 8 := by kernel_rfl
@[simp] theorem qsize_16 : qsize Tryz.prog 16 = some 1 := by kernel_rfl
@[simp] theorem qbytes_16 : qbytes Tryz.prog 16 = some 8 := by kernel_rfl
@[simp] theorem qagg_16 : qagg Tryz.prog 16 = some false := by kernel_rfl
@[simp] theorem qzero_16 : qzero Tryz.prog 16 = some (V.p none) := by kernel_rfl
@[simp] theorem qconcrete_16 : qconcrete Tryz.prog 16 = true := by kernel_rfl
@[simp] theorem qptr_16 : qptr Tryz.prog 16 = true := by kernel_rfl
@[simp] theorem pnn_16 : aeq Tryz.prog 16 (.p none) (.p none) = some true := aeq_pnn qptr_16
@[simp] theorem psn_16 (q : Nat × Nat × Nat) : aeq Tryz.prog 16 (.p (some q)) (.p none) = some false := aeq_psn qptr_16
@[simp] theorem qthere_16 : qthere Tryz.prog 16 = true := by kernel_rfl
@[simp] theorem cellsOf_16 : Go.Program.cellsOf Tryz.prog 16 = 1 := by kernel_rfl
@[simp] theorem bytesOf_16 : Go.Program.bytesOf Tryz.prog 16 = 8 := by kernel_rfl
@[simp] theorem qsize_17 : qsize Tryz.prog 17 = some 1 := by kernel_rfl
@[simp] theorem qbytes_17 : qbytes Tryz.prog 17 = some 8 := by kernel_rfl
@[simp] theorem qagg_17 : qagg Tryz.prog 17 = some false := by kernel_rfl
@[simp] theorem qzero_17 : qzero Tryz.prog 17 = some (V.p none) := by kernel_rfl
@[simp] theorem qconcrete_17 : qconcrete Tryz.prog 17 = true := by kernel_rfl
@[simp] theorem qptr_17 : qptr Tryz.prog 17 = true := by kernel_rfl
@[simp] theorem pnn_17 : aeq Tryz.prog 17 (.p none) (.p none) = some true := aeq_pnn qptr_17
@[simp] theorem psn_17 (q : Nat × Nat × Nat) : aeq Tryz.prog 17 (.p (some q)) (.p none) = some false := aeq_psn qptr_17
@[simp] theorem qthere_17 : qthere Tryz.prog 17 = true := by kernel_rfl
@[simp] theorem cellsOf_17 : Go.Program.cellsOf Tryz.prog 17 = 1 := by kernel_rfl
@[simp] theorem bytesOf_17 : Go.Program.bytesOf Tryz.prog 17 = 8 := by kernel_rfl
@[simp] theorem qsize_19 : qsize Tryz.prog 19 = some 1 := by kernel_rfl
@[simp] theorem qbytes_19 : qbytes Tryz.prog 19 = some 8 := by kernel_rfl
@[simp] theorem qagg_19 : qagg Tryz.prog 19 = some true := by kernel_rfl
@[simp] theorem qzero_19 : qzero Tryz.prog 19 = some (V.agg [V.p none]) := by kernel_rfl
@[simp] theorem qplaces_19 : qplaces Tryz.prog 19 = some [(0, 1)] := by kernel_rfl
@[simp] theorem qconcrete_19 : qconcrete Tryz.prog 19 = true := by kernel_rfl
@[simp] theorem qthere_19 : qthere Tryz.prog 19 = true := by kernel_rfl
@[simp] theorem cellsOf_19 : Go.Program.cellsOf Tryz.prog 19 = 1 := by kernel_rfl
@[simp] theorem bytesOf_19 : Go.Program.bytesOf Tryz.prog 19 = 8 := by kernel_rfl
@[simp] theorem qsize_21 : qsize Tryz.prog 21 = some 1 := by kernel_rfl
@[simp] theorem qbytes_21 : qbytes Tryz.prog 21 = some 4 := by kernel_rfl
@[simp] theorem qagg_21 : qagg Tryz.prog 21 = some false := by kernel_rfl
@[simp] theorem qzero_21 : qzero Tryz.prog 21 = some (V.i Go.IntKind.i32 (0)) := by kernel_rfl
@[simp] theorem qint_21 : qint Tryz.prog 21 = some Go.IntKind.i32 := by kernel_rfl
@[simp] theorem keqi_21 (a c : Int) : keq Tryz.prog 21 (.i Go.IntKind.i32 a) (.i Go.IntKind.i32 c) = some (a == c) := keq_i qint_21
@[simp] theorem qconcrete_21 : qconcrete Tryz.prog 21 = true := by kernel_rfl
@[simp] theorem qkey_21 : qkey Tryz.prog 21 = true := by kernel_rfl
@[simp] theorem qplainKey_21 : qplainKey Tryz.prog 21 = true := by kernel_rfl
@[simp] theorem kf_21 (k : V) : keyFits Tryz.prog 21 k = true := keyFits_plain qplainKey_21
@[simp] theorem qthere_21 : qthere Tryz.prog 21 = true := by kernel_rfl
@[simp] theorem cellsOf_21 : Go.Program.cellsOf Tryz.prog 21 = 1 := by kernel_rfl
@[simp] theorem bytesOf_21 : Go.Program.bytesOf Tryz.prog 21 = 4 := by kernel_rfl
@[simp] theorem qsize_22 : qsize Tryz.prog 22 = some 1 := by kernel_rfl
@[simp] theorem qbytes_22 : qbytes Tryz.prog 22 = some 4 := by kernel_rfl
@[simp] theorem qagg_22 : qagg Tryz.prog 22 = some false := by kernel_rfl
@[simp] theorem qzero_22 : qzero Tryz.prog 22 = some (V.i Go.IntKind.u32 (0)) := by kernel_rfl
@[simp] theorem qint_22 : qint Tryz.prog 22 = some Go.IntKind.u32 := by kernel_rfl
@[simp] theorem keqi_22 (a c : Int) : keq Tryz.prog 22 (.i Go.IntKind.u32 a) (.i Go.IntKind.u32 c) = some (a == c) := keq_i qint_22
@[simp] theorem qconcrete_22 : qconcrete Tryz.prog 22 = true := by kernel_rfl
@[simp] theorem qkey_22 : qkey Tryz.prog 22 = true := by kernel_rfl
@[simp] theorem qplainKey_22 : qplainKey Tryz.prog 22 = true := by kernel_rfl
@[simp] theorem kf_22 (k : V) : keyFits Tryz.prog 22 k = true := keyFits_plain qplainKey_22
@[simp] theorem qthere_22 : qthere Tryz.prog 22 = true := by kernel_rfl
@[simp] theorem cellsOf_22 : Go.Program.cellsOf Tryz.prog 22 = 1 := by kernel_rfl
@[simp] theorem bytesOf_22 : Go.Program.bytesOf Tryz.prog 22 = 4 := by kernel_rfl
@[simp] theorem qsize_24 : qsize Tryz.prog 24 = some 8 := by kernel_rfl
@[simp] theorem qbytes_24 : qbytes Tryz.prog 24 = some 56 := by kernel_rfl
@[simp] theorem qagg_24 : qagg Tryz.prog 24 = some true := by kernel_rfl
@[simp] theorem qzero_24 : qzero Tryz.prog 24 = some   (V.agg     [V.i Go.IntKind.i64 (0), V.i Go.IntKind.i64 (0), V.i Go.IntKind.i64 (0),       V.i Go.IntKind.i64 (0), V.i Go.IntKind.i64 (0), V.i Go.IntKind.i64 (0),       V.i Go.IntKind.u32 (0), V.i Go.IntKind.u32 (0)]) := by kernel_rfl
@[simp] theorem qplaces_24 : qplaces Tryz.prog 24 = some [(0, 1), (1, 1), (2, 1), (3, 1), (4, 1), (5, 1), (6, 1), (7, 1)] := by kernel_rfl
@[simp] theorem qconcrete_24 : qconcrete Tryz.prog 24 = true := by kernel_rfl
@[simp] theorem qkey_24 : qkey Tryz.prog 24 = true := by kernel_rfl
@[simp] theorem qthere_24 : qthere Tryz.prog 24 = true := by kernel_rfl
@[simp] theorem qeq_24 : qeq Tryz.prog 24 = some   [CK.i Go.IntKind.i64, CK.i Go.IntKind.i64, CK.i Go.IntKind.i64, CK.i Go.IntKind.i64, CK.i Go.IntKind.i64,     CK.i Go.IntKind.i64, CK.i Go.IntKind.u32, CK.i Go.IntKind.u32] := by kernel_rfl
@[simp] theorem cellsOf_24 : Go.Program.cellsOf Tryz.prog 24 = 8 := by kernel_rfl
@[simp] theorem bytesOf_24 : Go.Program.bytesOf Tryz.prog 24 = 56 := by kernel_rfl
@[simp] theorem qsize_26 : qsize Tryz.prog 26 = some 22 := by kernel_rfl
@[simp] theorem qbytes_26 : qbytes Tryz.prog 26 = some 168 := by kernel_rfl
@[simp] theorem qagg_26 : qagg Tryz.prog 26 = some true := by kernel_rfl
@[simp] theorem qzero_26 : qzero Tryz.prog 26 = some   (V.agg     [V.i Go.IntKind.i64 (0), V.i Go.IntKind.i64 (0), V.i Go.IntKind.i64 (0),       V.i Go.IntKind.i64 (0), V.i Go.IntKind.i64 (0), V.i Go.IntKind.i64 (0),       V.i Go.IntKind.i64 (0), V.i Go.IntKind.u32 (0), V.i Go.IntKind.u32 (0),       V.i Go.IntKind.i64 (0), V.i Go.IntKind.i64 (0), V.i Go.IntKind.i64 (0),       V.i Go.IntKind.i64 (0), V.i Go.IntKind.i64 (0), V.i Go.IntKind.i64 (0),       V.i Go.IntKind.u32 (0), V.i Go.IntKind.u32 (0), V.i Go.IntKind.u32 (0),       V.i Go.IntKind.i64 (0), V.i Go.IntKind.i64 (0), V.i Go.IntKind.i64 (0), V.s []]) := by kernel_rfl
@[simp] theorem qplaces_26 : qplaces Tryz.prog 26 = some [(0, 1), (1, 8), (9, 8), (17, 1), (18, 1), (19, 1), (20, 1), (21, 1)] := by kernel_rfl
@[simp] theorem qconcrete_26 : qconcrete Tryz.prog 26 = true := by kernel_rfl
@[simp] theorem qkey_26 : qkey Tryz.prog 26 = true := by kernel_rfl
@[simp] theorem qthere_26 : qthere Tryz.prog 26 = true := by kernel_rfl
@[simp] theorem qeq_26 : qeq Tryz.prog 26 = some   [CK.i Go.IntKind.i64, CK.i Go.IntKind.i64, CK.i Go.IntKind.i64, CK.i Go.IntKind.i64, CK.i Go.IntKind.i64,     CK.i Go.IntKind.i64, CK.i Go.IntKind.i64, CK.i Go.IntKind.u32, CK.i Go.IntKind.u32, CK.i Go.IntKind.i64,     CK.i Go.IntKind.i64, CK.i Go.IntKind.i64, CK.i Go.IntKind.i64, CK.i Go.IntKind.i64, CK.i Go.IntKind.i64,     CK.i Go.IntKind.u32, CK.i Go.IntKind.u32, CK.i Go.IntKind.u32, CK.i Go.IntKind.i64, CK.i Go.IntKind.i64,     CK.i Go.IntKind.i64, CK.s] := by kernel_rfl
@[simp] theorem cellsOf_26 : Go.Program.cellsOf Tryz.prog 26 = 22 := by kernel_rfl
@[simp] theorem bytesOf_26 : Go.Program.bytesOf Tryz.prog 26 = 168 := by kernel_rfl
@[simp] theorem qsize_29 : qsize Tryz.prog 29 = some 1 := by kernel_rfl
@[simp] theorem qbytes_29 : qbytes Tryz.prog 29 = some 24 := by kernel_rfl
@[simp] theorem qagg_29 : qagg Tryz.prog 29 = some false := by kernel_rfl
@[simp] theorem qzero_29 : qzero Tryz.prog 29 = some (V.sl none 0 false) := by kernel_rfl
@[simp] theorem qconcrete_29 : qconcrete Tryz.prog 29 = true := by kernel_rfl
@[simp] theorem qsrc_29 : qsrc Tryz.prog 29 = true := by kernel_rfl
@[simp] theorem qbs_29 : qbs Tryz.prog 29 = true := by kernel_rfl
@[simp] theorem qthere_29 : qthere Tryz.prog 29 = true := by kernel_rfl
@[simp] theorem cellsOf_29 : Go.Program.cellsOf Tryz.prog 29 = 1 := by kernel_rfl
@[simp] theorem bytesOf_29 : Go.Program.bytesOf Tryz.prog 29 = 24 := by kernel_rfl
@[simp] theorem qelem_29 : qelem Tryz.prog 29 = some 5 := by kernel_rfl
@[simp] theorem qsize_30 : qsize Tryz.prog 30 = some 1 := by kernel_rfl
@[simp] theorem qbytes_30 : qbytes Tryz.prog 30 = some 8 := by kernel_rfl
@[simp] theorem qagg_30 : qagg Tryz.prog 30 = some false := by kernel_rfl
@[simp] theorem qzero_30 : qzero Tryz.prog 30 = some (V.i Go.IntKind.i64 (0)) := by kernel_rfl
@[simp] theorem qint_30 : qint Tryz.prog 30 = some Go.IntKind.i64 := by kernel_rfl
@[simp] theorem keqi_30 (a c : Int) : keq Tryz.prog 30 (.i Go.IntKind.i64 a) (.i Go.IntKind.i64 c) = some (a == c) := keq_i qint_30
@[simp] theorem qconcrete_30 : qconcrete Tryz.prog 30 = true := by kernel_rfl
@[simp] theorem qkey_30 : qkey Tryz.prog 30 = true := by kernel_rfl
@[simp] theorem qplainKey_30 : qplainKey Tryz.prog 30 = true := by kernel_rfl
@[simp] theorem kf_30 (k : V) : keyFits Tryz.prog 30 k = true := keyFits_plain qplainKey_30
@[simp] theorem qthere_30 : qthere Tryz.prog 30 = true := by kernel_rfl
@[simp] theorem cellsOf_30 : Go.Program.cellsOf Tryz.prog 30 = 1 := by kernel_rfl
@[simp] theorem bytesOf_30 : Go.Program.bytesOf Tryz.prog 30 = 8 := by kernel_rfl
@[simp] theorem qsize_33 : qsize Tryz.prog 33 = some 22 := by kernel_rfl
@[simp] theorem qbytes_33 : qbytes Tryz.prog 33 = some 168 := by kernel_rfl
@[simp] theorem qagg_33 : qagg Tryz.prog 33 = some true := by kernel_rfl
@[simp] theorem qzero_33 : qzero Tryz.prog 33 = some   (V.agg     [V.i Go.IntKind.i64 (0), V.i Go.IntKind.i64 (0), V.i Go.IntKind.i64 (0),       V.i Go.IntKind.i64 (0), V.i Go.IntKind.i64 (0), V.i Go.IntKind.i64 (0),       V.i Go.IntKind.i64 (0), V.i Go.IntKind.u32 (0), V.i Go.IntKind.u32 (0),       V.i Go.IntKind.i64 (0), V.i Go.IntKind.i64 (0), V.i Go.IntKind.i64 (0),       V.i Go.IntKind.i64 (0), V.i Go.IntKind.i64 (0), V.i Go.IntKind.i64 (0),       V.i Go.IntKind.u32 (0), V.i Go.IntKind.u32 (0), V.i Go.IntKind.u32 (0),       V.i Go.IntKind.i64 (0), V.i Go.IntKind.i64 (0), V.i Go.IntKind.i64 (0), V.s []]) := by kernel_rfl
@[simp] theorem qplaces_33 : qplaces Tryz.prog 33 = some [(0, 1), (1, 8), (9, 8), (17, 1), (18, 1), (19, 1), (20, 1), (21, 1)] := by kernel_rfl
@[simp] theorem qconcrete_33 : qconcrete Tryz.prog 33 = true := by kernel_rfl
@[simp] theorem qkey_33 : qkey Tryz.prog 33 = true := by kernel_rfl
@[simp] theorem qthere_33 : qthere Tryz.prog 33 = true := by kernel_rfl
@[simp] theorem qeq_33 : qeq Tryz.prog 33 = some   [CK.i Go.IntKind.i64, CK.i Go.IntKind.i64, CK.i Go.IntKind.i64, CK.i Go.IntKind.i64, CK.i Go.IntKind.i64,     CK.i Go.IntKind.i64, CK.i Go.IntKind.i64, CK.i Go.IntKind.u32, CK.i Go.IntKind.u32, CK.i Go.IntKind.i64,     CK.i Go.IntKind.i64, CK.i Go.IntKind.i64, CK.i Go.IntKind.i64, CK.i Go.IntKind.i64, CK.i Go.IntKind.i64,     CK.i Go.IntKind.u32, CK.i Go.IntKind.u32, CK.i Go.IntKind.u32, CK.i Go.IntKind.i64, CK.i Go.IntKind.i64,     CK.i Go.IntKind.i64, CK.s] := by kernel_rfl
@[simp] theorem cellsOf_33 : Go.Program.cellsOf Tryz.prog 33 = 22 := by kernel_rfl
@[simp] theorem bytesOf_33 : Go.Program.bytesOf Tryz.prog 33 = 168 := by kernel_rfl
@[simp] theorem qsize_41 : qsize Tryz.prog 41 = some 1 := by kernel_rfl
@[simp] theorem qbytes_41 : qbytes Tryz.prog 41 = some 24 := by kernel_rfl
@[simp] theorem qagg_41 : qagg Tryz.prog 41 = some false := by kernel_rfl
@[simp] theorem qzero_41 : qzero Tryz.prog 41 = some (V.sl none 0 false) := by kernel_rfl
@[simp] theorem qconcrete_41 : qconcrete Tryz.prog 41 = true := by kernel_rfl
@[simp] theorem qsrc_41 : qsrc Tryz.prog 41 = true := by kernel_rfl
@[simp] theorem qthere_41 : qthere Tryz.prog 41 = true := by kernel_rfl
@[simp] theorem cellsOf_41 : Go.Program.cellsOf Tryz.prog 41 = 1 := by kernel_rfl
@[simp] theorem bytesOf_41 : Go.Program.bytesOf Tryz.prog 41 = 24 := by kernel_rfl
@[simp] theorem qelem_41 : qelem Tryz.prog 41 = some 26 := by kernel_rfl
@[simp] theorem qsize_43 : qsize Tryz.prog 43 = some 1 := by kernel_rfl
@[simp] theorem qbytes_43 : qbytes Tryz.prog 43 = some 24 := by kernel_rfl
@[simp] theorem qagg_43 : qagg Tryz.prog 43 = some false := by kernel_rfl
@[simp] theorem qzero_43 : qzero Tryz.prog 43 = some (V.sl none 0 false) := by kernel_rfl
@[simp] theorem qconcrete_43 : qconcrete Tryz.prog 43 = true := by kernel_rfl
@[simp] theorem qsrc_43 : qsrc Tryz.prog 43 = true := by kernel_rfl
@[simp] theorem qthere_43 : qthere Tryz.prog 43 = true := by kernel_rfl
@[simp] theorem cellsOf_43 : Go.Program.cellsOf Tryz.prog 43 = 1 := by kernel_rfl
@[simp] theorem bytesOf_43 : Go.Program.bytesOf Tryz.prog 43 = 24 := by kernel_rfl
@[simp] theorem qelem_43 : qelem Tryz.prog 43 = some 24 := by kernel_rfl
@[simp] theorem qsize_44 : qsize Tryz.prog 44 = some 4 := by kernel_rfl
@[simp] theorem qbytes_44 : qbytes Tryz.prog 44 = some 64 := by kernel_rfl
@[simp] theorem qagg_44 : qagg Tryz.prog 44 = some true := by kernel_rfl
@[simp] theorem qzero_44 : qzero Tryz.prog 44 = some (V.agg [V.s [], V.s [], V.s [], V.s []]) := by kernel_rfl
@[simp] theorem qconcrete_44 : qconcrete Tryz.prog 44 = true := by kernel_rfl
@[simp] theorem qthere_44 : qthere Tryz.prog 44 = true := by kernel_rfl
@[simp] theorem cellsOf_44 : Go.Program.cellsOf Tryz.prog 44 = 4 := by kernel_rfl
@[simp] theorem bytesOf_44 : Go.Program.bytesOf Tryz.prog 44 = 64 := by kernel_rfl
@[simp] theorem qarr_44 : qarr Tryz.prog 44 = some (4, 9) := by kernel_rfl
@[simp] theorem qsize_45 : qsize Tryz.prog 45 = some 1 := by kernel_rfl
@[simp] theorem qbytes_45 : qbytes Tryz.prog 45 = some 24 := by kernel_rfl
@[simp] theorem qagg_45 : qagg Tryz.prog 45 = some false := by kernel_rfl
@[simp] theorem qzero_45 : qzero Tryz.prog 45 = some (V.sl none 0 false) := by kernel_rfl
@[simp] theorem qconcrete_45 : qconcrete Tryz.prog 45 = true := by kernel_rfl
@[simp] theorem qsrc_45 : qsrc Tryz.prog 45 = true := by kernel_rfl
@[simp] theorem qthere_45 : qthere Tryz.prog 45 = true := by kernel_rfl
@[simp] theorem cellsOf_45 : Go.Program.cellsOf Tryz.prog 45 = 1 := by kernel_rfl
@[simp] theorem bytesOf_45 : Go.Program.bytesOf Tryz.prog 45 = 24 := by kernel_rfl
@[simp] theorem qelem_45 : qelem Tryz.prog 45 = some 22 := by kernel_rfl
@[simp] theorem qsize_46 : qsize Tryz.prog 46 = some 1 := by kernel_rfl
@[simp] theorem qbytes_46 : qbytes Tryz.prog 46 = some 24 := by kernel_rfl
@[simp] theorem qagg_46 : qagg Tryz.prog 46 = some false := by kernel_rfl
@[simp] theorem qzero_46 : qzero Tryz.prog 46 = some (V.sl none 0 false) := by kernel_rfl
@[simp] theorem qconcrete_46 : qconcrete Tryz.prog 46 = true := by kernel_rfl
@[simp] theorem qsrc_46 : qsrc Tryz.prog 46 = true := by kernel_rfl
@[simp] theorem qthere_46 : qthere Tryz.prog 46 = true := by kernel_rfl
@[simp] theorem cellsOf_46 : Go.Program.cellsOf Tryz.prog 46 = 1 := by kernel_rfl
@[simp] theorem bytesOf_46 : Go.Program.bytesOf Tryz.prog 46 = 24 := by kernel_rfl
@[simp] theorem qelem_46 : qelem Tryz.prog 46 = some 9 := by kernel_rfl
@[simp] theorem qsize_48 : qsize Tryz.prog 48 = some 32 := by kernel_rfl
@[simp] theorem qbytes_48 : qbytes Tryz.prog 48 = some 336 := by kernel_rfl
@[simp] theorem qagg_48 : qagg Tryz.prog 48 = some true := by kernel_rfl
@[simp] theorem qzero_48 : qzero Tryz.prog 48 = some   (V.agg     [V.i Go.IntKind.i64 (0), V.i Go.IntKind.i64 (0), V.i Go.IntKind.i64 (0),       V.i Go.IntKind.i64 (0), V.i Go.IntKind.i64 (0), V.i Go.IntKind.i64 (0),       V.i Go.IntKind.i64 (0), V.i Go.IntKind.i64 (0), V.i Go.IntKind.i64 (0),       V.i Go.IntKind.i64 (0), V.i Go.IntKind.i64 (0), V.i Go.IntKind.u32 (0),       V.i Go.IntKind.u32 (0), V.i Go.IntKind.i64 (0), V.i Go.IntKind.i64 (0),       V.i Go.IntKind.i64 (0), V.i Go.IntKind.i64 (0), V.i Go.IntKind.i64 (0),       V.i Go.IntKind.i64 (0), V.i Go.IntKind.u32 (0), V.i Go.IntKind.u32 (0),       V.sl none 0 false, V.sl none 0 false, V.b false, V.s [], V.s [], V.s [], V.s [], V.sl none 0 false,       V.i Go.IntKind.i64 (0), V.i Go.IntKind.i64 (0), V.sl none 0 false]) := by kernel_rfl
@[simp] theorem qplaces_48 : qplaces Tryz.prog 48 = some   [(0, 1), (1, 1), (2, 1), (3, 1), (4, 1), (5, 8), (13, 8), (21, 1), (22, 1), (23, 1), (24, 4), (28, 1), (29, 1),     (30, 1), (31, 1)] := by kernel_rfl
@[simp] theorem qconcrete_48 : qconcrete Tryz.prog 48 = true := by kernel_rfl
@[simp] theorem qthere_48 : qthere Tryz.prog 48 = true := by kernel_rfl
@[simp] theorem cellsOf_48 : Go.Program.cellsOf Tryz.prog 48 = 32 := by kernel_rfl
@[simp] theorem bytesOf_48 : Go.Program.bytesOf Tryz.prog 48 = 336 := by kernel_rfl
@[simp] theorem qsize_51 : qsize Tryz.prog 51 = some 1 := by kernel_rfl
@[simp] theorem qbytes_51 : qbytes Tryz.prog 51 = some 24 := by kernel_rfl
@[simp] theorem qagg_51 : qagg Tryz.prog 51 = some false := by kernel_rfl
@[simp] theorem qzero_51 : qzero Tryz.prog 51 = some (V.sl none 0 false) := by kernel_rfl
@[simp] theorem qconcrete_51 : qconcrete Tryz.prog 51 = true := by kernel_rfl
@[simp] theorem qsrc_51 : qsrc Tryz.prog 51 = true := by kernel_rfl
@[simp] theorem qthere_51 : qthere Tryz.prog 51 = true := by kernel_rfl
@[simp] theorem cellsOf_51 : Go.Program.cellsOf Tryz.prog 51 = 1 := by kernel_rfl
@[simp] theorem bytesOf_51 : Go.Program.bytesOf Tryz.prog 51 = 24 := by kernel_rfl
@[simp] theorem qelem_51 : qelem Tryz.prog 51 = some 29 := by kernel_rfl
@[simp] theorem qsize_63 : qsize Tryz.prog 63 = some 1 := by kernel_rfl
@[simp] theorem qbytes_63 : qbytes Tryz.prog 63 = some 8 := by kernel_rfl
@[simp] theorem qagg_63 : qagg Tryz.prog 63 = some false := by kernel_rfl
@[simp] theorem qzero_63 : qzero Tryz.prog 63 = some V.nf := by kernel_rfl
@[simp] theorem qconcrete_63 : qconcrete Tryz.prog 63 = true := by kernel_rfl
@[simp] theorem qthere_63 : qthere Tryz.prog 63 = true := by kernel_rfl
@[simp] theorem cellsOf_63 : Go.Program.cellsOf Tryz.prog 63 = 1 := by kernel_rfl
@[simp] theorem bytesOf_63 : Go.Program.bytesOf Tryz.prog 63 = 8 := by kernel_rfl
@[simp] theorem qsize_65 : qsize Tryz.prog 65 = some 1 := by kernel_rfl
@[simp] theorem qbytes_65 : qbytes Tryz.prog 65 = some 24 := by kernel_rfl
@[simp] theorem qagg_65 : qagg Tryz.prog 65 = some false := by kernel_rfl
@[simp] theorem qzero_65 : qzero Tryz.prog 65 = some (V.sl none 0 false) := by kernel_rfl
@[simp] theorem qconcrete_65 : qconcrete Tryz.prog 65 = true := by kernel_rfl
@[simp] theorem qsrc_65 : qsrc Tryz.prog 65 = true := by kernel_rfl
@[simp] theorem qthere_65 : qthere Tryz.prog 65 = true := by kernel_rfl
@[simp] theorem cellsOf_65 : Go.Program.cellsOf Tryz.prog 65 = 1 := by kernel_rfl
@[simp] theorem bytesOf_65 : Go.Program.bytesOf Tryz.prog 65 = 24 := by kernel_rfl
@[simp] theorem qelem_65 : qelem Tryz.prog 65 = some 148 := by kernel_rfl
@[simp] theorem qsize_66 : qsize Tryz.prog 66 = some 1 := by kernel_rfl
@[simp] theorem qbytes_66 : qbytes Tryz.prog 66 = some 24 := by kernel_rfl
@[simp] theorem qagg_66 : qagg Tryz.prog 66 = some false := by kernel_rfl
@[simp] theorem qzero_66 : qzero Tryz.prog 66 = some (V.sl none 0 false) := by kernel_rfl
@[simp] theorem qconcrete_66 : qconcrete Tryz.prog 66 = true := by kernel_rfl
@[simp] theorem qsrc_66 : qsrc Tryz.prog 66 = true := by kernel_rfl
@[simp] theorem qthere_66 : qthere Tryz.prog 66 = true := by kernel_rfl
@[simp] theorem cellsOf_66 : Go.Program.cellsOf Tryz.prog 66 = 1 := by kernel_rfl
@[simp] theorem bytesOf_66 : Go.Program.bytesOf Tryz.prog 66 = 24 := by kernel_rfl
@[simp] theorem qelem_66 : qelem Tryz.prog 66 = some 150 := by kernel_rfl
@[simp] theorem qsize_68 : qsize Tryz.prog 68 = some 14 := by kernel_rfl
@[simp] theorem qbytes_68 : qbytes Tryz.prog 68 = some 136 := by kernel_rfl
@[simp] theorem qagg_68 : qagg Tryz.prog 68 = some true := by kernel_rfl
@[simp] theorem qzero_68 : qzero Tryz.prog 68 = some   (V.agg     [V.i Go.IntKind.i64 (0), V.i Go.IntKind.i64 (0), V.i Go.IntKind.i64 (0),       V.i Go.IntKind.i64 (0), V.i Go.IntKind.i64 (0), V.i Go.IntKind.i64 (0),       V.i Go.IntKind.i64 (0), V.i Go.IntKind.i64 (0), V.i Go.IntKind.i64 (0),       V.i Go.IntKind.i64 (0), V.i Go.IntKind.u32 (0), V.i Go.IntKind.u32 (0),       V.sl none 0 false, V.sl none 0 false]) := by kernel_rfl
@[simp] theorem qplaces_68 : qplaces Tryz.prog 68 = some [(0, 1), (1, 1), (2, 1), (3, 1), (4, 8), (12, 1), (13, 1)] := by kernel_rfl
@[simp] theorem qconcrete_68 : qconcrete Tryz.prog 68 = true := by kernel_rfl
@[simp] theorem qthere_68 : qthere Tryz.prog 68 = true := by kernel_rfl
@[simp] theorem cellsOf_68 : Go.Program.cellsOf Tryz.prog 68 = 14 := by kernel_rfl
@[simp] theorem bytesOf_68 : Go.Program.bytesOf Tryz.prog 68 = 136 := by kernel_rfl
@[simp] theorem qsize_74 : qsize Tryz.prog 74 = some 1 := by kernel_rfl
@[simp] theorem qbytes_74 : qbytes Tryz.prog 74 = some 8 := by kernel_rfl
@[simp] theorem qagg_74 : qagg Tryz.prog 74 = some false := by kernel_rfl
@[simp] theorem qzero_74 : qzero Tryz.prog 74 = some (V.p none) := by kernel_rfl
@[simp] theorem qconcrete_74 : qconcrete Tryz.prog 74 = true := by kernel_rfl
@[simp] theorem qptr_74 : qptr Tryz.prog 74 = true := by kernel_rfl
@[simp] theorem pnn_74 : aeq Tryz.prog 74 (.p none) (.p none) = some true := aeq_pnn qptr_74
@[simp] theorem psn_74 (q : Nat × Nat × Nat) : aeq Tryz.prog 74 (.p (some q)) (.p none) = some false := aeq_psn qptr_74
@[simp] theorem qthere_74 : qthere Tryz.prog 74 = true := by kernel_rfl
@[simp] theorem cellsOf_74 : Go.Program.cellsOf Tryz.prog 74 = 1 := by kernel_rfl
@[simp] theorem bytesOf_74 : Go.Program.bytesOf Tryz.prog 74 = 8 := by kernel_rfl
@[simp] theorem qsize_82 : qsize Tryz.prog 82 = some 2 := by kernel_rfl
@[simp] theorem qbytes_82 : qbytes Tryz.prog 82 = some 24 := by kernel_rfl
@[simp] theorem qagg_82 : qagg Tryz.prog 82 = some true := by kernel_rfl
@[simp] theorem qzero_82 : qzero Tryz.prog 82 = some (V.agg [V.s [], V.i Go.IntKind.i64 (0)]) := by kernel_rfl
@[simp] theorem qplaces_82 : qplaces Tryz.prog 82 = some [(0, 1), (1, 1)] := by kernel_rfl
@[simp] theorem qconcrete_82 : qconcrete Tryz.prog 82 = true := by kernel_rfl
@[simp] theorem qkey_82 : qkey Tryz.prog 82 = true := by kernel_rfl
@[simp] theorem qthere_82 : qthere Tryz.prog 82 = true := by kernel_rfl
@[simp] theorem qeq_82 : qeq Tryz.prog 82 = some [CK.s, CK.i Go.IntKind.i64] := by kernel_rfl
@[simp] theorem cellsOf_82 : Go.Program.cellsOf Tryz.prog 82 = 2 := by kernel_rfl
@[simp] theorem bytesOf_82 : Go.Program.bytesOf Tryz.prog 82 = 24 := by kernel_rfl
@[simp] theorem qsize_90 : qsize Tryz.prog 90 = some 1 := by kernel_rfl
@[simp] theorem qbytes_90 : qbytes Tryz.prog 90 = some 8 := by kernel_rfl
@[simp] theorem qagg_90 : qagg Tryz.prog 90 = some false := by kernel_rfl
@[simp] theorem qzero_90 : qzero Tryz.prog 90 = some (V.p none) := by kernel_rfl
@[simp] theorem qconcrete_90 : qconcrete Tryz.prog 90 = true := by kernel_rfl
@[simp] theorem qptr_90 : qptr Tryz.prog 90 = true := by kernel_rfl
@[simp] theorem pnn_90 : aeq Tryz.prog 90 (.p none) (.p none) = some true := aeq_pnn qptr_90
@[simp] theorem psn_90 (q : Nat × Nat × Nat) : aeq Tryz.prog 90 (.p (some q)) (.p none) = some false := aeq_psn qptr_90
@[simp] theorem qthere_90 : qthere Tryz.prog 90 = true := by kernel_rfl
@[simp] theorem cellsOf_90 : Go.Program.cellsOf Tryz.prog 90 = 1 := by kernel_rfl
@[simp] theorem bytesOf_90 : Go.Program.bytesOf Tryz.prog 90 = 8 := by kernel_rfl
@[simp] theorem qsize_102 : qsize Tryz.prog 102 = some 1 := by kernel_rfl
@[simp] theorem qbytes_102 : qbytes Tryz.prog 102 = some 24 := by kernel_rfl
@[simp] theorem qagg_102 : qagg Tryz.prog 102 = some false := by kernel_rfl
@[simp] theorem qzero_102 : qzero Tryz.prog 102 = some (V.sl none 0 false) := by kernel_rfl
@[simp] theorem qconcrete_102 : qconcrete Tryz.prog 102 = true := by kernel_rfl
@[simp] theorem qsrc_102 : qsrc Tryz.prog 102 = true := by kernel_rfl
@[simp] theorem qthere_102 : qthere Tryz.prog 102 = true := by kernel_rfl
@[simp] theorem cellsOf_102 : Go.Program.cellsOf Tryz.prog 102 = 1 := by kernel_rfl
@[simp] theorem bytesOf_102 : Go.Program.bytesOf Tryz.prog 102 = 24 := by kernel_rfl
@[simp] theorem qelem_102 : qelem Tryz.prog 102 = some 3 := by kernel_rfl
@[simp] theorem qsize_111 : qsize Tryz.prog 111 = some 1 := by kernel_rfl
@[simp] theorem qbytes_111 : qbytes Tryz.prog 111 = some 24 := by kernel_rfl
@[simp] theorem qagg_111 : qagg Tryz.prog 111 = some false := by kernel_rfl
@[simp] theorem qzero_111 : qzero Tryz.prog 111 = some (V.sl none 0 false) := by kernel_rfl
@[simp] theorem qconcrete_111 : qconcrete Tryz.prog 111 = true := by kernel_rfl
@[simp] theorem qsrc_111 : qsrc Tryz.prog 111 = true := by kernel_rfl
@[simp] theorem qthere_111 : qthere Tryz.prog 111 = true := by kernel_rfl
@[simp] theorem cellsOf_111 : Go.Program.cellsOf Tryz.prog 111 = 1 := by kernel_rfl
@[simp] theorem bytesOf_111 : Go.Program.bytesOf Tryz.prog 111 = 24 := by kernel_rfl
@[simp] theorem qelem_111 : qelem Tryz.prog 111 = some 2 := by kernel_rfl
@[simp] theorem qsize_121 : qsize Tryz.prog 121 = some 2 := by kernel_rfl
@[simp] theorem qbytes_121 : qbytes Tryz.prog 121 = some 32 := by kernel_rfl
@[simp] theorem qagg_121 : qagg Tryz.prog 121 = some true := by kernel_rfl
@[simp] theorem qzero_121 : qzero Tryz.prog 121 = some (V.agg [V.sl none 0 false, V.i Go.IntKind.i64 (0)]) := by kernel_rfl
@[simp] theorem qplaces_121 : qplaces Tryz.prog 121 = some [(0, 1), (1, 1)] := by kernel_rfl
@[simp] theorem qconcrete_121 : qconcrete Tryz.prog 121 = true := by kernel_rfl
@[simp] theorem qthere_121 : qthere Tryz.prog 121 = true := by kernel_rfl
@[simp] theorem cellsOf_121 : Go.Program.cellsOf Tryz.prog 121 = 2 := by kernel_rfl
@[simp] theorem bytesOf_121 : Go.Program.bytesOf Tryz.prog 121 = 32 := by kernel_rfl
@[simp] theorem qsize_122 : qsize Tryz.prog 122 = some 1 := by kernel_rfl
@[simp] theorem qbytes_122 : qbytes Tryz.prog 122 = some 8 := by kernel_rfl
@[simp] theorem qagg_122 : qagg Tryz.prog 122 = some false := by kernel_rfl
@[simp] theorem qzero_122 : qzero Tryz.prog 122 = some (V.i Go.IntKind.u64 (0)) := by kernel_rfl
@[simp] theorem qint_122 : qint Tryz.prog 122 = some Go.IntKind.u64 := by kernel_rfl
@[simp] theorem keqi_122 (a c : Int) : keq Tryz.prog 122 (.i Go.IntKind.u64 a) (.i Go.IntKind.u64 c) = some (a == c) := keq_i qint_122
@[simp] theorem qconcrete_122 : qconcrete Tryz.prog 122 = true := by kernel_rfl
@[simp] theorem qkey_122 : qkey Tryz.prog 122 = true := by kernel_rfl
@[simp] theorem qplainKey_122 : qplainKey Tryz.prog 122 = true := by kernel_rfl
@[simp] theorem kf_122 (k : V) : keyFits Tryz.prog 122 k = true := keyFits_plain qplainKey_122
@[simp] theorem qthere_122 : qthere Tryz.prog 122 = true := by kernel_rfl
@[simp] theorem cellsOf_122 : Go.Program.cellsOf Tryz.prog 122 = 1 := by kernel_rfl
@[simp] theorem bytesOf_122 : Go.Program.bytesOf Tryz.prog 122 = 8 := by kernel_rfl
@[simp] theorem qsize_130 : qsize Tryz.prog 130 = some 1 := by kernel_rfl
@[simp] theorem qbytes_130 : qbytes Tryz.prog 130 = some 8 := by kernel_rfl
@[simp] theorem qagg_130 : qagg Tryz.prog 130 = some false := by kernel_rfl
@[simp] theorem qzero_130 : qzero Tryz.prog 130 = some (V.p none) := by kernel_rfl
@[simp] theorem qconcrete_130 : qconcrete Tryz.prog 130 = true := by kernel_rfl
@[simp] theorem qptr_130 : qptr Tryz.prog 130 = true := by kernel_rfl
@[simp] theorem pnn_130 : aeq Tryz.prog 130 (.p none) (.p none) = some true := aeq_pnn qptr_130
@[simp] theorem psn_130 (q : Nat × Nat × Nat) : aeq Tryz.prog 130 (.p (some q)) (.p none) = some false := aeq_psn qptr_130
@[simp] theorem qthere_130 : qthere Tryz.prog 130 = true := by kernel_rfl
@[simp] theorem cellsOf_130 : Go.Program.cellsOf Tryz.prog 130 = 1 := by kernel_rfl
@[simp] theorem bytesOf_130 : Go.Program.bytesOf Tryz.prog 130 = 8 := by kernel_rfl
@[simp] theorem qsize_131 : qsize Tryz.prog 131 = some 1 := by kernel_rfl
@[simp] theorem qbytes_131 : qbytes Tryz.prog 131 = some 8 := by kernel_rfl
@[simp] theorem qagg_131 : qagg Tryz.prog 131 = some false := by kernel_rfl
@[simp] theorem qzero_131 : qzero Tryz.prog 131 = some V.nf := by kernel_rfl
@[simp] theorem qconcrete_131 : qconcrete Tryz.prog 131 = true := by kernel_rfl
@[simp] theorem qthere_131 : qthere Tryz.prog 131 = true := by kernel_rfl
@[simp] theorem cellsOf_131 : Go.Program.cellsOf Tryz.prog 131 = 1 := by kernel_rfl
@[simp] theorem bytesOf_131 : Go.Program.bytesOf Tryz.prog 131 = 8 := by kernel_rfl
@[simp] theorem qsize_143 : qsize Tryz.prog 143 = some 1 := by kernel_rfl
@[simp] theorem qbytes_143 : qbytes Tryz.prog 143 = some 8 := by kernel_rfl
@[simp] theorem qagg_143 : qagg Tryz.prog 143 = some false := by kernel_rfl
@[simp] theorem qzero_143 : qzero Tryz.prog 143 = some (V.i Go.IntKind.u64 (0)) := by kernel_rfl
@[simp] theorem qint_143 : qint Tryz.prog 143 = some Go.IntKind.u64 := by kernel_rfl
@[simp] theorem keqi_143 (a c : Int) : keq Tryz.prog 143 (.i Go.IntKind.u64 a) (.i Go.IntKind.u64 c) = some (a == c) := keq_i qint_143
@[simp] theorem qconcrete_143 : qconcrete Tryz.prog 143 = true := by kernel_rfl
@[simp] theorem qkey_143 : qkey Tryz.prog 143 = true := by kernel_rfl
@[simp] theorem qplainKey_143 : qplainKey Tryz.prog 143 = true := by kernel_rfl
@[simp] theorem kf_143 (k : V) : keyFits Tryz.prog 143 k = true := keyFits_plain qplainKey_143
@[simp] theorem qthere_143 : qthere Tryz.prog 143 = true := by kernel_rfl
@[simp] theorem cellsOf_143 : Go.Program.cellsOf Tryz.prog 143 = 1 := by kernel_rfl
@[simp] theorem bytesOf_143 : Go.Program.bytesOf Tryz.prog 143 = 8 := by kernel_rfl
@[simp] theorem qsize_145 : qsize Tryz.prog 145 = some 4 := by kernel_rfl
@[simp] theorem qbytes_145 : qbytes Tryz.prog 145 = some 32 := by kernel_rfl
@[simp] theorem qagg_145 : qagg Tryz.prog 145 = some true := by kernel_rfl
@[simp] theorem qzero_145 : qzero Tryz.prog 145 = some   (V.agg     [V.i Go.IntKind.i64 (0), V.i Go.IntKind.i64 (0), V.i Go.IntKind.i64 (0),       V.i Go.IntKind.i64 (0)]) := by kernel_rfl
@[simp] theorem qconcrete_145 : qconcrete Tryz.prog 145 = true := by kernel_rfl
@[simp] theorem qthere_145 : qthere Tryz.prog 145 = true := by kernel_rfl
@[simp] theorem cellsOf_145 : Go.Program.cellsOf Tryz.prog 145 = 4 := by kernel_rfl
@[simp] theorem bytesOf_145 : Go.Program.bytesOf Tryz.prog 145 = 32 := by kernel_rfl
@[simp] theorem qarr_145 : qarr Tryz.prog 145 = some (4, 2) := by kernel_rfl
@[simp] theorem qsize_148 : qsize Tryz.prog 148 = some 10 := by kernel_rfl
@[simp] theorem qbytes_148 : qbytes Tryz.prog 148 = some 72 := by kernel_rfl
@[simp] theorem qagg_148 : qagg Tryz.prog 148 = some true := by kernel_rfl
@[simp] theorem qzero_148 : qzero Tryz.prog 148 = some   (V.agg     [V.i Go.IntKind.i64 (0), V.i Go.IntKind.i64 (0), V.i Go.IntKind.i64 (0),       V.i Go.IntKind.i64 (0), V.i Go.IntKind.i64 (0), V.i Go.IntKind.i64 (0),       V.i Go.IntKind.i64 (0), V.i Go.IntKind.i64 (0), V.i Go.IntKind.u32 (0),       V.i Go.IntKind.u32 (0)]) := by kernel_rfl
@[simp] theorem qplaces_148 : qplaces Tryz.prog 148 = some [(0, 1), (1, 1), (2, 8)] := by kernel_rfl
@[simp] theorem qconcrete_148 : qconcrete Tryz.prog 148 = true := by kernel_rfl
@[simp] theorem qkey_148 : qkey Tryz.prog 148 = true := by kernel_rfl
@[simp] theorem qthere_148 : qthere Tryz.prog 148 = true := by kernel_rfl
@[simp] theorem qeq_148 : qeq Tryz.prog 148 = some   [CK.i Go.IntKind.i64, CK.i Go.IntKind.i64, CK.i Go.IntKind.i64, CK.i Go.IntKind.i64, CK.i Go.IntKind.i64,     CK.i Go.IntKind.i64, CK.i Go.IntKind.i64, CK.i Go.IntKind.i64, CK.i Go.IntKind.u32, CK.i Go.IntKind.u32] := by kernel_rfl
@[simp] theorem cellsOf_148 : Go.Program.cellsOf Tryz.prog 148 = 10 := by kernel_rfl
@[simp] theorem bytesOf_148 : Go.Program.bytesOf Tryz.prog 148 = 72 := by kernel_rfl
@[simp] theorem qsize_150 : qsize Tryz.prog 150 = some 7 := by kernel_rfl
@[simp] theorem qbytes_150 : qbytes Tryz.prog 150 = some 88 := by kernel_rfl
@[simp] theorem qagg_150 : qagg Tryz.prog 150 = some true := by kernel_rfl
@[simp] theorem qzero_150 : qzero Tryz.prog 150 = some   (V.agg     [V.i Go.IntKind.i64 (0), V.s [], V.s [], V.s [], V.s [], V.i Go.IntKind.i64 (0),       V.i Go.IntKind.i64 (0)]) := by kernel_rfl
@[simp] theorem qplaces_150 : qplaces Tryz.prog 150 = some [(0, 1), (1, 1), (2, 1), (3, 1), (4, 1), (5, 1), (6, 1)] := by kernel_rfl
@[simp] theorem qconcrete_150 : qconcrete Tryz.prog 150 = true := by kernel_rfl
@[simp] theorem qkey_150 : qkey Tryz.prog 150 = true := by kernel_rfl
@[simp] theorem qthere_150 : qthere Tryz.prog 150 = true := by kernel_rfl
@[simp] theorem qeq_150 : qeq Tryz.prog 150 = some [CK.i Go.IntKind.i64, CK.s, CK.s, CK.s, CK.s, CK.i Go.IntKind.i64, CK.i Go.IntKind.i64] := by kernel_rfl
@[simp] theorem cellsOf_150 : Go.Program.cellsOf Tryz.prog 150 = 7 := by kernel_rfl
@[simp] theorem bytesOf_150 : Go.Program.bytesOf Tryz.prog 150 = 88 := by kernel_rfl
@[simp] theorem qsize_154 : qsize Tryz.prog 154 = some 1 := by kernel_rfl
@[simp] theorem qbytes_154 : qbytes Tryz.prog 154 = some 24 := by kernel_rfl
@[simp] theorem qagg_154 : qagg Tryz.prog 154 = some false := by kernel_rfl
@[simp] theorem qzero_154 : qzero Tryz.prog 154 = some (V.sl none 0 false) := by kernel_rfl
@[simp] theorem qconcrete_154 : qconcrete Tryz.prog 154 = true := by kernel_rfl
@[simp] theorem qsrc_154 : qsrc Tryz.prog 154 = true := by kernel_rfl
@[simp] theorem qthere_154 : qthere Tryz.prog 154 = true := by kernel_rfl
@[simp] theorem cellsOf_154 : Go.Program.cellsOf Tryz.prog 154 = 1 := by kernel_rfl
@[simp] theorem bytesOf_154 : Go.Program.bytesOf Tryz.prog 154 = 24 := by kernel_rfl
@[simp] theorem qelem_154 : qelem Tryz.prog 154 = some 131 := by kernel_rfl
@[simp] theorem qsize_156 : qsize Tryz.prog 156 = some 3 := by kernel_rfl
@[simp] theorem qbytes_156 : qbytes Tryz.prog 156 = some 24 := by kernel_rfl
@[simp] theorem qagg_156 : qagg Tryz.prog 156 = some true := by kernel_rfl
@[simp] theorem qzero_156 : qzero Tryz.prog 156 = some (V.agg [V.i Go.IntKind.i64 (0), V.i Go.IntKind.i64 (0), V.i Go.IntKind.i64 (0)]) := by kernel_rfl
@[simp] theorem qconcrete_156 : qconcrete Tryz.prog 156 = true := by kernel_rfl
@[simp] theorem qthere_156 : qthere Tryz.prog 156 = true := by kernel_rfl
@[simp] theorem cellsOf_156 : Go.Program.cellsOf Tryz.prog 156 = 3 := by kernel_rfl
@[simp] theorem bytesOf_156 : Go.Program.bytesOf Tryz.prog 156 = 24 := by kernel_rfl
@[simp] theorem qarr_156 : qarr Tryz.prog 156 = some (3, 3) := by kernel_rfl
@[simp] theorem qsize_161 : qsize Tryz.prog 161 = some 1 := by kernel_rfl
@[simp] theorem qbytes_161 : qbytes Tryz.prog 161 = some 8 := by kernel_rfl
@[simp] theorem qagg_161 : qagg Tryz.prog 161 = some false := by kernel_rfl
@[simp] theorem qzero_161 : qzero Tryz.prog 161 = some V.nf := by kernel_rfl
@[simp] theorem qconcrete_161 : qconcrete Tryz.prog 161 = true := by kernel_rfl
@[simp] theorem qthere_161 : qthere Tryz.prog 161 = true := by kernel_rfl
@[simp] theorem cellsOf_161 : Go.Program.cellsOf Tryz.prog 161 = 1 := by kernel_rfl
@[simp] theorem bytesOf_161 : Go.Program.bytesOf Tryz.prog 161 = 8 := by kernel_rfl
@[simp] theorem qsize_167 : qsize Tryz.prog 167 = some 1 := by kernel_rfl
@[simp] theorem qbytes_167 : qbytes Tryz.prog 167 = some 8 := by kernel_rfl
@[simp] theorem qagg_167 : qagg Tryz.prog 167 = some false := by kernel_rfl
@[simp] theorem qzero_167 : qzero Tryz.prog 167 = some V.nf := by kernel_rfl
@[simp] theorem qconcrete_167 : qconcrete Tryz.prog 167 = true := by kernel_rfl
@[simp] theorem qthere_167 : qthere Tryz.prog 167 = true := by kernel_rfl
@[simp] theorem cellsOf_167 : Go.Program.cellsOf Tryz.prog 167 = 1 := by kernel_rfl
@[simp] theorem bytesOf_167 : Go.Program.bytesOf Tryz.prog 167 = 8 := by kernel_rfl
@[simp] theorem qsize_170 : qsize Tryz.prog 170 = some 1 := by kernel_rfl
@[simp] theorem qbytes_170 : qbytes Tryz.prog 170 = some 8 := by kernel_rfl
@[simp] theorem qagg_170 : qagg Tryz.prog 170 = some false := by kernel_rfl
@[simp] theorem qzero_170 : qzero Tryz.prog 170 = some V.nf := by kernel_rfl
@[simp] theorem qconcrete_170 : qconcrete Tryz.prog 170 = true := by kernel_rfl
@[simp] theorem qthere_170 : qthere Tryz.prog 170 = true := by kernel_rfl
@[simp] theorem cellsOf_170 : Go.Program.cellsOf Tryz.prog 170 = 1 := by kernel_rfl
@[simp] theorem bytesOf_170 : Go.Program.bytesOf Tryz.prog 170 = 8 := by kernel_rfl
@[simp] theorem qsize_173 : qsize Tryz.prog 173 = some 1 := by kernel_rfl
@[simp] theorem qbytes_173 : qbytes Tryz.prog 173 = some 8 := by kernel_rfl
@[simp] theorem qagg_173 : qagg Tryz.prog 173 = some false := by kernel_rfl
@[simp] theorem qzero_173 : qzero Tryz.prog 173 = some V.nf := by kernel_rfl
@[simp] theorem qconcrete_173 : qconcrete Tryz.prog 173 = true := by kernel_rfl
@[simp] theorem qthere_173 : qthere Tryz.prog 173 = true := by kernel_rfl
@[simp] theorem cellsOf_173 : Go.Program.cellsOf Tryz.prog 173 = 1 := by kernel_rfl
@[simp] theorem bytesOf_173 : Go.Program.bytesOf Tryz.prog 173 = 8 := by kernel_rfl
@[simp] theorem qsize_179 : qsize Tryz.prog 179 = some 1 := by kernel_rfl
@[simp] theorem qbytes_179 : qbytes Tryz.prog 179 = some 8 := by kernel_rfl
@[simp] theorem qagg_179 : qagg Tryz.prog 179 = some false := by kernel_rfl
@[simp] theorem qzero_179 : qzero Tryz.prog 179 = some (V.p none) := by kernel_rfl
@[simp] theorem qconcrete_179 : qconcrete Tryz.prog 179 = true := by kernel_rfl
@[simp] theorem qptr_179 : qptr Tryz.prog 179 = true := by kernel_rfl
@[simp] theorem pnn_179 : aeq Tryz.prog 179 (.p none) (.p none) = some true := aeq_pnn qptr_179
@[simp] theorem psn_179 (q : Nat × Nat × Nat) : aeq Tryz.prog 179 (.p (some q)) (.p none) = some false := aeq_psn qptr_179
@[simp] theorem qthere_179 : qthere Tryz.prog 179 = true := by kernel_rfl
@[simp] theorem cellsOf_179 : Go.Program.cellsOf Tryz.prog 179 = 1 := by kernel_rfl
@[simp] theorem bytesOf_179 : Go.Program.bytesOf Tryz.prog 179 = 8 := by kernel_rfl
@[simp] theorem qsize_193 : qsize Tryz.prog 193 = some 3 := by kernel_rfl
@[simp] theorem qbytes_193 : qbytes Tryz.prog 193 = some 12 := by kernel_rfl
@[simp] theorem qagg_193 : qagg Tryz.prog 193 = some true := by kernel_rfl
@[simp] theorem qzero_193 : qzero Tryz.prog 193 = some (V.agg [V.i Go.IntKind.i32 (0), V.i Go.IntKind.i32 (0), V.i Go.IntKind.i32 (0)]) := by kernel_rfl
@[simp] theorem qplaces_193 : qplaces Tryz.prog 193 = some [(0, 1), (1, 1), (2, 1)] := by kernel_rfl
@[simp] theorem qconcrete_193 : qconcrete Tryz.prog 193 = true := by kernel_rfl
@[simp] theorem qkey_193 : qkey Tryz.prog 193 = true := by kernel_rfl
@[simp] theorem qthere_193 : qthere Tryz.prog 193 = true := by kernel_rfl
@[simp] theorem qeq_193 : qeq Tryz.prog 193 = some [CK.i Go.IntKind.i32, CK.i Go.IntKind.i32, CK.i Go.IntKind.i32] := by kernel_rfl
@[simp] theorem cellsOf_193 : Go.Program.cellsOf Tryz.prog 193 = 3 := by kernel_rfl
@[simp] theorem bytesOf_193 : Go.Program.bytesOf Tryz.prog 193 = 12 := by kernel_rfl
@[simp] theorem qsize_194 : qsize Tryz.prog 194 = some 18 := by kernel_rfl
@[simp] theorem qbytes_194 : qbytes Tryz.prog 194 = some 72 := by kernel_rfl
@[simp] theorem qagg_194 : qagg Tryz.prog 194 = some true := by kernel_rfl
@[simp] theorem qzero_194 : qzero Tryz.prog 194 = some   (V.agg     [V.i Go.IntKind.i32 (0), V.i Go.IntKind.i32 (0), V.i Go.IntKind.i32 (0),       V.i Go.IntKind.i32 (0), V.i Go.IntKind.i32 (0), V.i Go.IntKind.i32 (0),       V.i Go.IntKind.i32 (0), V.i Go.IntKind.i32 (0), V.i Go.IntKind.i32 (0),       V.i Go.IntKind.i32 (0), V.i Go.IntKind.i32 (0), V.i Go.IntKind.i32 (0),       V.i Go.IntKind.i32 (0), V.i Go.IntKind.i32 (0), V.i Go.IntKind.i32 (0),       V.i Go.IntKind.i32 (0), V.i Go.IntKind.i32 (0), V.i Go.IntKind.i32 (0)]) := by kernel_rfl
@[simp] theorem qconcrete_194 : qconcrete Tryz.prog 194 = true := by kernel_rfl
@[simp] theorem qthere_194 : qthere Tryz.prog 194 = true := by kernel_rfl
@[simp] theorem cellsOf_194 : Go.Program.cellsOf Tryz.prog 194 = 18 := by kernel_rfl
@[simp] theorem bytesOf_194 : Go.Program.bytesOf Tryz.prog 194 = 72 := by kernel_rfl
@[simp] theorem qarr_194 : qarr Tryz.prog 194 = some (6, 193) := by kernel_rfl
@[simp] theorem qsize_198 : qsize Tryz.prog 198 = some 256 := by kernel_rfl
@[simp] theorem qbytes_198 : qbytes Tryz.prog 198 = some 256 := by kernel_rfl
@[simp] theorem qagg_198 : qagg Tryz.prog 198 = some true := by kernel_rfl
@[simp] theorem qzero_198 : qzero Tryz.prog 198 = some   (V.agg     [V.i Go.IntKind.u8 (0), V.i Go.IntKind.u8 (0), V.i Go.IntKind.u8 (0),       V.i Go.IntKind.u8 (0), V.i Go.IntKind.u8 (0), V.i Go.IntKind.u8 (0),       V.i Go.IntKind.u8 (0), V.i Go.IntKind.u8 (0), V.i Go.IntKind.u8 (0),       V.i Go.IntKind.u8 (0), V.i Go.IntKind.u8 (0), V.i Go.IntKind.u8 (0),       V.i Go.IntKind.u8 (0), V.i Go.IntKind.u8 (0), V.i Go.IntKind.u8 (0),       V.i Go.IntKind.u8 (0), V.i Go.IntKind.u8 (0), V.i Go.IntKind.u8 (0),       V.i Go.IntKind.u8 (0), V.i Go.IntKind.u8 (0), V.i Go.IntKind.u8 (0),       V.i Go.IntKind.u8 (0), V.i Go.IntKind.u8 (0), V.i Go.IntKind.u8 (0),       V.i Go.IntKind.u8 (0), V.i Go.IntKind.u8 (0), V.i Go.IntKind.u8 (0),       V.i Go.IntKind.u8 (0), V.i Go.IntKind.u8 (0), V.i Go.IntKind.u8 (0),       V.i Go.IntKind.u8 (0), V.i Go.IntKind.u8 (0), V.i Go.IntKind.u8 (0),       V.i Go.IntKind.u8 (0), V.i Go.IntKind.u8 (0), V.i Go.IntKind.u8 (0),       V.i Go.IntKind.u8 (0), V.i Go.IntKind.u8 (0), V.i Go.IntKind.u8 (0),       V.i Go.IntKind.u8 (0), V.i Go.IntKind.u8 (0), V.i Go.IntKind.u8 (0),       V.i Go.IntKind.u8 (0), V.i Go.IntKind.u8 (0), V.i Go.IntKind.u8 (0),       V.i Go.IntKind.u8 (0), V.i Go.IntKind.u8 (0), V.i Go.IntKind.u8 (0),       V.i Go.IntKind.u8 (0), V.i Go.IntKind.u8 (0), V.i Go.IntKind.u8 (0),       V.i Go.IntKind.u8 (0), V.i Go.IntKind.u8 (0), V.i Go.IntKind.u8 (0),       V.i Go.IntKind.u8 (0), V.i Go.IntKind.u8 (0), V.i Go.IntKind.u8 (0),       V.i Go.IntKind.u8 (0), V.i Go.IntKind.u8 (0), V.i Go.IntKind.u8 (0),       V.i Go.IntKind.u8 (0), V.i Go.IntKind.u8 (0), V.i Go.IntKind.u8 (0),       V.i Go.IntKind.u8 (0), V.i Go.IntKind.u8 (0), V.i Go.IntKind.u8 (0),       V.i Go.IntKind.u8 (0), V.i Go.IntKind.u8 (0), V.i Go.IntKind.u8 (0),       V.i Go.IntKind.u8 (0), V.i Go.IntKind.u8 (0), V.i Go.IntKind.u8 (0),       V.i Go.IntKind.u8 (0), V.i Go.IntKind.u8 (0), V.i Go.IntKind.u8 (0),       V.i Go.IntKind.u8 (0), V.i Go.IntKind.u8 (0), V.i Go.IntKind.u8 (0),       V.i Go.IntKind.u8 (0), V.i Go.IntKind.u8 (0), V.i Go.IntKind.u8 (0),       V.i Go.IntKind.u8 (0), V.i Go.IntKind.u8 (0), V.i Go.IntKind.u8 (0),       V.i Go.IntKind.u8 (0), V.i Go.IntKind.u8 (0), V.i Go.IntKind.u8 (0),       V.i Go.IntKind.u8 (0), V.i Go.IntKind.u8 (0), V.i Go.IntKind.u8 (0),       V.i Go.IntKind.u8 (0), V.i Go.IntKind.u8 (0), V.i Go.IntKind.u8 (0),       V.i Go.IntKind.u8 (0), V.i Go.IntKind.u8 (0), V.i Go.IntKind.u8 (0),       V.i Go.IntKind.u8 (0), V.i Go.IntKind.u8 (0), V.i Go.IntKind.u8 (0),       V.i Go.IntKind.u8 (0), V.i Go.IntKind.u8 (0), V.i Go.IntKind.u8 (0),       V.i Go.IntKind.u8 (0), V.i Go.IntKind.u8 (0), V.i Go.IntKind.u8 (0),       V.i Go.IntKind.u8 (0), V.i Go.IntKind.u8 (0), V.i Go.IntKind.u8 (0),       V.i Go.IntKind.u8 (0), V.i Go.IntKind.u8 (0), V.i Go.IntKind.u8 (0),       V.i Go.IntKind.u8 (0), V.i Go.IntKind.u8 (0), V.i Go.IntKind.u8 (0),       V.i Go.IntKind.u8 (0), V.i Go.IntKind.u8 (0), V.i Go.IntKind.u8 (0),       V.i Go.IntKind.u8 (0), V.i Go.IntKind.u8 (0), V.i Go.IntKind.u8 (0),       V.i Go.IntKind.u8 (0), V.i Go.IntKind.u8 (0), V.i Go.IntKind.u8 (0),       V.i Go.IntKind.u8 (0), V.i Go.IntKind.u8 (0), V.i Go.IntKind.u8 (0),       V.i Go.IntKind.u8 (0), V.i Go.IntKind.u8 (0), V.i Go.IntKind.u8 (0),       V.i Go.IntKind.u8 (0), V.i Go.IntKind.u8 (0), V.i Go.IntKind.u8 (0),       V.i Go.IntKind.u8 (0), V.i Go.IntKind.u8 (0), V.i Go.IntKind.u8 (0),       V.i Go.IntKind.u8 (0), V.i Go.IntKind.u8 (0), V.i Go.IntKind.u8 (0),       V.i Go.IntKind.u8 (0), V.i Go.IntKind.u8 (0), V.i Go.IntKind.u8 (0),       V.i Go.IntKind.u8 (0), V.i Go.IntKind.u8 (0), V.i Go.IntKind.u8 (0),       V.i Go.IntKind.u8 (0), V.i Go.IntKind.u8 (0), V.i Go.IntKind.u8 (0),       V.i Go.IntKind.u8 (0), V.i Go.IntKind.u8 (0), V.i Go.IntKind.u8 (0),       V.i Go.IntKind.u8 (0), V.i Go.IntKind.u8 (0), V.i Go.IntKind.u8 (0),       V.i Go.IntKind.u8 (0), V.i Go.IntKind.u8 (0), V.i Go.IntKind.u8 (0),       V.i Go.IntKind.u8 (0), V.i Go.IntKind.u8 (0), V.i Go.IntKind.u8 (0),       V.i Go.IntKind.u8 (0), V.i Go.IntKind.u8 (0), V.i Go.IntKind.u8 (0),       V.i Go.IntKind.u8 (0), V.i Go.IntKind.u8 (0), V.i Go.IntKind.u8 (0),       V.i Go.IntKind.u8 (0), V.i Go.IntKind.u8 (0), V.i Go.IntKind.u8 (0),       V.i Go.IntKind.u8 (0), V.i Go.IntKind.u8 (0), V.i Go.IntKind.u8 (0),       V.i Go.IntKind.u8 (0), V.i Go.IntKind.u8 (0), V.i Go.IntKind.u8 (0),       V.i Go.IntKind.u8 (0), V.i Go.IntKind.u8 (0), V.i Go.IntKind.u8 (0),       V.i Go.IntKind.u8 (0), V.i Go.IntKind.u8 (0), V.i Go.IntKind.u8 (0),       V.i Go.IntKind.u8 (0), V.i Go.IntKind.u8 (0), V.i Go.IntKind.u8 (0),       V.i Go.IntKind.u8 (0), V.i Go.IntKind.u8 (0), V.i Go.IntKind.u8 (0),       V.i Go.IntKind.u8 (0), V.i Go.IntKind.u8 (0), V.i Go.IntKind.u8 (0),       V.i Go.IntKind.u8 (0), V.i Go.IntKind.u8 (0), V.i Go.IntKind.u8 (0),       V.i Go.IntKind.u8 (0), V.i Go.IntKind.u8 (0), V.i Go.IntKind.u8 (0),       V.i Go.IntKind.u8 (0), V.i Go.IntKind.u8 (0), V.i Go.IntKind.u8 (0),       V.i Go.IntKind.u8 (0), V.i Go.IntKind.u8 (0), V.i Go.IntKind.u8 (0),       V.i Go.IntKind.u8 (0), V.i Go.IntKind.u8 (0), V.i Go.IntKind.u8 (0),       V.i Go.IntKind.u8 (0), V.i Go.IntKind.u8 (0), V.i Go.IntKind.u8 (0),       V.i Go.IntKind.u8 (0), V.i Go.IntKind.u8 (0), V.i Go.IntKind.u8 (0),       V.i Go.IntKind.u8 (0), V.i Go.IntKind.u8 (0), V.i Go.IntKind.u8 (0),       V.i Go.IntKind.u8 (0), V.i Go.IntKind.u8 (0), V.i Go.IntKind.u8 (0),       V.i Go.IntKind.u8 (0), V.i Go.IntKind.u8 (0), V.i Go.IntKind.u8 (0),       V.i Go.IntKind.u8 (0), V.i Go.IntKind.u8 (0), V.i Go.IntKind.u8 (0),       V.i Go.IntKind.u8 (0), V.i Go.IntKind.u8 (0), V.i Go.IntKind.u8 (0),       V.i Go.IntKind.u8 (0), V.i Go.IntKind.u8 (0), V.i Go.IntKind.u8 (0),       V.i Go.IntKind.u8 (0), V.i Go.IntKind.u8 (0), V.i Go.IntKind.u8 (0),       V.i Go.IntKind.u8 (0), V.i Go.IntKind.u8 (0), V.i Go.IntKind.u8 (0),       V.i Go.IntKind.u8 (0), V.i Go.IntKind.u8 (0), V.i Go.IntKind.u8 (0),       V.i Go.IntKind.u8 (0), V.i Go.IntKind.u8 (0), V.i Go.IntKind.u8 (0),       V.i Go.IntKind.u8 (0), V.i Go.IntKind.u8 (0), V.i Go.IntKind.u8 (0),       V.i Go.IntKind.u8 (0), V.i Go.IntKind.u8 (0), V.i Go.IntKind.u8 (0),       V.i Go.IntKind.u8 (0), V.i Go.IntKind.u8 (0), V.i Go.IntKind.u8 (0),       V.i Go.IntKind.u8 (0), V.i Go.IntKind.u8 (0), V.i Go.IntKind.u8 (0),       V.i Go.IntKind.u8 (0), V.i Go.IntKind.u8 (0), V.i Go.IntKind.u8 (0),       V.i Go.IntKind.u8 (0)]) := by kernel_rfl
@[simp] theorem qconcrete_198 : qconcrete Tryz.prog 198 = true := by kernel_rfl
@[simp] theorem qthere_198 : qthere Tryz.prog 198 = true := by kernel_rfl
@[simp] theorem cellsOf_198 : Go.Program.cellsOf Tryz.prog 198 = 256 := by kernel_rfl
@[simp] theorem bytesOf_198 : Go.Program.bytesOf Tryz.prog 198 = 256 := by kernel_rfl
@[simp] theorem qarr_198 : qarr Tryz.prog 198 = some (256, 5) := by kernel_rfl
@[simp] theorem qsize_200 : qsize Tryz.prog 200 = some 2 := by kernel_rfl
@[simp] theorem qbytes_200 : qbytes Tryz.prog 200 = some 2 := by kernel_rfl
@[simp] theorem qagg_200 : qagg Tryz.prog 200 = some true := by kernel_rfl
@[simp] theorem qzero_200 : qzero Tryz.prog 200 = some (V.agg [V.i Go.IntKind.u8 (0), V.i Go.IntKind.u8 (0)]) := by kernel_rfl
@[simp] theorem qplaces_200 : qplaces Tryz.prog 200 = some [(0, 1), (1, 1)] := by kernel_rfl
@[simp] theorem qconcrete_200 : qconcrete Tryz.prog 200 = true := by kernel_rfl
@[simp] theorem qkey_200 : qkey Tryz.prog 200 = true := by kernel_rfl
@[simp] theorem qthere_200 : qthere Tryz.prog 200 = true := by kernel_rfl
@[simp] theorem qeq_200 : qeq Tryz.prog 200 = some [CK.i Go.IntKind.u8, CK.i Go.IntKind.u8] := by kernel_rfl
@[simp] theorem cellsOf_200 : Go.Program.cellsOf Tryz.prog 200 = 2 := by kernel_rfl
@[simp] theorem bytesOf_200 : Go.Program.bytesOf Tryz.prog 200 = 2 := by kernel_rfl
@[simp] theorem qsize_201 : qsize Tryz.prog 201 = some 32 := by kernel_rfl
@[simp] theorem qbytes_201 : qbytes Tryz.prog 201 = some 32 := by kernel_rfl
@[simp] theorem qagg_201 : qagg Tryz.prog 201 = some true := by kernel_rfl
@[simp] theorem qzero_201 : qzero Tryz.prog 201 = some   (V.agg     [V.i Go.IntKind.u8 (0), V.i Go.IntKind.u8 (0), V.i Go.IntKind.u8 (0),       V.i Go.IntKind.u8 (0), V.i Go.IntKind.u8 (0), V.i Go.IntKind.u8 (0),       V.i Go.IntKind.u8 (0), V.i Go.IntKind.u8 (0), V.i Go.IntKind.u8 (0),       V.i Go.IntKind.u8 (0), V.i Go.IntKind.u8 (0), V.i Go.IntKind.u8 (0),       V.i Go.IntKind.u8 (0), V.i Go.IntKind.u8 (0), V.i Go.IntKind.u8 (0),       V.i Go.IntKind.u8 (0), V.i Go.IntKind.u8 (0), V.i Go.IntKind.u8 (0),       V.i Go.IntKind.u8 (0), V.i Go.IntKind.u8 (0), V.i Go.IntKind.u8 (0),       V.i Go.IntKind.u8 (0), V.i Go.IntKind.u8 (0), V.i Go.IntKind.u8 (0),       V.i Go.IntKind.u8 (0), V.i Go.IntKind.u8 (0), V.i Go.IntKind.u8 (0),       V.i Go.IntKind.u8 (0), V.i Go.IntKind.u8 (0), V.i Go.IntKind.u8 (0),       V.i Go.IntKind.u8 (0), V.i Go.IntKind.u8 (0)]) := by kernel_rfl
@[simp] theorem qconcrete_201 : qconcrete Tryz.prog 201 = true := by kernel_rfl
@[simp] theorem qthere_201 : qthere Tryz.prog 201 = true := by kernel_rfl
@[simp] theorem cellsOf_201 : Go.Program.cellsOf Tryz.prog 201 = 32 := by kernel_rfl
@[simp] theorem bytesOf_201 : Go.Program.bytesOf Tryz.prog 201 = 32 := by kernel_rfl
@[simp] theorem qarr_201 : qarr Tryz.prog 201 = some (16, 200) := by kernel_rfl
@[simp] theorem qsize_208 : qsize Tryz.prog 208 = some 1 := by kernel_rfl
@[simp] theorem qbytes_208 : qbytes Tryz.prog 208 = some 1 := by kernel_rfl
@[simp] theorem qagg_208 : qagg Tryz.prog 208 = some false := by kernel_rfl
@[simp] theorem qzero_208 : qzero Tryz.prog 208 = some (V.i Go.IntKind.u8 (0)) := by kernel_rfl
@[simp] theorem qint_208 : qint Tryz.prog 208 = some Go.IntKind.u8 := by kernel_rfl
@[simp] theorem keqi_208 (a c : Int) : keq Tryz.prog 208 (.i Go.IntKind.u8 a) (.i Go.IntKind.u8 c) = some (a == c) := keq_i qint_208
@[simp] theorem qconcrete_208 : qconcrete Tryz.prog 208 = true := by kernel_rfl
@[simp] theorem qkey_208 : qkey Tryz.prog 208 = true := by kernel_rfl
@[simp] theorem qplainKey_208 : qplainKey Tryz.prog 208 = true := by kernel_rfl
@[simp] theorem kf_208 (k : V) : keyFits Tryz.prog 208 k = true := keyFits_plain qplainKey_208
@[simp] theorem qthere_208 : qthere Tryz.prog 208 = true := by kernel_rfl
@[simp] theorem cellsOf_208 : Go.Program.cellsOf Tryz.prog 208 = 1 := by kernel_rfl
@[simp] theorem bytesOf_208 : Go.Program.bytesOf Tryz.prog 208 = 1 := by kernel_rfl
@[simp] theorem qfield_24_0 : qfield Tryz.prog 24 0 = some (0, 1, false) := by kernel_rfl
@[simp] theorem qfield_24_1 : qfield Tryz.prog 24 1 = some (1, 1, false) := by kernel_rfl
@[simp] theorem qfield_24_2 : qfield Tryz.prog 24 2 = some (2, 1, false) := by kernel_rfl
@[simp] theorem qfield_24_3 : qfield Tryz.prog 24 3 = some (3, 1, false) := by kernel_rfl
@[simp] theorem qfield_24_4 : qfield Tryz.prog 24 4 = some (4, 1, false) := by kernel_rfl
@[simp] theorem qfield_24_5 : qfield Tryz.prog 24 5 = some (5, 1, false) := by kernel_rfl
@[simp] theorem qfield_24_6 : qfield Tryz.prog 24 6 = some (6, 1, false) := by kernel_rfl
@[simp] theorem qfield_24_7 : qfield Tryz.prog 24 7 = some (7, 1, false) := by kernel_rfl
@[simp] theorem qfield_26_0 : qfield Tryz.prog 26 0 = some (0, 1, false) := by kernel_rfl
@[simp] theorem qfield_26_1 : qfield Tryz.prog 26 1 = some (1, 8, true) := by kernel_rfl
@[simp] theorem qfield_26_2 : qfield Tryz.prog 26 2 = some (9, 8, true) := by kernel_rfl
@[simp] theorem qfield_26_3 : qfield Tryz.prog 26 3 = some (17, 1, false) := by kernel_rfl
@[simp] theorem qfield_26_4 : qfield Tryz.prog 26 4 = some (18, 1, false) := by kernel_rfl
@[simp] theorem qfield_26_5 : qfield Tryz.prog 26 5 = some (19, 1, false) := by kernel_rfl
@[simp] theorem qfield_26_6 : qfield Tryz.prog 26 6 = some (20, 1, false) := by kernel_rfl
@[simp] theorem qfield_26_7 : qfield Tryz.prog 26 7 = some (21, 1, false) := by kernel_rfl
@[simp] theorem qfield_33_0 : qfield Tryz.prog 33 0 = some (0, 1, false) := by kernel_rfl
@[simp] theorem qfield_33_1 : qfield Tryz.prog 33 1 = some (1, 8, true) := by kernel_rfl
@[simp] theorem qfield_33_2 : qfield Tryz.prog 33 2 = some (9, 8, true) := by kernel_rfl
@[simp] theorem qfield_33_3 : qfield Tryz.prog 33 3 = some (17, 1, false) := by kernel_rfl
@[simp] theorem qfield_33_4 : qfield Tryz.prog 33 4 = some (18, 1, false) := by kernel_rfl
@[simp] theorem qfield_33_5 : qfield Tryz.prog 33 5 = some (19, 1, false) := by kernel_rfl
@[simp] theorem qfield_33_6 : qfield Tryz.prog 33 6 = some (20, 1, false) := by kernel_rfl
@[simp] theorem qfield_33_7 : qfield Tryz.prog 33 7 = some (21, 1, false) := by kernel_rfl
@[simp] theorem qfield_48_0 : qfield Tryz.prog 48 0 = some (0, 1, false) := by kernel_rfl
@[simp] theorem qfield_48_1 : qfield Tryz.prog 48 1 = some (1, 1, false) := by kernel_rfl
@[simp] theorem qfield_48_2 : qfield Tryz.prog 48 2 = some (2, 1, false) := by kernel_rfl
@[simp] theorem qfield_48_3 : qfield Tryz.prog 48 3 = some (3, 1, false) := by kernel_rfl
@[simp] theorem qfield_48_4 : qfield Tryz.prog 48 4 = some (4, 1, false) := by kernel_rfl
@[simp] theorem qfield_48_5 : qfield Tryz.prog 48 5 = some (5, 8, true) := by kernel_rfl
@[simp] theorem qfield_48_6 : qfield Tryz.prog 48 6 = some (13, 8, true) := by kernel_rfl
@[simp] theorem qfield_48_7 : qfield Tryz.prog 48 7 = some (21, 1, false) := by kernel_rfl
@[simp] theorem qfield_48_8 : qfield Tryz.prog 48 8 = some (22, 1, false) := by kernel_rfl
@[simp] theorem qfield_48_9 : qfield Tryz.prog 48 9 = some (23, 1, false) := by kernel_rfl
@[simp] theorem qfield_48_10 : qfield Tryz.prog 48 10 = some (24, 4, true) := by kernel_rfl
@[simp] theorem qfield_48_11 : qfield Tryz.prog 48 11 = some (28, 1, false) := by kernel_rfl
@[simp] theorem qfield_48_12 : qfield Tryz.prog 48 12 = some (29, 1, false) := by kernel_rfl
@[simp] theorem qfield_48_13 : qfield Tryz.prog 48 13 = some (30, 1, false) := by kernel_rfl
@[simp] theorem qfield_48_14 : qfield Tryz.prog 48 14 = some (31, 1, false) := by kernel_rfl
@[simp] theorem qfield_68_0 : qfield Tryz.prog 68 0 = some (0, 1, false) := by kernel_rfl
@[simp] theorem qfield_68_1 : qfield Tryz.prog 68 1 = some (1, 1, false) := by kernel_rfl
@[simp] theorem qfield_68_2 : qfield Tryz.prog 68 2 = some (2, 1, false) := by kernel_rfl
@[simp] theorem qfield_68_3 : qfield Tryz.prog 68 3 = some (3, 1, false) := by kernel_rfl
@[simp] theorem qfield_68_4 : qfield Tryz.prog 68 4 = some (4, 8, true) := by kernel_rfl
@[simp] theorem qfield_68_5 : qfield Tryz.prog 68 5 = some (12, 1, false) := by kernel_rfl
@[simp] theorem qfield_68_6 : qfield Tryz.prog 68 6 = some (13, 1, false) := by kernel_rfl
@[simp] theorem qfield_82_0 : qfield Tryz.prog 82 0 = some (0, 1, false) := by kernel_rfl
@[simp] theorem qfield_82_1 : qfield Tryz.prog 82 1 = some (1, 1, false) := by kernel_rfl
@[simp] theorem qfield_121_0 : qfield Tryz.prog 121 0 = some (0, 1, false) := by kernel_rfl
@[simp] theorem qfield_121_1 : qfield Tryz.prog 121 1 = some (1, 1, false) := by kernel_rfl
@[simp] theorem qfield_148_0 : qfield Tryz.prog 148 0 = some (0, 1, false) := by kernel_rfl
@[simp] theorem qfield_148_1 : qfield Tryz.prog 148 1 = some (1, 1, false) := by kernel_rfl
@[simp] theorem qfield_148_2 : qfield Tryz.prog 148 2 = some (2, 8, true) := by kernel_rfl
@[simp] theorem qfield_150_0 : qfield Tryz.prog 150 0 = some (0, 1, false) := by kernel_rfl
@[simp] theorem qfield_150_1 : qfield Tryz.prog 150 1 = some (1, 1, false) := by kernel_rfl
@[simp] theorem qfield_150_2 : qfield Tryz.prog 150 2 = some (2, 1, false) := by kernel_rfl
@[simp] theorem qfield_150_3 : qfield Tryz.prog 150 3 = some (3, 1, false) := by kernel_rfl
@[simp] theorem qfield_150_4 : qfield Tryz.prog 150 4 = some (4, 1, false) := by kernel_rfl
@[simp] theorem qfield_150_5 : qfield Tryz.prog 150 5 = some (5, 1, false) := by kernel_rfl
@[simp] theorem qfield_150_6 : qfield Tryz.prog 150 6 = some (6, 1, false) := by kernel_rfl
@[simp] theorem qfield_193_0 : qfield Tryz.prog 193 0 = some (0, 1, false) := by kernel_rfl
@[simp] theorem qfield_193_1 : qfield Tryz.prog 193 1 = some (1, 1, false) := by kernel_rfl
@[simp] theorem qfield_193_2 : qfield Tryz.prog 193 2 = some (2, 1, false) := by kernel_rfl
@[simp] theorem qfield_200_0 : qfield Tryz.prog 200 0 = some (0, 1, false) := by kernel_rfl
@[simp] theorem qfield_200_1 : qfield Tryz.prog 200 1 = some (1, 1, false) := by kernel_rfl
/-- 23 operations, 24 nodes, looks at memory: true -/
def pl_3_7 : Plan := .take 0 (.take 1 (.take 2 (.take 3 (.take 4 (.take 5 (.take 6 (.take 7 (.take 8 (.take 9 (.alt 10 true (.take 11 (.take 12 (.take 13 (.take 14 (.take 15 (.take 16 (.take 17 (.take 18 (.take 19 (.take 20 (.take 21 (.take 22 (.done))))))))))))) (.stop)))))))))))
def pe_3_7 : Bool := true
/-- 12 operations, 20 nodes, looks at memory: true -/
def pl_4_14 : Plan := .take 0 (.take 1 (.take 2 (.take 3 (.take 4 (.alt 5 false (.take 6 (.take 7 (.take 8 (.alt 9 true (.alt 10 false (.take 11 (.done)) (.stop)) (.stop))))) (.alt 9 true (.alt 5 false (.take 6 (.take 7 (.take 8 (.alt 10 false (.take 11 (.done)) (.stop))))) (.stop)) (.stop)))))))
def pe_4_14 : Bool := true
/-- 10 operations, 11 nodes, looks at memory: true -/
def pl_9_5 : Plan := .take 0 (.take 1 (.take 2 (.take 5 (.take 6 (.alt 3 true (.take 4 (.alt 7 false (.take 8 (.take 9 (.done))) (.stop))) (.stop))))))
def pe_9_5 : Bool := true
/-- 11 operations, 12 nodes, looks at memory: true -/
def pl_9_9 : Plan := .take 0 (.take 1 (.take 2 (.take 3 (.take 6 (.take 7 (.alt 4 true (.take 5 (.alt 8 true (.take 9 (.take 10 (.done))) (.stop))) (.stop)))))))
def pe_9_9 : Bool := true
/-- 10 operations, 11 nodes, looks at memory: true -/
def pl_9_11 : Plan := .take 0 (.take 1 (.take 2 (.take 5 (.take 6 (.alt 3 true (.take 4 (.alt 7 false (.take 8 (.take 9 (.done))) (.stop))) (.stop))))))
def pe_9_11 : Bool := true
/-- 15 operations, 16 nodes, looks at memory: true -/
def pl_14_7 : Plan := .take 0 (.take 1 (.take 3 (.take 4 (.take 6 (.take 7 (.alt 2 true (.alt 5 true (.alt 8 true (.take 9 (.alt 10 false (.take 11 (.alt 12 false (.take 13 (.alt 14 false (.done) (.stop))) (.stop))) (.stop))) (.stop)) (.stop)) (.stop)))))))
def pe_14_7 : Bool := true
/-- 17 operations, 18 nodes, looks at memory: true -/
def pl_14_11 : Plan := .take 0 (.take 1 (.take 2 (.take 3 (.take 4 (.take 5 (.take 6 (.take 7 (.take 8 (.take 9 (.alt 10 true (.take 11 (.alt 12 false (.take 13 (.alt 14 false (.take 15 (.alt 16 false (.done) (.stop))) (.stop))) (.stop))) (.stop)))))))))))
def pe_14_11 : Bool := true
/-- 8 operations, 9 nodes, looks at memory: true -/
def pl_14_19 : Plan := .take 0 (.take 1 (.take 2 (.take 3 (.alt 4 true (.alt 5 false (.take 6 (.alt 7 false (.done) (.stop))) (.stop)) (.stop)))))
def pe_14_19 : Bool := true
/-- 14 operations, 15 nodes, looks at memory: true -/
def pl_14_21 : Plan := .take 0 (.take 1 (.take 2 (.alt 3 true (.take 4 (.take 5 (.take 6 (.take 7 (.take 8 (.take 9 (.alt 10 true (.take 11 (.take 12 (.take 13 (.done)))) (.stop)))))))) (.stop))))
def pe_14_21 : Bool := true
/-- 10 operations, 11 nodes, looks at memory: true -/
def pl_17_23 : Plan := .take 0 (.take 1 (.take 2 (.alt 3 true (.take 4 (.take 5 (.alt 6 true (.alt 7 false (.take 8 (.alt 9 false (.done) (.stop))) (.stop)) (.stop)))) (.stop))))
def pe_17_23 : Bool := true
/-- 8 operations, 9 nodes, looks at memory: true -/
def pl_17_29 : Plan := .take 0 (.take 1 (.take 2 (.alt 3 true (.alt 4 true (.alt 5 false (.take 6 (.alt 7 false (.done) (.stop))) (.stop)) (.stop)) (.stop))))
def pe_17_29 : Bool := true
/-- 11 operations, 12 nodes, looks at memory: true -/
def pl_17_33 : Plan := .take 0 (.alt 1 true (.take 2 (.take 3 (.take 4 (.take 7 (.take 8 (.alt 5 true (.take 6 (.take 9 (.take 10 (.done)))) (.stop))))))) (.stop))
def pe_17_33 : Bool := true
/-- 8 operations, 9 nodes, looks at memory: true -/
def pl_18_1 : Plan := .take 0 (.take 3 (.alt 1 true (.take 2 (.alt 4 true (.take 5 (.take 6 (.take 7 (.done)))) (.stop))) (.stop)))
def pe_18_1 : Bool := true
/-- 14 operations, 15 nodes, looks at memory: true -/
def pl_19_1 : Plan := .take 0 (.take 1 (.take 2 (.take 3 (.take 4 (.take 5 (.take 6 (.take 7 (.take 8 (.take 9 (.take 10 (.alt 11 true (.take 12 (.take 13 (.done))) (.stop))))))))))))
def pe_19_1 : Bool := true
/-- 19 operations, 20 nodes, looks at memory: true -/
def pl_28_3 : Plan := .take 0 (.take 1 (.take 2 (.take 5 (.take 6 (.take 9 (.take 10 (.take 13 (.take 14 (.take 15 (.alt 3 true (.take 4 (.alt 7 true (.take 8 (.alt 11 true (.take 12 (.alt 16 true (.take 17 (.take 18 (.done))) (.stop))) (.stop))) (.stop))) (.stop)))))))))))
def pe_28_3 : Bool := true
/-- 15 operations, 16 nodes, looks at memory: true -/
def pl_28_5 : Plan := .take 0 (.take 1 (.take 2 (.take 5 (.take 6 (.take 9 (.take 10 (.take 11 (.alt 3 true (.take 4 (.alt 7 true (.take 8 (.alt 12 true (.take 13 (.take 14 (.done))) (.stop))) (.stop))) (.stop)))))))))
def pe_28_5 : Bool := true
/-- 4 operations, 5 nodes, looks at memory: false -/
def pl_36_2 : Plan := .take 0 (.take 2 (.alt 1 false (.alt 3 false (.done) (.stop)) (.stop)))
def pe_36_2 : Bool := false
/-- 4 operations, 5 nodes, looks at memory: true -/
def pl_37_16 : Plan := .take 0 (.take 1 (.alt 2 true (.alt 3 false (.done) (.stop)) (.stop)))
def pe_37_16 : Bool := true
/-- 4 operations, 5 nodes, looks at memory: true -/
def pl_37_19 : Plan := .take 0 (.take 1 (.alt 2 true (.alt 3 false (.done) (.stop)) (.stop)))
def pe_37_19 : Bool := true
/-- 3 operations, 4 nodes, looks at memory: false -/
def pl_38_3 : Plan := .take 1 (.alt 0 false (.alt 2 false (.done) (.stop)) (.stop))
def pe_38_3 : Bool := false
/-- 11 operations, 12 nodes, looks at memory: true -/
def pl_38_6 : Plan := .take 0 (.take 1 (.take 2 (.take 3 (.take 4 (.take 5 (.take 6 (.take 7 (.take 8 (.take 9 (.alt 10 false (.done) (.stop)))))))))))
def pe_38_6 : Bool := true
/-- 26 operations, 77 nodes, looks at memory: true -/
def pl_49_1 : Plan := .take 0 (.take 1 (.take 2 (.take 3 (.take 4 (.take 5 (.take 6 (.take 7 (.take 8 (.take 10 (.take 11 (.take 12 (.take 13 (.take 16 (.take 17 (.take 18 (.take 19 (.take 20 (.take 21 (.alt 9 true (.alt 14 true (.alt 15 true (.alt 22 true (.take 23 (.alt 24 true (.alt 25 false (.done) (.stop)) (.stop))) (.alt 24 true (.alt 22 true (.take 23 (.alt 25 false (.done) (.stop))) (.stop)) (.stop))) (.alt 24 true (.alt 15 true (.alt 22 true (.take 23 (.alt 25 false (.done) (.stop))) (.stop)) (.stop)) (.stop))) (.alt 24 true (.alt 14 true (.alt 15 true (.alt 22 true (.take 23 (.alt 25 false (.done) (.stop))) (.stop)) (.stop)) (.stop)) (.stop))) (.alt 14 true (.alt 9 true (.alt 15 true (.alt 22 true (.take 23 (.alt 24 true (.alt 25 false (.done) (.stop)) (.stop))) (.alt 24 true (.alt 22 true (.take 23 (.alt 25 false (.done) (.stop))) (.stop)) (.stop))) (.alt 24 true (.alt 15 true (.alt 22 true (.take 23 (.alt 25 false (.done) (.stop))) (.stop)) (.stop)) (.stop))) (.alt 24 true (.alt 9 true (.alt 15 true (.alt 22 true (.take 23 (.alt 25 false (.done) (.stop))) (.stop)) (.stop)) (.stop)) (.stop))) (.alt 24 true (.alt 9 true (.alt 14 true (.alt 15 true (.alt 22 true (.take 23 (.alt 25 false (.done) (.stop))) (.stop)) (.stop)) (.stop)) (.alt 14 true (.alt 9 true (.alt 15 true (.alt 22 true (.take 23 (.alt 25 false (.done) (.stop))) (.stop)) (.stop)) (.stop)) (.stop))) (.stop))))))))))))))))))))))
def pe_49_1 : Bool := true
/-- 8 operations, 12 nodes, looks at memory: true -/
def pl_49_2 : Plan := .take 0 (.take 1 (.take 2 (.take 3 (.take 4 (.alt 5 false (.alt 6 true (.alt 7 false (.done) (.stop)) (.stop)) (.alt 6 true (.alt 5 false (.alt 7 false (.done) (.stop)) (.stop)) (.stop)))))))
def pe_49_2 : Bool := true
/-- 8 operations, 9 nodes, looks at memory: true -/
def pl_58_5 : Plan := .take 0 (.take 1 (.take 2 (.take 3 (.take 4 (.alt 5 true (.take 6 (.alt 7 false (.done) (.stop))) (.stop))))))
def pe_58_5 : Bool := true
/-- 8 operations, 9 nodes, looks at memory: true -/
def pl_58_9 : Plan := .take 0 (.take 1 (.take 2 (.take 3 (.take 4 (.alt 5 true (.take 6 (.alt 7 false (.done) (.stop))) (.stop))))))
def pe_58_9 : Bool := true
/-- 8 operations, 9 nodes, looks at memory: true -/
def pl_58_11 : Plan := .take 0 (.take 1 (.take 2 (.take 3 (.take 4 (.alt 5 true (.take 6 (.alt 7 false (.done) (.stop))) (.stop))))))
def pe_58_11 : Bool := true
/-- 4 operations, 5 nodes, looks at memory: true -/
def pl_64_31 : Plan := .take 0 (.take 1 (.alt 2 true (.alt 3 false (.done) (.stop)) (.stop)))
def pe_64_31 : Bool := true
/-- 4 operations, 5 nodes, looks at memory: true -/
def pl_64_35 : Plan := .take 0 (.take 1 (.alt 2 true (.alt 3 false (.done) (.stop)) (.stop)))
def pe_64_35 : Bool := true
/-- 3 operations, 4 nodes, looks at memory: false -/
def pl_69_2 : Plan := .take 1 (.alt 0 false (.alt 2 false (.done) (.stop)) (.stop))
def pe_69_2 : Bool := false
/-- 9 operations, 10 nodes, looks at memory: false -/
def pl_69_17 : Plan := .take 0 (.take 1 (.take 3 (.take 4 (.take 7 (.alt 2 false (.alt 5 false (.take 6 (.alt 8 false (.done) (.stop))) (.stop)) (.stop))))))
def pe_69_17 : Bool := false
/-- 4 operations, 5 nodes, looks at memory: false -/
def pl_70_4 : Plan := .take 0 (.take 2 (.alt 1 false (.alt 3 false (.done) (.stop)) (.stop)))
def pe_70_4 : Bool := false
/-- 4 operations, 5 nodes, looks at memory: false -/
def pl_72_4 : Plan := .take 0 (.take 2 (.alt 1 false (.alt 3 false (.done) (.stop)) (.stop)))
def pe_72_4 : Bool := false
/-- 8 operations, 9 nodes, looks at memory: true -/
def pl_74_1 : Plan := .take 0 (.take 1 (.take 2 (.take 3 (.take 4 (.take 5 (.take 6 (.take 7 (.done))))))))
def pe_74_1 : Bool := true
/-- 12 operations, 13 nodes, looks at memory: true -/
def pl_75_1 : Plan := .take 0 (.take 1 (.take 2 (.take 3 (.take 4 (.take 5 (.take 6 (.take 7 (.take 8 (.take 9 (.take 10 (.take 11 (.done))))))))))))
def pe_75_1 : Bool := true
/-- 26 operations, 27 nodes, looks at memory: true -/
def pl_77_1 : Plan := .take 0 (.take 1 (.take 2 (.take 3 (.take 4 (.take 5 (.take 6 (.take 7 (.take 8 (.take 9 (.take 10 (.take 11 (.take 12 (.take 13 (.take 14 (.take 15 (.take 16 (.take 17 (.take 18 (.take 19 (.take 20 (.take 21 (.take 22 (.take 23 (.take 24 (.take 25 (.done))))))))))))))))))))))))))
def pe_77_1 : Bool := true
/-- 12 operations, 13 nodes, looks at memory: true -/
def pl_78_1 : Plan := .take 0 (.take 1 (.take 2 (.take 3 (.take 4 (.take 5 (.take 6 (.take 7 (.alt 8 true (.take 9 (.take 10 (.take 11 (.done)))) (.stop)))))))))
def pe_78_1 : Bool := true
/-- 8 operations, 61 nodes, looks at memory: true -/
def pl_79_1 : Plan := .take 0 (.take 2 (.alt 1 true (.alt 3 false (.alt 4 true (.alt 5 true (.alt 6 false (.alt 7 false (.done) (.stop)) (.stop)) (.stop)) (.alt 5 true (.alt 4 true (.alt 6 false (.alt 7 false (.done) (.stop)) (.stop)) (.stop)) (.stop))) (.alt 4 true (.alt 3 false (.alt 5 true (.alt 6 false (.alt 7 false (.done) (.stop)) (.stop)) (.stop)) (.alt 5 true (.alt 3 false (.alt 6 false (.alt 7 false (.done) (.stop)) (.stop)) (.stop)) (.stop))) (.alt 5 true (.alt 3 false (.alt 4 true (.alt 6 false (.alt 7 false (.done) (.stop)) (.stop)) (.stop)) (.alt 4 true (.alt 3 false (.alt 6 false (.alt 7 false (.done) (.stop)) (.stop)) (.stop)) (.stop))) (.stop)))) (.alt 4 true (.alt 1 true (.alt 3 false (.alt 5 true (.alt 6 false (.alt 7 false (.done) (.stop)) (.stop)) (.stop)) (.alt 5 true (.alt 3 false (.alt 6 false (.alt 7 false (.done) (.stop)) (.stop)) (.stop)) (.stop))) (.alt 5 true (.alt 1 true (.alt 3 false (.alt 6 false (.alt 7 false (.done) (.stop)) (.stop)) (.stop)) (.stop)) (.stop))) (.alt 5 true (.alt 1 true (.alt 3 false (.alt 4 true (.alt 6 false (.alt 7 false (.done) (.stop)) (.stop)) (.stop)) (.alt 4 true (.alt 3 false (.alt 6 false (.alt 7 false (.done) (.stop)) (.stop)) (.stop)) (.stop))) (.alt 4 true (.alt 1 true (.alt 3 false (.alt 6 false (.alt 7 false (.done) (.stop)) (.stop)) (.stop)) (.stop)) (.stop))) (.stop)))))
def pe_79_1 : Bool := true
/-- 4 operations, 5 nodes, looks at memory: true -/
def pl_79_2 : Plan := .take 0 (.take 1 (.alt 2 false (.take 3 (.done)) (.stop)))
def pe_79_2 : Bool := true
/-- 18 operations, 19 nodes, looks at memory: true -/
def pl_81_1 : Plan := .take 0 (.take 1 (.take 2 (.take 3 (.take 4 (.take 5 (.take 6 (.take 7 (.take 8 (.take 9 (.take 10 (.take 11 (.take 12 (.alt 13 true (.take 14 (.take 15 (.take 16 (.take 17 (.done))))) (.stop))))))))))))))
def pe_81_1 : Bool := true
/-- 12 operations, 13 nodes, looks at memory: true -/
def pl_83_1 : Plan := .take 0 (.take 1 (.take 2 (.take 3 (.take 4 (.take 5 (.take 6 (.take 7 (.alt 8 true (.take 9 (.take 10 (.take 11 (.done)))) (.stop)))))))))
def pe_83_1 : Bool := true
/-- 11 operations, 12 nodes, looks at memory: true -/
def pl_85_1 : Plan := .take 0 (.take 1 (.take 2 (.take 3 (.take 4 (.take 5 (.take 6 (.take 7 (.take 8 (.take 9 (.take 10 (.done)))))))))))
def pe_85_1 : Bool := true
/-- 11 operations, 12 nodes, looks at memory: true -/
def pl_86_1 : Plan := .take 0 (.take 1 (.take 2 (.take 3 (.take 4 (.take 5 (.take 6 (.take 7 (.take 8 (.take 9 (.take 10 (.done)))))))))))
def pe_86_1 : Bool := true
/-- 12 operations, 13 nodes, looks at memory: true -/
def pl_87_1 : Plan := .take 0 (.take 1 (.take 2 (.take 3 (.take 4 (.take 5 (.take 6 (.take 7 (.alt 8 true (.take 9 (.take 10 (.take 11 (.done)))) (.stop)))))))))
def pe_87_1 : Bool := true
/-- 14 operations, 22 nodes, looks at memory: true -/
def pl_89_2 : Plan := .take 0 (.take 1 (.take 2 (.take 3 (.take 4 (.take 5 (.take 6 (.alt 7 true (.take 8 (.take 9 (.take 10 (.alt 11 true (.alt 12 false (.take 13 (.done)) (.stop)) (.stop))))) (.alt 11 true (.alt 7 true (.take 8 (.take 9 (.take 10 (.alt 12 false (.take 13 (.done)) (.stop))))) (.stop)) (.stop)))))))))
def pe_89_2 : Bool := true
/-- 8 operations, 9 nodes, looks at memory: true -/
def pl_89_4 : Plan := .take 0 (.take 1 (.take 2 (.take 3 (.take 4 (.take 5 (.take 6 (.take 7 (.done))))))))
def pe_89_4 : Bool := true
/-- 9 operations, 10 nodes, looks at memory: true -/
def pl_91_11 : Plan := .take 0 (.take 1 (.take 2 (.take 3 (.take 4 (.take 5 (.take 6 (.take 7 (.alt 8 false (.done) (.stop)))))))))
def pe_91_11 : Bool := true
/-- 9 operations, 10 nodes, looks at memory: true -/
def pl_91_15 : Plan := .take 0 (.take 1 (.take 2 (.take 3 (.take 4 (.take 5 (.take 6 (.take 7 (.alt 8 false (.done) (.stop)))))))))
def pe_91_15 : Bool := true
/-- 16 operations, 17 nodes, looks at memory: true -/
def pl_94_2 : Plan := .take 0 (.take 2 (.take 4 (.take 6 (.alt 1 true (.take 8 (.alt 3 true (.alt 5 true (.alt 7 true (.alt 9 true (.take 10 (.alt 11 true (.take 12 (.alt 13 true (.take 14 (.alt 15 false (.done) (.stop))) (.stop))) (.stop))) (.stop)) (.stop)) (.stop)) (.stop))) (.stop)))))
def pe_94_2 : Bool := true
/-- 4 operations, 5 nodes, looks at memory: false -/
def pl_99_2 : Plan := .take 0 (.take 2 (.alt 1 false (.alt 3 false (.done) (.stop)) (.stop)))
def pe_99_2 : Bool := false
/-- 4 operations, 5 nodes, looks at memory: true -/
def pl_100_14 : Plan := .take 0 (.take 1 (.alt 2 true (.alt 3 false (.done) (.stop)) (.stop)))
def pe_100_14 : Bool := true
/-- 38 operations, 39 nodes, looks at memory: true -/
def pl_101_24 : Plan := .take 0 (.take 1 (.take 2 (.take 3 (.take 4 (.alt 5 true (.take 6 (.take 7 (.take 8 (.take 9 (.take 10 (.take 11 (.take 12 (.take 13 (.take 14 (.take 15 (.take 16 (.take 17 (.take 18 (.take 19 (.take 20 (.take 21 (.take 22 (.take 23 (.take 24 (.take 25 (.take 26 (.take 27 (.take 28 (.take 29 (.take 30 (.take 31 (.take 32 (.take 33 (.take 34 (.take 35 (.take 36 (.take 37 (.done))))))))))))))))))))))))))))))))) (.stop))))))
def pe_101_24 : Bool := true
/-- 8 operations, 9 nodes, looks at memory: true -/
def pl_113_1 : Plan := .take 0 (.take 2 (.take 3 (.take 4 (.alt 1 true (.alt 5 true (.take 6 (.alt 7 false (.done) (.stop))) (.stop)) (.stop)))))
def pe_113_1 : Bool := true
/-- 15 operations, 16 nodes, looks at memory: true -/
def pl_128_2 : Plan := .take 0 (.take 1 (.take 2 (.take 3 (.take 4 (.take 5 (.take 6 (.take 7 (.take 8 (.take 9 (.take 10 (.take 11 (.take 12 (.take 13 (.take 14 (.done)))))))))))))))
def pe_128_2 : Bool := true
/-- 7 operations, 8 nodes, looks at memory: true -/
def pl_128_5 : Plan := .take 0 (.take 1 (.take 2 (.take 3 (.take 4 (.alt 5 false (.take 6 (.done)) (.stop))))))
def pe_128_5 : Bool := true
/-- 42 operations, 43 nodes, looks at memory: true -/
def pl_128_6 : Plan := .take 0 (.alt 1 true (.take 2 (.take 3 (.take 4 (.take 5 (.take 6 (.take 7 (.take 8 (.take 9 (.alt 10 true (.take 11 (.take 12 (.take 13 (.take 14 (.take 15 (.take 16 (.take 17 (.take 18 (.take 19 (.take 20 (.take 21 (.take 22 (.take 23 (.take 24 (.take 25 (.take 26 (.take 27 (.take 28 (.take 29 (.take 30 (.take 31 (.take 32 (.take 33 (.take 34 (.take 35 (.take 36 (.take 37 (.take 38 (.take 39 (.take 40 (.take 41 (.done)))))))))))))))))))))))))))))))) (.stop)))))))))) (.stop))
def pe_128_6 : Bool := true
/-- 30 operations, 31 nodes, looks at memory: true -/
def pl_129_6 : Plan := .take 0 (.alt 1 true (.take 2 (.take 3 (.take 4 (.take 5 (.take 6 (.take 7 (.take 8 (.take 9 (.take 10 (.take 11 (.take 12 (.take 13 (.take 14 (.take 15 (.take 16 (.take 17 (.take 18 (.take 19 (.take 20 (.take 21 (.take 22 (.take 23 (.take 24 (.take 25 (.take 26 (.take 27 (.take 28 (.take 29 (.done))))))))))))))))))))))))))))) (.stop))
def pe_129_6 : Bool := true
/-- 16 operations, 17 nodes, looks at memory: true -/
def pl_133_3 : Plan := .take 0 (.take 1 (.take 2 (.take 3 (.take 4 (.take 5 (.take 6 (.take 7 (.take 8 (.take 9 (.take 10 (.take 11 (.take 12 (.alt 13 false (.take 14 (.alt 15 false (.done) (.stop))) (.stop))))))))))))))
def pe_133_3 : Bool := true
instance : Laid Tryz.prog := ⟨utf8Tabs 0 1⟩
def planTab : PlanTab := [(3, [(7, pe_3_7, Mode.ext, pl_3_7)]), (4, [(14, pe_4_14, Mode.ext, pl_4_14)]), (9, [(5, pe_9_5, Mode.ext, pl_9_5), (9, pe_9_9, Mode.ext, pl_9_9), (11, pe_9_11, Mode.ext, pl_9_11)]), (14, [(7, pe_14_7, Mode.ext, pl_14_7), (11, pe_14_11, Mode.ext, pl_14_11), (19, pe_14_19, Mode.ext, pl_14_19), (21, pe_14_21, Mode.ext, pl_14_21)]), (17, [(23, pe_17_23, Mode.ext, pl_17_23), (29, pe_17_29, Mode.ext, pl_17_29), (33, pe_17_33, Mode.ext, pl_17_33)]), (18, [(1, pe_18_1, Mode.ext, pl_18_1)]), (19, [(1, pe_19_1, Mode.ext, pl_19_1), (1000000, false, Mode.ext, Plan.stop)]), (28, [(3, pe_28_3, Mode.ext, pl_28_3), (5, pe_28_5, Mode.ext, pl_28_5)]), (36, [(2, pe_36_2, Mode.ext, pl_36_2)]), (37, [(16, pe_37_16, Mode.base, pl_37_16), (19, pe_37_19, Mode.base, pl_37_19)]), (38, [(3, pe_38_3, Mode.ext, pl_38_3), (6, pe_38_6, Mode.ext, pl_38_6)]), (40, [(1000000, false, Mode.ext, Plan.stop)]), (49, [(1, pe_49_1, Mode.ext, pl_49_1), (2, pe_49_2, Mode.ext, pl_49_2)]), (58, [(5, pe_58_5, Mode.only [1], pl_58_5), (9, pe_58_9, Mode.only [1], pl_58_9), (11, pe_58_11, Mode.only [1], pl_58_11)]), (64, [(31, pe_64_31, Mode.base, pl_64_31), (35, pe_64_35, Mode.base, pl_64_35)]), (69, [(2, pe_69_2, Mode.ext, pl_69_2), (17, pe_69_17, Mode.ext, pl_69_17)]), (70, [(4, pe_70_4, Mode.ext, pl_70_4)]), (72, [(4, pe_72_4, Mode.ext, pl_72_4)]), (74, [(1, pe_74_1, Mode.ext, pl_74_1)]), (75, [(1, pe_75_1, Mode.ext, pl_75_1)]), (77, [(1, pe_77_1, Mode.ext, pl_77_1)]), (78, [(1, pe_78_1, Mode.ext, pl_78_1)]), (79, [(1, pe_79_1, Mode.ext, pl_79_1), (2, pe_79_2, Mode.ext, pl_79_2), (1000000, false, Mode.ext, Plan.stop)]), (81, [(1, pe_81_1, Mode.ext, pl_81_1)]), (83, [(1, pe_83_1, Mode.ext, pl_83_1)]), (85, [(1, pe_85_1, Mode.ext, pl_85_1)]), (86, [(1, pe_86_1, Mode.ext, pl_86_1)]), (87, [(1, pe_87_1, Mode.ext, pl_87_1)]), (89, [(2, pe_89_2, Mode.ext, pl_89_2), (4, pe_89_4, Mode.ext, pl_89_4)]), (91, [(11, pe_91_11, Mode.ext, pl_91_11), (15, pe_91_15, Mode.ext, pl_91_15)]), (94, [(2, pe_94_2, Mode.only [1], pl_94_2)]), (99, [(2, pe_99_2, Mode.ext, pl_99_2)]), (100, [(14, pe_100_14, Mode.base, pl_100_14)]), (101, [(24, pe_101_24, Mode.ext, pl_101_24)]), (113, [(1, pe_113_1, Mode.ext, pl_113_1)]), (117, [(1000000, false, Mode.ext, Plan.stop)]), (128, [(2, pe_128_2, Mode.ext, pl_128_2), (5, pe_128_5, Mode.ext, pl_128_5), (6, pe_128_6, Mode.ext, pl_128_6)]), (129, [(6, pe_129_6, Mode.ext, pl_129_6)]), (133, [(3, pe_133_3, Mode.ext, pl_133_3)])]
end Go.Proofs.YtoccjilbfkhmoaaGreatDoor
