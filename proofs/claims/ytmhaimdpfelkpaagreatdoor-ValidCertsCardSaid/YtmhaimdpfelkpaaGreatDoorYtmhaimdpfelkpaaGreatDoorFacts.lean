/-
  Facts about this program's types,by program.
-/
import Derived.Test.YtmhaimdpfelkpaaGreatDoorAbsC
import Derived.Test.YtmhaimdpfelkpaaGreatDoorProg
set_option linter.unusedVariables false
namespace Go.Proofs.YtmhaimdpfelkpaaGreatDoor
open Go Go.Abs Go.Proofs
@[simp] theorem qsize_2:qsize Tryz.prog 2 = some 1:=by kernel_rfl
@[simp] theorem qagg_2:qagg Tryz.prog 2 = some false:=by kernel_rfl
@[simp] theorem qint_2:qint Tryz.prog 2 = some Go.IntKind.i64:=by kernel_rfl
@[simp] theorem qthere_2:qthere Tryz.prog 2 = true:=by kernel_rfl
@[simp] theorem cellsOf_2:Go.Program.cellsOf Tryz.prog 2 = 1:=by kernel_rfl
@[simp] theorem qsize_3:qsize Tryz.prog 3 = some 1:=by kernel_rfl
@[simp] theorem qbytes_3:qbytes Tryz.prog 3 = some 8:=by kernel_rfl
@[simp] theorem qagg_3:qagg Tryz.prog 3 = some false:=by kernel_rfl
@[simp] theorem qzero_3:qzero Tryz.prog 3 = some (V.i Go.IntKind.i64 (0)):=by kernel_rfl
@[simp] theorem qint_3:qint Tryz.prog 3 = some Go.IntKind.i64:=by kernel_rfl
@[simp] theorem qkey_3:qkey Tryz.prog 3 = true:=by kernel_rfl
@[simp] theorem qthere_3:qthere Tryz.prog 3 = true:=by kernel_rfl
@[simp] theorem cellsOf_3:Go.Program.cellsOf Tryz.prog 3 = 1:=by kernel_rfl
@[simp] theorem qsize_4:qsize Tryz.prog 4 = some 1:=by kernel_rfl
@[simp] theorem qagg_4:qagg Tryz.prog 4 = some false:=by kernel_rfl
@[simp] theorem qbool_4:qbool Tryz.prog 4 = true:=by kernel_rfl
@[simp] theorem bb_4 (x y:Bool):aeq Tryz.prog 4 (.b x) (.b y) = some (x == y):=aeq_bb qbool_4
@[simp] theorem qsize_5:qsize Tryz.prog 5 = some 1:=by kernel_rfl
@[simp] theorem qbytes_5:qbytes Tryz.prog 5 = some 1:=by kernel_rfl
@[simp] theorem qagg_5:qagg Tryz.prog 5 = some false:=by kernel_rfl
@[simp] theorem qzero_5:qzero Tryz.prog 5 = some (V.i Go.IntKind.u8 (0)):=by kernel_rfl
@[simp] theorem qint_5:qint Tryz.prog 5 = some Go.IntKind.u8:=by kernel_rfl
@[simp] theorem qthere_5:qthere Tryz.prog 5 = true:=by kernel_rfl
@[simp] theorem qsize_9:qsize Tryz.prog 9 = some 1:=by kernel_rfl
@[simp] theorem qbytes_9:qbytes Tryz.prog 9 = some 16:=by kernel_rfl
@[simp] theorem qagg_9:qagg Tryz.prog 9 = some false:=by kernel_rfl
@[simp] theorem qzero_9:qzero Tryz.prog 9 = some (V.s []):=by kernel_rfl
@[simp] theorem qstr_9:qstr Tryz.prog 9 = true:=by kernel_rfl
@[simp] theorem qkey_9:qkey Tryz.prog 9 = true:=by kernel_rfl
@[simp] theorem qthere_9:qthere Tryz.prog 9 = true:=by kernel_rfl
@[simp] theorem cellsOf_9:Go.Program.cellsOf Tryz.prog 9 = 1:=by kernel_rfl
@[simp] theorem qsize_21:qsize Tryz.prog 21 = some 1:=by kernel_rfl
@[simp] theorem qagg_21:qagg Tryz.prog 21 = some false:=by kernel_rfl
@[simp] theorem qsize_22:qsize Tryz.prog 22 = some 1:=by kernel_rfl
@[simp] theorem qagg_22:qagg Tryz.prog 22 = some false:=by kernel_rfl
@[simp] theorem qint_22:qint Tryz.prog 22 = some Go.IntKind.u32:=by kernel_rfl
@[simp] theorem qthere_22:qthere Tryz.prog 22 = true:=by kernel_rfl
@[simp] theorem cellsOf_22:Go.Program.cellsOf Tryz.prog 22 = 1:=by kernel_rfl
@[simp] theorem qsize_23:qsize Tryz.prog 23 = some 1:=by kernel_rfl
@[simp] theorem qagg_23:qagg Tryz.prog 23 = some false:=by kernel_rfl
@[simp] theorem cellsOf_23:Go.Program.cellsOf Tryz.prog 23 = 1:=by kernel_rfl
@[simp] theorem qelem_23:qelem Tryz.prog 23 = some 33:=by kernel_rfl
@[simp] theorem qsize_24:qsize Tryz.prog 24 = some 1:=by kernel_rfl
@[simp] theorem qagg_24:qagg Tryz.prog 24 = some false:=by kernel_rfl
@[simp] theorem qsrc_24:qsrc Tryz.prog 24 = true:=by kernel_rfl
@[simp] theorem cellsOf_24:Go.Program.cellsOf Tryz.prog 24 = 1:=by kernel_rfl
@[simp] theorem qelem_24:qelem Tryz.prog 24 = some 9:=by kernel_rfl
@[simp] theorem qsize_25:qsize Tryz.prog 25 = some 1:=by kernel_rfl
@[simp] theorem qagg_25:qagg Tryz.prog 25 = some false:=by kernel_rfl
@[simp] theorem qsrc_25:qsrc Tryz.prog 25 = true:=by kernel_rfl
@[simp] theorem cellsOf_25:Go.Program.cellsOf Tryz.prog 25 = 1:=by kernel_rfl
@[simp] theorem qelem_25:qelem Tryz.prog 25 = some 60:=by kernel_rfl
@[simp] theorem qsize_27:qsize Tryz.prog 27 = some 6:=by kernel_rfl
@[simp] theorem qagg_27:qagg Tryz.prog 27 = some true:=by kernel_rfl
@[simp] theorem cellsOf_27:Go.Program.cellsOf Tryz.prog 27 = 6:=by kernel_rfl
@[simp] theorem qsize_29:qsize Tryz.prog 29 = some 8:=by kernel_rfl
@[simp] theorem qagg_29:qagg Tryz.prog 29 = some true:=by kernel_rfl
@[simp] theorem qzero_29:qzero Tryz.prog 29 = some   (V.agg     [V.i Go.IntKind.i64 (0),V.i Go.IntKind.i64 (0),V.i Go.IntKind.i64 (0),       V.i Go.IntKind.i64 (0),V.i Go.IntKind.i64 (0),V.i Go.IntKind.i64 (0),       V.i Go.IntKind.u32 (0),V.i Go.IntKind.u32 (0)]):=by kernel_rfl
@[simp] theorem qplaces_29:qplaces Tryz.prog 29 = some [(0,1),(1,1),(2,1),(3,1),(4,1),(5,1),(6,1),(7,1)]:=by kernel_rfl
@[simp] theorem qeq_29:qeq Tryz.prog 29 = some   [CK.i Go.IntKind.i64,CK.i Go.IntKind.i64,CK.i Go.IntKind.i64,CK.i Go.IntKind.i64,CK.i Go.IntKind.i64,     CK.i Go.IntKind.i64,CK.i Go.IntKind.u32,CK.i Go.IntKind.u32]:=by kernel_rfl
@[simp] theorem cellsOf_29:Go.Program.cellsOf Tryz.prog 29 = 8:=by kernel_rfl
@[simp] theorem qsize_30:qsize Tryz.prog 30 = some 1:=by kernel_rfl
@[simp] theorem qagg_30:qagg Tryz.prog 30 = some false:=by kernel_rfl
@[simp] theorem qsrc_30:qsrc Tryz.prog 30 = true:=by kernel_rfl
@[simp] theorem cellsOf_30:Go.Program.cellsOf Tryz.prog 30 = 1:=by kernel_rfl
@[simp] theorem qelem_30:qelem Tryz.prog 30 = some 69:=by kernel_rfl
@[simp] theorem qsize_31:qsize Tryz.prog 31 = some 1:=by kernel_rfl
@[simp] theorem qagg_31:qagg Tryz.prog 31 = some false:=by kernel_rfl
@[simp] theorem qsrc_31:qsrc Tryz.prog 31 = true:=by kernel_rfl
@[simp] theorem cellsOf_31:Go.Program.cellsOf Tryz.prog 31 = 1:=by kernel_rfl
@[simp] theorem qelem_31:qelem Tryz.prog 31 = some 91:=by kernel_rfl
@[simp] theorem qsize_33:qsize Tryz.prog 33 = some 14:=by kernel_rfl
@[simp] theorem qagg_33:qagg Tryz.prog 33 = some true:=by kernel_rfl
@[simp] theorem qzero_33:qzero Tryz.prog 33 = some   (V.agg     [V.i Go.IntKind.i64 (0),V.i Go.IntKind.i64 (0),V.i Go.IntKind.i64 (0),       V.i Go.IntKind.i64 (0),V.i Go.IntKind.i64 (0),V.i Go.IntKind.i64 (0),       V.i Go.IntKind.i64 (0),V.i Go.IntKind.i64 (0),V.i Go.IntKind.i64 (0),       V.i Go.IntKind.i64 (0),V.i Go.IntKind.u32 (0),V.i Go.IntKind.u32 (0),       V.sl none 0 false,V.sl none 0 false]):=by kernel_rfl
@[simp] theorem qplaces_33:qplaces Tryz.prog 33 = some [(0,1),(1,1),(2,1),(3,1),(4,8),(12,1),(13,1)]:=by kernel_rfl
@[simp] theorem cellsOf_33:Go.Program.cellsOf Tryz.prog 33 = 14:=by kernel_rfl
@[simp] theorem qsize_37:qsize Tryz.prog 37 = some 1:=by kernel_rfl
@[simp] theorem qagg_37:qagg Tryz.prog 37 = some false:=by kernel_rfl
@[simp] theorem qptr_37:qptr Tryz.prog 37 = true:=by kernel_rfl
@[simp] theorem psn_37 (q:Nat × Nat × Nat):aeq Tryz.prog 37 (.p (some q)) (.p none) = some false:=aeq_psn qptr_37
@[simp] theorem qsize_38:qsize Tryz.prog 38 = some 1:=by kernel_rfl
@[simp] theorem qagg_38:qagg Tryz.prog 38 = some false:=by kernel_rfl
@[simp] theorem qptr_38:qptr Tryz.prog 38 = true:=by kernel_rfl
@[simp] theorem psn_38 (q:Nat × Nat × Nat):aeq Tryz.prog 38 (.p (some q)) (.p none) = some false:=aeq_psn qptr_38
@[simp] theorem qsize_39:qsize Tryz.prog 39 = some 1:=by kernel_rfl
@[simp] theorem qagg_39:qagg Tryz.prog 39 = some false:=by kernel_rfl
@[simp] theorem qptr_39:qptr Tryz.prog 39 = true:=by kernel_rfl
@[simp] theorem psn_39 (q:Nat × Nat × Nat):aeq Tryz.prog 39 (.p (some q)) (.p none) = some false:=aeq_psn qptr_39
@[simp] theorem qsize_41:qsize Tryz.prog 41 = some 3:=by kernel_rfl
@[simp] theorem qagg_41:qagg Tryz.prog 41 = some true:=by kernel_rfl
@[simp] theorem qzero_41:qzero Tryz.prog 41 = some (V.agg [V.p none,V.p none,V.p none]):=by kernel_rfl
@[simp] theorem qplaces_41:qplaces Tryz.prog 41 = some [(0,1),(1,1),(2,1)]:=by kernel_rfl
@[simp] theorem qsize_42:qsize Tryz.prog 42 = some 1:=by kernel_rfl
@[simp] theorem qagg_42:qagg Tryz.prog 42 = some false:=by kernel_rfl
@[simp] theorem qsize_43:qsize Tryz.prog 43 = some 1:=by kernel_rfl
@[simp] theorem qagg_43:qagg Tryz.prog 43 = some false:=by kernel_rfl
@[simp] theorem qsize_44:qsize Tryz.prog 44 = some 1:=by kernel_rfl
@[simp] theorem qagg_44:qagg Tryz.prog 44 = some false:=by kernel_rfl
@[simp] theorem qsize_46:qsize Tryz.prog 46 = some 3:=by kernel_rfl
@[simp] theorem qagg_46:qagg Tryz.prog 46 = some true:=by kernel_rfl
@[simp] theorem qzero_46:qzero Tryz.prog 46 = some (V.agg [V.p none,V.p none,V.p none]):=by kernel_rfl
@[simp] theorem qplaces_46:qplaces Tryz.prog 46 = some [(0,1),(1,1),(2,1)]:=by kernel_rfl
@[simp] theorem qsize_49:qsize Tryz.prog 49 = some 1:=by kernel_rfl
@[simp] theorem qagg_49:qagg Tryz.prog 49 = some false:=by kernel_rfl
@[simp] theorem qsize_58:qsize Tryz.prog 58 = some 10:=by kernel_rfl
@[simp] theorem qagg_58:qagg Tryz.prog 58 = some true:=by kernel_rfl
@[simp] theorem qzero_58:qzero Tryz.prog 58 = some   (V.agg     [V.i Go.IntKind.i64 (0),V.i Go.IntKind.i64 (0),V.i Go.IntKind.i64 (0),       V.i Go.IntKind.i64 (0),V.i Go.IntKind.i64 (0),V.i Go.IntKind.i64 (0),       V.i Go.IntKind.i64 (0),V.i Go.IntKind.i64 (0),V.i Go.IntKind.i64 (0),       V.i Go.IntKind.i64 (0)]):=by kernel_rfl
@[simp] theorem qplaces_58:qplaces Tryz.prog 58 = some [(0,1),(1,1),(2,1),(3,1),(4,1),(5,1),(6,1),(7,1),(8,1),(9,1)]:=by kernel_rfl
@[simp] theorem cellsOf_58:Go.Program.cellsOf Tryz.prog 58 = 10:=by kernel_rfl
@[simp] theorem qsize_60:qsize Tryz.prog 60 = some 11:=by kernel_rfl
@[simp] theorem qbytes_60:qbytes Tryz.prog 60 = some 88:=by kernel_rfl
@[simp] theorem qagg_60:qagg Tryz.prog 60 = some true:=by kernel_rfl
@[simp] theorem qzero_60:qzero Tryz.prog 60 = some   (V.agg     [V.i Go.IntKind.i64 (0),V.i Go.IntKind.i64 (0),V.i Go.IntKind.i64 (0),       V.i Go.IntKind.i64 (0),V.i Go.IntKind.i64 (0),V.i Go.IntKind.i64 (0),       V.i Go.IntKind.i64 (0),V.i Go.IntKind.i64 (0),V.i Go.IntKind.i64 (0),       V.i Go.IntKind.i64 (0),V.i Go.IntKind.i64 (0)]):=by kernel_rfl
@[simp] theorem qplaces_60:qplaces Tryz.prog 60 = some [(0,1),(1,10)]:=by kernel_rfl
@[simp] theorem qkey_60:qkey Tryz.prog 60 = true:=by kernel_rfl
@[simp] theorem qeq_60:qeq Tryz.prog 60 = some   [CK.i Go.IntKind.i64,CK.i Go.IntKind.i64,CK.i Go.IntKind.i64,CK.i Go.IntKind.i64,CK.i Go.IntKind.i64,     CK.i Go.IntKind.i64,CK.i Go.IntKind.i64,CK.i Go.IntKind.i64,CK.i Go.IntKind.i64,CK.i Go.IntKind.i64,     CK.i Go.IntKind.i64]:=by kernel_rfl
@[simp] theorem cellsOf_60:Go.Program.cellsOf Tryz.prog 60 = 11:=by kernel_rfl
@[simp] theorem qsize_64:qsize Tryz.prog 64 = some 1:=by kernel_rfl
@[simp] theorem qagg_64:qagg Tryz.prog 64 = some false:=by kernel_rfl
@[simp] theorem qsrc_64:qsrc Tryz.prog 64 = true:=by kernel_rfl
@[simp] theorem qelem_64:qelem Tryz.prog 64 = some 3:=by kernel_rfl
@[simp] theorem qsize_69:qsize Tryz.prog 69 = some 10:=by kernel_rfl
@[simp] theorem qbytes_69:qbytes Tryz.prog 69 = some 72:=by kernel_rfl
@[simp] theorem qagg_69:qagg Tryz.prog 69 = some true:=by kernel_rfl
@[simp] theorem qzero_69:qzero Tryz.prog 69 = some   (V.agg     [V.i Go.IntKind.i64 (0),V.i Go.IntKind.i64 (0),V.i Go.IntKind.i64 (0),       V.i Go.IntKind.i64 (0),V.i Go.IntKind.i64 (0),V.i Go.IntKind.i64 (0),       V.i Go.IntKind.i64 (0),V.i Go.IntKind.i64 (0),V.i Go.IntKind.u32 (0),       V.i Go.IntKind.u32 (0)]):=by kernel_rfl
@[simp] theorem qplaces_69:qplaces Tryz.prog 69 = some [(0,1),(1,1),(2,8)]:=by kernel_rfl
@[simp] theorem qeq_69:qeq Tryz.prog 69 = some   [CK.i Go.IntKind.i64,CK.i Go.IntKind.i64,CK.i Go.IntKind.i64,CK.i Go.IntKind.i64,CK.i Go.IntKind.i64,     CK.i Go.IntKind.i64,CK.i Go.IntKind.i64,CK.i Go.IntKind.i64,CK.i Go.IntKind.u32,CK.i Go.IntKind.u32]:=by kernel_rfl
@[simp] theorem cellsOf_69:Go.Program.cellsOf Tryz.prog 69 = 10:=by kernel_rfl
@[simp] theorem qsize_91:qsize Tryz.prog 91 = some 7:=by kernel_rfl
@[simp] theorem qbytes_91:qbytes Tryz.prog 91 = some 88:=by kernel_rfl
@[simp] theorem qagg_91:qagg Tryz.prog 91 = some true:=by kernel_rfl
@[simp] theorem qzero_91:qzero Tryz.prog 91 = some   (V.agg     [V.i Go.IntKind.i64 (0),V.s [],V.s [],V.s [],V.s [],V.i Go.IntKind.i64 (0),       V.i Go.IntKind.i64 (0)]):=by kernel_rfl
@[simp] theorem qplaces_91:qplaces Tryz.prog 91 = some [(0,1),(1,1),(2,1),(3,1),(4,1),(5,1),(6,1)]:=by kernel_rfl
@[simp] theorem qeq_91:qeq Tryz.prog 91 = some [CK.i Go.IntKind.i64,CK.s,CK.s,CK.s,CK.s,CK.i Go.IntKind.i64,CK.i Go.IntKind.i64]:=by kernel_rfl
@[simp] theorem cellsOf_91:Go.Program.cellsOf Tryz.prog 91 = 7:=by kernel_rfl
@[simp] theorem qzero_100:qzero Tryz.prog 100 = some (V.agg [V.sl none 0 false]):=by kernel_rfl
@[simp] theorem qplaces_100:qplaces Tryz.prog 100 = some [(0,1)]:=by kernel_rfl
@[simp] theorem qzero_102:qzero Tryz.prog 102 = some (V.agg [V.i Go.IntKind.i64 (0),V.sl none 0 false,V.sl none 0 false]):=by kernel_rfl
@[simp] theorem qplaces_102:qplaces Tryz.prog 102 = some [(0,1),(1,1),(2,1)]:=by kernel_rfl
@[simp] theorem qsize_108:qsize Tryz.prog 108 = some 1:=by kernel_rfl
@[simp] theorem qagg_108:qagg Tryz.prog 108 = some false:=by kernel_rfl
@[simp] theorem qsrc_108:qsrc Tryz.prog 108 = true:=by kernel_rfl
@[simp] theorem qbs_108:qbs Tryz.prog 108 = true:=by kernel_rfl
@[simp] theorem qelem_108:qelem Tryz.prog 108 = some 5:=by kernel_rfl
@[simp] theorem qsize_114:qsize Tryz.prog 114 = some 1:=by kernel_rfl
@[simp] theorem qagg_114:qagg Tryz.prog 114 = some false:=by kernel_rfl
@[simp] theorem qzero_114:qzero Tryz.prog 114 = some V.nf:=by kernel_rfl
@[simp] theorem qzero_117:qzero Tryz.prog 117 = some (V.agg [V.i Go.IntKind.i64 (0),V.i Go.IntKind.u32 (0),V.sl none 0 false]):=by kernel_rfl
@[simp] theorem qplaces_117:qplaces Tryz.prog 117 = some [(0,1),(1,1),(2,1)]:=by kernel_rfl
@[simp] theorem qsize_124:qsize Tryz.prog 124 = some 1:=by kernel_rfl
@[simp] theorem qagg_124:qagg Tryz.prog 124 = some false:=by kernel_rfl
@[simp] theorem qmap_124:qmap Tryz.prog 124 = some (60,3):=by kernel_rfl
@[simp] theorem qzero_126:qzero Tryz.prog 126 = some (V.agg [V.i Go.IntKind.i64 (0),V.i Go.IntKind.u32 (0),V.m none,V.sl none 0 false]):=by kernel_rfl
@[simp] theorem qplaces_126:qplaces Tryz.prog 126 = some [(0,1),(1,1),(2,1),(3,1)]:=by kernel_rfl
@[simp] theorem qsize_127:qsize Tryz.prog 127 = some 1:=by kernel_rfl
@[simp] theorem qagg_127:qagg Tryz.prog 127 = some false:=by kernel_rfl
@[simp] theorem qmap_127:qmap Tryz.prog 127 = some (9,3):=by kernel_rfl
@[simp] theorem qzero_129:qzero Tryz.prog 129 = some (V.agg [V.m none,V.sl none 0 false]):=by kernel_rfl
@[simp] theorem qplaces_129:qplaces Tryz.prog 129 = some [(0,1),(1,1)]:=by kernel_rfl
@[simp] theorem qsize_147:qsize Tryz.prog 147 = some 3:=by kernel_rfl
@[simp] theorem qagg_147:qagg Tryz.prog 147 = some true:=by kernel_rfl
@[simp] theorem qzero_147:qzero Tryz.prog 147 = some (V.agg [V.i Go.IntKind.i64 (0),V.b false,V.b false]):=by kernel_rfl
@[simp] theorem qplaces_147:qplaces Tryz.prog 147 = some [(0,1),(1,1),(2,1)]:=by kernel_rfl
@[simp] theorem qsize_148:qsize Tryz.prog 148 = some 1:=by kernel_rfl
@[simp] theorem qagg_148:qagg Tryz.prog 148 = some false:=by kernel_rfl
@[simp] theorem qmap_148:qmap Tryz.prog 148 = some (3,147):=by kernel_rfl
@[simp] theorem qzero_150:qzero Tryz.prog 150 = some (V.agg [V.i Go.IntKind.i64 (0),V.m none]):=by kernel_rfl
@[simp] theorem qplaces_150:qplaces Tryz.prog 150 = some [(0,1),(1,1)]:=by kernel_rfl
@[simp] theorem qelem_161:qelem Tryz.prog 161 = some 114:=by kernel_rfl
@[simp] theorem qsize_167:qsize Tryz.prog 167 = some 1:=by kernel_rfl
@[simp] theorem qagg_167:qagg Tryz.prog 167 = some false:=by kernel_rfl
@[simp] theorem qptr_167:qptr Tryz.prog 167 = true:=by kernel_rfl
@[simp] theorem psn_167 (q:Nat × Nat × Nat):aeq Tryz.prog 167 (.p (some q)) (.p none) = some false:=aeq_psn qptr_167
@[simp] theorem qsize_172:qsize Tryz.prog 172 = some 2:=by kernel_rfl
@[simp] theorem qagg_172:qagg Tryz.prog 172 = some true:=by kernel_rfl
@[simp] theorem qzero_172:qzero Tryz.prog 172 = some (V.agg [V.s [],V.i Go.IntKind.i64 (0)]):=by kernel_rfl
@[simp] theorem qplaces_172:qplaces Tryz.prog 172 = some [(0,1),(1,1)]:=by kernel_rfl
@[simp] theorem qsize_185:qsize Tryz.prog 185 = some 3:=by kernel_rfl
@[simp] theorem qagg_185:qagg Tryz.prog 185 = some true:=by kernel_rfl
@[simp] theorem qzero_185:qzero Tryz.prog 185 = some (V.agg [V.i Go.IntKind.i64 (0),V.i Go.IntKind.i64 (0),V.i Go.IntKind.i64 (0)]):=by kernel_rfl
@[simp] theorem qarr_185:qarr Tryz.prog 185 = some (3,3):=by kernel_rfl
@[simp] theorem qzero_191:qzero Tryz.prog 191 = some (V.agg [V.sl none 0 false,V.i Go.IntKind.i64 (0)]):=by kernel_rfl
@[simp] theorem qplaces_191:qplaces Tryz.prog 191 = some [(0,1),(1,1)]:=by kernel_rfl
@[simp] theorem qzero_202:qzero Tryz.prog 202 = some   (V.agg     [V.i Go.IntKind.i64 (0),V.i Go.IntKind.i64 (0),V.i Go.IntKind.i64 (0),       V.i Go.IntKind.i64 (0)]):=by kernel_rfl
@[simp] theorem qarr_202:qarr Tryz.prog 202 = some (4,2):=by kernel_rfl
@[simp] theorem qint_227:qint Tryz.prog 227 = some Go.IntKind.u64:=by kernel_rfl
@[simp] theorem qthere_227:qthere Tryz.prog 227 = true:=by kernel_rfl
@[simp] theorem qsize_230:qsize Tryz.prog 230 = some 3:=by kernel_rfl
@[simp] theorem qagg_230:qagg Tryz.prog 230 = some true:=by kernel_rfl
@[simp] theorem qzero_230:qzero Tryz.prog 230 = some (V.agg [V.i Go.IntKind.i32 (0),V.i Go.IntKind.i32 (0),V.i Go.IntKind.i32 (0)]):=by kernel_rfl
@[simp] theorem qplaces_230:qplaces Tryz.prog 230 = some [(0,1),(1,1),(2,1)]:=by kernel_rfl
@[simp] theorem qarr_231:qarr Tryz.prog 231 = some (6,230):=by kernel_rfl
@[simp] theorem qfield_27_0:qfield Tryz.prog 27 0 = some (0,1,false):=by kernel_rfl
@[simp] theorem qfield_27_1:qfield Tryz.prog 27 1 = some (1,1,false):=by kernel_rfl
@[simp] theorem qfield_27_2:qfield Tryz.prog 27 2 = some (2,1,false):=by kernel_rfl
@[simp] theorem qfield_27_3:qfield Tryz.prog 27 3 = some (3,1,false):=by kernel_rfl
@[simp] theorem qfield_27_4:qfield Tryz.prog 27 4 = some (4,1,false):=by kernel_rfl
@[simp] theorem qfield_27_5:qfield Tryz.prog 27 5 = some (5,1,false):=by kernel_rfl
@[simp] theorem qfield_29_0:qfield Tryz.prog 29 0 = some (0,1,false):=by kernel_rfl
@[simp] theorem qfield_29_1:qfield Tryz.prog 29 1 = some (1,1,false):=by kernel_rfl
@[simp] theorem qfield_29_2:qfield Tryz.prog 29 2 = some (2,1,false):=by kernel_rfl
@[simp] theorem qfield_29_3:qfield Tryz.prog 29 3 = some (3,1,false):=by kernel_rfl
@[simp] theorem qfield_29_4:qfield Tryz.prog 29 4 = some (4,1,false):=by kernel_rfl
@[simp] theorem qfield_29_5:qfield Tryz.prog 29 5 = some (5,1,false):=by kernel_rfl
@[simp] theorem qfield_29_6:qfield Tryz.prog 29 6 = some (6,1,false):=by kernel_rfl
@[simp] theorem qfield_29_7:qfield Tryz.prog 29 7 = some (7,1,false):=by kernel_rfl
@[simp] theorem qfield_33_0:qfield Tryz.prog 33 0 = some (0,1,false):=by kernel_rfl
@[simp] theorem qfield_33_1:qfield Tryz.prog 33 1 = some (1,1,false):=by kernel_rfl
@[simp] theorem qfield_33_2:qfield Tryz.prog 33 2 = some (2,1,false):=by kernel_rfl
@[simp] theorem qfield_33_3:qfield Tryz.prog 33 3 = some (3,1,false):=by kernel_rfl
@[simp] theorem qfield_33_4:qfield Tryz.prog 33 4 = some (4,8,true):=by kernel_rfl
@[simp] theorem qfield_33_5:qfield Tryz.prog 33 5 = some (12,1,false):=by kernel_rfl
@[simp] theorem qfield_33_6:qfield Tryz.prog 33 6 = some (13,1,false):=by kernel_rfl
@[simp] theorem qfield_41_0:qfield Tryz.prog 41 0 = some (0,1,false):=by kernel_rfl
@[simp] theorem qfield_41_1:qfield Tryz.prog 41 1 = some (1,1,false):=by kernel_rfl
@[simp] theorem qfield_41_2:qfield Tryz.prog 41 2 = some (2,1,false):=by kernel_rfl
@[simp] theorem qfield_46_0:qfield Tryz.prog 46 0 = some (0,1,false):=by kernel_rfl
@[simp] theorem qfield_46_1:qfield Tryz.prog 46 1 = some (1,1,false):=by kernel_rfl
@[simp] theorem qfield_46_2:qfield Tryz.prog 46 2 = some (2,1,false):=by kernel_rfl
@[simp] theorem qfield_58_0:qfield Tryz.prog 58 0 = some (0,1,false):=by kernel_rfl
@[simp] theorem qfield_58_2:qfield Tryz.prog 58 2 = some (2,1,false):=by kernel_rfl
@[simp] theorem qfield_58_4:qfield Tryz.prog 58 4 = some (4,1,false):=by kernel_rfl
@[simp] theorem qfield_58_5:qfield Tryz.prog 58 5 = some (5,1,false):=by kernel_rfl
@[simp] theorem qfield_60_0:qfield Tryz.prog 60 0 = some (0,1,false):=by kernel_rfl
@[simp] theorem qfield_60_1:qfield Tryz.prog 60 1 = some (1,10,true):=by kernel_rfl
@[simp] theorem qfield_69_0:qfield Tryz.prog 69 0 = some (0,1,false):=by kernel_rfl
@[simp] theorem qfield_69_1:qfield Tryz.prog 69 1 = some (1,1,false):=by kernel_rfl
@[simp] theorem qfield_69_2:qfield Tryz.prog 69 2 = some (2,8,true):=by kernel_rfl
@[simp] theorem qfield_91_0:qfield Tryz.prog 91 0 = some (0,1,false):=by kernel_rfl
@[simp] theorem qfield_91_1:qfield Tryz.prog 91 1 = some (1,1,false):=by kernel_rfl
@[simp] theorem qfield_91_2:qfield Tryz.prog 91 2 = some (2,1,false):=by kernel_rfl
@[simp] theorem qfield_91_3:qfield Tryz.prog 91 3 = some (3,1,false):=by kernel_rfl
@[simp] theorem qfield_91_4:qfield Tryz.prog 91 4 = some (4,1,false):=by kernel_rfl
@[simp] theorem qfield_91_5:qfield Tryz.prog 91 5 = some (5,1,false):=by kernel_rfl
@[simp] theorem qfield_91_6:qfield Tryz.prog 91 6 = some (6,1,false):=by kernel_rfl
@[simp] theorem qfield_100_0:qfield Tryz.prog 100 0 = some (0,1,false):=by kernel_rfl
@[simp] theorem qfield_102_0:qfield Tryz.prog 102 0 = some (0,1,false):=by kernel_rfl
@[simp] theorem qfield_102_1:qfield Tryz.prog 102 1 = some (1,1,false):=by kernel_rfl
@[simp] theorem qfield_102_2:qfield Tryz.prog 102 2 = some (2,1,false):=by kernel_rfl
@[simp] theorem qfield_117_0:qfield Tryz.prog 117 0 = some (0,1,false):=by kernel_rfl
@[simp] theorem qfield_117_1:qfield Tryz.prog 117 1 = some (1,1,false):=by kernel_rfl
@[simp] theorem qfield_117_2:qfield Tryz.prog 117 2 = some (2,1,false):=by kernel_rfl
@[simp] theorem qfield_126_0:qfield Tryz.prog 126 0 = some (0,1,false):=by kernel_rfl
@[simp] theorem qfield_126_1:qfield Tryz.prog 126 1 = some (1,1,false):=by kernel_rfl
@[simp] theorem qfield_126_2:qfield Tryz.prog 126 2 = some (2,1,false):=by kernel_rfl
@[simp] theorem qfield_126_3:qfield Tryz.prog 126 3 = some (3,1,false):=by kernel_rfl
@[simp] theorem qfield_129_0:qfield Tryz.prog 129 0 = some (0,1,false):=by kernel_rfl
@[simp] theorem qfield_129_1:qfield Tryz.prog 129 1 = some (1,1,false):=by kernel_rfl
@[simp] theorem qfield_147_0:qfield Tryz.prog 147 0 = some (0,1,false):=by kernel_rfl
@[simp] theorem qfield_147_1:qfield Tryz.prog 147 1 = some (1,1,false):=by kernel_rfl
@[simp] theorem qfield_147_2:qfield Tryz.prog 147 2 = some (2,1,false):=by kernel_rfl
@[simp] theorem qfield_150_0:qfield Tryz.prog 150 0 = some (0,1,false):=by kernel_rfl
@[simp] theorem qfield_150_1:qfield Tryz.prog 150 1 = some (1,1,false):=by kernel_rfl
@[simp] theorem qfield_172_0:qfield Tryz.prog 172 0 = some (0,1,false):=by kernel_rfl
@[simp] theorem qfield_172_1:qfield Tryz.prog 172 1 = some (1,1,false):=by kernel_rfl
@[simp] theorem qfield_191_0:qfield Tryz.prog 191 0 = some (0,1,false):=by kernel_rfl
@[simp] theorem qfield_191_1:qfield Tryz.prog 191 1 = some (1,1,false):=by kernel_rfl
@[simp] theorem qfield_230_0:qfield Tryz.prog 230 0 = some (0,1,false):=by kernel_rfl
@[simp] theorem qfield_230_1:qfield Tryz.prog 230 1 = some (1,1,false):=by kernel_rfl
@[simp] theorem qfield_230_2:qfield Tryz.prog 230 2 = some (2,1,false):=by kernel_rfl
/-- 8 operations, 9 nodes, looks at memory: true -/
def pl_4_8:Plan:=.take 0 (.take 1 (.take 3 (.take 4 (.alt 2 true (.alt 5 false (.take 6 (.take 7 (.done))) (.stop)) (.stop)))))
def pe_4_8:Bool:=true
/-- 8 operations, 9 nodes, looks at memory: true -/
def pl_4_12:Plan:=.take 0 (.take 1 (.take 2 (.take 3 (.take 4 (.take 5 (.take 6 (.alt 7 true (.done) (.stop))))))))
def pe_4_12:Bool:=true
/-- 8 operations, 9 nodes, looks at memory: true -/
def pl_4_16:Plan:=.take 0 (.take 1 (.take 2 (.take 3 (.take 4 (.take 5 (.take 6 (.alt 7 true (.done) (.stop))))))))
def pe_4_16:Bool:=true
/-- 15 operations, 16 nodes, looks at memory: true -/
def pl_4_22:Plan:=.take 0 (.take 1 (.take 2 (.take 3 (.take 4 (.take 6 (.take 7 (.alt 5 true (.alt 8 true (.take 9 (.take 10 (.take 11 (.alt 12 true (.take 13 (.take 14 (.done))) (.stop))))) (.stop)) (.stop))))))))
def pe_4_22:Bool:=true
/-- 18 operations, 19 nodes, looks at memory: true -/
def pl_4_27:Plan:=.take 0 (.take 1 (.take 2 (.take 3 (.alt 4 true (.take 5 (.alt 6 true (.take 7 (.take 8 (.take 9 (.take 10 (.take 11 (.take 12 (.alt 13 true (.take 14 (.alt 15 true (.take 16 (.take 17 (.done))) (.stop))) (.stop)))))))) (.stop))) (.stop)))))
def pe_4_27:Bool:=true
/-- 34 operations, 35 nodes, looks at memory: true -/
def pl_6_8:Plan:=.take 0 (.take 1 (.take 3 (.take 4 (.alt 2 true (.alt 5 true (.take 6 (.take 7 (.take 8 (.take 9 (.take 11 (.take 12 (.alt 10 true (.alt 13 true (.take 14 (.take 15 (.take 16 (.take 17 (.take 18 (.take 19 (.take 21 (.take 22 (.take 23 (.alt 20 true (.alt 24 true (.take 25 (.take 26 (.take 27 (.take 28 (.take 30 (.alt 29 true (.alt 31 true (.take 32 (.take 33 (.done))) (.stop)) (.stop))))))) (.stop)) (.stop))))))))))) (.stop)) (.stop)))))))) (.stop)) (.stop)))))
def pe_6_8:Bool:=true
/-- 22 operations, 23 nodes, looks at memory: true -/
def pl_6_12:Plan:=.take 0 (.take 1 (.alt 2 true (.take 3 (.take 4 (.take 5 (.take 6 (.take 7 (.take 8 (.take 9 (.take 10 (.take 11 (.take 12 (.take 14 (.take 15 (.take 16 (.take 17 (.alt 13 true (.alt 18 true (.take 19 (.take 20 (.take 21 (.done)))) (.stop)) (.stop)))))))))))))))) (.stop)))
def pe_6_12:Bool:=true
/-- 9 operations, 10 nodes, looks at memory: true -/
def pl_7_10:Plan:=.take 0 (.take 1 (.take 2 (.take 3 (.alt 4 true (.take 5 (.alt 6 false (.take 7 (.take 8 (.done))) (.stop))) (.stop)))))
def pe_7_10:Bool:=true
/-- 8 operations, 9 nodes, looks at memory: true -/
def pl_11_18:Plan:=.take 0 (.take 1 (.take 2 (.take 3 (.take 4 (.take 5 (.take 6 (.alt 7 true (.done) (.stop))))))))
def pe_11_18:Bool:=true
/-- 8 operations, 9 nodes, looks at memory: true -/
def pl_11_19:Plan:=.take 0 (.take 1 (.take 2 (.take 3 (.take 4 (.take 5 (.take 6 (.alt 7 true (.done) (.stop))))))))
def pe_11_19:Bool:=true
/-- 15 operations, 16 nodes, looks at memory: true -/
def pl_11_28:Plan:=.take 0 (.take 1 (.take 2 (.take 3 (.take 4 (.take 5 (.take 6 (.take 7 (.take 8 (.take 9 (.take 10 (.take 11 (.take 12 (.take 13 (.alt 14 true (.done) (.stop)))))))))))))))
def pe_11_28:Bool:=true
/-- 16 operations, 17 nodes, looks at memory: true -/
def pl_11_29:Plan:=.take 0 (.take 1 (.take 2 (.take 3 (.take 4 (.take 5 (.take 6 (.take 7 (.take 8 (.take 9 (.take 10 (.take 11 (.take 12 (.take 13 (.take 14 (.alt 15 true (.done) (.stop))))))))))))))))
def pe_11_29:Bool:=true
/-- 5 operations, 6 nodes, looks at memory: true -/
def pl_11_30:Plan:=.take 0 (.take 1 (.alt 2 true (.alt 3 false (.take 4 (.done)) (.stop)) (.stop)))
def pe_11_30:Bool:=true
/-- 27 operations, 28 nodes, looks at memory: true -/
def pl_15_4:Plan:=.take 0 (.take 1 (.take 2 (.take 3 (.take 4 (.take 5 (.take 6 (.alt 7 true (.take 8 (.take 9 (.take 10 (.take 11 (.take 12 (.take 13 (.take 14 (.take 15 (.take 16 (.take 17 (.take 18 (.take 19 (.take 20 (.take 21 (.take 22 (.alt 23 true (.take 24 (.take 25 (.take 26 (.done)))) (.stop))))))))))))))))) (.stop))))))))
def pe_15_4:Bool:=true
/-- 7 operations, 8 nodes, looks at memory: true -/
def pl_15_16:Plan:=.take 0 (.take 1 (.take 2 (.take 3 (.alt 4 true (.alt 5 false (.take 6 (.done)) (.stop)) (.stop)))))
def pe_15_16:Bool:=true
/-- 11 operations, 12 nodes, looks at memory: true -/
def pl_17_4:Plan:=.take 0 (.take 1 (.take 2 (.take 3 (.take 4 (.take 5 (.take 6 (.take 7 (.take 8 (.take 9 (.take 10 (.done)))))))))))
def pe_17_4:Bool:=true
/-- 11 operations, 12 nodes, looks at memory: true -/
def pl_17_6:Plan:=.take 0 (.take 1 (.take 2 (.take 3 (.take 4 (.take 5 (.alt 6 true (.alt 7 false (.take 8 (.take 9 (.alt 10 false (.done) (.stop)))) (.stop)) (.stop)))))))
def pe_17_6:Bool:=true
/-- 11 operations, 12 nodes, looks at memory: true -/
def pl_17_7:Plan:=.take 0 (.take 1 (.take 2 (.take 3 (.take 4 (.take 5 (.take 6 (.take 7 (.take 8 (.take 9 (.alt 10 false (.done) (.stop)))))))))))
def pe_17_7:Bool:=true
/-- 11 operations, 12 nodes, looks at memory: true -/
def pl_18_9:Plan:=.take 0 (.take 1 (.take 2 (.take 3 (.take 4 (.take 5 (.take 6 (.take 7 (.take 8 (.take 9 (.alt 10 false (.done) (.stop)))))))))))
def pe_18_9:Bool:=true
/-- 11 operations, 12 nodes, looks at memory: true -/
def pl_22_2:Plan:=.take 0 (.take 1 (.take 2 (.take 3 (.take 4 (.take 5 (.take 6 (.take 7 (.take 8 (.alt 9 false (.take 10 (.done)) (.stop))))))))))
def pe_22_2:Bool:=true
/-- 11 operations, 12 nodes, looks at memory: true -/
def pl_22_4:Plan:=.take 0 (.take 1 (.take 2 (.take 3 (.take 4 (.take 5 (.take 6 (.take 7 (.take 8 (.take 9 (.take 10 (.done)))))))))))
def pe_22_4:Bool:=true
/-- 38 operations, 39 nodes, looks at memory: true -/
def pl_25_24:Plan:=.take 0 (.take 1 (.take 2 (.take 3 (.take 4 (.alt 5 true (.take 6 (.take 7 (.take 8 (.take 9 (.take 10 (.take 11 (.take 12 (.take 13 (.take 14 (.take 15 (.take 16 (.take 17 (.take 18 (.take 19 (.take 20 (.take 21 (.take 22 (.take 23 (.take 24 (.take 25 (.take 26 (.take 27 (.take 28 (.take 29 (.take 30 (.take 31 (.take 32 (.take 33 (.take 34 (.take 35 (.take 36 (.take 37 (.done))))))))))))))))))))))))))))))))) (.stop))))))
def pe_25_24:Bool:=true
/-- 14 operations, 15 nodes, looks at memory: true -/
def pl_29_10:Plan:=.take 0 (.take 1 (.take 2 (.take 4 (.take 5 (.take 6 (.take 7 (.take 8 (.take 9 (.take 10 (.alt 3 true (.alt 11 true (.alt 12 true (.take 13 (.done)) (.stop)) (.stop)) (.stop)))))))))))
def pe_29_10:Bool:=true
/-- 9 operations, 10 nodes, looks at memory: true -/
def pl_30_3:Plan:=.take 0 (.take 1 (.take 2 (.take 3 (.take 4 (.alt 5 true (.take 6 (.alt 7 false (.take 8 (.done)) (.stop))) (.stop))))))
def pe_30_3:Bool:=true
/-- 19 operations, 20 nodes, looks at memory: true -/
def pl_31_4:Plan:=.take 0 (.take 1 (.take 2 (.take 3 (.take 4 (.take 5 (.take 6 (.take 7 (.take 8 (.take 9 (.take 10 (.take 11 (.take 12 (.take 13 (.take 14 (.take 15 (.take 16 (.take 17 (.take 18 (.done)))))))))))))))))))
def pe_31_4:Bool:=true
/-- 25 operations, 26 nodes, looks at memory: true -/
def pl_32_4:Plan:=.take 0 (.take 1 (.take 2 (.take 3 (.take 4 (.take 5 (.take 6 (.take 7 (.take 8 (.take 9 (.take 10 (.take 11 (.take 12 (.take 13 (.take 14 (.take 15 (.take 16 (.take 17 (.take 18 (.take 19 (.take 20 (.take 21 (.take 22 (.take 23 (.take 24 (.done)))))))))))))))))))))))))
def pe_32_4:Bool:=true
/-- 7 operations, 8 nodes, looks at memory: true -/
def pl_32_9:Plan:=.take 0 (.take 1 (.take 2 (.take 3 (.take 4 (.alt 5 false (.take 6 (.done)) (.stop))))))
def pe_32_9:Bool:=true
/-- 8 operations, 9 nodes, looks at memory: true -/
def pl_34_7:Plan:=.take 0 (.take 1 (.take 2 (.take 3 (.take 4 (.take 5 (.alt 6 false (.alt 7 false (.done) (.stop)) (.stop)))))))
def pe_34_7:Bool:=true
/-- 11 operations, 12 nodes, looks at memory: true -/
def pl_36_6:Plan:=.take 0 (.take 1 (.take 2 (.take 3 (.take 4 (.take 5 (.take 6 (.take 7 (.take 8 (.take 9 (.take 10 (.done)))))))))))
def pe_36_6:Bool:=true
/-- 25 operations, 26 nodes, looks at memory: true -/
def pl_45_1:Plan:=.take 0 (.take 1 (.take 3 (.take 4 (.take 7 (.take 8 (.take 11 (.take 12 (.take 15 (.take 16 (.take 19 (.take 20 (.take 21 (.alt 2 true (.alt 5 true (.take 6 (.alt 9 true (.take 10 (.alt 13 true (.take 14 (.alt 17 true (.take 18 (.alt 22 true (.take 23 (.take 24 (.done))) (.stop))) (.stop))) (.stop))) (.stop))) (.stop)) (.stop))))))))))))))
def pe_45_1:Bool:=true
/-- 18 operations, 19 nodes, looks at memory: true -/
def pl_45_5:Plan:=.take 0 (.take 1 (.take 2 (.take 3 (.take 4 (.take 5 (.take 6 (.take 9 (.take 10 (.take 11 (.take 12 (.take 13 (.take 14 (.alt 7 true (.take 8 (.alt 15 true (.take 16 (.take 17 (.done))) (.stop))) (.stop))))))))))))))
def pe_45_5:Bool:=true
/-- 13 operations, 14 nodes, looks at memory: true -/
def pl_47_1:Plan:=.take 0 (.take 1 (.take 2 (.take 3 (.take 4 (.take 5 (.take 6 (.take 7 (.take 8 (.take 9 (.alt 10 true (.take 11 (.take 12 (.done))) (.stop)))))))))))
def pe_47_1:Bool:=true
/-- 13 operations, 27 nodes, looks at memory: true -/
def pl_47_4:Plan:=.take 0 (.take 2 (.take 3 (.take 4 (.take 5 (.take 7 (.alt 1 true (.alt 6 true (.alt 8 true (.alt 9 false (.take 10 (.take 11 (.alt 12 false (.done) (.stop)))) (.stop)) (.stop)) (.alt 8 true (.alt 6 true (.alt 9 false (.take 10 (.take 11 (.alt 12 false (.done) (.stop)))) (.stop)) (.stop)) (.stop))) (.alt 8 true (.alt 1 true (.alt 6 true (.alt 9 false (.take 10 (.take 11 (.alt 12 false (.done) (.stop)))) (.stop)) (.stop)) (.stop)) (.stop))))))))
def pe_47_4:Bool:=true
/-- 6 operations, 7 nodes, looks at memory: true -/
def pl_55_4:Plan:=.take 0 (.take 1 (.take 2 (.alt 3 true (.take 4 (.take 5 (.done))) (.stop))))
def pe_55_4:Bool:=true
/-- 13 operations, 14 nodes, looks at memory: true -/
def pl_55_5:Plan:=.take 0 (.take 1 (.take 2 (.take 3 (.take 4 (.take 5 (.take 6 (.take 7 (.take 8 (.alt 9 true (.take 10 (.take 11 (.take 12 (.done)))) (.stop))))))))))
def pe_55_5:Bool:=true
/-- 10 operations, 11 nodes, looks at memory: true -/
def pl_56_1:Plan:=.take 0 (.take 1 (.take 2 (.take 3 (.take 4 (.take 5 (.alt 6 true (.take 7 (.alt 8 false (.take 9 (.done)) (.stop))) (.stop)))))))
def pe_56_1:Bool:=true
/-- 11 operations, 12 nodes, looks at memory: true -/
def pl_60_4:Plan:=.take 0 (.take 1 (.take 2 (.take 3 (.take 4 (.take 5 (.take 6 (.alt 7 true (.alt 8 false (.take 9 (.take 10 (.done))) (.stop)) (.stop))))))))
def pe_60_4:Bool:=true
/-- 13 operations, 14 nodes, looks at memory: true -/
def pl_63_1:Plan:=.take 0 (.take 1 (.take 2 (.take 3 (.take 4 (.take 5 (.take 6 (.take 7 (.take 8 (.take 9 (.alt 10 true (.take 11 (.take 12 (.done))) (.stop)))))))))))
def pe_63_1:Bool:=true
/-- 12 operations, 13 nodes, looks at memory: true -/
def pl_63_3:Plan:=.take 0 (.take 1 (.take 2 (.take 3 (.take 4 (.take 5 (.alt 6 true (.take 7 (.take 8 (.take 9 (.alt 10 true (.take 11 (.done)) (.stop))))) (.stop)))))))
def pe_63_3:Bool:=true
/-- 12 operations, 13 nodes, looks at memory: true -/
def pl_67_1:Plan:=.take 0 (.take 1 (.take 2 (.take 4 (.take 5 (.take 6 (.take 7 (.alt 3 true (.alt 8 true (.alt 9 true (.alt 10 true (.take 11 (.done)) (.stop)) (.stop)) (.stop)) (.stop))))))))
def pe_67_1:Bool:=true
/-- 19 operations, 20 nodes, looks at memory: false -/
def pl_74_1:Plan:=.take 0 (.take 1 (.take 2 (.take 3 (.take 4 (.take 5 (.take 6 (.take 7 (.take 8 (.take 9 (.take 10 (.take 11 (.take 12 (.take 13 (.take 14 (.take 15 (.take 16 (.take 17 (.take 18 (.done)))))))))))))))))))
def pe_74_1:Bool:=false
/-- 9 operations, 10 nodes, looks at memory: true -/
def pl_87_1:Plan:=.take 0 (.take 1 (.take 2 (.take 3 (.take 4 (.alt 5 true (.take 6 (.alt 7 false (.take 8 (.done)) (.stop))) (.stop))))))
def pe_87_1:Bool:=true
/-- 9 operations, 10 nodes, looks at memory: true -/
def pl_90_8:Plan:=.take 0 (.take 1 (.take 2 (.take 3 (.take 4 (.take 5 (.take 6 (.alt 7 false (.take 8 (.done)) (.stop))))))))
def pe_90_8:Bool:=true
/-- 9 operations, 10 nodes, looks at memory: true -/
def pl_93_3:Plan:=.take 0 (.take 1 (.take 2 (.take 3 (.take 4 (.take 5 (.take 6 (.take 7 (.take 8 (.done)))))))))
def pe_93_3:Bool:=true
/-- 9 operations, 10 nodes, looks at memory: true -/
def pl_99_6:Plan:=.take 0 (.take 1 (.take 2 (.take 3 (.take 4 (.take 5 (.take 6 (.take 7 (.take 8 (.done)))))))))
def pe_99_6:Bool:=true
/-- 7 operations, 8 nodes, looks at memory: true -/
def pl_102_7:Plan:=.take 0 (.take 1 (.take 2 (.take 3 (.take 4 (.alt 5 true (.take 6 (.done)) (.stop))))))
def pe_102_7:Bool:=true
/-- 19 operations, 20 nodes, looks at memory: true -/
def pl_106_3:Plan:=.take 0 (.take 1 (.take 2 (.take 5 (.take 6 (.take 9 (.take 10 (.take 13 (.take 14 (.take 15 (.alt 3 true (.take 4 (.alt 7 true (.take 8 (.alt 11 true (.take 12 (.alt 16 true (.take 17 (.take 18 (.done))) (.stop))) (.stop))) (.stop))) (.stop)))))))))))
def pe_106_3:Bool:=true
/-- 15 operations, 16 nodes, looks at memory: true -/
def pl_106_5:Plan:=.take 0 (.take 1 (.take 2 (.take 5 (.take 6 (.take 9 (.take 10 (.take 11 (.alt 3 true (.take 4 (.alt 7 true (.take 8 (.alt 12 true (.take 13 (.take 14 (.done))) (.stop))) (.stop))) (.stop)))))))))
def pe_106_5:Bool:=true
/-- 10 operations, 11 nodes, looks at memory: true -/
def pl_107_2:Plan:=.take 0 (.take 1 (.take 3 (.take 5 (.take 6 (.alt 2 true (.take 4 (.alt 7 false (.take 8 (.take 9 (.done))) (.stop))) (.stop))))))
def pe_107_2:Bool:=true
/-- 10 operations, 11 nodes, looks at memory: true -/
def pl_107_6:Plan:=.take 0 (.take 1 (.take 2 (.take 5 (.take 6 (.alt 3 true (.take 4 (.alt 7 false (.take 8 (.take 9 (.done))) (.stop))) (.stop))))))
def pe_107_6:Bool:=true
/-- 9 operations, 10 nodes, looks at memory: true -/
def pl_108_4:Plan:=.take 0 (.take 1 (.take 2 (.take 3 (.take 4 (.take 5 (.take 6 (.take 7 (.take 8 (.done)))))))))
def pe_108_4:Bool:=true
/-- 8 operations, 61 nodes, looks at memory: true -/
def pl_118_1:Plan:=.take 0 (.take 2 (.alt 1 true (.alt 3 false (.alt 4 true (.alt 5 true (.alt 6 false (.alt 7 false (.done) (.stop)) (.stop)) (.stop)) (.alt 5 true (.alt 4 true (.alt 6 false (.alt 7 false (.done) (.stop)) (.stop)) (.stop)) (.stop))) (.alt 4 true (.alt 3 false (.alt 5 true (.alt 6 false (.alt 7 false (.done) (.stop)) (.stop)) (.stop)) (.alt 5 true (.alt 3 false (.alt 6 false (.alt 7 false (.done) (.stop)) (.stop)) (.stop)) (.stop))) (.alt 5 true (.alt 3 false (.alt 4 true (.alt 6 false (.alt 7 false (.done) (.stop)) (.stop)) (.stop)) (.alt 4 true (.alt 3 false (.alt 6 false (.alt 7 false (.done) (.stop)) (.stop)) (.stop)) (.stop))) (.stop)))) (.alt 4 true (.alt 1 true (.alt 3 false (.alt 5 true (.alt 6 false (.alt 7 false (.done) (.stop)) (.stop)) (.stop)) (.alt 5 true (.alt 3 false (.alt 6 false (.alt 7 false (.done) (.stop)) (.stop)) (.stop)) (.stop))) (.alt 5 true (.alt 1 true (.alt 3 false (.alt 6 false (.alt 7 false (.done) (.stop)) (.stop)) (.stop)) (.stop)) (.stop))) (.alt 5 true (.alt 1 true (.alt 3 false (.alt 4 true (.alt 6 false (.alt 7 false (.done) (.stop)) (.stop)) (.stop)) (.alt 4 true (.alt 3 false (.alt 6 false (.alt 7 false (.done) (.stop)) (.stop)) (.stop)) (.stop))) (.alt 4 true (.alt 1 true (.alt 3 false (.alt 6 false (.alt 7 false (.done) (.stop)) (.stop)) (.stop)) (.stop)) (.stop))) (.stop)))))
def pe_118_1:Bool:=true
/-- 4 operations, 5 nodes, looks at memory: true -/
def pl_118_2:Plan:=.take 0 (.take 1 (.alt 2 false (.take 3 (.done)) (.stop)))
def pe_118_2:Bool:=true
/-- 11 operations, 12 nodes, looks at memory: true -/
def pl_123_4:Plan:=.take 0 (.take 1 (.take 2 (.take 3 (.take 5 (.take 6 (.take 7 (.take 8 (.alt 4 true (.take 9 (.take 10 (.done))) (.stop)))))))))
def pe_123_4:Bool:=true
/-- 11 operations, 12 nodes, looks at memory: true -/
def pl_123_6:Plan:=.take 0 (.take 1 (.take 3 (.take 4 (.take 5 (.take 6 (.take 7 (.alt 2 true (.alt 8 false (.alt 9 false (.take 10 (.done)) (.stop)) (.stop)) (.stop))))))))
def pe_123_6:Bool:=true
/-- 7 operations, 8 nodes, looks at memory: true -/
def pl_123_13:Plan:=.take 0 (.take 1 (.take 2 (.take 3 (.take 4 (.take 5 (.alt 6 false (.done) (.stop)))))))
def pe_123_13:Bool:=true
/-- 16 operations, 17 nodes, looks at memory: true -/
def pl_125_2:Plan:=.take 0 (.take 2 (.take 4 (.take 6 (.alt 1 true (.take 8 (.alt 3 true (.alt 5 true (.alt 7 true (.alt 9 true (.take 10 (.alt 11 true (.take 12 (.alt 13 true (.take 14 (.alt 15 false (.done) (.stop))) (.stop))) (.stop))) (.stop)) (.stop)) (.stop)) (.stop))) (.stop)))))
def pe_125_2:Bool:=true
/-- 4 operations, 5 nodes, looks at memory: true -/
def pl_133_31:Plan:=.take 0 (.take 1 (.alt 2 true (.alt 3 false (.done) (.stop)) (.stop)))
def pe_133_31:Bool:=true
/-- 4 operations, 5 nodes, looks at memory: true -/
def pl_133_35:Plan:=.take 0 (.take 1 (.alt 2 true (.alt 3 false (.done) (.stop)) (.stop)))
def pe_133_35:Bool:=true
/-- 15 operations, 16 nodes, looks at memory: true -/
def pl_141_2:Plan:=.take 0 (.take 1 (.take 2 (.take 3 (.take 4 (.take 5 (.take 6 (.take 7 (.take 8 (.take 9 (.take 10 (.take 11 (.take 12 (.take 13 (.take 14 (.done)))))))))))))))
def pe_141_2:Bool:=true
/-- 7 operations, 8 nodes, looks at memory: true -/
def pl_141_5:Plan:=.take 0 (.take 1 (.take 2 (.take 3 (.take 4 (.alt 5 false (.take 6 (.done)) (.stop))))))
def pe_141_5:Bool:=true
/-- 42 operations, 43 nodes, looks at memory: true -/
def pl_141_6:Plan:=.take 0 (.alt 1 true (.take 2 (.take 3 (.take 4 (.take 5 (.take 6 (.take 7 (.take 8 (.take 9 (.alt 10 true (.take 11 (.take 12 (.take 13 (.take 14 (.take 15 (.take 16 (.take 17 (.take 18 (.take 19 (.take 20 (.take 21 (.take 22 (.take 23 (.take 24 (.take 25 (.take 26 (.take 27 (.take 28 (.take 29 (.take 30 (.take 31 (.take 32 (.take 33 (.take 34 (.take 35 (.take 36 (.take 37 (.take 38 (.take 39 (.take 40 (.take 41 (.done)))))))))))))))))))))))))))))))) (.stop)))))))))) (.stop))
def pe_141_6:Bool:=true
/-- 30 operations, 31 nodes, looks at memory: true -/
def pl_142_6:Plan:=.take 0 (.alt 1 true (.take 2 (.take 3 (.take 4 (.take 5 (.take 6 (.take 7 (.take 8 (.take 9 (.take 10 (.take 11 (.take 12 (.take 13 (.take 14 (.take 15 (.take 16 (.take 17 (.take 18 (.take 19 (.take 20 (.take 21 (.take 22 (.take 23 (.take 24 (.take 25 (.take 26 (.take 27 (.take 28 (.take 29 (.done))))))))))))))))))))))))))))) (.stop))
def pe_142_6:Bool:=true
/-- 8 operations, 9 nodes, looks at memory: true -/
def pl_152_1:Plan:=.take 0 (.take 2 (.take 3 (.take 4 (.alt 1 true (.alt 5 true (.take 6 (.alt 7 false (.done) (.stop))) (.stop)) (.stop)))))
def pe_152_1:Bool:=true
/-- 3 operations, 4 nodes, looks at memory: false -/
def pl_159_2:Plan:=.take 1 (.alt 0 false (.alt 2 false (.done) (.stop)) (.stop))
def pe_159_2:Bool:=false
/-- 9 operations, 10 nodes, looks at memory: false -/
def pl_159_17:Plan:=.take 0 (.take 1 (.take 3 (.take 4 (.take 7 (.alt 2 false (.alt 5 false (.take 6 (.alt 8 false (.done) (.stop))) (.stop)) (.stop))))))
def pe_159_17:Bool:=false
/-- 4 operations, 5 nodes, looks at memory: true -/
def pl_160_16:Plan:=.take 0 (.take 1 (.alt 2 true (.alt 3 false (.done) (.stop)) (.stop)))
def pe_160_16:Bool:=true
/-- 4 operations, 5 nodes, looks at memory: true -/
def pl_160_19:Plan:=.take 0 (.take 1 (.alt 2 true (.alt 3 false (.done) (.stop)) (.stop)))
def pe_160_19:Bool:=true
/-- 4 operations, 5 nodes, looks at memory: false -/
def pl_161_2:Plan:=.take 0 (.take 2 (.alt 1 false (.alt 3 false (.done) (.stop)) (.stop)))
def pe_161_2:Bool:=false
/-- 4 operations, 5 nodes, looks at memory: true -/
def pl_162_14:Plan:=.take 0 (.take 1 (.alt 2 true (.alt 3 false (.done) (.stop)) (.stop)))
def pe_162_14:Bool:=true
/-- 4 operations, 5 nodes, looks at memory: false -/
def pl_174_4:Plan:=.take 0 (.take 2 (.alt 1 false (.alt 3 false (.done) (.stop)) (.stop)))
def pe_174_4:Bool:=false
/-- 4 operations, 5 nodes, looks at memory: false -/
def pl_175_4:Plan:=.take 0 (.take 2 (.alt 1 false (.alt 3 false (.done) (.stop)) (.stop)))
def pe_175_4:Bool:=false
/-- 3 operations, 4 nodes, looks at memory: false -/
def pl_176_3:Plan:=.take 1 (.alt 0 false (.alt 2 false (.done) (.stop)) (.stop))
def pe_176_3:Bool:=false
/-- 11 operations, 12 nodes, looks at memory: true -/
def pl_176_6:Plan:=.take 0 (.take 1 (.take 2 (.take 3 (.take 4 (.take 5 (.take 6 (.take 7 (.take 8 (.take 9 (.alt 10 false (.done) (.stop)))))))))))
def pe_176_6:Bool:=true
instance:Laid Tryz.prog:=⟨utf8Tabs 1 2 ++ [bitsTab 0]⟩
def planTab:PlanTab:=[(4,[(8,pe_4_8,Mode.ext,pl_4_8),(12,pe_4_12,Mode.ext,pl_4_12),(16,pe_4_16,Mode.ext,pl_4_16),(22,pe_4_22,Mode.ext,pl_4_22),(27,pe_4_27,Mode.ext,pl_4_27)]),(6,[(8,pe_6_8,Mode.ext,pl_6_8),(12,pe_6_12,Mode.ext,pl_6_12)]),(7,[(10,pe_7_10,Mode.ext,pl_7_10)]),(11,[(18,pe_11_18,Mode.ext,pl_11_18),(19,pe_11_19,Mode.ext,pl_11_19),(28,pe_11_28,Mode.ext,pl_11_28),(29,pe_11_29,Mode.ext,pl_11_29),(30,pe_11_30,Mode.only [11,12],pl_11_30)]),(12,[(1000000,false,Mode.ext,Plan.stop)]),(14,[(1000000,false,Mode.ext,Plan.stop)]),(15,[(4,pe_15_4,Mode.ext,pl_15_4),(16,pe_15_16,Mode.ext,pl_15_16)]),(16,[(1000000,false,Mode.ext,Plan.stop)]),(17,[(4,pe_17_4,Mode.ext,pl_17_4),(6,pe_17_6,Mode.ext,pl_17_6),(7,pe_17_7,Mode.ext,pl_17_7)]),(18,[(9,pe_18_9,Mode.ext,pl_18_9)]),(22,[(2,pe_22_2,Mode.ext,pl_22_2),(4,pe_22_4,Mode.ext,pl_22_4),(1000000,false,Mode.ext,Plan.stop)]),(25,[(24,pe_25_24,Mode.ext,pl_25_24),(1000000,false,Mode.ext,Plan.stop)]),(26,[(1000000,false,Mode.ext,Plan.stop)]),(29,[(10,pe_29_10,Mode.ext,pl_29_10)]),(30,[(3,pe_30_3,Mode.ext,pl_30_3)]),(31,[(4,pe_31_4,Mode.ext,pl_31_4)]),(32,[(4,pe_32_4,Mode.ext,pl_32_4),(9,pe_32_9,Mode.ext,pl_32_9)]),(34,[(7,pe_34_7,Mode.ext,pl_34_7)]),(36,[(6,pe_36_6,Mode.ext,pl_36_6)]),(45,[(1,pe_45_1,Mode.ext,pl_45_1),(5,pe_45_5,Mode.ext,pl_45_5),(1000000,false,Mode.ext,Plan.stop)]),(47,[(1,pe_47_1,Mode.ext,pl_47_1),(4,pe_47_4,Mode.base,pl_47_4),(1000001,false,Mode.only [0],Plan.stop)]),(55,[(4,pe_55_4,Mode.ext,pl_55_4),(5,pe_55_5,Mode.ext,pl_55_5)]),(56,[(1,pe_56_1,Mode.ext,pl_56_1)]),(60,[(4,pe_60_4,Mode.ext,pl_60_4)]),(63,[(1,pe_63_1,Mode.ext,pl_63_1),(3,pe_63_3,Mode.ext,pl_63_3)]),(67,[(1,pe_67_1,Mode.ext,pl_67_1)]),(68,[(1000000,false,Mode.ext,Plan.stop)]),(74,[(1,pe_74_1,Mode.ext,pl_74_1),(1000000,false,Mode.ext,Plan.stop)]),(81,[(1000000,false,Mode.ext,Plan.stop)]),(87,[(1,pe_87_1,Mode.ext,pl_87_1)]),(90,[(8,pe_90_8,Mode.ext,pl_90_8)]),(93,[(3,pe_93_3,Mode.ext,pl_93_3)]),(99,[(6,pe_99_6,Mode.ext,pl_99_6)]),(102,[(7,pe_102_7,Mode.ext,pl_102_7)]),(106,[(3,pe_106_3,Mode.ext,pl_106_3),(5,pe_106_5,Mode.ext,pl_106_5)]),(107,[(2,pe_107_2,Mode.ext,pl_107_2),(6,pe_107_6,Mode.ext,pl_107_6)]),(108,[(4,pe_108_4,Mode.ext,pl_108_4)]),(112,[(1000000,false,Mode.ext,Plan.stop)]),(117,[(1000000,false,Mode.ext,Plan.stop)]),(118,[(1,pe_118_1,Mode.ext,pl_118_1),(2,pe_118_2,Mode.ext,pl_118_2),(1000000,false,Mode.ext,Plan.stop)]),(121,[(1000000,false,Mode.ext,Plan.stop)]),(123,[(4,pe_123_4,Mode.ext,pl_123_4),(6,pe_123_6,Mode.ext,pl_123_6),(13,pe_123_13,Mode.ext,pl_123_13)]),(125,[(2,pe_125_2,Mode.only [1],pl_125_2)]),(133,[(31,pe_133_31,Mode.base,pl_133_31),(35,pe_133_35,Mode.base,pl_133_35)]),(140,[(1000000,false,Mode.ext,Plan.stop)]),(141,[(2,pe_141_2,Mode.ext,pl_141_2),(5,pe_141_5,Mode.ext,pl_141_5),(6,pe_141_6,Mode.ext,pl_141_6)]),(142,[(6,pe_142_6,Mode.ext,pl_142_6)]),(152,[(1,pe_152_1,Mode.ext,pl_152_1)]),(159,[(2,pe_159_2,Mode.ext,pl_159_2),(17,pe_159_17,Mode.ext,pl_159_17)]),(160,[(16,pe_160_16,Mode.base,pl_160_16),(19,pe_160_19,Mode.base,pl_160_19)]),(161,[(2,pe_161_2,Mode.ext,pl_161_2)]),(162,[(14,pe_162_14,Mode.base,pl_162_14)]),(174,[(4,pe_174_4,Mode.ext,pl_174_4)]),(175,[(4,pe_175_4,Mode.ext,pl_175_4)]),(176,[(3,pe_176_3,Mode.ext,pl_176_3),(6,pe_176_6,Mode.ext,pl_176_6)])]
end Go.Proofs.YtmhaimdpfelkpaaGreatDoor
