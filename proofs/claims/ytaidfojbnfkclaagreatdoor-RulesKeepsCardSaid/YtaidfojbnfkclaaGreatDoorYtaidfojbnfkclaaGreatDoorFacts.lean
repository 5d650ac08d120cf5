/-
  Facts about this program's types,by program.
-/
import Derived.Test.YtaidfojbnfkclaaGreatDoorAbsC
import Derived.Test.YtaidfojbnfkclaaGreatDoorProg
set_option linter.unusedVariables false
namespace Go.Proofs.YtaidfojbnfkclaaGreatDoor
open Go Go.Abs Go.Proofs
@[simp] theorem qsize_2:qsize Tryz.prog 2 = some 1:=by kernel_rfl
@[simp] theorem qagg_2:qagg Tryz.prog 2 = some false:=by kernel_rfl
@[simp] theorem qint_2:qint Tryz.prog 2 = some Go.IntKind.i64:=by kernel_rfl
@[simp] theorem cellsOf_2:Go.Program.cellsOf Tryz.prog 2 = 1:=by kernel_rfl
@[simp] theorem qsize_3:qsize Tryz.prog 3 = some 1:=by kernel_rfl
@[simp] theorem qbytes_3:qbytes Tryz.prog 3 = some 8:=by kernel_rfl
@[simp] theorem qagg_3:qagg Tryz.prog 3 = some false:=by kernel_rfl
@[simp] theorem qzero_3:qzero Tryz.prog 3 = some (V.i Go.IntKind.i64 (0)):=by kernel_rfl
@[simp] theorem qint_3:qint Tryz.prog 3 = some Go.IntKind.i64:=by kernel_rfl
@[simp] theorem qthere_3:qthere Tryz.prog 3 = true:=by kernel_rfl
@[simp] theorem cellsOf_3:Go.Program.cellsOf Tryz.prog 3 = 1:=by kernel_rfl
@[simp] theorem qsize_4:qsize Tryz.prog 4 = some 1:=by kernel_rfl
@[simp] theorem qagg_4:qagg Tryz.prog 4 = some false:=by kernel_rfl
@[simp] theorem qbool_4:qbool Tryz.prog 4 = true:=by kernel_rfl
@[simp] theorem bb_4 (x y:Bool):aeq Tryz.prog 4 (.b x) (.b y) = some (x == y):=aeq_bb qbool_4
@[simp] theorem qsize_5:qsize Tryz.prog 5 = some 1:=by kernel_rfl
@[simp] theorem qbytes_5:qbytes Tryz.prog 5 = some 1:=by kernel_rfl
@[simp] theorem qagg_5:qagg Tryz.prog 5 = some false:=by kernel_rfl
@[simp] theorem qzero_5:qzero Tryz.prog 5 = some (V.i Go.IntKind.u8 (0)):=by kernel_rfl
@[simp] theorem qthere_5:qthere Tryz.prog 5 = true:=by kernel_rfl
@[simp] theorem qsize_9:qsize Tryz.prog 9 = some 1:=by kernel_rfl
@[simp] theorem qbytes_9:qbytes Tryz.prog 9 = some 16:=by kernel_rfl
@[simp] theorem qagg_9:qagg Tryz.prog 9 = some false:=by kernel_rfl
@[simp] theorem qzero_9:qzero Tryz.prog 9 = some (V.s []):=by kernel_rfl
@[simp] theorem qstr_9:qstr Tryz.prog 9 = true:=by kernel_rfl
@[simp] theorem qthere_9:qthere Tryz.prog 9 = true:=by kernel_rfl
@[simp] theorem cellsOf_9:Go.Program.cellsOf Tryz.prog 9 = 1:=by kernel_rfl
@[simp] theorem qsize_21:qsize Tryz.prog 21 = some 1:=by kernel_rfl
@[simp] theorem qagg_21:qagg Tryz.prog 21 = some false:=by kernel_rfl
@[simp] theorem qsize_22:qsize Tryz.prog 22 = some 1:=by kernel_rfl
@[simp] theorem qbytes_22:qbytes Tryz.prog 22 = some 4:=by kernel_rfl
@[simp] theorem qagg_22:qagg Tryz.prog 22 = some false:=by kernel_rfl
@[simp] theorem qzero_22:qzero Tryz.prog 22 = some (V.i Go.IntKind.u32 (0)):=by kernel_rfl
@[simp] theorem qint_22:qint Tryz.prog 22 = some Go.IntKind.u32:=by kernel_rfl
@[simp] theorem cellsOf_22:Go.Program.cellsOf Tryz.prog 22 = 1:=by kernel_rfl
@[simp] theorem qsize_24:qsize Tryz.prog 24 = some 8:=by kernel_rfl
@[simp] theorem qbytes_24:qbytes Tryz.prog 24 = some 56:=by kernel_rfl
@[simp] theorem qagg_24:qagg Tryz.prog 24 = some true:=by kernel_rfl
@[simp] theorem qzero_24:qzero Tryz.prog 24 = some   (V.agg     [V.i Go.IntKind.i64 (0),V.i Go.IntKind.i64 (0),V.i Go.IntKind.i64 (0),       V.i Go.IntKind.i64 (0),V.i Go.IntKind.i64 (0),V.i Go.IntKind.i64 (0),       V.i Go.IntKind.u32 (0),V.i Go.IntKind.u32 (0)]):=by kernel_rfl
@[simp] theorem qplaces_24:qplaces Tryz.prog 24 = some [(0,1),(1,1),(2,1),(3,1),(4,1),(5,1),(6,1),(7,1)]:=by kernel_rfl
@[simp] theorem qeq_24:qeq Tryz.prog 24 = some   [CK.i Go.IntKind.i64,CK.i Go.IntKind.i64,CK.i Go.IntKind.i64,CK.i Go.IntKind.i64,CK.i Go.IntKind.i64,     CK.i Go.IntKind.i64,CK.i Go.IntKind.u32,CK.i Go.IntKind.u32]:=by kernel_rfl
@[simp] theorem cellsOf_24:Go.Program.cellsOf Tryz.prog 24 = 8:=by kernel_rfl
@[simp] theorem qsize_25:qsize Tryz.prog 25 = some 1:=by kernel_rfl
@[simp] theorem qagg_25:qagg Tryz.prog 25 = some false:=by kernel_rfl
@[simp] theorem qsrc_25:qsrc Tryz.prog 25 = true:=by kernel_rfl
@[simp] theorem cellsOf_25:Go.Program.cellsOf Tryz.prog 25 = 1:=by kernel_rfl
@[simp] theorem qelem_25:qelem Tryz.prog 25 = some 68:=by kernel_rfl
@[simp] theorem qsize_26:qsize Tryz.prog 26 = some 1:=by kernel_rfl
@[simp] theorem qagg_26:qagg Tryz.prog 26 = some false:=by kernel_rfl
@[simp] theorem qsrc_26:qsrc Tryz.prog 26 = true:=by kernel_rfl
@[simp] theorem cellsOf_26:Go.Program.cellsOf Tryz.prog 26 = 1:=by kernel_rfl
@[simp] theorem qelem_26:qelem Tryz.prog 26 = some 75:=by kernel_rfl
@[simp] theorem qsize_28:qsize Tryz.prog 28 = some 14:=by kernel_rfl
@[simp] theorem qagg_28:qagg Tryz.prog 28 = some true:=by kernel_rfl
@[simp] theorem qzero_28:qzero Tryz.prog 28 = some   (V.agg     [V.i Go.IntKind.i64 (0),V.i Go.IntKind.i64 (0),V.i Go.IntKind.i64 (0),       V.i Go.IntKind.i64 (0),V.i Go.IntKind.i64 (0),V.i Go.IntKind.i64 (0),       V.i Go.IntKind.i64 (0),V.i Go.IntKind.i64 (0),V.i Go.IntKind.i64 (0),       V.i Go.IntKind.i64 (0),V.i Go.IntKind.u32 (0),V.i Go.IntKind.u32 (0),       V.sl none 0 false,V.sl none 0 false]):=by kernel_rfl
@[simp] theorem qplaces_28:qplaces Tryz.prog 28 = some [(0,1),(1,1),(2,1),(3,1),(4,8),(12,1),(13,1)]:=by kernel_rfl
@[simp] theorem cellsOf_28:Go.Program.cellsOf Tryz.prog 28 = 14:=by kernel_rfl
@[simp] theorem qsize_33:qsize Tryz.prog 33 = some 1:=by kernel_rfl
@[simp] theorem qagg_33:qagg Tryz.prog 33 = some false:=by kernel_rfl
@[simp] theorem qsize_35:qsize Tryz.prog 35 = some 1:=by kernel_rfl
@[simp] theorem qagg_35:qagg Tryz.prog 35 = some false:=by kernel_rfl
@[simp] theorem cellsOf_35:Go.Program.cellsOf Tryz.prog 35 = 1:=by kernel_rfl
@[simp] theorem qelem_35:qelem Tryz.prog 35 = some 52:=by kernel_rfl
@[simp] theorem qsize_37:qsize Tryz.prog 37 = some 1:=by kernel_rfl
@[simp] theorem qagg_37:qagg Tryz.prog 37 = some false:=by kernel_rfl
@[simp] theorem qsrc_37:qsrc Tryz.prog 37 = true:=by kernel_rfl
@[simp] theorem qelem_37:qelem Tryz.prog 37 = some 24:=by kernel_rfl
@[simp] theorem qarr_38:qarr Tryz.prog 38 = some (4,9):=by kernel_rfl
@[simp] theorem qsize_39:qsize Tryz.prog 39 = some 1:=by kernel_rfl
@[simp] theorem qagg_39:qagg Tryz.prog 39 = some false:=by kernel_rfl
@[simp] theorem qsrc_39:qsrc Tryz.prog 39 = true:=by kernel_rfl
@[simp] theorem qelem_39:qelem Tryz.prog 39 = some 22:=by kernel_rfl
@[simp] theorem qsize_40:qsize Tryz.prog 40 = some 1:=by kernel_rfl
@[simp] theorem qagg_40:qagg Tryz.prog 40 = some false:=by kernel_rfl
@[simp] theorem qsrc_40:qsrc Tryz.prog 40 = true:=by kernel_rfl
@[simp] theorem qelem_40:qelem Tryz.prog 40 = some 9:=by kernel_rfl
@[simp] theorem qsize_42:qsize Tryz.prog 42 = some 32:=by kernel_rfl
@[simp] theorem qagg_42:qagg Tryz.prog 42 = some true:=by kernel_rfl
@[simp] theorem qzero_42:qzero Tryz.prog 42 = some   (V.agg     [V.i Go.IntKind.i64 (0),V.i Go.IntKind.i64 (0),V.i Go.IntKind.i64 (0),       V.i Go.IntKind.i64 (0),V.i Go.IntKind.i64 (0),V.i Go.IntKind.i64 (0),       V.i Go.IntKind.i64 (0),V.i Go.IntKind.i64 (0),V.i Go.IntKind.i64 (0),       V.i Go.IntKind.i64 (0),V.i Go.IntKind.i64 (0),V.i Go.IntKind.u32 (0),       V.i Go.IntKind.u32 (0),V.i Go.IntKind.i64 (0),V.i Go.IntKind.i64 (0),       V.i Go.IntKind.i64 (0),V.i Go.IntKind.i64 (0),V.i Go.IntKind.i64 (0),       V.i Go.IntKind.i64 (0),V.i Go.IntKind.u32 (0),V.i Go.IntKind.u32 (0),       V.sl none 0 false,V.sl none 0 false,V.b false,V.s [],V.s [],V.s [],V.s [],V.sl none 0 false,       V.i Go.IntKind.i64 (0),V.i Go.IntKind.i64 (0),V.sl none 0 false]):=by kernel_rfl
@[simp] theorem qplaces_42:qplaces Tryz.prog 42 = some   [(0,1),(1,1),(2,1),(3,1),(4,1),(5,8),(13,8),(21,1),(22,1),(23,1),(24,4),(28,1),(29,1),     (30,1),(31,1)]:=by kernel_rfl
@[simp] theorem qarr_43:qarr Tryz.prog 43 = some (10,24):=by kernel_rfl
@[simp] theorem qsize_45:qsize Tryz.prog 45 = some 190:=by kernel_rfl
@[simp] theorem qagg_45:qagg Tryz.prog 45 = some true:=by kernel_rfl
@[simp] theorem qzero_45:qzero Tryz.prog 45 = some   (V.agg     [V.i Go.IntKind.i64 (0),V.i Go.IntKind.i64 (0),V.i Go.IntKind.i64 (0),       V.i Go.IntKind.i64 (0),V.i Go.IntKind.i64 (0),V.i Go.IntKind.i64 (0),       V.i Go.IntKind.i64 (0),V.i Go.IntKind.i64 (0),V.i Go.IntKind.i64 (0),       V.i Go.IntKind.i64 (0),V.i Go.IntKind.i64 (0),V.i Go.IntKind.u32 (0),       V.i Go.IntKind.u32 (0),V.i Go.IntKind.i64 (0),V.i Go.IntKind.i64 (0),       V.i Go.IntKind.i64 (0),V.i Go.IntKind.i64 (0),V.i Go.IntKind.i64 (0),       V.i Go.IntKind.i64 (0),V.i Go.IntKind.u32 (0),V.i Go.IntKind.u32 (0),       V.i Go.IntKind.i64 (0),V.i Go.IntKind.i64 (0),V.i Go.IntKind.i64 (0),       V.i Go.IntKind.i64 (0),V.i Go.IntKind.i64 (0),V.i Go.IntKind.i64 (0),       V.i Go.IntKind.u32 (0),V.i Go.IntKind.u32 (0),V.i Go.IntKind.i64 (0),       V.i Go.IntKind.i64 (0),V.i Go.IntKind.i64 (0),V.i Go.IntKind.i64 (0),       V.i Go.IntKind.i64 (0),V.i Go.IntKind.i64 (0),V.i Go.IntKind.u32 (0),       V.i Go.IntKind.u32 (0),V.i Go.IntKind.i64 (0),V.i Go.IntKind.i64 (0),       V.i Go.IntKind.i64 (0),V.i Go.IntKind.i64 (0),V.i Go.IntKind.i64 (0),       V.i Go.IntKind.i64 (0),V.i Go.IntKind.u32 (0),V.i Go.IntKind.u32 (0),       V.i Go.IntKind.i64 (0),V.i Go.IntKind.i64 (0),V.i Go.IntKind.i64 (0),       V.i Go.IntKind.i64 (0),V.i Go.IntKind.i64 (0),V.i Go.IntKind.i64 (0),       V.i Go.IntKind.u32 (0),V.i Go.IntKind.u32 (0),V.i Go.IntKind.i64 (0),       V.i Go.IntKind.i64 (0),V.i Go.IntKind.i64 (0),V.i Go.IntKind.i64 (0),       V.i Go.IntKind.i64 (0),V.i Go.IntKind.i64 (0),V.i Go.IntKind.u32 (0),       V.i Go.IntKind.u32 (0),V.i Go.IntKind.i64 (0),V.i Go.IntKind.i64 (0),       V.i Go.IntKind.i64 (0),V.i Go.IntKind.i64 (0),V.i Go.IntKind.i64 (0),       V.i Go.IntKind.i64 (0),V.i Go.IntKind.u32 (0),V.i Go.IntKind.u32 (0),       V.i Go.IntKind.i64 (0),V.i Go.IntKind.i64 (0),V.i Go.IntKind.i64 (0),       V.i Go.IntKind.i64 (0),V.i Go.IntKind.i64 (0),V.i Go.IntKind.i64 (0),       V.i Go.IntKind.u32 (0),V.i Go.IntKind.u32 (0),V.i Go.IntKind.i64 (0),       V.i Go.IntKind.i64 (0),V.i Go.IntKind.i64 (0),V.i Go.IntKind.i64 (0),       V.i Go.IntKind.i64 (0),V.i Go.IntKind.i64 (0),V.i Go.IntKind.u32 (0),       V.i Go.IntKind.u32 (0),V.i Go.IntKind.i64 (0),V.i Go.IntKind.i64 (0),       V.i Go.IntKind.i64 (0),V.i Go.IntKind.i64 (0),V.i Go.IntKind.i64 (0),       V.i Go.IntKind.i64 (0),V.i Go.IntKind.u32 (0),V.i Go.IntKind.u32 (0),       V.i Go.IntKind.i64 (0),V.i Go.IntKind.i64 (0),V.i Go.IntKind.i64 (0),       V.i Go.IntKind.i64 (0),V.i Go.IntKind.i64 (0),V.i Go.IntKind.i64 (0),       V.i Go.IntKind.u32 (0),V.i Go.IntKind.u32 (0),V.i Go.IntKind.i64 (0),       V.i Go.IntKind.i64 (0),V.i Go.IntKind.i64 (0),V.i Go.IntKind.i64 (0),       V.i Go.IntKind.i64 (0),V.i Go.IntKind.i64 (0),V.i Go.IntKind.u32 (0),       V.i Go.IntKind.u32 (0),V.i Go.IntKind.i64 (0),V.i Go.IntKind.i64 (0),       V.i Go.IntKind.i64 (0),V.i Go.IntKind.i64 (0),V.i Go.IntKind.i64 (0),       V.i Go.IntKind.i64 (0),V.i Go.IntKind.u32 (0),V.i Go.IntKind.u32 (0),       V.i Go.IntKind.i64 (0),V.i Go.IntKind.i64 (0),V.i Go.IntKind.i64 (0),       V.i Go.IntKind.i64 (0),V.i Go.IntKind.i64 (0),V.i Go.IntKind.i64 (0),       V.i Go.IntKind.u32 (0),V.i Go.IntKind.u32 (0),V.i Go.IntKind.i64 (0),       V.i Go.IntKind.i64 (0),V.i Go.IntKind.i64 (0),V.i Go.IntKind.i64 (0),       V.i Go.IntKind.i64 (0),V.i Go.IntKind.i64 (0),V.i Go.IntKind.u32 (0),       V.i Go.IntKind.u32 (0),V.i Go.IntKind.i64 (0),V.i Go.IntKind.i64 (0),       V.i Go.IntKind.i64 (0),V.i Go.IntKind.i64 (0),V.i Go.IntKind.i64 (0),       V.i Go.IntKind.i64 (0),V.i Go.IntKind.u32 (0),V.i Go.IntKind.u32 (0),       V.i Go.IntKind.i64 (0),V.i Go.IntKind.i64 (0),V.i Go.IntKind.i64 (0),       V.i Go.IntKind.i64 (0),V.i Go.IntKind.i64 (0),V.i Go.IntKind.i64 (0),       V.i Go.IntKind.u32 (0),V.i Go.IntKind.u32 (0),V.i Go.IntKind.i64 (0),       V.i Go.IntKind.i64 (0),V.i Go.IntKind.i64 (0),V.i Go.IntKind.i64 (0),       V.i Go.IntKind.i64 (0),V.i Go.IntKind.i64 (0),V.i Go.IntKind.u32 (0),       V.i Go.IntKind.u32 (0),V.i Go.IntKind.i64 (0),V.i Go.IntKind.i64 (0),       V.i Go.IntKind.i64 (0),V.i Go.IntKind.i64 (0),V.i Go.IntKind.i64 (0),       V.i Go.IntKind.i64 (0),V.i Go.IntKind.u32 (0),V.i Go.IntKind.u32 (0),       V.i Go.IntKind.i64 (0),V.i Go.IntKind.i64 (0),V.i Go.IntKind.i64 (0),       V.i Go.IntKind.i64 (0),V.i Go.IntKind.i64 (0),V.i Go.IntKind.i64 (0),       V.i Go.IntKind.u32 (0),V.i Go.IntKind.u32 (0),V.i Go.IntKind.i64 (0),       V.i Go.IntKind.i64 (0),V.i Go.IntKind.i64 (0),V.i Go.IntKind.i64 (0),       V.i Go.IntKind.i64 (0),V.i Go.IntKind.i64 (0),V.i Go.IntKind.u32 (0),       V.i Go.IntKind.u32 (0),V.b false,V.s [],V.s [],V.s [],V.s [],V.sl none 0 false,       V.i Go.IntKind.i64 (0),V.i Go.IntKind.i64 (0),V.sl none 0 false]):=by kernel_rfl
@[simp] theorem qplaces_45:qplaces Tryz.prog 45 = some   [(0,1),(1,1),(2,1),(3,1),(4,1),(5,8),(13,8),(21,80),(101,80),(181,1),(182,4),(186,1),(187,1),     (188,1),(189,1)]:=by kernel_rfl
@[simp] theorem qsize_49:qsize Tryz.prog 49 = some 22:=by kernel_rfl
@[simp] theorem qagg_49:qagg Tryz.prog 49 = some true:=by kernel_rfl
@[simp] theorem qzero_49:qzero Tryz.prog 49 = some   (V.agg     [V.i Go.IntKind.i64 (0),V.i Go.IntKind.i64 (0),V.i Go.IntKind.i64 (0),       V.i Go.IntKind.i64 (0),V.i Go.IntKind.i64 (0),V.i Go.IntKind.i64 (0),       V.i Go.IntKind.i64 (0),V.i Go.IntKind.u32 (0),V.i Go.IntKind.u32 (0),       V.i Go.IntKind.i64 (0),V.i Go.IntKind.i64 (0),V.i Go.IntKind.i64 (0),       V.i Go.IntKind.i64 (0),V.i Go.IntKind.i64 (0),V.i Go.IntKind.i64 (0),       V.i Go.IntKind.u32 (0),V.i Go.IntKind.u32 (0),V.i Go.IntKind.u32 (0),       V.i Go.IntKind.i64 (0),V.i Go.IntKind.i64 (0),V.i Go.IntKind.i64 (0),V.s []]):=by kernel_rfl
@[simp] theorem qplaces_49:qplaces Tryz.prog 49 = some [(0,1),(1,8),(9,8),(17,1),(18,1),(19,1),(20,1),(21,1)]:=by kernel_rfl
@[simp] theorem qeq_49:qeq Tryz.prog 49 = some   [CK.i Go.IntKind.i64,CK.i Go.IntKind.i64,CK.i Go.IntKind.i64,CK.i Go.IntKind.i64,CK.i Go.IntKind.i64,     CK.i Go.IntKind.i64,CK.i Go.IntKind.i64,CK.i Go.IntKind.u32,CK.i Go.IntKind.u32,CK.i Go.IntKind.i64,     CK.i Go.IntKind.i64,CK.i Go.IntKind.i64,CK.i Go.IntKind.i64,CK.i Go.IntKind.i64,CK.i Go.IntKind.i64,     CK.i Go.IntKind.u32,CK.i Go.IntKind.u32,CK.i Go.IntKind.u32,CK.i Go.IntKind.i64,CK.i Go.IntKind.i64,     CK.i Go.IntKind.i64,CK.s]:=by kernel_rfl
@[simp] theorem qsize_52:qsize Tryz.prog 52 = some 22:=by kernel_rfl
@[simp] theorem qagg_52:qagg Tryz.prog 52 = some true:=by kernel_rfl
@[simp] theorem qzero_52:qzero Tryz.prog 52 = some   (V.agg     [V.i Go.IntKind.i64 (0),V.i Go.IntKind.i64 (0),V.i Go.IntKind.i64 (0),       V.i Go.IntKind.i64 (0),V.i Go.IntKind.i64 (0),V.i Go.IntKind.i64 (0),       V.i Go.IntKind.i64 (0),V.i Go.IntKind.u32 (0),V.i Go.IntKind.u32 (0),       V.i Go.IntKind.i64 (0),V.i Go.IntKind.i64 (0),V.i Go.IntKind.i64 (0),       V.i Go.IntKind.i64 (0),V.i Go.IntKind.i64 (0),V.i Go.IntKind.i64 (0),       V.i Go.IntKind.u32 (0),V.i Go.IntKind.u32 (0),V.i Go.IntKind.u32 (0),       V.i Go.IntKind.i64 (0),V.i Go.IntKind.i64 (0),V.i Go.IntKind.i64 (0),V.s []]):=by kernel_rfl
@[simp] theorem qplaces_52:qplaces Tryz.prog 52 = some [(0,1),(1,8),(9,8),(17,1),(18,1),(19,1),(20,1),(21,1)]:=by kernel_rfl
@[simp] theorem qeq_52:qeq Tryz.prog 52 = some   [CK.i Go.IntKind.i64,CK.i Go.IntKind.i64,CK.i Go.IntKind.i64,CK.i Go.IntKind.i64,CK.i Go.IntKind.i64,     CK.i Go.IntKind.i64,CK.i Go.IntKind.i64,CK.i Go.IntKind.u32,CK.i Go.IntKind.u32,CK.i Go.IntKind.i64,     CK.i Go.IntKind.i64,CK.i Go.IntKind.i64,CK.i Go.IntKind.i64,CK.i Go.IntKind.i64,CK.i Go.IntKind.i64,     CK.i Go.IntKind.u32,CK.i Go.IntKind.u32,CK.i Go.IntKind.u32,CK.i Go.IntKind.i64,CK.i Go.IntKind.i64,     CK.i Go.IntKind.i64,CK.s]:=by kernel_rfl
@[simp] theorem cellsOf_52:Go.Program.cellsOf Tryz.prog 52 = 22:=by kernel_rfl
@[simp] theorem qagg_60:qagg Tryz.prog 60 = some true:=by kernel_rfl
@[simp] theorem cellsOf_60:Go.Program.cellsOf Tryz.prog 60 = 13:=by kernel_rfl
@[simp] theorem qsize_68:qsize Tryz.prog 68 = some 10:=by kernel_rfl
@[simp] theorem qbytes_68:qbytes Tryz.prog 68 = some 72:=by kernel_rfl
@[simp] theorem qagg_68:qagg Tryz.prog 68 = some true:=by kernel_rfl
@[simp] theorem qzero_68:qzero Tryz.prog 68 = some   (V.agg     [V.i Go.IntKind.i64 (0),V.i Go.IntKind.i64 (0),V.i Go.IntKind.i64 (0),       V.i Go.IntKind.i64 (0),V.i Go.IntKind.i64 (0),V.i Go.IntKind.i64 (0),       V.i Go.IntKind.i64 (0),V.i Go.IntKind.i64 (0),V.i Go.IntKind.u32 (0),       V.i Go.IntKind.u32 (0)]):=by kernel_rfl
@[simp] theorem qplaces_68:qplaces Tryz.prog 68 = some [(0,1),(1,1),(2,8)]:=by kernel_rfl
@[simp] theorem qeq_68:qeq Tryz.prog 68 = some   [CK.i Go.IntKind.i64,CK.i Go.IntKind.i64,CK.i Go.IntKind.i64,CK.i Go.IntKind.i64,CK.i Go.IntKind.i64,     CK.i Go.IntKind.i64,CK.i Go.IntKind.i64,CK.i Go.IntKind.i64,CK.i Go.IntKind.u32,CK.i Go.IntKind.u32]:=by kernel_rfl
@[simp] theorem cellsOf_68:Go.Program.cellsOf Tryz.prog 68 = 10:=by kernel_rfl
@[simp] theorem qsize_75:qsize Tryz.prog 75 = some 7:=by kernel_rfl
@[simp] theorem qbytes_75:qbytes Tryz.prog 75 = some 88:=by kernel_rfl
@[simp] theorem qagg_75:qagg Tryz.prog 75 = some true:=by kernel_rfl
@[simp] theorem qzero_75:qzero Tryz.prog 75 = some   (V.agg     [V.i Go.IntKind.i64 (0),V.s [],V.s [],V.s [],V.s [],V.i Go.IntKind.i64 (0),       V.i Go.IntKind.i64 (0)]):=by kernel_rfl
@[simp] theorem qplaces_75:qplaces Tryz.prog 75 = some [(0,1),(1,1),(2,1),(3,1),(4,1),(5,1),(6,1)]:=by kernel_rfl
@[simp] theorem qeq_75:qeq Tryz.prog 75 = some [CK.i Go.IntKind.i64,CK.s,CK.s,CK.s,CK.s,CK.i Go.IntKind.i64,CK.i Go.IntKind.i64]:=by kernel_rfl
@[simp] theorem cellsOf_75:Go.Program.cellsOf Tryz.prog 75 = 7:=by kernel_rfl
@[simp] theorem qsrc_92:qsrc Tryz.prog 92 = true:=by kernel_rfl
@[simp] theorem qelem_92:qelem Tryz.prog 92 = some 3:=by kernel_rfl
@[simp] theorem qsize_95:qsize Tryz.prog 95 = some 1:=by kernel_rfl
@[simp] theorem qagg_95:qagg Tryz.prog 95 = some false:=by kernel_rfl
@[simp] theorem qsize_104:qsize Tryz.prog 104 = some 3:=by kernel_rfl
@[simp] theorem qagg_104:qagg Tryz.prog 104 = some true:=by kernel_rfl
@[simp] theorem qzero_104:qzero Tryz.prog 104 = some (V.agg [V.i Go.IntKind.i64 (0),V.i Go.IntKind.i64 (0),V.i Go.IntKind.i64 (0)]):=by kernel_rfl
@[simp] theorem qarr_104:qarr Tryz.prog 104 = some (3,3):=by kernel_rfl
@[simp] theorem qsize_126:qsize Tryz.prog 126 = some 1:=by kernel_rfl
@[simp] theorem qagg_126:qagg Tryz.prog 126 = some false:=by kernel_rfl
@[simp] theorem qsize_127:qsize Tryz.prog 127 = some 1:=by kernel_rfl
@[simp] theorem qagg_127:qagg Tryz.prog 127 = some false:=by kernel_rfl
@[simp] theorem qzero_127:qzero Tryz.prog 127 = some V.nf:=by kernel_rfl
@[simp] theorem qsize_133:qsize Tryz.prog 133 = some 1:=by kernel_rfl
@[simp] theorem qagg_133:qagg Tryz.prog 133 = some false:=by kernel_rfl
@[simp] theorem qptr_133:qptr Tryz.prog 133 = true:=by kernel_rfl
@[simp] theorem psn_133 (q:Nat × Nat × Nat):aeq Tryz.prog 133 (.p (some q)) (.p none) = some false:=aeq_psn qptr_133
@[simp] theorem qsize_135:qsize Tryz.prog 135 = some 1:=by kernel_rfl
@[simp] theorem qagg_135:qagg Tryz.prog 135 = some false:=by kernel_rfl
@[simp] theorem qsrc_135:qsrc Tryz.prog 135 = true:=by kernel_rfl
@[simp] theorem qbs_135:qbs Tryz.prog 135 = true:=by kernel_rfl
@[simp] theorem qelem_135:qelem Tryz.prog 135 = some 5:=by kernel_rfl
@[simp] theorem qsize_145:qsize Tryz.prog 145 = some 2:=by kernel_rfl
@[simp] theorem qagg_145:qagg Tryz.prog 145 = some true:=by kernel_rfl
@[simp] theorem qzero_145:qzero Tryz.prog 145 = some (V.agg [V.s [],V.i Go.IntKind.i64 (0)]):=by kernel_rfl
@[simp] theorem qplaces_145:qplaces Tryz.prog 145 = some [(0,1),(1,1)]:=by kernel_rfl
@[simp] theorem qelem_152:qelem Tryz.prog 152 = some 127:=by kernel_rfl
@[simp] theorem qzero_161:qzero Tryz.prog 161 = some (V.agg [V.sl none 0 false,V.i Go.IntKind.i64 (0)]):=by kernel_rfl
@[simp] theorem qplaces_161:qplaces Tryz.prog 161 = some [(0,1),(1,1)]:=by kernel_rfl
@[simp] theorem qsize_171:qsize Tryz.prog 171 = some 3:=by kernel_rfl
@[simp] theorem qagg_171:qagg Tryz.prog 171 = some true:=by kernel_rfl
@[simp] theorem qzero_171:qzero Tryz.prog 171 = some (V.agg [V.i Go.IntKind.i32 (0),V.i Go.IntKind.i32 (0),V.i Go.IntKind.i32 (0)]):=by kernel_rfl
@[simp] theorem qplaces_171:qplaces Tryz.prog 171 = some [(0,1),(1,1),(2,1)]:=by kernel_rfl
@[simp] theorem qarr_172:qarr Tryz.prog 172 = some (6,171):=by kernel_rfl
@[simp] theorem qzero_175:qzero Tryz.prog 175 = some   (V.agg     [V.i Go.IntKind.i64 (0),V.i Go.IntKind.i64 (0),V.i Go.IntKind.i64 (0),       V.i Go.IntKind.i64 (0)]):=by kernel_rfl
@[simp] theorem qarr_175:qarr Tryz.prog 175 = some (4,2):=by kernel_rfl
@[simp] theorem qint_199:qint Tryz.prog 199 = some Go.IntKind.u64:=by kernel_rfl
@[simp] theorem qthere_199:qthere Tryz.prog 199 = true:=by kernel_rfl
@[simp] theorem qfield_24_0:qfield Tryz.prog 24 0 = some (0,1,false):=by kernel_rfl
@[simp] theorem qfield_24_1:qfield Tryz.prog 24 1 = some (1,1,false):=by kernel_rfl
@[simp] theorem qfield_24_2:qfield Tryz.prog 24 2 = some (2,1,false):=by kernel_rfl
@[simp] theorem qfield_24_3:qfield Tryz.prog 24 3 = some (3,1,false):=by kernel_rfl
@[simp] theorem qfield_24_4:qfield Tryz.prog 24 4 = some (4,1,false):=by kernel_rfl
@[simp] theorem qfield_24_5:qfield Tryz.prog 24 5 = some (5,1,false):=by kernel_rfl
@[simp] theorem qfield_24_6:qfield Tryz.prog 24 6 = some (6,1,false):=by kernel_rfl
@[simp] theorem qfield_24_7:qfield Tryz.prog 24 7 = some (7,1,false):=by kernel_rfl
@[simp] theorem qfield_28_0:qfield Tryz.prog 28 0 = some (0,1,false):=by kernel_rfl
@[simp] theorem qfield_28_1:qfield Tryz.prog 28 1 = some (1,1,false):=by kernel_rfl
@[simp] theorem qfield_28_2:qfield Tryz.prog 28 2 = some (2,1,false):=by kernel_rfl
@[simp] theorem qfield_28_3:qfield Tryz.prog 28 3 = some (3,1,false):=by kernel_rfl
@[simp] theorem qfield_28_4:qfield Tryz.prog 28 4 = some (4,8,true):=by kernel_rfl
@[simp] theorem qfield_28_5:qfield Tryz.prog 28 5 = some (12,1,false):=by kernel_rfl
@[simp] theorem qfield_28_6:qfield Tryz.prog 28 6 = some (13,1,false):=by kernel_rfl
@[simp] theorem qfield_42_0:qfield Tryz.prog 42 0 = some (0,1,false):=by kernel_rfl
@[simp] theorem qfield_42_1:qfield Tryz.prog 42 1 = some (1,1,false):=by kernel_rfl
@[simp] theorem qfield_42_2:qfield Tryz.prog 42 2 = some (2,1,false):=by kernel_rfl
@[simp] theorem qfield_42_3:qfield Tryz.prog 42 3 = some (3,1,false):=by kernel_rfl
@[simp] theorem qfield_42_4:qfield Tryz.prog 42 4 = some (4,1,false):=by kernel_rfl
@[simp] theorem qfield_42_5:qfield Tryz.prog 42 5 = some (5,8,true):=by kernel_rfl
@[simp] theorem qfield_42_6:qfield Tryz.prog 42 6 = some (13,8,true):=by kernel_rfl
@[simp] theorem qfield_42_7:qfield Tryz.prog 42 7 = some (21,1,false):=by kernel_rfl
@[simp] theorem qfield_42_8:qfield Tryz.prog 42 8 = some (22,1,false):=by kernel_rfl
@[simp] theorem qfield_42_9:qfield Tryz.prog 42 9 = some (23,1,false):=by kernel_rfl
@[simp] theorem qfield_42_10:qfield Tryz.prog 42 10 = some (24,4,true):=by kernel_rfl
@[simp] theorem qfield_42_11:qfield Tryz.prog 42 11 = some (28,1,false):=by kernel_rfl
@[simp] theorem qfield_42_12:qfield Tryz.prog 42 12 = some (29,1,false):=by kernel_rfl
@[simp] theorem qfield_42_13:qfield Tryz.prog 42 13 = some (30,1,false):=by kernel_rfl
@[simp] theorem qfield_42_14:qfield Tryz.prog 42 14 = some (31,1,false):=by kernel_rfl
@[simp] theorem qfield_45_0:qfield Tryz.prog 45 0 = some (0,1,false):=by kernel_rfl
@[simp] theorem qfield_45_1:qfield Tryz.prog 45 1 = some (1,1,false):=by kernel_rfl
@[simp] theorem qfield_45_2:qfield Tryz.prog 45 2 = some (2,1,false):=by kernel_rfl
@[simp] theorem qfield_45_3:qfield Tryz.prog 45 3 = some (3,1,false):=by kernel_rfl
@[simp] theorem qfield_45_4:qfield Tryz.prog 45 4 = some (4,1,false):=by kernel_rfl
@[simp] theorem qfield_45_5:qfield Tryz.prog 45 5 = some (5,8,true):=by kernel_rfl
@[simp] theorem qfield_45_6:qfield Tryz.prog 45 6 = some (13,8,true):=by kernel_rfl
@[simp] theorem qfield_45_7:qfield Tryz.prog 45 7 = some (21,80,true):=by kernel_rfl
@[simp] theorem qfield_45_8:qfield Tryz.prog 45 8 = some (101,80,true):=by kernel_rfl
@[simp] theorem qfield_45_9:qfield Tryz.prog 45 9 = some (181,1,false):=by kernel_rfl
@[simp] theorem qfield_45_10:qfield Tryz.prog 45 10 = some (182,4,true):=by kernel_rfl
@[simp] theorem qfield_45_11:qfield Tryz.prog 45 11 = some (186,1,false):=by kernel_rfl
@[simp] theorem qfield_45_12:qfield Tryz.prog 45 12 = some (187,1,false):=by kernel_rfl
@[simp] theorem qfield_45_13:qfield Tryz.prog 45 13 = some (188,1,false):=by kernel_rfl
@[simp] theorem qfield_45_14:qfield Tryz.prog 45 14 = some (189,1,false):=by kernel_rfl
@[simp] theorem qfield_49_0:qfield Tryz.prog 49 0 = some (0,1,false):=by kernel_rfl
@[simp] theorem qfield_49_1:qfield Tryz.prog 49 1 = some (1,8,true):=by kernel_rfl
@[simp] theorem qfield_49_2:qfield Tryz.prog 49 2 = some (9,8,true):=by kernel_rfl
@[simp] theorem qfield_49_3:qfield Tryz.prog 49 3 = some (17,1,false):=by kernel_rfl
@[simp] theorem qfield_49_4:qfield Tryz.prog 49 4 = some (18,1,false):=by kernel_rfl
@[simp] theorem qfield_49_5:qfield Tryz.prog 49 5 = some (19,1,false):=by kernel_rfl
@[simp] theorem qfield_49_6:qfield Tryz.prog 49 6 = some (20,1,false):=by kernel_rfl
@[simp] theorem qfield_49_7:qfield Tryz.prog 49 7 = some (21,1,false):=by kernel_rfl
@[simp] theorem qfield_52_0:qfield Tryz.prog 52 0 = some (0,1,false):=by kernel_rfl
@[simp] theorem qfield_52_1:qfield Tryz.prog 52 1 = some (1,8,true):=by kernel_rfl
@[simp] theorem qfield_52_2:qfield Tryz.prog 52 2 = some (9,8,true):=by kernel_rfl
@[simp] theorem qfield_52_3:qfield Tryz.prog 52 3 = some (17,1,false):=by kernel_rfl
@[simp] theorem qfield_52_4:qfield Tryz.prog 52 4 = some (18,1,false):=by kernel_rfl
@[simp] theorem qfield_52_5:qfield Tryz.prog 52 5 = some (19,1,false):=by kernel_rfl
@[simp] theorem qfield_52_6:qfield Tryz.prog 52 6 = some (20,1,false):=by kernel_rfl
@[simp] theorem qfield_52_7:qfield Tryz.prog 52 7 = some (21,1,false):=by kernel_rfl
@[simp] theorem qfield_60_0:qfield Tryz.prog 60 0 = some (0,1,false):=by kernel_rfl
@[simp] theorem qfield_60_2:qfield Tryz.prog 60 2 = some (2,1,false):=by kernel_rfl
@[simp] theorem qfield_60_3:qfield Tryz.prog 60 3 = some (3,1,false):=by kernel_rfl
@[simp] theorem qfield_60_5:qfield Tryz.prog 60 5 = some (12,1,false):=by kernel_rfl
@[simp] theorem qfield_68_0:qfield Tryz.prog 68 0 = some (0,1,false):=by kernel_rfl
@[simp] theorem qfield_68_1:qfield Tryz.prog 68 1 = some (1,1,false):=by kernel_rfl
@[simp] theorem qfield_68_2:qfield Tryz.prog 68 2 = some (2,8,true):=by kernel_rfl
@[simp] theorem qfield_75_0:qfield Tryz.prog 75 0 = some (0,1,false):=by kernel_rfl
@[simp] theorem qfield_75_1:qfield Tryz.prog 75 1 = some (1,1,false):=by kernel_rfl
@[simp] theorem qfield_75_2:qfield Tryz.prog 75 2 = some (2,1,false):=by kernel_rfl
@[simp] theorem qfield_75_3:qfield Tryz.prog 75 3 = some (3,1,false):=by kernel_rfl
@[simp] theorem qfield_75_4:qfield Tryz.prog 75 4 = some (4,1,false):=by kernel_rfl
@[simp] theorem qfield_75_5:qfield Tryz.prog 75 5 = some (5,1,false):=by kernel_rfl
@[simp] theorem qfield_75_6:qfield Tryz.prog 75 6 = some (6,1,false):=by kernel_rfl
@[simp] theorem qfield_145_0:qfield Tryz.prog 145 0 = some (0,1,false):=by kernel_rfl
@[simp] theorem qfield_145_1:qfield Tryz.prog 145 1 = some (1,1,false):=by kernel_rfl
@[simp] theorem qfield_161_0:qfield Tryz.prog 161 0 = some (0,1,false):=by kernel_rfl
@[simp] theorem qfield_161_1:qfield Tryz.prog 161 1 = some (1,1,false):=by kernel_rfl
@[simp] theorem qfield_171_0:qfield Tryz.prog 171 0 = some (0,1,false):=by kernel_rfl
@[simp] theorem qfield_171_1:qfield Tryz.prog 171 1 = some (1,1,false):=by kernel_rfl
@[simp] theorem qfield_171_2:qfield Tryz.prog 171 2 = some (2,1,false):=by kernel_rfl
/-- 31 operations, 32 nodes, looks at memory: true -/
def pl_5_8:Plan:=.take 0 (.take 1 (.take 2 (.take 3 (.take 4 (.take 5 (.take 6 (.take 7 (.take 8 (.take 9 (.take 10 (.take 11 (.take 13 (.take 14 (.take 15 (.alt 12 true (.alt 16 true (.take 17 (.take 18 (.take 19 (.take 20 (.take 21 (.take 22 (.take 24 (.take 25 (.take 26 (.alt 23 true (.alt 27 true (.take 28 (.take 29 (.take 30 (.done)))) (.stop)) (.stop))))))))))) (.stop)) (.stop))))))))))))))))
def pe_5_8:Bool:=true
/-- 10 operations, 11 nodes, looks at memory: true -/
def pl_6_23:Plan:=.take 0 (.take 1 (.take 2 (.take 3 (.take 4 (.take 5 (.take 6 (.take 7 (.alt 8 true (.take 9 (.done)) (.stop)))))))))
def pe_6_23:Bool:=true
/-- 12 operations, 20 nodes, looks at memory: true -/
def pl_12_6:Plan:=.take 0 (.take 1 (.take 2 (.take 3 (.take 4 (.alt 5 false (.take 6 (.take 7 (.take 8 (.alt 9 true (.alt 10 false (.take 11 (.done)) (.stop)) (.stop))))) (.alt 9 true (.alt 5 false (.take 6 (.take 7 (.take 8 (.alt 10 false (.take 11 (.done)) (.stop))))) (.stop)) (.stop)))))))
def pe_12_6:Bool:=true
/-- 12 operations, 20 nodes, looks at memory: true -/
def pl_12_7:Plan:=.take 0 (.take 1 (.take 2 (.take 3 (.take 4 (.alt 5 false (.take 6 (.take 7 (.take 8 (.alt 9 true (.alt 10 false (.take 11 (.done)) (.stop)) (.stop))))) (.alt 9 true (.alt 5 false (.take 6 (.take 7 (.take 8 (.alt 10 false (.take 11 (.done)) (.stop))))) (.stop)) (.stop)))))))
def pe_12_7:Bool:=true
/-- 4 operations, 5 nodes, looks at memory: true -/
def pl_12_9:Plan:=.take 0 (.take 1 (.alt 2 true (.alt 3 false (.done) (.stop)) (.stop)))
def pe_12_9:Bool:=true
/-- 4 operations, 5 nodes, looks at memory: true -/
def pl_12_10:Plan:=.take 0 (.take 1 (.alt 2 true (.alt 3 false (.done) (.stop)) (.stop)))
def pe_12_10:Bool:=true
/-- 9 operations, 14 nodes, looks at memory: true -/
def pl_13_6:Plan:=.take 0 (.take 1 (.take 2 (.take 4 (.take 5 (.alt 3 true (.take 6 (.alt 7 true (.alt 8 false (.done) (.stop)) (.stop))) (.alt 7 true (.alt 3 true (.take 6 (.alt 8 false (.done) (.stop))) (.stop)) (.stop)))))))
def pe_13_6:Bool:=true
/-- 9 operations, 14 nodes, looks at memory: true -/
def pl_14_6:Plan:=.take 0 (.take 1 (.take 2 (.take 4 (.take 5 (.alt 3 true (.take 6 (.alt 7 true (.alt 8 false (.done) (.stop)) (.stop))) (.alt 7 true (.alt 3 true (.take 6 (.alt 8 false (.done) (.stop))) (.stop)) (.stop)))))))
def pe_14_6:Bool:=true
/-- 10 operations, 11 nodes, looks at memory: true -/
def pl_15_3:Plan:=.take 0 (.take 1 (.take 2 (.take 4 (.take 5 (.alt 3 true (.alt 6 false (.alt 7 true (.take 8 (.take 9 (.done))) (.stop)) (.stop)) (.stop))))))
def pe_15_3:Bool:=true
/-- 8 operations, 9 nodes, looks at memory: true -/
def pl_16_7:Plan:=.take 0 (.take 1 (.take 2 (.take 3 (.take 4 (.take 5 (.take 6 (.take 7 (.done))))))))
def pe_16_7:Bool:=true
/-- 10 operations, 11 nodes, looks at memory: true -/
def pl_17_4:Plan:=.take 0 (.take 1 (.take 2 (.take 3 (.take 4 (.alt 5 true (.take 6 (.alt 7 true (.take 8 (.alt 9 false (.done) (.stop))) (.stop))) (.stop))))))
def pe_17_4:Bool:=true
/-- 11 operations, 21 nodes, looks at memory: true -/
def pl_18_1:Plan:=.take 0 (.take 1 (.take 2 (.take 3 (.take 4 (.take 5 (.alt 6 true (.alt 7 true (.take 8 (.alt 9 true (.alt 10 false (.done) (.stop)) (.stop))) (.alt 9 true (.alt 7 true (.take 8 (.alt 10 false (.done) (.stop))) (.stop)) (.stop))) (.alt 9 true (.alt 6 true (.alt 7 true (.take 8 (.alt 10 false (.done) (.stop))) (.stop)) (.stop)) (.stop))))))))
def pe_18_1:Bool:=true
/-- 15 operations, 16 nodes, looks at memory: true -/
def pl_19_7:Plan:=.take 0 (.take 1 (.take 3 (.take 4 (.take 6 (.take 7 (.alt 2 true (.alt 5 true (.alt 8 true (.take 9 (.alt 10 false (.take 11 (.alt 12 false (.take 13 (.alt 14 false (.done) (.stop))) (.stop))) (.stop))) (.stop)) (.stop)) (.stop)))))))
def pe_19_7:Bool:=true
/-- 17 operations, 18 nodes, looks at memory: true -/
def pl_19_11:Plan:=.take 0 (.take 1 (.take 2 (.take 3 (.take 4 (.take 5 (.take 6 (.take 7 (.take 8 (.take 9 (.alt 10 true (.take 11 (.alt 12 false (.take 13 (.alt 14 false (.take 15 (.alt 16 false (.done) (.stop))) (.stop))) (.stop))) (.stop)))))))))))
def pe_19_11:Bool:=true
/-- 8 operations, 9 nodes, looks at memory: true -/
def pl_19_19:Plan:=.take 0 (.take 1 (.take 2 (.take 3 (.alt 4 true (.alt 5 false (.take 6 (.alt 7 false (.done) (.stop))) (.stop)) (.stop)))))
def pe_19_19:Bool:=true
/-- 14 operations, 15 nodes, looks at memory: true -/
def pl_19_21:Plan:=.take 0 (.take 1 (.take 2 (.alt 3 true (.take 4 (.take 5 (.take 6 (.take 7 (.take 8 (.take 9 (.alt 10 true (.take 11 (.take 12 (.take 13 (.done)))) (.stop)))))))) (.stop))))
def pe_19_21:Bool:=true
/-- 8 operations, 61 nodes, looks at memory: true -/
def pl_20_1:Plan:=.take 0 (.take 2 (.alt 1 true (.alt 3 false (.alt 4 true (.alt 5 true (.alt 6 false (.alt 7 false (.done) (.stop)) (.stop)) (.stop)) (.alt 5 true (.alt 4 true (.alt 6 false (.alt 7 false (.done) (.stop)) (.stop)) (.stop)) (.stop))) (.alt 4 true (.alt 3 false (.alt 5 true (.alt 6 false (.alt 7 false (.done) (.stop)) (.stop)) (.stop)) (.alt 5 true (.alt 3 false (.alt 6 false (.alt 7 false (.done) (.stop)) (.stop)) (.stop)) (.stop))) (.alt 5 true (.alt 3 false (.alt 4 true (.alt 6 false (.alt 7 false (.done) (.stop)) (.stop)) (.stop)) (.alt 4 true (.alt 3 false (.alt 6 false (.alt 7 false (.done) (.stop)) (.stop)) (.stop)) (.stop))) (.stop)))) (.alt 4 true (.alt 1 true (.alt 3 false (.alt 5 true (.alt 6 false (.alt 7 false (.done) (.stop)) (.stop)) (.stop)) (.alt 5 true (.alt 3 false (.alt 6 false (.alt 7 false (.done) (.stop)) (.stop)) (.stop)) (.stop))) (.alt 5 true (.alt 1 true (.alt 3 false (.alt 6 false (.alt 7 false (.done) (.stop)) (.stop)) (.stop)) (.stop)) (.stop))) (.alt 5 true (.alt 1 true (.alt 3 false (.alt 4 true (.alt 6 false (.alt 7 false (.done) (.stop)) (.stop)) (.stop)) (.alt 4 true (.alt 3 false (.alt 6 false (.alt 7 false (.done) (.stop)) (.stop)) (.stop)) (.stop))) (.alt 4 true (.alt 1 true (.alt 3 false (.alt 6 false (.alt 7 false (.done) (.stop)) (.stop)) (.stop)) (.stop)) (.stop))) (.stop)))))
def pe_20_1:Bool:=true
/-- 4 operations, 5 nodes, looks at memory: true -/
def pl_20_2:Plan:=.take 0 (.take 1 (.alt 2 false (.take 3 (.done)) (.stop)))
def pe_20_2:Bool:=true
/-- 14 operations, 15 nodes, looks at memory: true -/
def pl_22_4:Plan:=.take 0 (.take 1 (.take 2 (.take 3 (.take 4 (.take 6 (.take 7 (.alt 5 true (.take 8 (.alt 9 false (.take 10 (.take 11 (.alt 12 false (.take 13 (.done)) (.stop)))) (.stop))) (.stop))))))))
def pe_22_4:Bool:=true
/-- 15 operations, 16 nodes, looks at memory: true -/
def pl_30_2:Plan:=.take 0 (.take 1 (.take 2 (.take 3 (.take 4 (.take 5 (.take 6 (.take 7 (.take 8 (.take 9 (.take 10 (.take 11 (.take 12 (.take 13 (.take 14 (.done)))))))))))))))
def pe_30_2:Bool:=true
/-- 7 operations, 8 nodes, looks at memory: true -/
def pl_30_5:Plan:=.take 0 (.take 1 (.take 2 (.take 3 (.take 4 (.alt 5 false (.take 6 (.done)) (.stop))))))
def pe_30_5:Bool:=true
/-- 42 operations, 43 nodes, looks at memory: true -/
def pl_30_6:Plan:=.take 0 (.alt 1 true (.take 2 (.take 3 (.take 4 (.take 5 (.take 6 (.take 7 (.take 8 (.take 9 (.alt 10 true (.take 11 (.take 12 (.take 13 (.take 14 (.take 15 (.take 16 (.take 17 (.take 18 (.take 19 (.take 20 (.take 21 (.take 22 (.take 23 (.take 24 (.take 25 (.take 26 (.take 27 (.take 28 (.take 29 (.take 30 (.take 31 (.take 32 (.take 33 (.take 34 (.take 35 (.take 36 (.take 37 (.take 38 (.take 39 (.take 40 (.take 41 (.done)))))))))))))))))))))))))))))))) (.stop)))))))))) (.stop))
def pe_30_6:Bool:=true
/-- 30 operations, 31 nodes, looks at memory: true -/
def pl_31_6:Plan:=.take 0 (.alt 1 true (.take 2 (.take 3 (.take 4 (.take 5 (.take 6 (.take 7 (.take 8 (.take 9 (.take 10 (.take 11 (.take 12 (.take 13 (.take 14 (.take 15 (.take 16 (.take 17 (.take 18 (.take 19 (.take 20 (.take 21 (.take 22 (.take 23 (.take 24 (.take 25 (.take 26 (.take 27 (.take 28 (.take 29 (.done))))))))))))))))))))))))))))) (.stop))
def pe_31_6:Bool:=true
/-- 9 operations, 10 nodes, looks at memory: true -/
def pl_35_35:Plan:=.take 0 (.take 1 (.take 2 (.take 3 (.take 4 (.take 5 (.take 6 (.take 7 (.take 8 (.done)))))))))
def pe_35_35:Bool:=true
/-- 33 operations, 34 nodes, looks at memory: true -/
def pl_35_40:Plan:=.take 0 (.take 1 (.take 2 (.take 3 (.take 4 (.take 5 (.take 6 (.take 7 (.take 8 (.take 9 (.take 10 (.take 11 (.take 12 (.take 13 (.take 14 (.take 15 (.take 16 (.take 17 (.take 18 (.take 19 (.take 20 (.take 21 (.take 22 (.take 23 (.take 24 (.take 25 (.take 26 (.take 27 (.take 28 (.take 29 (.take 30 (.take 31 (.take 32 (.done)))))))))))))))))))))))))))))))))
def pe_35_40:Bool:=true
/-- 23 operations, 35 nodes, looks at memory: true -/
def pl_35_55:Plan:=.take 0 (.take 1 (.take 2 (.take 3 (.take 4 (.take 5 (.take 6 (.take 8 (.take 9 (.take 11 (.take 12 (.take 15 (.take 16 (.take 17 (.take 18 (.take 19 (.take 20 (.alt 7 true (.alt 10 true (.alt 13 true (.alt 14 true (.take 21 (.alt 22 false (.done) (.stop))) (.stop)) (.stop)) (.alt 13 true (.alt 10 true (.alt 14 true (.take 21 (.alt 22 false (.done) (.stop))) (.stop)) (.stop)) (.stop))) (.alt 13 true (.alt 7 true (.alt 10 true (.alt 14 true (.take 21 (.alt 22 false (.done) (.stop))) (.stop)) (.stop)) (.stop)) (.stop)))))))))))))))))))
def pe_35_55:Bool:=true
/-- 8 operations, 9 nodes, looks at memory: true -/
def pl_35_79:Plan:=.take 0 (.take 1 (.take 2 (.take 3 (.take 4 (.take 5 (.take 6 (.take 7 (.done))))))))
def pe_35_79:Bool:=true
/-- 10 operations, 22 nodes, looks at memory: true -/
def pl_35_81:Plan:=.take 1 (.take 2 (.take 4 (.take 5 (.alt 0 true (.alt 3 true (.alt 6 true (.alt 7 false (.take 8 (.alt 9 false (.done) (.stop))) (.stop)) (.stop)) (.alt 6 true (.alt 3 true (.alt 7 false (.take 8 (.alt 9 false (.done) (.stop))) (.stop)) (.stop)) (.stop))) (.alt 6 true (.alt 0 true (.alt 3 true (.alt 7 false (.take 8 (.alt 9 false (.done) (.stop))) (.stop)) (.stop)) (.stop)) (.stop))))))
def pe_35_81:Bool:=true
/-- 38 operations, 39 nodes, looks at memory: true -/
def pl_36_24:Plan:=.take 0 (.take 1 (.take 2 (.take 3 (.take 4 (.alt 5 true (.take 6 (.take 7 (.take 8 (.take 9 (.take 10 (.take 11 (.take 12 (.take 13 (.take 14 (.take 15 (.take 16 (.take 17 (.take 18 (.take 19 (.take 20 (.take 21 (.take 22 (.take 23 (.take 24 (.take 25 (.take 26 (.take 27 (.take 28 (.take 29 (.take 30 (.take 31 (.take 32 (.take 33 (.take 34 (.take 35 (.take 36 (.take 37 (.done))))))))))))))))))))))))))))))))) (.stop))))))
def pe_36_24:Bool:=true
/-- 14 operations, 15 nodes, looks at memory: true -/
def pl_41_1:Plan:=.take 0 (.take 1 (.take 2 (.take 3 (.take 4 (.take 5 (.take 6 (.take 7 (.take 8 (.take 9 (.take 10 (.alt 11 true (.take 12 (.take 13 (.done))) (.stop))))))))))))
def pe_41_1:Bool:=true
/-- 26 operations, 77 nodes, looks at memory: true -/
def pl_50_1:Plan:=.take 0 (.take 1 (.take 2 (.take 3 (.take 4 (.take 5 (.take 6 (.take 7 (.take 8 (.take 10 (.take 11 (.take 12 (.take 13 (.take 16 (.take 17 (.take 18 (.take 19 (.take 20 (.take 21 (.alt 9 true (.alt 14 true (.alt 15 true (.alt 22 true (.take 23 (.alt 24 true (.alt 25 false (.done) (.stop)) (.stop))) (.alt 24 true (.alt 22 true (.take 23 (.alt 25 false (.done) (.stop))) (.stop)) (.stop))) (.alt 24 true (.alt 15 true (.alt 22 true (.take 23 (.alt 25 false (.done) (.stop))) (.stop)) (.stop)) (.stop))) (.alt 24 true (.alt 14 true (.alt 15 true (.alt 22 true (.take 23 (.alt 25 false (.done) (.stop))) (.stop)) (.stop)) (.stop)) (.stop))) (.alt 14 true (.alt 9 true (.alt 15 true (.alt 22 true (.take 23 (.alt 24 true (.alt 25 false (.done) (.stop)) (.stop))) (.alt 24 true (.alt 22 true (.take 23 (.alt 25 false (.done) (.stop))) (.stop)) (.stop))) (.alt 24 true (.alt 15 true (.alt 22 true (.take 23 (.alt 25 false (.done) (.stop))) (.stop)) (.stop)) (.stop))) (.alt 24 true (.alt 9 true (.alt 15 true (.alt 22 true (.take 23 (.alt 25 false (.done) (.stop))) (.stop)) (.stop)) (.stop)) (.stop))) (.alt 24 true (.alt 9 true (.alt 14 true (.alt 15 true (.alt 22 true (.take 23 (.alt 25 false (.done) (.stop))) (.stop)) (.stop)) (.stop)) (.alt 14 true (.alt 9 true (.alt 15 true (.alt 22 true (.take 23 (.alt 25 false (.done) (.stop))) (.stop)) (.stop)) (.stop)) (.stop))) (.stop))))))))))))))))))))))
def pe_50_1:Bool:=true
/-- 8 operations, 12 nodes, looks at memory: true -/
def pl_50_2:Plan:=.take 0 (.take 1 (.take 2 (.take 3 (.take 4 (.alt 5 false (.alt 6 true (.alt 7 false (.done) (.stop)) (.stop)) (.alt 6 true (.alt 5 false (.alt 7 false (.done) (.stop)) (.stop)) (.stop)))))))
def pe_50_2:Bool:=true
/-- 10 operations, 11 nodes, looks at memory: true -/
def pl_54_1:Plan:=.take 0 (.take 1 (.take 3 (.take 4 (.alt 2 true (.take 6 (.alt 5 false (.alt 7 false (.take 8 (.alt 9 false (.done) (.stop))) (.stop)) (.stop))) (.stop)))))
def pe_54_1:Bool:=true
/-- 8 operations, 9 nodes, looks at memory: true -/
def pl_77_5:Plan:=.take 0 (.take 1 (.take 2 (.take 3 (.take 4 (.alt 5 true (.take 6 (.alt 7 false (.done) (.stop))) (.stop))))))
def pe_77_5:Bool:=true
/-- 8 operations, 9 nodes, looks at memory: true -/
def pl_77_9:Plan:=.take 0 (.take 1 (.take 2 (.take 3 (.take 4 (.alt 5 true (.take 6 (.alt 7 false (.done) (.stop))) (.stop))))))
def pe_77_9:Bool:=true
/-- 8 operations, 9 nodes, looks at memory: true -/
def pl_77_11:Plan:=.take 0 (.take 1 (.take 2 (.take 3 (.take 4 (.alt 5 true (.take 6 (.alt 7 false (.done) (.stop))) (.stop))))))
def pe_77_11:Bool:=true
/-- 8 operations, 9 nodes, looks at memory: true -/
def pl_81_1:Plan:=.take 0 (.take 1 (.take 2 (.take 3 (.take 4 (.take 5 (.take 6 (.take 7 (.done))))))))
def pe_81_1:Bool:=true
/-- 12 operations, 13 nodes, looks at memory: true -/
def pl_82_1:Plan:=.take 0 (.take 1 (.take 2 (.take 3 (.take 4 (.take 5 (.take 6 (.take 7 (.take 8 (.take 9 (.take 10 (.take 11 (.done))))))))))))
def pe_82_1:Bool:=true
/-- 26 operations, 27 nodes, looks at memory: true -/
def pl_84_1:Plan:=.take 0 (.take 1 (.take 2 (.take 3 (.take 4 (.take 5 (.take 6 (.take 7 (.take 8 (.take 9 (.take 10 (.take 11 (.take 12 (.take 13 (.take 14 (.take 15 (.take 16 (.take 17 (.take 18 (.take 19 (.take 20 (.take 21 (.take 22 (.take 23 (.take 24 (.take 25 (.done))))))))))))))))))))))))))
def pe_84_1:Bool:=true
/-- 12 operations, 13 nodes, looks at memory: true -/
def pl_85_1:Plan:=.take 0 (.take 1 (.take 2 (.take 3 (.take 4 (.take 5 (.take 6 (.take 7 (.alt 8 true (.take 9 (.take 10 (.take 11 (.done)))) (.stop)))))))))
def pe_85_1:Bool:=true
/-- 18 operations, 19 nodes, looks at memory: true -/
def pl_87_1:Plan:=.take 0 (.take 1 (.take 2 (.take 3 (.take 4 (.take 5 (.take 6 (.take 7 (.take 8 (.take 9 (.take 10 (.take 11 (.take 12 (.alt 13 true (.take 14 (.take 15 (.take 16 (.take 17 (.done))))) (.stop))))))))))))))
def pe_87_1:Bool:=true
/-- 12 operations, 13 nodes, looks at memory: true -/
def pl_88_1:Plan:=.take 0 (.take 1 (.take 2 (.take 3 (.take 4 (.take 5 (.take 6 (.take 7 (.alt 8 true (.take 9 (.take 10 (.take 11 (.done)))) (.stop)))))))))
def pe_88_1:Bool:=true
/-- 11 operations, 12 nodes, looks at memory: true -/
def pl_90_1:Plan:=.take 0 (.take 1 (.take 2 (.take 3 (.take 4 (.take 5 (.take 6 (.take 7 (.take 8 (.take 9 (.take 10 (.done)))))))))))
def pe_90_1:Bool:=true
/-- 11 operations, 12 nodes, looks at memory: true -/
def pl_91_1:Plan:=.take 0 (.take 1 (.take 2 (.take 3 (.take 4 (.take 5 (.take 6 (.take 7 (.take 8 (.take 9 (.take 10 (.done)))))))))))
def pe_91_1:Bool:=true
/-- 12 operations, 13 nodes, looks at memory: true -/
def pl_92_1:Plan:=.take 0 (.take 1 (.take 2 (.take 3 (.take 4 (.take 5 (.take 6 (.take 7 (.alt 8 true (.take 9 (.take 10 (.take 11 (.done)))) (.stop)))))))))
def pe_92_1:Bool:=true
/-- 14 operations, 22 nodes, looks at memory: true -/
def pl_94_2:Plan:=.take 0 (.take 1 (.take 2 (.take 3 (.take 4 (.take 5 (.take 6 (.alt 7 true (.take 8 (.take 9 (.take 10 (.alt 11 true (.alt 12 false (.take 13 (.done)) (.stop)) (.stop))))) (.alt 11 true (.alt 7 true (.take 8 (.take 9 (.take 10 (.alt 12 false (.take 13 (.done)) (.stop))))) (.stop)) (.stop)))))))))
def pe_94_2:Bool:=true
/-- 8 operations, 9 nodes, looks at memory: true -/
def pl_94_4:Plan:=.take 0 (.take 1 (.take 2 (.take 3 (.take 4 (.take 5 (.take 6 (.take 7 (.done))))))))
def pe_94_4:Bool:=true
/-- 9 operations, 10 nodes, looks at memory: true -/
def pl_96_11:Plan:=.take 0 (.take 1 (.take 2 (.take 3 (.take 4 (.take 5 (.take 6 (.take 7 (.alt 8 false (.done) (.stop)))))))))
def pe_96_11:Bool:=true
/-- 9 operations, 10 nodes, looks at memory: true -/
def pl_96_15:Plan:=.take 0 (.take 1 (.take 2 (.take 3 (.take 4 (.take 5 (.take 6 (.take 7 (.alt 8 false (.done) (.stop)))))))))
def pe_96_15:Bool:=true
/-- 16 operations, 17 nodes, looks at memory: true -/
def pl_98_2:Plan:=.take 0 (.take 2 (.take 4 (.take 6 (.alt 1 true (.take 8 (.alt 3 true (.alt 5 true (.alt 7 true (.alt 9 true (.take 10 (.alt 11 true (.take 12 (.alt 13 true (.take 14 (.alt 15 false (.done) (.stop))) (.stop))) (.stop))) (.stop)) (.stop)) (.stop)) (.stop))) (.stop)))))
def pe_98_2:Bool:=true
/-- 4 operations, 5 nodes, looks at memory: true -/
def pl_110_31:Plan:=.take 0 (.take 1 (.alt 2 true (.alt 3 false (.done) (.stop)) (.stop)))
def pe_110_31:Bool:=true
/-- 4 operations, 5 nodes, looks at memory: true -/
def pl_110_35:Plan:=.take 0 (.take 1 (.alt 2 true (.alt 3 false (.done) (.stop)) (.stop)))
def pe_110_35:Bool:=true
/-- 8 operations, 9 nodes, looks at memory: true -/
def pl_127_1:Plan:=.take 0 (.take 2 (.take 3 (.take 4 (.alt 1 true (.alt 5 true (.take 6 (.alt 7 false (.done) (.stop))) (.stop)) (.stop)))))
def pe_127_1:Bool:=true
/-- 3 operations, 4 nodes, looks at memory: false -/
def pl_135_2:Plan:=.take 1 (.alt 0 false (.alt 2 false (.done) (.stop)) (.stop))
def pe_135_2:Bool:=false
/-- 9 operations, 10 nodes, looks at memory: false -/
def pl_135_17:Plan:=.take 0 (.take 1 (.take 3 (.take 4 (.take 7 (.alt 2 false (.alt 5 false (.take 6 (.alt 8 false (.done) (.stop))) (.stop)) (.stop))))))
def pe_135_17:Bool:=false
/-- 4 operations, 5 nodes, looks at memory: true -/
def pl_136_16:Plan:=.take 0 (.take 1 (.alt 2 true (.alt 3 false (.done) (.stop)) (.stop)))
def pe_136_16:Bool:=true
/-- 4 operations, 5 nodes, looks at memory: true -/
def pl_136_19:Plan:=.take 0 (.take 1 (.alt 2 true (.alt 3 false (.done) (.stop)) (.stop)))
def pe_136_19:Bool:=true
/-- 4 operations, 5 nodes, looks at memory: false -/
def pl_137_2:Plan:=.take 0 (.take 2 (.alt 1 false (.alt 3 false (.done) (.stop)) (.stop)))
def pe_137_2:Bool:=false
/-- 4 operations, 5 nodes, looks at memory: true -/
def pl_138_14:Plan:=.take 0 (.take 1 (.alt 2 true (.alt 3 false (.done) (.stop)) (.stop)))
def pe_138_14:Bool:=true
/-- 4 operations, 5 nodes, looks at memory: false -/
def pl_148_4:Plan:=.take 0 (.take 2 (.alt 1 false (.alt 3 false (.done) (.stop)) (.stop)))
def pe_148_4:Bool:=false
/-- 4 operations, 5 nodes, looks at memory: false -/
def pl_149_4:Plan:=.take 0 (.take 2 (.alt 1 false (.alt 3 false (.done) (.stop)) (.stop)))
def pe_149_4:Bool:=false
/-- 3 operations, 4 nodes, looks at memory: false -/
def pl_150_3:Plan:=.take 1 (.alt 0 false (.alt 2 false (.done) (.stop)) (.stop))
def pe_150_3:Bool:=false
/-- 11 operations, 12 nodes, looks at memory: true -/
def pl_150_6:Plan:=.take 0 (.take 1 (.take 2 (.take 3 (.take 4 (.take 5 (.take 6 (.take 7 (.take 8 (.take 9 (.alt 10 false (.done) (.stop)))))))))))
def pe_150_6:Bool:=true
/-- 16 operations, 17 nodes, looks at memory: true -/
def pl_152_3:Plan:=.take 0 (.take 1 (.take 2 (.take 3 (.take 4 (.take 5 (.take 6 (.take 7 (.take 8 (.take 9 (.take 10 (.take 11 (.take 12 (.alt 13 false (.take 14 (.alt 15 false (.done) (.stop))) (.stop))))))))))))))
def pe_152_3:Bool:=true
instance:Laid Tryz.prog:=⟨utf8Tabs 0 1⟩
def planTab:PlanTab:=[(5,[(8,pe_5_8,Mode.ext,pl_5_8)]),(6,[(23,pe_6_23,Mode.ext,pl_6_23)]),(8,[(1000000,false,Mode.ext,Plan.stop)]),(10,[(1000000,false,Mode.ext,Plan.stop)]),(12,[(6,pe_12_6,Mode.ext,pl_12_6),(7,pe_12_7,Mode.ext,pl_12_7),(9,pe_12_9,Mode.base,pl_12_9),(10,pe_12_10,Mode.base,pl_12_10)]),(13,[(6,pe_13_6,Mode.ext,pl_13_6),(1000000,false,Mode.ext,Plan.stop)]),(14,[(6,pe_14_6,Mode.ext,pl_14_6)]),(15,[(3,pe_15_3,Mode.ext,pl_15_3)]),(16,[(7,pe_16_7,Mode.ext,pl_16_7)]),(17,[(4,pe_17_4,Mode.base,pl_17_4)]),(18,[(1,pe_18_1,Mode.ext,pl_18_1)]),(19,[(7,pe_19_7,Mode.ext,pl_19_7),(11,pe_19_11,Mode.ext,pl_19_11),(19,pe_19_19,Mode.ext,pl_19_19),(21,pe_19_21,Mode.ext,pl_19_21)]),(20,[(1,pe_20_1,Mode.ext,pl_20_1),(2,pe_20_2,Mode.ext,pl_20_2),(1000000,false,Mode.ext,Plan.stop)]),(22,[(4,pe_22_4,Mode.ext,pl_22_4)]),(24,[(1000000,false,Mode.ext,Plan.stop)]),(30,[(2,pe_30_2,Mode.ext,pl_30_2),(5,pe_30_5,Mode.ext,pl_30_5),(6,pe_30_6,Mode.ext,pl_30_6)]),(31,[(6,pe_31_6,Mode.ext,pl_31_6)]),(35,[(35,pe_35_35,Mode.ext,pl_35_35),(40,pe_35_40,Mode.ext,pl_35_40),(55,pe_35_55,Mode.ext,pl_35_55),(79,pe_35_79,Mode.ext,pl_35_79),(81,pe_35_81,Mode.ext,pl_35_81)]),(36,[(24,pe_36_24,Mode.ext,pl_36_24)]),(41,[(1,pe_41_1,Mode.ext,pl_41_1),(1000000,false,Mode.ext,Plan.stop)]),(42,[(1000000,false,Mode.ext,Plan.stop)]),(50,[(1,pe_50_1,Mode.ext,pl_50_1),(2,pe_50_2,Mode.ext,pl_50_2)]),(54,[(1,pe_54_1,Mode.ext,pl_54_1)]),(77,[(5,pe_77_5,Mode.only [1],pl_77_5),(9,pe_77_9,Mode.only [1],pl_77_9),(11,pe_77_11,Mode.only [1],pl_77_11)]),(81,[(1,pe_81_1,Mode.ext,pl_81_1)]),(82,[(1,pe_82_1,Mode.ext,pl_82_1)]),(84,[(1,pe_84_1,Mode.ext,pl_84_1)]),(85,[(1,pe_85_1,Mode.ext,pl_85_1)]),(87,[(1,pe_87_1,Mode.ext,pl_87_1)]),(88,[(1,pe_88_1,Mode.ext,pl_88_1)]),(90,[(1,pe_90_1,Mode.ext,pl_90_1)]),(91,[(1,pe_91_1,Mode.ext,pl_91_1)]),(92,[(1,pe_92_1,Mode.ext,pl_92_1)]),(94,[(2,pe_94_2,Mode.ext,pl_94_2),(4,pe_94_4,Mode.ext,pl_94_4)]),(96,[(11,pe_96_11,Mode.ext,pl_96_11),(15,pe_96_15,Mode.ext,pl_96_15)]),(98,[(2,pe_98_2,Mode.only [1],pl_98_2)]),(110,[(31,pe_110_31,Mode.base,pl_110_31),(35,pe_110_35,Mode.base,pl_110_35)]),(127,[(1,pe_127_1,Mode.ext,pl_127_1)]),(135,[(2,pe_135_2,Mode.ext,pl_135_2),(17,pe_135_17,Mode.ext,pl_135_17)]),(136,[(16,pe_136_16,Mode.base,pl_136_16),(19,pe_136_19,Mode.base,pl_136_19)]),(137,[(2,pe_137_2,Mode.ext,pl_137_2)]),(138,[(14,pe_138_14,Mode.base,pl_138_14)]),(148,[(4,pe_148_4,Mode.ext,pl_148_4)]),(149,[(4,pe_149_4,Mode.ext,pl_149_4)]),(150,[(3,pe_150_3,Mode.ext,pl_150_3),(6,pe_150_6,Mode.ext,pl_150_6)]),(152,[(3,pe_152_3,Mode.ext,pl_152_3)])]
end Go.Proofs.YtaidfojbnfkclaaGreatDoor
