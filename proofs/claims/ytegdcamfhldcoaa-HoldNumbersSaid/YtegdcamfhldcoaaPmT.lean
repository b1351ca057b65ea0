import Derived.Test.YtegdcamfhldcoaaPmX
import Derived.Test.YtegdcamfhldcoaaProg
import Derived.KernelRfl
set_option linter.unusedVariables false
namespace Go.Proofs
open Go.PM
@[go_sem] theorem Try.td2 : td Try.prog 2 = TD.int Go.IntKind.i64 := by kernel_rfl
@[go_sem] theorem Try.cz2 : Try.prog.cellsOf 2 = 1 := by kernel_rfl
@[go_sem] theorem Try.by2 : Try.prog.bytesOf 2 = 8 := by kernel_rfl
@[go_sem] theorem Try.ag2 : aggO Try.prog 2 = some false := by kernel_rfl
@[go_sem] theorem Try.zp2 : zpv Try.prog 2 = some (PV.int Go.IntKind.i64 (0)) := by kernel_rfl
@[go_sem] theorem Try.td3 : td Try.prog 3 = TD.int Go.IntKind.i64 := by kernel_rfl
@[go_sem] theorem Try.cz3 : Try.prog.cellsOf 3 = 1 := by kernel_rfl
@[go_sem] theorem Try.by3 : Try.prog.bytesOf 3 = 8 := by kernel_rfl
@[go_sem] theorem Try.ag3 : aggO Try.prog 3 = some false := by kernel_rfl
@[go_sem] theorem Try.zp3 : zpv Try.prog 3 = some (PV.int Go.IntKind.i64 (0)) := by kernel_rfl
@[go_sem] theorem Try.td4 : td Try.prog 4 = TD.bool := by kernel_rfl
@[go_sem] theorem Try.cz4 : Try.prog.cellsOf 4 = 1 := by kernel_rfl
@[go_sem] theorem Try.by4 : Try.prog.bytesOf 4 = 1 := by kernel_rfl
@[go_sem] theorem Try.ag4 : aggO Try.prog 4 = some false := by kernel_rfl
@[go_sem] theorem Try.zp4 : zpv Try.prog 4 = some (PV.bool false) := by kernel_rfl
@[go_sem] theorem Try.td20 : td Try.prog 20 = TD.iface := by kernel_rfl
@[go_sem] theorem Try.cz20 : Try.prog.cellsOf 20 = 1 := by kernel_rfl
@[go_sem] theorem Try.by20 : Try.prog.bytesOf 20 = 16 := by kernel_rfl
@[go_sem] theorem Try.ag20 : aggO Try.prog 20 = some false := by kernel_rfl
@[go_sem] theorem Try.zp20 : zpv Try.prog 20 = some PV.nili := by kernel_rfl
@[go_sem] theorem Try.td22 : td Try.prog 22 = TD.sl 24 := by kernel_rfl
@[go_sem] theorem Try.cz22 : Try.prog.cellsOf 22 = 1 := by kernel_rfl
@[go_sem] theorem Try.by22 : Try.prog.bytesOf 22 = 24 := by kernel_rfl
@[go_sem] theorem Try.ag22 : aggO Try.prog 22 = some false := by kernel_rfl
@[go_sem] theorem Try.zp22 : zpv Try.prog 22 = some (PV.sl SK.nil []) := by kernel_rfl
@[go_sem] theorem Try.td24 : td Try.prog 24 = TD.struct [(0, 1, some false), (1, 1, some false), (2, 1, some false)] := by kernel_rfl
@[go_sem] theorem Try.cz24 : Try.prog.cellsOf 24 = 3 := by kernel_rfl
@[go_sem] theorem Try.by24 : Try.prog.bytesOf 24 = 24 := by kernel_rfl
@[go_sem] theorem Try.ag24 : aggO Try.prog 24 = some true := by kernel_rfl
@[go_sem] theorem Try.zp24 : zpv Try.prog 24 = some (PV.agg [PV.int Go.IntKind.i64 (0), PV.int Go.IntKind.i64 (0), PV.int Go.IntKind.i64 (0)]) := by kernel_rfl
@[go_sem] theorem Try.sp24 : splaces Try.prog 24 = some [(0, 1), (1, 1), (2, 1)] := by kernel_rfl
@[go_sem] theorem Try.fs24 : flatStruct Try.prog 24 = some [TD.int Go.IntKind.i64, TD.int Go.IntKind.i64, TD.int Go.IntKind.i64] := by kernel_rfl
@[go_sem] theorem Try.td28 : td Try.prog 28 = TD.sl 2 := by kernel_rfl
@[go_sem] theorem Try.cz28 : Try.prog.cellsOf 28 = 1 := by kernel_rfl
@[go_sem] theorem Try.by28 : Try.prog.bytesOf 28 = 24 := by kernel_rfl
@[go_sem] theorem Try.ag28 : aggO Try.prog 28 = some false := by kernel_rfl
@[go_sem] theorem Try.zp28 : zpv Try.prog 28 = some (PV.sl SK.nil []) := by kernel_rfl
@[go_sem] theorem Try.td29 : td Try.prog 29 = TD.ptr 51 := by kernel_rfl
@[go_sem] theorem Try.cz29 : Try.prog.cellsOf 29 = 1 := by kernel_rfl
@[go_sem] theorem Try.by29 : Try.prog.bytesOf 29 = 8 := by kernel_rfl
@[go_sem] theorem Try.ag29 : aggO Try.prog 29 = some false := by kernel_rfl
@[go_sem] theorem Try.zp29 : zpv Try.prog 29 = some PV.nilp := by kernel_rfl
@[go_sem] theorem Try.td32 : td Try.prog 32 = TD.sl 37 := by kernel_rfl
@[go_sem] theorem Try.cz32 : Try.prog.cellsOf 32 = 1 := by kernel_rfl
@[go_sem] theorem Try.by32 : Try.prog.bytesOf 32 = 24 := by kernel_rfl
@[go_sem] theorem Try.ag32 : aggO Try.prog 32 = some false := by kernel_rfl
@[go_sem] theorem Try.zp32 : zpv Try.prog 32 = some (PV.sl SK.nil []) := by kernel_rfl
@[go_sem] theorem Try.td35 : td Try.prog 35 = TD.map 3 3 := by kernel_rfl
@[go_sem] theorem Try.cz35 : Try.prog.cellsOf 35 = 1 := by kernel_rfl
@[go_sem] theorem Try.by35 : Try.prog.bytesOf 35 = 8 := by kernel_rfl
@[go_sem] theorem Try.ag35 : aggO Try.prog 35 = some false := by kernel_rfl
@[go_sem] theorem Try.zp35 : zpv Try.prog 35 = some PV.nilm := by kernel_rfl
@[go_sem] theorem Try.td37 : td Try.prog 37 = TD.struct [(0, 1, some false), (1, 1, some false), (2, 1, some false)] := by kernel_rfl
@[go_sem] theorem Try.cz37 : Try.prog.cellsOf 37 = 3 := by kernel_rfl
@[go_sem] theorem Try.by37 : Try.prog.bytesOf 37 = 24 := by kernel_rfl
@[go_sem] theorem Try.ag37 : aggO Try.prog 37 = some true := by kernel_rfl
@[go_sem] theorem Try.zp37 : zpv Try.prog 37 = some (PV.agg [PV.int Go.IntKind.i64 (0), PV.int Go.IntKind.i64 (0), PV.int Go.IntKind.i64 (0)]) := by kernel_rfl
@[go_sem] theorem Try.sp37 : splaces Try.prog 37 = some [(0, 1), (1, 1), (2, 1)] := by kernel_rfl
@[go_sem] theorem Try.fs37 : flatStruct Try.prog 37 = some [TD.int Go.IntKind.i64, TD.int Go.IntKind.i64, TD.int Go.IntKind.i64] := by kernel_rfl
@[go_sem] theorem Try.td40 : td Try.prog 40 = TD.sl 3 := by kernel_rfl
@[go_sem] theorem Try.cz40 : Try.prog.cellsOf 40 = 1 := by kernel_rfl
@[go_sem] theorem Try.by40 : Try.prog.bytesOf 40 = 24 := by kernel_rfl
@[go_sem] theorem Try.ag40 : aggO Try.prog 40 = some false := by kernel_rfl
@[go_sem] theorem Try.zp40 : zpv Try.prog 40 = some (PV.sl SK.nil []) := by kernel_rfl
@[go_sem] theorem Try.td49 : td Try.prog 49 = TD.sl 37 := by kernel_rfl
@[go_sem] theorem Try.cz49 : Try.prog.cellsOf 49 = 1 := by kernel_rfl
@[go_sem] theorem Try.by49 : Try.prog.bytesOf 49 = 24 := by kernel_rfl
@[go_sem] theorem Try.ag49 : aggO Try.prog 49 = some false := by kernel_rfl
@[go_sem] theorem Try.zp49 : zpv Try.prog 49 = some (PV.sl SK.nil []) := by kernel_rfl
@[go_sem] theorem Try.td51 : td Try.prog 51 = TD.struct [(0, 1, some false), (1, 1, some false)] := by kernel_rfl
@[go_sem] theorem Try.cz51 : Try.prog.cellsOf 51 = 2 := by kernel_rfl
@[go_sem] theorem Try.by51 : Try.prog.bytesOf 51 = 32 := by kernel_rfl
@[go_sem] theorem Try.ag51 : aggO Try.prog 51 = some true := by kernel_rfl
@[go_sem] theorem Try.zp51 : zpv Try.prog 51 = some (PV.agg [PV.sl SK.nil [], PV.int Go.IntKind.i64 (0)]) := by kernel_rfl
@[go_sem] theorem Try.sp51 : splaces Try.prog 51 = some [(0, 1), (1, 1)] := by kernel_rfl
@[go_sem] theorem Try.fs51 : flatStruct Try.prog 51 = some [TD.sl 37, TD.int Go.IntKind.i64] := by kernel_rfl
@[go_sem] theorem Try.td53 : td Try.prog 53 = TD.ptr 49 := by kernel_rfl
@[go_sem] theorem Try.cz53 : Try.prog.cellsOf 53 = 1 := by kernel_rfl
@[go_sem] theorem Try.by53 : Try.prog.bytesOf 53 = 8 := by kernel_rfl
@[go_sem] theorem Try.ag53 : aggO Try.prog 53 = some false := by kernel_rfl
@[go_sem] theorem Try.zp53 : zpv Try.prog 53 = some PV.nilp := by kernel_rfl
@[go_sem] theorem Try.td57 : td Try.prog 57 = TD.fn := by kernel_rfl
@[go_sem] theorem Try.cz57 : Try.prog.cellsOf 57 = 1 := by kernel_rfl
@[go_sem] theorem Try.by57 : Try.prog.bytesOf 57 = 8 := by kernel_rfl
@[go_sem] theorem Try.ag57 : aggO Try.prog 57 = some false := by kernel_rfl
@[go_sem] theorem Try.zp57 : zpv Try.prog 57 = some PV.nilf := by kernel_rfl
@[go_sem] theorem Try.td60 : td Try.prog 60 = TD.iface := by kernel_rfl
@[go_sem] theorem Try.cz60 : Try.prog.cellsOf 60 = 1 := by kernel_rfl
@[go_sem] theorem Try.by60 : Try.prog.bytesOf 60 = 16 := by kernel_rfl
@[go_sem] theorem Try.ag60 : aggO Try.prog 60 = some false := by kernel_rfl
@[go_sem] theorem Try.zp60 : zpv Try.prog 60 = some PV.nili := by kernel_rfl
@[go_sem] theorem Try.cb2 : callable Try.prog 2 = true := by kernel_rfl
@[go_sem] theorem Try.cb3 : callable Try.prog 3 = true := by kernel_rfl
@[go_sem] theorem Try.cb4 : callable Try.prog 4 = true := by kernel_rfl
@[go_sem] theorem Try.cb5 : callable Try.prog 5 = true := by kernel_rfl
@[go_sem] theorem Try.cb6 : callable Try.prog 6 = true := by kernel_rfl
@[go_sem] theorem Try.cb7 : callable Try.prog 7 = true := by kernel_rfl
@[go_sem] theorem Try.cb8 : callable Try.prog 8 = true := by kernel_rfl
@[go_sem] theorem Try.cb9 : callable Try.prog 9 = true := by kernel_rfl
@[go_sem] theorem Try.cb10 : callable Try.prog 10 = true := by kernel_rfl
@[go_sem] theorem Try.cb11 : callable Try.prog 11 = true := by kernel_rfl
@[go_sem] theorem Try.cb12 : callable Try.prog 12 = true := by kernel_rfl
@[go_sem] theorem Try.cb13 : callable Try.prog 13 = true := by kernel_rfl
@[go_sem] theorem Try.cb14 : callable Try.prog 14 = true := by kernel_rfl
@[go_sem] theorem Try.cb15 : callable Try.prog 15 = true := by kernel_rfl
@[go_sem] theorem Try.cb16 : callable Try.prog 16 = true := by kernel_rfl
@[go_sem] theorem Try.cb17 : callable Try.prog 17 = true := by kernel_rfl
@[go_sem] theorem Try.cb18 : callable Try.prog 18 = true := by kernel_rfl
@[go_sem] theorem Try.cb19 : callable Try.prog 19 = true := by kernel_rfl
@[go_sem] theorem Try.cb20 : callable Try.prog 20 = true := by kernel_rfl
@[go_sem] theorem Try.cb21 : callable Try.prog 21 = true := by kernel_rfl
@[go_sem] theorem Try.cb22 : callable Try.prog 22 = true := by kernel_rfl
@[go_sem] theorem Try.cb23 : callable Try.prog 23 = true := by kernel_rfl
@[go_sem] theorem Try.cb24 : callable Try.prog 24 = true := by kernel_rfl
@[go_sem] theorem Try.cb25 : callable Try.prog 25 = true := by kernel_rfl
@[go_sem] theorem Try.cb26 : callable Try.prog 26 = true := by kernel_rfl
@[go_sem] theorem Try.cb27 : callable Try.prog 27 = true := by kernel_rfl
@[go_sem] theorem Try.cb28 : callable Try.prog 28 = true := by kernel_rfl
@[go_sem] theorem Try.cb45 : callable Try.prog 45 = true := by kernel_rfl
@[go_sem] theorem Try.cb46 : callable Try.prog 46 = true := by kernel_rfl
@[go_sem] theorem Try.cb47 : callable Try.prog 47 = true := by kernel_rfl
@[go_sem] theorem Try.cb48 : callable Try.prog 48 = true := by kernel_rfl
@[go_sem] theorem Try.cb49 : callable Try.prog 49 = true := by kernel_rfl
@[go_sem] theorem Try.cb50 : callable Try.prog 50 = true := by kernel_rfl
@[go_sem] theorem Try.cb51 : callable Try.prog 51 = true := by kernel_rfl
@[go_sem] theorem Try.cb52 : callable Try.prog 52 = true := by kernel_rfl
@[go_sem] theorem Try.cb53 : callable Try.prog 53 = true := by kernel_rfl
@[go_sem] theorem Try.cb54 : callable Try.prog 54 = true := by kernel_rfl
@[go_sem] theorem Try.cb55 : callable Try.prog 55 = true := by kernel_rfl
@[go_sem] theorem Try.mp53Len : methPtr Try.prog 53 "Len" = some (45, false, 49) := by kernel_rfl
@[go_sem] theorem Try.mp53Less : methPtr Try.prog 53 "Less" = some (46, false, 49) := by kernel_rfl
@[go_sem] theorem Try.mp53Pop : methPtr Try.prog 53 "Pop" = some (54, true, 49) := by kernel_rfl
@[go_sem] theorem Try.mp53Push : methPtr Try.prog 53 "Push" = some (55, true, 49) := by kernel_rfl
@[go_sem] theorem Try.mp53Swap : methPtr Try.prog 53 "Swap" = some (47, false, 49) := by kernel_rfl
theorem Try.mixed : Try.prog.follows .mixedOrders = true := by kernel_rfl
end Go.Proofs
