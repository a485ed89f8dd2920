/- At every input the call answers true and leaves its arguments as they were; no conditions. -/
import Derived.Test.YtgnfgaioeldagaaGreatProg
import Derived.KernelRfl
import Derived.Test.YtgnfgaioeldagaaGreatMb
set_option linter.unusedSimpArgs false
set_option linter.unusedVariables false
namespace Go.Proofs.YtgnfgaioeldagaaGreat
open Go Go.Abs
@[go_sem] theorem tok2 : Abs.tok Tryz.prog 2 = true := by kernel_rfl
@[go_sem] theorem tagg2 : Abs.tagg Tryz.prog 2 = false := by kernel_rfl
@[go_sem] theorem tsize2 : Abs.tsize Tryz.prog 2 = 1 := by kernel_rfl
@[go_sem] theorem tzero2 : Abs.tzero Tryz.prog 2 = some [.t (.lit (.int .i64 0))] := by kernel_rfl
@[go_sem] theorem tbytes2 : Abs.tbytes Tryz.prog 2 = 8 := by kernel_rfl
@[go_sem] theorem tint2 : Abs.intD (Abs.tdesc Tryz.prog 2) = some .i64 := by kernel_rfl
@[go_sem] theorem tok3 : Abs.tok Tryz.prog 3 = true := by kernel_rfl
@[go_sem] theorem tagg3 : Abs.tagg Tryz.prog 3 = false := by kernel_rfl
@[go_sem] theorem tsize3 : Abs.tsize Tryz.prog 3 = 1 := by kernel_rfl
@[go_sem] theorem tzero3 : Abs.tzero Tryz.prog 3 = some [.t (.lit (.int .i64 0))] := by kernel_rfl
@[go_sem] theorem tbytes3 : Abs.tbytes Tryz.prog 3 = 8 := by kernel_rfl
@[go_sem] theorem tint3 : Abs.intD (Abs.tdesc Tryz.prog 3) = some .i64 := by kernel_rfl
@[go_sem] theorem tok4 : Abs.tok Tryz.prog 4 = true := by kernel_rfl
@[go_sem] theorem tagg4 : Abs.tagg Tryz.prog 4 = false := by kernel_rfl
@[go_sem] theorem tsize4 : Abs.tsize Tryz.prog 4 = 1 := by kernel_rfl
@[go_sem] theorem tzero4 : Abs.tzero Tryz.prog 4 = some [.t (.lit (.bool false))] := by kernel_rfl
@[go_sem] theorem tbytes4 : Abs.tbytes Tryz.prog 4 = 1 := by kernel_rfl
@[go_sem] theorem tbool4 : Abs.tdesc Tryz.prog 4 = .bool := by kernel_rfl
@[go_sem] theorem tok5 : Abs.tok Tryz.prog 5 = true := by kernel_rfl
@[go_sem] theorem tagg5 : Abs.tagg Tryz.prog 5 = false := by kernel_rfl
@[go_sem] theorem tsize5 : Abs.tsize Tryz.prog 5 = 1 := by kernel_rfl
@[go_sem] theorem tzero5 : Abs.tzero Tryz.prog 5 = some [.t (.lit (.int .u8 0))] := by kernel_rfl
@[go_sem] theorem tbytes5 : Abs.tbytes Tryz.prog 5 = 1 := by kernel_rfl
@[go_sem] theorem tint5 : Abs.intD (Abs.tdesc Tryz.prog 5) = some .u8 := by kernel_rfl
@[go_sem] theorem tok9 : Abs.tok Tryz.prog 9 = true := by kernel_rfl
@[go_sem] theorem tagg9 : Abs.tagg Tryz.prog 9 = false := by kernel_rfl
@[go_sem] theorem tsize9 : Abs.tsize Tryz.prog 9 = 1 := by kernel_rfl
@[go_sem] theorem tzero9 : Abs.tzero Tryz.prog 9 = some [.t (.lit (.string ⟨#[]⟩))] := by kernel_rfl
@[go_sem] theorem tbytes9 : Abs.tbytes Tryz.prog 9 = 16 := by kernel_rfl
@[go_sem] theorem tstr9 : Abs.tdesc Tryz.prog 9 = .string := by kernel_rfl
@[go_sem] theorem tok22 : Abs.tok Tryz.prog 22 = true := by kernel_rfl
@[go_sem] theorem tagg22 : Abs.tagg Tryz.prog 22 = false := by kernel_rfl
@[go_sem] theorem tsize22 : Abs.tsize Tryz.prog 22 = 1 := by kernel_rfl
@[go_sem] theorem tzero22 : Abs.tzero Tryz.prog 22 = some [.t (.seq (some true) [])] := by kernel_rfl
@[go_sem] theorem tbytes22 : Abs.tbytes Tryz.prog 22 = 24 := by kernel_rfl
@[go_sem] theorem tsl22 : Abs.isSliceD (Abs.tdesc Tryz.prog 22) = true := by kernel_rfl
@[go_sem] theorem telem22 : Abs.telem Tryz.prog 22 = 83 := by kernel_rfl
@[go_sem] theorem tok24 : Abs.tok Tryz.prog 24 = true := by kernel_rfl
@[go_sem] theorem tagg24 : Abs.tagg Tryz.prog 24 = true := by kernel_rfl
@[go_sem] theorem tsize24 : Abs.tsize Tryz.prog 24 = 2 := by kernel_rfl
@[go_sem] theorem tzero24 : Abs.tzero Tryz.prog 24 = some [.t (.lit (.bool false)), .t (.seq (some true) [])] := by kernel_rfl
@[go_sem] theorem tbytes24 : Abs.tbytes Tryz.prog 24 = 32 := by kernel_rfl
@[go_sem] theorem tst24 : Abs.isStructD (Abs.tdesc Tryz.prog 24) = true := by kernel_rfl
@[go_sem] theorem tnf24 : Abs.nfields Tryz.prog 24 = 2 := by kernel_rfl
@[go_sem] theorem tpt24 : Abs.partsTok Tryz.prog 24 = true := by kernel_rfl
@[go_sem] theorem tfo24_0 : Abs.foff Tryz.prog 24 0 = 0 := by kernel_rfl
@[go_sem] theorem tft24_0 : Abs.fty Tryz.prog 24 0 = 4 := by kernel_rfl
@[go_sem] theorem tpl24_0 : Abs.placesA Tryz.prog 24 0 = some (0, 1) := by kernel_rfl
@[go_sem] theorem tfo24_1 : Abs.foff Tryz.prog 24 1 = 1 := by kernel_rfl
@[go_sem] theorem tft24_1 : Abs.fty Tryz.prog 24 1 = 22 := by kernel_rfl
@[go_sem] theorem tpl24_1 : Abs.placesA Tryz.prog 24 1 = some (1, 1) := by kernel_rfl
@[go_sem] theorem tok25 : Abs.tok Tryz.prog 25 = true := by kernel_rfl
@[go_sem] theorem tagg25 : Abs.tagg Tryz.prog 25 = false := by kernel_rfl
@[go_sem] theorem tsize25 : Abs.tsize Tryz.prog 25 = 1 := by kernel_rfl
@[go_sem] theorem tzero25 : Abs.tzero Tryz.prog 25 = some [.t (.seq (some true) [])] := by kernel_rfl
@[go_sem] theorem tbytes25 : Abs.tbytes Tryz.prog 25 = 24 := by kernel_rfl
@[go_sem] theorem tsl25 : Abs.isSliceD (Abs.tdesc Tryz.prog 25) = true := by kernel_rfl
@[go_sem] theorem telem25 : Abs.telem Tryz.prog 25 = 27 := by kernel_rfl
@[go_sem] theorem tok27 : Abs.tok Tryz.prog 27 = true := by kernel_rfl
@[go_sem] theorem tagg27 : Abs.tagg Tryz.prog 27 = true := by kernel_rfl
@[go_sem] theorem tsize27 : Abs.tsize Tryz.prog 27 = 6 := by kernel_rfl
@[go_sem] theorem tzero27 : Abs.tzero Tryz.prog 27 = some [.t (.lit (.int .i64 0)), .t (.lit (.bool false)), .t (.seq (some true) []), .t (.lit (.string ⟨#[]⟩)), .t (.lit (.int .i64 0)), .t (.seq (some true) [])] := by kernel_rfl
@[go_sem] theorem tbytes27 : Abs.tbytes Tryz.prog 27 = 88 := by kernel_rfl
@[go_sem] theorem tst27 : Abs.isStructD (Abs.tdesc Tryz.prog 27) = true := by kernel_rfl
@[go_sem] theorem tnf27 : Abs.nfields Tryz.prog 27 = 5 := by kernel_rfl
@[go_sem] theorem tpt27 : Abs.partsTok Tryz.prog 27 = true := by kernel_rfl
@[go_sem] theorem tfo27_0 : Abs.foff Tryz.prog 27 0 = 0 := by kernel_rfl
@[go_sem] theorem tft27_0 : Abs.fty Tryz.prog 27 0 = 3 := by kernel_rfl
@[go_sem] theorem tpl27_0 : Abs.placesA Tryz.prog 27 0 = some (0, 1) := by kernel_rfl
@[go_sem] theorem tfo27_1 : Abs.foff Tryz.prog 27 1 = 1 := by kernel_rfl
@[go_sem] theorem tft27_1 : Abs.fty Tryz.prog 27 1 = 24 := by kernel_rfl
@[go_sem] theorem tpl27_1 : Abs.placesA Tryz.prog 27 1 = some (1, 2) := by kernel_rfl
@[go_sem] theorem tfo27_2 : Abs.foff Tryz.prog 27 2 = 3 := by kernel_rfl
@[go_sem] theorem tft27_2 : Abs.fty Tryz.prog 27 2 = 9 := by kernel_rfl
@[go_sem] theorem tpl27_2 : Abs.placesA Tryz.prog 27 2 = some (3, 1) := by kernel_rfl
@[go_sem] theorem tfo27_3 : Abs.foff Tryz.prog 27 3 = 4 := by kernel_rfl
@[go_sem] theorem tft27_3 : Abs.fty Tryz.prog 27 3 = 3 := by kernel_rfl
@[go_sem] theorem tpl27_3 : Abs.placesA Tryz.prog 27 3 = some (4, 1) := by kernel_rfl
@[go_sem] theorem tfo27_4 : Abs.foff Tryz.prog 27 4 = 5 := by kernel_rfl
@[go_sem] theorem tft27_4 : Abs.fty Tryz.prog 27 4 = 25 := by kernel_rfl
@[go_sem] theorem tpl27_4 : Abs.placesA Tryz.prog 27 4 = some (5, 1) := by kernel_rfl
@[go_sem] theorem tok28 : Abs.tok Tryz.prog 28 = true := by kernel_rfl
@[go_sem] theorem tagg28 : Abs.tagg Tryz.prog 28 = false := by kernel_rfl
@[go_sem] theorem tsize28 : Abs.tsize Tryz.prog 28 = 1 := by kernel_rfl
@[go_sem] theorem tzero28 : Abs.tzero Tryz.prog 28 = some [.t (.seq (some true) [])] := by kernel_rfl
@[go_sem] theorem tbytes28 : Abs.tbytes Tryz.prog 28 = 24 := by kernel_rfl
@[go_sem] theorem tsl28 : Abs.isSliceD (Abs.tdesc Tryz.prog 28) = true := by kernel_rfl
@[go_sem] theorem telem28 : Abs.telem Tryz.prog 28 = 66 := by kernel_rfl
@[go_sem] theorem tok29 : Abs.tok Tryz.prog 29 = true := by kernel_rfl
@[go_sem] theorem tagg29 : Abs.tagg Tryz.prog 29 = false := by kernel_rfl
@[go_sem] theorem tsize29 : Abs.tsize Tryz.prog 29 = 1 := by kernel_rfl
@[go_sem] theorem tzero29 : Abs.tzero Tryz.prog 29 = some [.t (.seq (some true) [])] := by kernel_rfl
@[go_sem] theorem tbytes29 : Abs.tbytes Tryz.prog 29 = 24 := by kernel_rfl
@[go_sem] theorem tsl29 : Abs.isSliceD (Abs.tdesc Tryz.prog 29) = true := by kernel_rfl
@[go_sem] theorem telem29 : Abs.telem Tryz.prog 29 = 3 := by kernel_rfl
@[go_sem] theorem tok31 : Abs.tok Tryz.prog 31 = true := by kernel_rfl
@[go_sem] theorem tagg31 : Abs.tagg Tryz.prog 31 = true := by kernel_rfl
@[go_sem] theorem tsize31 : Abs.tsize Tryz.prog 31 = 3 := by kernel_rfl
@[go_sem] theorem tzero31 : Abs.tzero Tryz.prog 31 = some [.t (.lit (.string ⟨#[]⟩)), .t (.seq (some true) []), .t (.lit (.int .i64 0))] := by kernel_rfl
@[go_sem] theorem tbytes31 : Abs.tbytes Tryz.prog 31 = 48 := by kernel_rfl
@[go_sem] theorem tst31 : Abs.isStructD (Abs.tdesc Tryz.prog 31) = true := by kernel_rfl
@[go_sem] theorem tnf31 : Abs.nfields Tryz.prog 31 = 3 := by kernel_rfl
@[go_sem] theorem tpt31 : Abs.partsTok Tryz.prog 31 = true := by kernel_rfl
@[go_sem] theorem tfo31_0 : Abs.foff Tryz.prog 31 0 = 0 := by kernel_rfl
@[go_sem] theorem tft31_0 : Abs.fty Tryz.prog 31 0 = 9 := by kernel_rfl
@[go_sem] theorem tpl31_0 : Abs.placesA Tryz.prog 31 0 = some (0, 1) := by kernel_rfl
@[go_sem] theorem tfo31_1 : Abs.foff Tryz.prog 31 1 = 1 := by kernel_rfl
@[go_sem] theorem tft31_1 : Abs.fty Tryz.prog 31 1 = 29 := by kernel_rfl
@[go_sem] theorem tpl31_1 : Abs.placesA Tryz.prog 31 1 = some (1, 1) := by kernel_rfl
@[go_sem] theorem tfo31_2 : Abs.foff Tryz.prog 31 2 = 2 := by kernel_rfl
@[go_sem] theorem tft31_2 : Abs.fty Tryz.prog 31 2 = 3 := by kernel_rfl
@[go_sem] theorem tpl31_2 : Abs.placesA Tryz.prog 31 2 = some (2, 1) := by kernel_rfl
@[go_sem] theorem tok32 : Abs.tok Tryz.prog 32 = true := by kernel_rfl
@[go_sem] theorem tagg32 : Abs.tagg Tryz.prog 32 = false := by kernel_rfl
@[go_sem] theorem tsize32 : Abs.tsize Tryz.prog 32 = 1 := by kernel_rfl
@[go_sem] theorem tzero32 : Abs.tzero Tryz.prog 32 = some [.t (.seq (some true) [])] := by kernel_rfl
@[go_sem] theorem tbytes32 : Abs.tbytes Tryz.prog 32 = 24 := by kernel_rfl
@[go_sem] theorem tsl32 : Abs.isSliceD (Abs.tdesc Tryz.prog 32) = true := by kernel_rfl
@[go_sem] theorem telem32 : Abs.telem Tryz.prog 32 = 34 := by kernel_rfl
@[go_sem] theorem tok34 : Abs.tok Tryz.prog 34 = true := by kernel_rfl
@[go_sem] theorem tagg34 : Abs.tagg Tryz.prog 34 = true := by kernel_rfl
@[go_sem] theorem tsize34 : Abs.tsize Tryz.prog 34 = 3 := by kernel_rfl
@[go_sem] theorem tzero34 : Abs.tzero Tryz.prog 34 = some [.t (.lit (.int .i64 0)), .t (.lit (.bool false)), .t (.seq (some true) [])] := by kernel_rfl
@[go_sem] theorem tbytes34 : Abs.tbytes Tryz.prog 34 = 40 := by kernel_rfl
@[go_sem] theorem tst34 : Abs.isStructD (Abs.tdesc Tryz.prog 34) = true := by kernel_rfl
@[go_sem] theorem tnf34 : Abs.nfields Tryz.prog 34 = 2 := by kernel_rfl
@[go_sem] theorem tpt34 : Abs.partsTok Tryz.prog 34 = true := by kernel_rfl
@[go_sem] theorem tfo34_0 : Abs.foff Tryz.prog 34 0 = 0 := by kernel_rfl
@[go_sem] theorem tft34_0 : Abs.fty Tryz.prog 34 0 = 3 := by kernel_rfl
@[go_sem] theorem tpl34_0 : Abs.placesA Tryz.prog 34 0 = some (0, 1) := by kernel_rfl
@[go_sem] theorem tfo34_1 : Abs.foff Tryz.prog 34 1 = 1 := by kernel_rfl
@[go_sem] theorem tft34_1 : Abs.fty Tryz.prog 34 1 = 24 := by kernel_rfl
@[go_sem] theorem tpl34_1 : Abs.placesA Tryz.prog 34 1 = some (1, 2) := by kernel_rfl
@[go_sem] theorem tok39 : Abs.tok Tryz.prog 39 = true := by kernel_rfl
@[go_sem] theorem tagg39 : Abs.tagg Tryz.prog 39 = false := by kernel_rfl
@[go_sem] theorem tsize39 : Abs.tsize Tryz.prog 39 = 1 := by kernel_rfl
@[go_sem] theorem tzero39 : Abs.tzero Tryz.prog 39 = some [.t (.lit .nilFunc)] := by kernel_rfl
@[go_sem] theorem tok46 : Abs.tok Tryz.prog 46 = true := by kernel_rfl
@[go_sem] theorem tagg46 : Abs.tagg Tryz.prog 46 = false := by kernel_rfl
@[go_sem] theorem tsize46 : Abs.tsize Tryz.prog 46 = 1 := by kernel_rfl
@[go_sem] theorem tzero46 : Abs.tzero Tryz.prog 46 = some [.t (.lit (.int .i16 0))] := by kernel_rfl
@[go_sem] theorem tbytes46 : Abs.tbytes Tryz.prog 46 = 2 := by kernel_rfl
@[go_sem] theorem tint46 : Abs.intD (Abs.tdesc Tryz.prog 46) = some .i16 := by kernel_rfl
@[go_sem] theorem tok49 : Abs.tok Tryz.prog 49 = true := by kernel_rfl
@[go_sem] theorem tagg49 : Abs.tagg Tryz.prog 49 = false := by kernel_rfl
@[go_sem] theorem tsize49 : Abs.tsize Tryz.prog 49 = 1 := by kernel_rfl
@[go_sem] theorem tzero49 : Abs.tzero Tryz.prog 49 = some [.t (.lit (.pointer none))] := by kernel_rfl
@[go_sem] theorem tbytes49 : Abs.tbytes Tryz.prog 49 = 8 := by kernel_rfl
@[go_sem] theorem tok58 : Abs.tok Tryz.prog 58 = true := by kernel_rfl
@[go_sem] theorem tagg58 : Abs.tagg Tryz.prog 58 = false := by kernel_rfl
@[go_sem] theorem tsize58 : Abs.tsize Tryz.prog 58 = 1 := by kernel_rfl
@[go_sem] theorem tzero58 : Abs.tzero Tryz.prog 58 = some [.t (.seq (some true) [])] := by kernel_rfl
@[go_sem] theorem tbytes58 : Abs.tbytes Tryz.prog 58 = 24 := by kernel_rfl
@[go_sem] theorem tsl58 : Abs.isSliceD (Abs.tdesc Tryz.prog 58) = true := by kernel_rfl
@[go_sem] theorem telem58 : Abs.telem Tryz.prog 58 = 31 := by kernel_rfl
@[go_sem] theorem tok62 : Abs.tok Tryz.prog 62 = true := by kernel_rfl
@[go_sem] theorem tagg62 : Abs.tagg Tryz.prog 62 = false := by kernel_rfl
@[go_sem] theorem tsize62 : Abs.tsize Tryz.prog 62 = 1 := by kernel_rfl
@[go_sem] theorem tzero62 : Abs.tzero Tryz.prog 62 = some [.t (.seq (some true) [])] := by kernel_rfl
@[go_sem] theorem tbytes62 : Abs.tbytes Tryz.prog 62 = 24 := by kernel_rfl
@[go_sem] theorem tsl62 : Abs.isSliceD (Abs.tdesc Tryz.prog 62) = true := by kernel_rfl
@[go_sem] theorem telem62 : Abs.telem Tryz.prog 62 = 5 := by kernel_rfl
@[go_sem] theorem tok64 : Abs.tok Tryz.prog 64 = true := by kernel_rfl
@[go_sem] theorem tagg64 : Abs.tagg Tryz.prog 64 = false := by kernel_rfl
@[go_sem] theorem tsize64 : Abs.tsize Tryz.prog 64 = 1 := by kernel_rfl
@[go_sem] theorem tzero64 : Abs.tzero Tryz.prog 64 = some [.t (.seq (some true) [])] := by kernel_rfl
@[go_sem] theorem tbytes64 : Abs.tbytes Tryz.prog 64 = 24 := by kernel_rfl
@[go_sem] theorem tsl64 : Abs.isSliceD (Abs.tdesc Tryz.prog 64) = true := by kernel_rfl
@[go_sem] theorem telem64 : Abs.telem Tryz.prog 64 = 69 := by kernel_rfl
@[go_sem] theorem tok66 : Abs.tok Tryz.prog 66 = true := by kernel_rfl
@[go_sem] theorem tagg66 : Abs.tagg Tryz.prog 66 = true := by kernel_rfl
@[go_sem] theorem tsize66 : Abs.tsize Tryz.prog 66 = 7 := by kernel_rfl
@[go_sem] theorem tzero66 : Abs.tzero Tryz.prog 66 = some [.t (.lit (.string ⟨#[]⟩)), .t (.seq (some true) []), .t (.lit (.int .i64 0)), .t (.seq (some true) []), .t (.lit (.int .i64 0)), .t (.lit (.bool false)), .t (.seq (some true) [])] := by kernel_rfl
@[go_sem] theorem tbytes66 : Abs.tbytes Tryz.prog 66 = 112 := by kernel_rfl
@[go_sem] theorem tst66 : Abs.isStructD (Abs.tdesc Tryz.prog 66) = true := by kernel_rfl
@[go_sem] theorem tnf66 : Abs.nfields Tryz.prog 66 = 3 := by kernel_rfl
@[go_sem] theorem tpt66 : Abs.partsTok Tryz.prog 66 = true := by kernel_rfl
@[go_sem] theorem tfo66_0 : Abs.foff Tryz.prog 66 0 = 0 := by kernel_rfl
@[go_sem] theorem tft66_0 : Abs.fty Tryz.prog 66 0 = 31 := by kernel_rfl
@[go_sem] theorem tpl66_0 : Abs.placesA Tryz.prog 66 0 = some (0, 3) := by kernel_rfl
@[go_sem] theorem tfo66_1 : Abs.foff Tryz.prog 66 1 = 3 := by kernel_rfl
@[go_sem] theorem tft66_1 : Abs.fty Tryz.prog 66 1 = 64 := by kernel_rfl
@[go_sem] theorem tpl66_1 : Abs.placesA Tryz.prog 66 1 = some (3, 1) := by kernel_rfl
@[go_sem] theorem tfo66_2 : Abs.foff Tryz.prog 66 2 = 4 := by kernel_rfl
@[go_sem] theorem tft66_2 : Abs.fty Tryz.prog 66 2 = 34 := by kernel_rfl
@[go_sem] theorem tpl66_2 : Abs.placesA Tryz.prog 66 2 = some (4, 3) := by kernel_rfl
@[go_sem] theorem tok69 : Abs.tok Tryz.prog 69 = true := by kernel_rfl
@[go_sem] theorem tagg69 : Abs.tagg Tryz.prog 69 = true := by kernel_rfl
@[go_sem] theorem tsize69 : Abs.tsize Tryz.prog 69 = 4 := by kernel_rfl
@[go_sem] theorem tzero69 : Abs.tzero Tryz.prog 69 = some [.t (.seq (some true) []), .t (.lit (.int .i64 0)), .t (.lit (.bool false)), .t (.seq (some true) [])] := by kernel_rfl
@[go_sem] theorem tbytes69 : Abs.tbytes Tryz.prog 69 = 64 := by kernel_rfl
@[go_sem] theorem tst69 : Abs.isStructD (Abs.tdesc Tryz.prog 69) = true := by kernel_rfl
@[go_sem] theorem tnf69 : Abs.nfields Tryz.prog 69 = 2 := by kernel_rfl
@[go_sem] theorem tpt69 : Abs.partsTok Tryz.prog 69 = true := by kernel_rfl
@[go_sem] theorem tfo69_0 : Abs.foff Tryz.prog 69 0 = 0 := by kernel_rfl
@[go_sem] theorem tft69_0 : Abs.fty Tryz.prog 69 0 = 32 := by kernel_rfl
@[go_sem] theorem tpl69_0 : Abs.placesA Tryz.prog 69 0 = some (0, 1) := by kernel_rfl
@[go_sem] theorem tfo69_1 : Abs.foff Tryz.prog 69 1 = 1 := by kernel_rfl
@[go_sem] theorem tft69_1 : Abs.fty Tryz.prog 69 1 = 34 := by kernel_rfl
@[go_sem] theorem tpl69_1 : Abs.placesA Tryz.prog 69 1 = some (1, 3) := by kernel_rfl
@[go_sem] theorem tok76 : Abs.tok Tryz.prog 76 = true := by kernel_rfl
@[go_sem] theorem tagg76 : Abs.tagg Tryz.prog 76 = false := by kernel_rfl
@[go_sem] theorem tsize76 : Abs.tsize Tryz.prog 76 = 1 := by kernel_rfl
@[go_sem] theorem tzero76 : Abs.tzero Tryz.prog 76 = some [.t (.lit .nilFunc)] := by kernel_rfl
@[go_sem] theorem tok81 : Abs.tok Tryz.prog 81 = true := by kernel_rfl
@[go_sem] theorem tagg81 : Abs.tagg Tryz.prog 81 = false := by kernel_rfl
@[go_sem] theorem tsize81 : Abs.tsize Tryz.prog 81 = 1 := by kernel_rfl
@[go_sem] theorem tzero81 : Abs.tzero Tryz.prog 81 = some [.t (.lit .nilFunc)] := by kernel_rfl
@[go_sem] theorem tok83 : Abs.tok Tryz.prog 83 = true := by kernel_rfl
@[go_sem] theorem tagg83 : Abs.tagg Tryz.prog 83 = false := by kernel_rfl
@[go_sem] theorem tsize83 : Abs.tsize Tryz.prog 83 = 1 := by kernel_rfl
@[go_sem] theorem tzero83 : Abs.tzero Tryz.prog 83 = some [.t (.lit (.int .u32 0))] := by kernel_rfl
@[go_sem] theorem tbytes83 : Abs.tbytes Tryz.prog 83 = 4 := by kernel_rfl
@[go_sem] theorem tint83 : Abs.intD (Abs.tdesc Tryz.prog 83) = some .u32 := by kernel_rfl
@[go_sem] theorem tok87 : Abs.tok Tryz.prog 87 = true := by kernel_rfl
@[go_sem] theorem tagg87 : Abs.tagg Tryz.prog 87 = false := by kernel_rfl
@[go_sem] theorem tsize87 : Abs.tsize Tryz.prog 87 = 1 := by kernel_rfl
@[go_sem] theorem tzero87 : Abs.tzero Tryz.prog 87 = some [.t (.lit .nilFunc)] := by kernel_rfl
@[go_sem] theorem tok95 : Abs.tok Tryz.prog 95 = true := by kernel_rfl
@[go_sem] theorem tagg95 : Abs.tagg Tryz.prog 95 = false := by kernel_rfl
@[go_sem] theorem tsize95 : Abs.tsize Tryz.prog 95 = 1 := by kernel_rfl
@[go_sem] theorem tzero95 : Abs.tzero Tryz.prog 95 = some [.t (.lit (.int .u64 0))] := by kernel_rfl
@[go_sem] theorem tbytes95 : Abs.tbytes Tryz.prog 95 = 8 := by kernel_rfl
@[go_sem] theorem tint95 : Abs.intD (Abs.tdesc Tryz.prog 95) = some .u64 := by kernel_rfl
@[go_sem] theorem tok111 : Abs.tok Tryz.prog 111 = true := by kernel_rfl
@[go_sem] theorem tagg111 : Abs.tagg Tryz.prog 111 = false := by kernel_rfl
@[go_sem] theorem tsize111 : Abs.tsize Tryz.prog 111 = 1 := by kernel_rfl
@[go_sem] theorem tzero111 : Abs.tzero Tryz.prog 111 = some [.t (.lit (.int .u64 0))] := by kernel_rfl
@[go_sem] theorem tbytes111 : Abs.tbytes Tryz.prog 111 = 8 := by kernel_rfl
@[go_sem] theorem tint111 : Abs.intD (Abs.tdesc Tryz.prog 111) = some .u64 := by kernel_rfl
@[go_sem] theorem tok117 : Abs.tok Tryz.prog 117 = true := by kernel_rfl
@[go_sem] theorem tagg117 : Abs.tagg Tryz.prog 117 = false := by kernel_rfl
@[go_sem] theorem tsize117 : Abs.tsize Tryz.prog 117 = 1 := by kernel_rfl
@[go_sem] theorem tzero117 : Abs.tzero Tryz.prog 117 = some [.t (.lit .nilFunc)] := by kernel_rfl
@[go_sem] theorem tok120 : Abs.tok Tryz.prog 120 = true := by kernel_rfl
@[go_sem] theorem tagg120 : Abs.tagg Tryz.prog 120 = true := by kernel_rfl
@[go_sem] theorem tsize120 : Abs.tsize Tryz.prog 120 = 1 := by kernel_rfl
@[go_sem] theorem tzero120 : Abs.tzero Tryz.prog 120 = some [.t (.seq (some true) [])] := by kernel_rfl
@[go_sem] theorem tbytes120 : Abs.tbytes Tryz.prog 120 = 24 := by kernel_rfl
@[go_sem] theorem tst120 : Abs.isStructD (Abs.tdesc Tryz.prog 120) = true := by kernel_rfl
@[go_sem] theorem tnf120 : Abs.nfields Tryz.prog 120 = 1 := by kernel_rfl
@[go_sem] theorem tpt120 : Abs.partsTok Tryz.prog 120 = true := by kernel_rfl
@[go_sem] theorem tfo120_0 : Abs.foff Tryz.prog 120 0 = 0 := by kernel_rfl
@[go_sem] theorem tft120_0 : Abs.fty Tryz.prog 120 0 = 22 := by kernel_rfl
@[go_sem] theorem tpl120_0 : Abs.placesA Tryz.prog 120 0 = some (0, 1) := by kernel_rfl
@[go_sem] theorem tok122 : Abs.tok Tryz.prog 122 = true := by kernel_rfl
@[go_sem] theorem tagg122 : Abs.tagg Tryz.prog 122 = true := by kernel_rfl
@[go_sem] theorem tsize122 : Abs.tsize Tryz.prog 122 = 2 := by kernel_rfl
@[go_sem] theorem tzero122 : Abs.tzero Tryz.prog 122 = some [.t (.seq (some true) []), .t (.lit (.bool false))] := by kernel_rfl
@[go_sem] theorem tbytes122 : Abs.tbytes Tryz.prog 122 = 32 := by kernel_rfl
@[go_sem] theorem tst122 : Abs.isStructD (Abs.tdesc Tryz.prog 122) = true := by kernel_rfl
@[go_sem] theorem tnf122 : Abs.nfields Tryz.prog 122 = 2 := by kernel_rfl
@[go_sem] theorem tpt122 : Abs.partsTok Tryz.prog 122 = true := by kernel_rfl
@[go_sem] theorem tfo122_0 : Abs.foff Tryz.prog 122 0 = 0 := by kernel_rfl
@[go_sem] theorem tft122_0 : Abs.fty Tryz.prog 122 0 = 120 := by kernel_rfl
@[go_sem] theorem tpl122_0 : Abs.placesA Tryz.prog 122 0 = some (0, 1) := by kernel_rfl
@[go_sem] theorem tfo122_1 : Abs.foff Tryz.prog 122 1 = 1 := by kernel_rfl
@[go_sem] theorem tft122_1 : Abs.fty Tryz.prog 122 1 = 4 := by kernel_rfl
@[go_sem] theorem tpl122_1 : Abs.placesA Tryz.prog 122 1 = some (1, 1) := by kernel_rfl
@[go_sem] theorem tok125 : Abs.tok Tryz.prog 125 = true := by kernel_rfl
@[go_sem] theorem tagg125 : Abs.tagg Tryz.prog 125 = false := by kernel_rfl
@[go_sem] theorem tsize125 : Abs.tsize Tryz.prog 125 = 1 := by kernel_rfl
@[go_sem] theorem tzero125 : Abs.tzero Tryz.prog 125 = some [.t (.lit .nilFunc)] := by kernel_rfl
@[go_sem] theorem tok126 : Abs.tok Tryz.prog 126 = true := by kernel_rfl
@[go_sem] theorem tagg126 : Abs.tagg Tryz.prog 126 = false := by kernel_rfl
@[go_sem] theorem tsize126 : Abs.tsize Tryz.prog 126 = 1 := by kernel_rfl
@[go_sem] theorem tzero126 : Abs.tzero Tryz.prog 126 = some [.t (.lit .nilFunc)] := by kernel_rfl
@[go_sem] theorem tok137 : Abs.tok Tryz.prog 137 = true := by kernel_rfl
@[go_sem] theorem tagg137 : Abs.tagg Tryz.prog 137 = false := by kernel_rfl
@[go_sem] theorem tsize137 : Abs.tsize Tryz.prog 137 = 1 := by kernel_rfl
@[go_sem] theorem tzero137 : Abs.tzero Tryz.prog 137 = some [.t (.lit .nilFunc)] := by kernel_rfl
@[go_sem] theorem tok148 : Abs.tok Tryz.prog 148 = true := by kernel_rfl
@[go_sem] theorem tagg148 : Abs.tagg Tryz.prog 148 = false := by kernel_rfl
@[go_sem] theorem tsize148 : Abs.tsize Tryz.prog 148 = 1 := by kernel_rfl
@[go_sem] theorem tzero148 : Abs.tzero Tryz.prog 148 = some [.t (.lit (.int .i64 0))] := by kernel_rfl
@[go_sem] theorem tbytes148 : Abs.tbytes Tryz.prog 148 = 8 := by kernel_rfl
@[go_sem] theorem tint148 : Abs.intD (Abs.tdesc Tryz.prog 148) = some .i64 := by kernel_rfl
@[go_sem] theorem tok157 : Abs.tok Tryz.prog 157 = true := by kernel_rfl
@[go_sem] theorem tagg157 : Abs.tagg Tryz.prog 157 = false := by kernel_rfl
@[go_sem] theorem tsize157 : Abs.tsize Tryz.prog 157 = 1 := by kernel_rfl
@[go_sem] theorem tzero157 : Abs.tzero Tryz.prog 157 = some [.t (.seq (some true) [])] := by kernel_rfl
@[go_sem] theorem tbytes157 : Abs.tbytes Tryz.prog 157 = 24 := by kernel_rfl
@[go_sem] theorem tsl157 : Abs.isSliceD (Abs.tdesc Tryz.prog 157) = true := by kernel_rfl
@[go_sem] theorem telem157 : Abs.telem Tryz.prog 157 = 22 := by kernel_rfl
end Go.Proofs.YtgnfgaioeldagaaGreat
