/- At every input the call answers true and leaves its arguments as they were; no conditions. -/
import Derived.Test.YtfgejnedaijjiaaGreatProg
import Derived.KernelRfl
import Derived.Test.YtfgejnedaijjiaaGreatMb
set_option linter.unusedSimpArgs false
set_option linter.unusedVariables false
namespace Go.Proofs.YtfgejnedaijjiaaGreat
open Go Go.Abs
@[go_sem] theorem tok1 : Abs.tok Tryz.prog 1 = true := by kernel_rfl
@[go_sem] theorem tagg1 : Abs.tagg Tryz.prog 1 = false := by kernel_rfl
@[go_sem] theorem tsize1 : Abs.tsize Tryz.prog 1 = 1 := by kernel_rfl
@[go_sem] theorem tzero1 : Abs.tzero Tryz.prog 1 = some [.t (.lit .nilFunc)] := by kernel_rfl
@[go_sem] theorem tok2 : Abs.tok Tryz.prog 2 = true := by kernel_rfl
@[go_sem] theorem tagg2 : Abs.tagg Tryz.prog 2 = false := by kernel_rfl
@[go_sem] theorem tsize2 : Abs.tsize Tryz.prog 2 = 1 := by kernel_rfl
@[go_sem] theorem tzero2 : Abs.tzero Tryz.prog 2 = some [.t (.lit (.int .i64 0))] := by kernel_rfl
@[go_sem] theorem tbytes2 : Abs.tbytes Tryz.prog 2 = 8 := by kernel_rfl
@[go_sem] theorem tint2 : Abs.intD (Abs.tdesc Tryz.prog 2) = some .i64 := by kernel_rfl
@[go_sem] theorem tok3 : Abs.tok Tryz.prog 3 = true := by kernel_rfl
@[go_sem] theorem tagg3 : Abs.tagg Tryz.prog 3 = false := by kernel_rfl
@[go_sem] theorem tsize3 : Abs.tsize Tryz.prog 3 = 1 := by kernel_rfl
@[go_sem] theorem tzero3 : Abs.tzero Tryz.prog 3 = some [.t (.lit (.int .i64 0))] := by kernel_rfl
@[go_sem] theorem tbytes3 : Abs.tbytes Tryz.prog 3 = 8 := by kernel_rfl
@[go_sem] theorem tint3 : Abs.intD (Abs.tdesc Tryz.prog 3) = some .i64 := by kernel_rfl
@[go_sem] theorem tok4 : Abs.tok Tryz.prog 4 = true := by kernel_rfl
@[go_sem] theorem tagg4 : Abs.tagg Tryz.prog 4 = false := by kernel_rfl
@[go_sem] theorem tsize4 : Abs.tsize Tryz.prog 4 = 1 := by kernel_rfl
@[go_sem] theorem tzero4 : Abs.tzero Tryz.prog 4 = some [.t (.lit (.bool false))] := by kernel_rfl
@[go_sem] theorem tbytes4 : Abs.tbytes Tryz.prog 4 = 1 := by kernel_rfl
@[go_sem] theorem tbool4 : Abs.tdesc Tryz.prog 4 = .bool := by kernel_rfl
@[go_sem] theorem tok5 : Abs.tok Tryz.prog 5 = true := by kernel_rfl
@[go_sem] theorem tagg5 : Abs.tagg Tryz.prog 5 = false := by kernel_rfl
@[go_sem] theorem tsize5 : Abs.tsize Tryz.prog 5 = 1 := by kernel_rfl
@[go_sem] theorem tzero5 : Abs.tzero Tryz.prog 5 = some [.t (.lit (.int .u8 0))] := by kernel_rfl
@[go_sem] theorem tbytes5 : Abs.tbytes Tryz.prog 5 = 1 := by kernel_rfl
@[go_sem] theorem tint5 : Abs.intD (Abs.tdesc Tryz.prog 5) = some .u8 := by kernel_rfl
@[go_sem] theorem tok6 : Abs.tok Tryz.prog 6 = true := by kernel_rfl
@[go_sem] theorem tagg6 : Abs.tagg Tryz.prog 6 = false := by kernel_rfl
@[go_sem] theorem tsize6 : Abs.tsize Tryz.prog 6 = 1 := by kernel_rfl
@[go_sem] theorem tzero6 : Abs.tzero Tryz.prog 6 = some [.t (.lit (.int .u8 0))] := by kernel_rfl
@[go_sem] theorem tbytes6 : Abs.tbytes Tryz.prog 6 = 1 := by kernel_rfl
@[go_sem] theorem tint6 : Abs.intD (Abs.tdesc Tryz.prog 6) = some .u8 := by kernel_rfl
@[go_sem] theorem tok7 : Abs.tok Tryz.prog 7 = true := by kernel_rfl
@[go_sem] theorem tagg7 : Abs.tagg Tryz.prog 7 = true := by kernel_rfl
@[go_sem] theorem tsize7 : Abs.tsize Tryz.prog 7 = 4 := by kernel_rfl
@[go_sem] theorem tzero7 : Abs.tzero Tryz.prog 7 = some [.t (.lit (.int .i64 0)), .t (.lit (.int .i64 0)), .t (.lit (.bool false)), .t (.lit (.int .u8 0))] := by kernel_rfl
@[go_sem] theorem tbytes7 : Abs.tbytes Tryz.prog 7 = 24 := by kernel_rfl
@[go_sem] theorem tst7 : Abs.isStructD (Abs.tdesc Tryz.prog 7) = true := by kernel_rfl
@[go_sem] theorem tnf7 : Abs.nfields Tryz.prog 7 = 4 := by kernel_rfl
@[go_sem] theorem tpt7 : Abs.partsTok Tryz.prog 7 = true := by kernel_rfl
@[go_sem] theorem tfo7_0 : Abs.foff Tryz.prog 7 0 = 0 := by kernel_rfl
@[go_sem] theorem tft7_0 : Abs.fty Tryz.prog 7 0 = 2 := by kernel_rfl
@[go_sem] theorem tpl7_0 : Abs.placesA Tryz.prog 7 0 = some (0, 1) := by kernel_rfl
@[go_sem] theorem tfo7_1 : Abs.foff Tryz.prog 7 1 = 1 := by kernel_rfl
@[go_sem] theorem tft7_1 : Abs.fty Tryz.prog 7 1 = 3 := by kernel_rfl
@[go_sem] theorem tpl7_1 : Abs.placesA Tryz.prog 7 1 = some (1, 1) := by kernel_rfl
@[go_sem] theorem tfo7_2 : Abs.foff Tryz.prog 7 2 = 2 := by kernel_rfl
@[go_sem] theorem tft7_2 : Abs.fty Tryz.prog 7 2 = 4 := by kernel_rfl
@[go_sem] theorem tpl7_2 : Abs.placesA Tryz.prog 7 2 = some (2, 1) := by kernel_rfl
@[go_sem] theorem tfo7_3 : Abs.foff Tryz.prog 7 3 = 3 := by kernel_rfl
@[go_sem] theorem tft7_3 : Abs.fty Tryz.prog 7 3 = 6 := by kernel_rfl
@[go_sem] theorem tpl7_3 : Abs.placesA Tryz.prog 7 3 = some (3, 1) := by kernel_rfl
@[go_sem] theorem tok8 : Abs.tok Tryz.prog 8 = true := by kernel_rfl
@[go_sem] theorem tagg8 : Abs.tagg Tryz.prog 8 = true := by kernel_rfl
@[go_sem] theorem tsize8 : Abs.tsize Tryz.prog 8 = 4 := by kernel_rfl
@[go_sem] theorem tzero8 : Abs.tzero Tryz.prog 8 = some [.t (.lit (.int .i64 0)), .t (.lit (.int .i64 0)), .t (.lit (.bool false)), .t (.lit (.int .u8 0))] := by kernel_rfl
@[go_sem] theorem tbytes8 : Abs.tbytes Tryz.prog 8 = 24 := by kernel_rfl
@[go_sem] theorem tst8 : Abs.isStructD (Abs.tdesc Tryz.prog 8) = true := by kernel_rfl
@[go_sem] theorem tnf8 : Abs.nfields Tryz.prog 8 = 4 := by kernel_rfl
@[go_sem] theorem tpt8 : Abs.partsTok Tryz.prog 8 = true := by kernel_rfl
@[go_sem] theorem tfo8_0 : Abs.foff Tryz.prog 8 0 = 0 := by kernel_rfl
@[go_sem] theorem tft8_0 : Abs.fty Tryz.prog 8 0 = 2 := by kernel_rfl
@[go_sem] theorem tpl8_0 : Abs.placesA Tryz.prog 8 0 = some (0, 1) := by kernel_rfl
@[go_sem] theorem tfo8_1 : Abs.foff Tryz.prog 8 1 = 1 := by kernel_rfl
@[go_sem] theorem tft8_1 : Abs.fty Tryz.prog 8 1 = 3 := by kernel_rfl
@[go_sem] theorem tpl8_1 : Abs.placesA Tryz.prog 8 1 = some (1, 1) := by kernel_rfl
@[go_sem] theorem tfo8_2 : Abs.foff Tryz.prog 8 2 = 2 := by kernel_rfl
@[go_sem] theorem tft8_2 : Abs.fty Tryz.prog 8 2 = 4 := by kernel_rfl
@[go_sem] theorem tpl8_2 : Abs.placesA Tryz.prog 8 2 = some (2, 1) := by kernel_rfl
@[go_sem] theorem tfo8_3 : Abs.foff Tryz.prog 8 3 = 3 := by kernel_rfl
@[go_sem] theorem tft8_3 : Abs.fty Tryz.prog 8 3 = 6 := by kernel_rfl
@[go_sem] theorem tpl8_3 : Abs.placesA Tryz.prog 8 3 = some (3, 1) := by kernel_rfl
@[go_sem] theorem tok9 : Abs.tok Tryz.prog 9 = true := by kernel_rfl
@[go_sem] theorem tagg9 : Abs.tagg Tryz.prog 9 = false := by kernel_rfl
@[go_sem] theorem tsize9 : Abs.tsize Tryz.prog 9 = 1 := by kernel_rfl
@[go_sem] theorem tzero9 : Abs.tzero Tryz.prog 9 = some [.t (.lit (.string ⟨#[]⟩))] := by kernel_rfl
@[go_sem] theorem tbytes9 : Abs.tbytes Tryz.prog 9 = 16 := by kernel_rfl
@[go_sem] theorem tstr9 : Abs.tdesc Tryz.prog 9 = .string := by kernel_rfl
@[go_sem] theorem tok10 : Abs.tok Tryz.prog 10 = true := by kernel_rfl
@[go_sem] theorem tagg10 : Abs.tagg Tryz.prog 10 = false := by kernel_rfl
@[go_sem] theorem tsize10 : Abs.tsize Tryz.prog 10 = 1 := by kernel_rfl
@[go_sem] theorem tzero10 : Abs.tzero Tryz.prog 10 = some [.t (.lit (.string ⟨#[]⟩))] := by kernel_rfl
@[go_sem] theorem tbytes10 : Abs.tbytes Tryz.prog 10 = 16 := by kernel_rfl
@[go_sem] theorem tstr10 : Abs.tdesc Tryz.prog 10 = .string := by kernel_rfl
@[go_sem] theorem tok11 : Abs.tok Tryz.prog 11 = true := by kernel_rfl
@[go_sem] theorem tagg11 : Abs.tagg Tryz.prog 11 = false := by kernel_rfl
@[go_sem] theorem tsize11 : Abs.tsize Tryz.prog 11 = 1 := by kernel_rfl
@[go_sem] theorem tzero11 : Abs.tzero Tryz.prog 11 = some [.t (.lit (.string ⟨#[]⟩))] := by kernel_rfl
@[go_sem] theorem tbytes11 : Abs.tbytes Tryz.prog 11 = 16 := by kernel_rfl
@[go_sem] theorem tstr11 : Abs.tdesc Tryz.prog 11 = .string := by kernel_rfl
@[go_sem] theorem tok12 : Abs.tok Tryz.prog 12 = true := by kernel_rfl
@[go_sem] theorem tagg12 : Abs.tagg Tryz.prog 12 = false := by kernel_rfl
@[go_sem] theorem tsize12 : Abs.tsize Tryz.prog 12 = 1 := by kernel_rfl
@[go_sem] theorem tzero12 : Abs.tzero Tryz.prog 12 = some [.t (.lit (.int .u64 0))] := by kernel_rfl
@[go_sem] theorem tbytes12 : Abs.tbytes Tryz.prog 12 = 8 := by kernel_rfl
@[go_sem] theorem tint12 : Abs.intD (Abs.tdesc Tryz.prog 12) = some .u64 := by kernel_rfl
@[go_sem] theorem tok13 : Abs.tok Tryz.prog 13 = true := by kernel_rfl
@[go_sem] theorem tagg13 : Abs.tagg Tryz.prog 13 = true := by kernel_rfl
@[go_sem] theorem tsize13 : Abs.tsize Tryz.prog 13 = 2 := by kernel_rfl
@[go_sem] theorem tzero13 : Abs.tzero Tryz.prog 13 = some [.t (.lit (.string ⟨#[]⟩)), .t (.lit (.int .u64 0))] := by kernel_rfl
@[go_sem] theorem tbytes13 : Abs.tbytes Tryz.prog 13 = 24 := by kernel_rfl
@[go_sem] theorem tst13 : Abs.isStructD (Abs.tdesc Tryz.prog 13) = true := by kernel_rfl
@[go_sem] theorem tnf13 : Abs.nfields Tryz.prog 13 = 2 := by kernel_rfl
@[go_sem] theorem tpt13 : Abs.partsTok Tryz.prog 13 = true := by kernel_rfl
@[go_sem] theorem tfo13_0 : Abs.foff Tryz.prog 13 0 = 0 := by kernel_rfl
@[go_sem] theorem tft13_0 : Abs.fty Tryz.prog 13 0 = 9 := by kernel_rfl
@[go_sem] theorem tpl13_0 : Abs.placesA Tryz.prog 13 0 = some (0, 1) := by kernel_rfl
@[go_sem] theorem tfo13_1 : Abs.foff Tryz.prog 13 1 = 1 := by kernel_rfl
@[go_sem] theorem tft13_1 : Abs.fty Tryz.prog 13 1 = 12 := by kernel_rfl
@[go_sem] theorem tpl13_1 : Abs.placesA Tryz.prog 13 1 = some (1, 1) := by kernel_rfl
@[go_sem] theorem tok14 : Abs.tok Tryz.prog 14 = true := by kernel_rfl
@[go_sem] theorem tagg14 : Abs.tagg Tryz.prog 14 = true := by kernel_rfl
@[go_sem] theorem tsize14 : Abs.tsize Tryz.prog 14 = 2 := by kernel_rfl
@[go_sem] theorem tzero14 : Abs.tzero Tryz.prog 14 = some [.t (.lit (.string ⟨#[]⟩)), .t (.lit (.int .u64 0))] := by kernel_rfl
@[go_sem] theorem tbytes14 : Abs.tbytes Tryz.prog 14 = 24 := by kernel_rfl
@[go_sem] theorem tst14 : Abs.isStructD (Abs.tdesc Tryz.prog 14) = true := by kernel_rfl
@[go_sem] theorem tnf14 : Abs.nfields Tryz.prog 14 = 2 := by kernel_rfl
@[go_sem] theorem tpt14 : Abs.partsTok Tryz.prog 14 = true := by kernel_rfl
@[go_sem] theorem tfo14_0 : Abs.foff Tryz.prog 14 0 = 0 := by kernel_rfl
@[go_sem] theorem tft14_0 : Abs.fty Tryz.prog 14 0 = 9 := by kernel_rfl
@[go_sem] theorem tpl14_0 : Abs.placesA Tryz.prog 14 0 = some (0, 1) := by kernel_rfl
@[go_sem] theorem tfo14_1 : Abs.foff Tryz.prog 14 1 = 1 := by kernel_rfl
@[go_sem] theorem tft14_1 : Abs.fty Tryz.prog 14 1 = 12 := by kernel_rfl
@[go_sem] theorem tpl14_1 : Abs.placesA Tryz.prog 14 1 = some (1, 1) := by kernel_rfl
@[go_sem] theorem tok15 : Abs.tok Tryz.prog 15 = true := by kernel_rfl
@[go_sem] theorem tagg15 : Abs.tagg Tryz.prog 15 = false := by kernel_rfl
@[go_sem] theorem tsize15 : Abs.tsize Tryz.prog 15 = 1 := by kernel_rfl
@[go_sem] theorem tzero15 : Abs.tzero Tryz.prog 15 = some [.t (.lit (.pointer none))] := by kernel_rfl
@[go_sem] theorem tbytes15 : Abs.tbytes Tryz.prog 15 = 8 := by kernel_rfl
@[go_sem] theorem tok16 : Abs.tok Tryz.prog 16 = true := by kernel_rfl
@[go_sem] theorem tagg16 : Abs.tagg Tryz.prog 16 = false := by kernel_rfl
@[go_sem] theorem tsize16 : Abs.tsize Tryz.prog 16 = 1 := by kernel_rfl
@[go_sem] theorem tzero16 : Abs.tzero Tryz.prog 16 = some [.t (.lit (.pointer none))] := by kernel_rfl
@[go_sem] theorem tbytes16 : Abs.tbytes Tryz.prog 16 = 8 := by kernel_rfl
@[go_sem] theorem tok17 : Abs.tok Tryz.prog 17 = true := by kernel_rfl
@[go_sem] theorem tagg17 : Abs.tagg Tryz.prog 17 = false := by kernel_rfl
@[go_sem] theorem tsize17 : Abs.tsize Tryz.prog 17 = 1 := by kernel_rfl
@[go_sem] theorem tzero17 : Abs.tzero Tryz.prog 17 = some [.t (.lit (.pointer none))] := by kernel_rfl
@[go_sem] theorem tbytes17 : Abs.tbytes Tryz.prog 17 = 8 := by kernel_rfl
@[go_sem] theorem tok18 : Abs.tok Tryz.prog 18 = true := by kernel_rfl
@[go_sem] theorem tagg18 : Abs.tagg Tryz.prog 18 = true := by kernel_rfl
@[go_sem] theorem tsize18 : Abs.tsize Tryz.prog 18 = 1 := by kernel_rfl
@[go_sem] theorem tzero18 : Abs.tzero Tryz.prog 18 = some [.t (.lit (.pointer none))] := by kernel_rfl
@[go_sem] theorem tbytes18 : Abs.tbytes Tryz.prog 18 = 8 := by kernel_rfl
@[go_sem] theorem tst18 : Abs.isStructD (Abs.tdesc Tryz.prog 18) = true := by kernel_rfl
@[go_sem] theorem tnf18 : Abs.nfields Tryz.prog 18 = 1 := by kernel_rfl
@[go_sem] theorem tpt18 : Abs.partsTok Tryz.prog 18 = true := by kernel_rfl
@[go_sem] theorem tfo18_0 : Abs.foff Tryz.prog 18 0 = 0 := by kernel_rfl
@[go_sem] theorem tft18_0 : Abs.fty Tryz.prog 18 0 = 17 := by kernel_rfl
@[go_sem] theorem tpl18_0 : Abs.placesA Tryz.prog 18 0 = some (0, 1) := by kernel_rfl
@[go_sem] theorem tok19 : Abs.tok Tryz.prog 19 = true := by kernel_rfl
@[go_sem] theorem tagg19 : Abs.tagg Tryz.prog 19 = true := by kernel_rfl
@[go_sem] theorem tsize19 : Abs.tsize Tryz.prog 19 = 1 := by kernel_rfl
@[go_sem] theorem tzero19 : Abs.tzero Tryz.prog 19 = some [.t (.lit (.pointer none))] := by kernel_rfl
@[go_sem] theorem tbytes19 : Abs.tbytes Tryz.prog 19 = 8 := by kernel_rfl
@[go_sem] theorem tst19 : Abs.isStructD (Abs.tdesc Tryz.prog 19) = true := by kernel_rfl
@[go_sem] theorem tnf19 : Abs.nfields Tryz.prog 19 = 1 := by kernel_rfl
@[go_sem] theorem tpt19 : Abs.partsTok Tryz.prog 19 = true := by kernel_rfl
@[go_sem] theorem tfo19_0 : Abs.foff Tryz.prog 19 0 = 0 := by kernel_rfl
@[go_sem] theorem tft19_0 : Abs.fty Tryz.prog 19 0 = 17 := by kernel_rfl
@[go_sem] theorem tpl19_0 : Abs.placesA Tryz.prog 19 0 = some (0, 1) := by kernel_rfl
@[go_sem] theorem tok21 : Abs.tok Tryz.prog 21 = true := by kernel_rfl
@[go_sem] theorem tagg21 : Abs.tagg Tryz.prog 21 = false := by kernel_rfl
@[go_sem] theorem tsize21 : Abs.tsize Tryz.prog 21 = 1 := by kernel_rfl
@[go_sem] theorem tzero21 : Abs.tzero Tryz.prog 21 = some [.t (.lit (.int .i32 0))] := by kernel_rfl
@[go_sem] theorem tbytes21 : Abs.tbytes Tryz.prog 21 = 4 := by kernel_rfl
@[go_sem] theorem tint21 : Abs.intD (Abs.tdesc Tryz.prog 21) = some .i32 := by kernel_rfl
@[go_sem] theorem tok22 : Abs.tok Tryz.prog 22 = true := by kernel_rfl
@[go_sem] theorem tagg22 : Abs.tagg Tryz.prog 22 = false := by kernel_rfl
@[go_sem] theorem tsize22 : Abs.tsize Tryz.prog 22 = 1 := by kernel_rfl
@[go_sem] theorem tzero22 : Abs.tzero Tryz.prog 22 = some [.t (.seq (some true) [])] := by kernel_rfl
@[go_sem] theorem tbytes22 : Abs.tbytes Tryz.prog 22 = 24 := by kernel_rfl
@[go_sem] theorem tsl22 : Abs.isSliceD (Abs.tdesc Tryz.prog 22) = true := by kernel_rfl
@[go_sem] theorem telem22 : Abs.telem Tryz.prog 22 = 38 := by kernel_rfl
@[go_sem] theorem tok23 : Abs.tok Tryz.prog 23 = true := by kernel_rfl
@[go_sem] theorem tagg23 : Abs.tagg Tryz.prog 23 = false := by kernel_rfl
@[go_sem] theorem tsize23 : Abs.tsize Tryz.prog 23 = 1 := by kernel_rfl
@[go_sem] theorem tzero23 : Abs.tzero Tryz.prog 23 = some [.t (.lit .nilFunc)] := by kernel_rfl
@[go_sem] theorem tok24 : Abs.tok Tryz.prog 24 = true := by kernel_rfl
@[go_sem] theorem tagg24 : Abs.tagg Tryz.prog 24 = false := by kernel_rfl
@[go_sem] theorem tsize24 : Abs.tsize Tryz.prog 24 = 1 := by kernel_rfl
@[go_sem] theorem tzero24 : Abs.tzero Tryz.prog 24 = some [.t (.lit .nilFunc)] := by kernel_rfl
@[go_sem] theorem tok25 : Abs.tok Tryz.prog 25 = true := by kernel_rfl
@[go_sem] theorem tagg25 : Abs.tagg Tryz.prog 25 = false := by kernel_rfl
@[go_sem] theorem tsize25 : Abs.tsize Tryz.prog 25 = 1 := by kernel_rfl
@[go_sem] theorem tzero25 : Abs.tzero Tryz.prog 25 = some [.t (.seq (some true) [])] := by kernel_rfl
@[go_sem] theorem tbytes25 : Abs.tbytes Tryz.prog 25 = 24 := by kernel_rfl
@[go_sem] theorem tsl25 : Abs.isSliceD (Abs.tdesc Tryz.prog 25) = true := by kernel_rfl
@[go_sem] theorem telem25 : Abs.telem Tryz.prog 25 = 34 := by kernel_rfl
@[go_sem] theorem tok27 : Abs.tok Tryz.prog 27 = true := by kernel_rfl
@[go_sem] theorem tagg27 : Abs.tagg Tryz.prog 27 = false := by kernel_rfl
@[go_sem] theorem tsize27 : Abs.tsize Tryz.prog 27 = 1 := by kernel_rfl
@[go_sem] theorem tzero27 : Abs.tzero Tryz.prog 27 = some [.t (.lit .nilFunc)] := by kernel_rfl
@[go_sem] theorem tok28 : Abs.tok Tryz.prog 28 = true := by kernel_rfl
@[go_sem] theorem tagg28 : Abs.tagg Tryz.prog 28 = false := by kernel_rfl
@[go_sem] theorem tsize28 : Abs.tsize Tryz.prog 28 = 1 := by kernel_rfl
@[go_sem] theorem tzero28 : Abs.tzero Tryz.prog 28 = some [.t (.lit .nilFunc)] := by kernel_rfl
@[go_sem] theorem tok29 : Abs.tok Tryz.prog 29 = true := by kernel_rfl
@[go_sem] theorem tagg29 : Abs.tagg Tryz.prog 29 = false := by kernel_rfl
@[go_sem] theorem tsize29 : Abs.tsize Tryz.prog 29 = 1 := by kernel_rfl
@[go_sem] theorem tzero29 : Abs.tzero Tryz.prog 29 = some [.t (.lit .nilFunc)] := by kernel_rfl
@[go_sem] theorem tok30 : Abs.tok Tryz.prog 30 = true := by kernel_rfl
@[go_sem] theorem tagg30 : Abs.tagg Tryz.prog 30 = false := by kernel_rfl
@[go_sem] theorem tsize30 : Abs.tsize Tryz.prog 30 = 1 := by kernel_rfl
@[go_sem] theorem tzero30 : Abs.tzero Tryz.prog 30 = some [.t (.seq (some true) [])] := by kernel_rfl
@[go_sem] theorem tbytes30 : Abs.tbytes Tryz.prog 30 = 24 := by kernel_rfl
@[go_sem] theorem tsl30 : Abs.isSliceD (Abs.tdesc Tryz.prog 30) = true := by kernel_rfl
@[go_sem] theorem telem30 : Abs.telem Tryz.prog 30 = 79 := by kernel_rfl
@[go_sem] theorem tok31 : Abs.tok Tryz.prog 31 = true := by kernel_rfl
@[go_sem] theorem tagg31 : Abs.tagg Tryz.prog 31 = true := by kernel_rfl
@[go_sem] theorem tsize31 : Abs.tsize Tryz.prog 31 = 2 := by kernel_rfl
@[go_sem] theorem tzero31 : Abs.tzero Tryz.prog 31 = some [.t (.lit (.bool false)), .t (.seq (some true) [])] := by kernel_rfl
@[go_sem] theorem tbytes31 : Abs.tbytes Tryz.prog 31 = 32 := by kernel_rfl
@[go_sem] theorem tst31 : Abs.isStructD (Abs.tdesc Tryz.prog 31) = true := by kernel_rfl
@[go_sem] theorem tnf31 : Abs.nfields Tryz.prog 31 = 2 := by kernel_rfl
@[go_sem] theorem tpt31 : Abs.partsTok Tryz.prog 31 = true := by kernel_rfl
@[go_sem] theorem tfo31_0 : Abs.foff Tryz.prog 31 0 = 0 := by kernel_rfl
@[go_sem] theorem tft31_0 : Abs.fty Tryz.prog 31 0 = 4 := by kernel_rfl
@[go_sem] theorem tpl31_0 : Abs.placesA Tryz.prog 31 0 = some (0, 1) := by kernel_rfl
@[go_sem] theorem tfo31_1 : Abs.foff Tryz.prog 31 1 = 1 := by kernel_rfl
@[go_sem] theorem tft31_1 : Abs.fty Tryz.prog 31 1 = 30 := by kernel_rfl
@[go_sem] theorem tpl31_1 : Abs.placesA Tryz.prog 31 1 = some (1, 1) := by kernel_rfl
@[go_sem] theorem tok32 : Abs.tok Tryz.prog 32 = true := by kernel_rfl
@[go_sem] theorem tagg32 : Abs.tagg Tryz.prog 32 = true := by kernel_rfl
@[go_sem] theorem tsize32 : Abs.tsize Tryz.prog 32 = 2 := by kernel_rfl
@[go_sem] theorem tzero32 : Abs.tzero Tryz.prog 32 = some [.t (.lit (.bool false)), .t (.seq (some true) [])] := by kernel_rfl
@[go_sem] theorem tbytes32 : Abs.tbytes Tryz.prog 32 = 32 := by kernel_rfl
@[go_sem] theorem tst32 : Abs.isStructD (Abs.tdesc Tryz.prog 32) = true := by kernel_rfl
@[go_sem] theorem tnf32 : Abs.nfields Tryz.prog 32 = 2 := by kernel_rfl
@[go_sem] theorem tpt32 : Abs.partsTok Tryz.prog 32 = true := by kernel_rfl
@[go_sem] theorem tfo32_0 : Abs.foff Tryz.prog 32 0 = 0 := by kernel_rfl
@[go_sem] theorem tft32_0 : Abs.fty Tryz.prog 32 0 = 4 := by kernel_rfl
@[go_sem] theorem tpl32_0 : Abs.placesA Tryz.prog 32 0 = some (0, 1) := by kernel_rfl
@[go_sem] theorem tfo32_1 : Abs.foff Tryz.prog 32 1 = 1 := by kernel_rfl
@[go_sem] theorem tft32_1 : Abs.fty Tryz.prog 32 1 = 30 := by kernel_rfl
@[go_sem] theorem tpl32_1 : Abs.placesA Tryz.prog 32 1 = some (1, 1) := by kernel_rfl
@[go_sem] theorem tok33 : Abs.tok Tryz.prog 33 = true := by kernel_rfl
@[go_sem] theorem tagg33 : Abs.tagg Tryz.prog 33 = true := by kernel_rfl
@[go_sem] theorem tsize33 : Abs.tsize Tryz.prog 33 = 3 := by kernel_rfl
@[go_sem] theorem tzero33 : Abs.tzero Tryz.prog 33 = some [.t (.lit (.bool false)), .t (.seq (some true) []), .t (.seq (some true) [])] := by kernel_rfl
@[go_sem] theorem tbytes33 : Abs.tbytes Tryz.prog 33 = 56 := by kernel_rfl
@[go_sem] theorem tst33 : Abs.isStructD (Abs.tdesc Tryz.prog 33) = true := by kernel_rfl
@[go_sem] theorem tnf33 : Abs.nfields Tryz.prog 33 = 2 := by kernel_rfl
@[go_sem] theorem tpt33 : Abs.partsTok Tryz.prog 33 = true := by kernel_rfl
@[go_sem] theorem tfo33_0 : Abs.foff Tryz.prog 33 0 = 0 := by kernel_rfl
@[go_sem] theorem tft33_0 : Abs.fty Tryz.prog 33 0 = 32 := by kernel_rfl
@[go_sem] theorem tpl33_0 : Abs.placesA Tryz.prog 33 0 = some (0, 2) := by kernel_rfl
@[go_sem] theorem tfo33_1 : Abs.foff Tryz.prog 33 1 = 2 := by kernel_rfl
@[go_sem] theorem tft33_1 : Abs.fty Tryz.prog 33 1 = 30 := by kernel_rfl
@[go_sem] theorem tpl33_1 : Abs.placesA Tryz.prog 33 1 = some (2, 1) := by kernel_rfl
@[go_sem] theorem tok34 : Abs.tok Tryz.prog 34 = true := by kernel_rfl
@[go_sem] theorem tagg34 : Abs.tagg Tryz.prog 34 = true := by kernel_rfl
@[go_sem] theorem tsize34 : Abs.tsize Tryz.prog 34 = 3 := by kernel_rfl
@[go_sem] theorem tzero34 : Abs.tzero Tryz.prog 34 = some [.t (.lit (.bool false)), .t (.seq (some true) []), .t (.seq (some true) [])] := by kernel_rfl
@[go_sem] theorem tbytes34 : Abs.tbytes Tryz.prog 34 = 56 := by kernel_rfl
@[go_sem] theorem tst34 : Abs.isStructD (Abs.tdesc Tryz.prog 34) = true := by kernel_rfl
@[go_sem] theorem tnf34 : Abs.nfields Tryz.prog 34 = 2 := by kernel_rfl
@[go_sem] theorem tpt34 : Abs.partsTok Tryz.prog 34 = true := by kernel_rfl
@[go_sem] theorem tfo34_0 : Abs.foff Tryz.prog 34 0 = 0 := by kernel_rfl
@[go_sem] theorem tft34_0 : Abs.fty Tryz.prog 34 0 = 32 := by kernel_rfl
@[go_sem] theorem tpl34_0 : Abs.placesA Tryz.prog 34 0 = some (0, 2) := by kernel_rfl
@[go_sem] theorem tfo34_1 : Abs.foff Tryz.prog 34 1 = 2 := by kernel_rfl
@[go_sem] theorem tft34_1 : Abs.fty Tryz.prog 34 1 = 30 := by kernel_rfl
@[go_sem] theorem tpl34_1 : Abs.placesA Tryz.prog 34 1 = some (2, 1) := by kernel_rfl
@[go_sem] theorem tok35 : Abs.tok Tryz.prog 35 = true := by kernel_rfl
@[go_sem] theorem tagg35 : Abs.tagg Tryz.prog 35 = false := by kernel_rfl
@[go_sem] theorem tsize35 : Abs.tsize Tryz.prog 35 = 1 := by kernel_rfl
@[go_sem] theorem tzero35 : Abs.tzero Tryz.prog 35 = some [.t (.lit .nilFunc)] := by kernel_rfl
@[go_sem] theorem tok36 : Abs.tok Tryz.prog 36 = true := by kernel_rfl
@[go_sem] theorem tagg36 : Abs.tagg Tryz.prog 36 = false := by kernel_rfl
@[go_sem] theorem tsize36 : Abs.tsize Tryz.prog 36 = 1 := by kernel_rfl
@[go_sem] theorem tzero36 : Abs.tzero Tryz.prog 36 = some [.t (.seq (some true) [])] := by kernel_rfl
@[go_sem] theorem tbytes36 : Abs.tbytes Tryz.prog 36 = 24 := by kernel_rfl
@[go_sem] theorem tsl36 : Abs.isSliceD (Abs.tdesc Tryz.prog 36) = true := by kernel_rfl
@[go_sem] theorem telem36 : Abs.telem Tryz.prog 36 = 100 := by kernel_rfl
@[go_sem] theorem tok37 : Abs.tok Tryz.prog 37 = true := by kernel_rfl
@[go_sem] theorem tagg37 : Abs.tagg Tryz.prog 37 = true := by kernel_rfl
@[go_sem] theorem tsize37 : Abs.tsize Tryz.prog 37 = 3 := by kernel_rfl
@[go_sem] theorem tzero37 : Abs.tzero Tryz.prog 37 = some [.t (.seq (some true) []), .t (.lit (.bool false)), .t (.seq (some true) [])] := by kernel_rfl
@[go_sem] theorem tbytes37 : Abs.tbytes Tryz.prog 37 = 56 := by kernel_rfl
@[go_sem] theorem tst37 : Abs.isStructD (Abs.tdesc Tryz.prog 37) = true := by kernel_rfl
@[go_sem] theorem tnf37 : Abs.nfields Tryz.prog 37 = 2 := by kernel_rfl
@[go_sem] theorem tpt37 : Abs.partsTok Tryz.prog 37 = true := by kernel_rfl
@[go_sem] theorem tfo37_0 : Abs.foff Tryz.prog 37 0 = 0 := by kernel_rfl
@[go_sem] theorem tft37_0 : Abs.fty Tryz.prog 37 0 = 36 := by kernel_rfl
@[go_sem] theorem tpl37_0 : Abs.placesA Tryz.prog 37 0 = some (0, 1) := by kernel_rfl
@[go_sem] theorem tfo37_1 : Abs.foff Tryz.prog 37 1 = 1 := by kernel_rfl
@[go_sem] theorem tft37_1 : Abs.fty Tryz.prog 37 1 = 32 := by kernel_rfl
@[go_sem] theorem tpl37_1 : Abs.placesA Tryz.prog 37 1 = some (1, 2) := by kernel_rfl
@[go_sem] theorem tok38 : Abs.tok Tryz.prog 38 = true := by kernel_rfl
@[go_sem] theorem tagg38 : Abs.tagg Tryz.prog 38 = true := by kernel_rfl
@[go_sem] theorem tsize38 : Abs.tsize Tryz.prog 38 = 3 := by kernel_rfl
@[go_sem] theorem tzero38 : Abs.tzero Tryz.prog 38 = some [.t (.seq (some true) []), .t (.lit (.bool false)), .t (.seq (some true) [])] := by kernel_rfl
@[go_sem] theorem tbytes38 : Abs.tbytes Tryz.prog 38 = 56 := by kernel_rfl
@[go_sem] theorem tst38 : Abs.isStructD (Abs.tdesc Tryz.prog 38) = true := by kernel_rfl
@[go_sem] theorem tnf38 : Abs.nfields Tryz.prog 38 = 2 := by kernel_rfl
@[go_sem] theorem tpt38 : Abs.partsTok Tryz.prog 38 = true := by kernel_rfl
@[go_sem] theorem tfo38_0 : Abs.foff Tryz.prog 38 0 = 0 := by kernel_rfl
@[go_sem] theorem tft38_0 : Abs.fty Tryz.prog 38 0 = 36 := by kernel_rfl
@[go_sem] theorem tpl38_0 : Abs.placesA Tryz.prog 38 0 = some (0, 1) := by kernel_rfl
@[go_sem] theorem tfo38_1 : Abs.foff Tryz.prog 38 1 = 1 := by kernel_rfl
@[go_sem] theorem tft38_1 : Abs.fty Tryz.prog 38 1 = 32 := by kernel_rfl
@[go_sem] theorem tpl38_1 : Abs.placesA Tryz.prog 38 1 = some (1, 2) := by kernel_rfl
@[go_sem] theorem tok39 : Abs.tok Tryz.prog 39 = true := by kernel_rfl
@[go_sem] theorem tagg39 : Abs.tagg Tryz.prog 39 = false := by kernel_rfl
@[go_sem] theorem tsize39 : Abs.tsize Tryz.prog 39 = 1 := by kernel_rfl
@[go_sem] theorem tzero39 : Abs.tzero Tryz.prog 39 = some [.t (.lit .nilFunc)] := by kernel_rfl
@[go_sem] theorem tok40 : Abs.tok Tryz.prog 40 = true := by kernel_rfl
@[go_sem] theorem tagg40 : Abs.tagg Tryz.prog 40 = false := by kernel_rfl
@[go_sem] theorem tsize40 : Abs.tsize Tryz.prog 40 = 1 := by kernel_rfl
@[go_sem] theorem tzero40 : Abs.tzero Tryz.prog 40 = some [.t (.lit .nilFunc)] := by kernel_rfl
@[go_sem] theorem tok41 : Abs.tok Tryz.prog 41 = true := by kernel_rfl
@[go_sem] theorem tagg41 : Abs.tagg Tryz.prog 41 = false := by kernel_rfl
@[go_sem] theorem tsize41 : Abs.tsize Tryz.prog 41 = 1 := by kernel_rfl
@[go_sem] theorem tzero41 : Abs.tzero Tryz.prog 41 = some [.t (.lit .nilFunc)] := by kernel_rfl
@[go_sem] theorem tok42 : Abs.tok Tryz.prog 42 = true := by kernel_rfl
@[go_sem] theorem tagg42 : Abs.tagg Tryz.prog 42 = false := by kernel_rfl
@[go_sem] theorem tsize42 : Abs.tsize Tryz.prog 42 = 1 := by kernel_rfl
@[go_sem] theorem tzero42 : Abs.tzero Tryz.prog 42 = some [.t (.lit .nilFunc)] := by kernel_rfl
@[go_sem] theorem tok43 : Abs.tok Tryz.prog 43 = true := by kernel_rfl
@[go_sem] theorem tagg43 : Abs.tagg Tryz.prog 43 = false := by kernel_rfl
@[go_sem] theorem tsize43 : Abs.tsize Tryz.prog 43 = 1 := by kernel_rfl
@[go_sem] theorem tzero43 : Abs.tzero Tryz.prog 43 = some [.t (.lit (.int .i16 0))] := by kernel_rfl
@[go_sem] theorem tbytes43 : Abs.tbytes Tryz.prog 43 = 2 := by kernel_rfl
@[go_sem] theorem tint43 : Abs.intD (Abs.tdesc Tryz.prog 43) = some .i16 := by kernel_rfl
@[go_sem] theorem tok44 : Abs.tok Tryz.prog 44 = true := by kernel_rfl
@[go_sem] theorem tagg44 : Abs.tagg Tryz.prog 44 = false := by kernel_rfl
@[go_sem] theorem tsize44 : Abs.tsize Tryz.prog 44 = 1 := by kernel_rfl
@[go_sem] theorem tzero44 : Abs.tzero Tryz.prog 44 = some [.t (.lit .nilFunc)] := by kernel_rfl
@[go_sem] theorem tok45 : Abs.tok Tryz.prog 45 = true := by kernel_rfl
@[go_sem] theorem tagg45 : Abs.tagg Tryz.prog 45 = false := by kernel_rfl
@[go_sem] theorem tsize45 : Abs.tsize Tryz.prog 45 = 1 := by kernel_rfl
@[go_sem] theorem tzero45 : Abs.tzero Tryz.prog 45 = some [.t (.lit .nilFunc)] := by kernel_rfl
@[go_sem] theorem tok46 : Abs.tok Tryz.prog 46 = true := by kernel_rfl
@[go_sem] theorem tagg46 : Abs.tagg Tryz.prog 46 = false := by kernel_rfl
@[go_sem] theorem tsize46 : Abs.tsize Tryz.prog 46 = 1 := by kernel_rfl
@[go_sem] theorem tzero46 : Abs.tzero Tryz.prog 46 = some [.t (.lit .nilFunc)] := by kernel_rfl
@[go_sem] theorem tok47 : Abs.tok Tryz.prog 47 = true := by kernel_rfl
@[go_sem] theorem tagg47 : Abs.tagg Tryz.prog 47 = false := by kernel_rfl
@[go_sem] theorem tsize47 : Abs.tsize Tryz.prog 47 = 1 := by kernel_rfl
@[go_sem] theorem tzero47 : Abs.tzero Tryz.prog 47 = some [.t (.lit .nilFunc)] := by kernel_rfl
@[go_sem] theorem tok48 : Abs.tok Tryz.prog 48 = true := by kernel_rfl
@[go_sem] theorem tagg48 : Abs.tagg Tryz.prog 48 = false := by kernel_rfl
@[go_sem] theorem tsize48 : Abs.tsize Tryz.prog 48 = 1 := by kernel_rfl
@[go_sem] theorem tzero48 : Abs.tzero Tryz.prog 48 = some [.t (.lit .nilFunc)] := by kernel_rfl
@[go_sem] theorem tok49 : Abs.tok Tryz.prog 49 = true := by kernel_rfl
@[go_sem] theorem tagg49 : Abs.tagg Tryz.prog 49 = false := by kernel_rfl
@[go_sem] theorem tsize49 : Abs.tsize Tryz.prog 49 = 1 := by kernel_rfl
@[go_sem] theorem tzero49 : Abs.tzero Tryz.prog 49 = some [.t (.lit .nilFunc)] := by kernel_rfl
@[go_sem] theorem tok50 : Abs.tok Tryz.prog 50 = true := by kernel_rfl
@[go_sem] theorem tagg50 : Abs.tagg Tryz.prog 50 = false := by kernel_rfl
@[go_sem] theorem tsize50 : Abs.tsize Tryz.prog 50 = 1 := by kernel_rfl
@[go_sem] theorem tzero50 : Abs.tzero Tryz.prog 50 = some [.t (.lit .nilFunc)] := by kernel_rfl
@[go_sem] theorem tok51 : Abs.tok Tryz.prog 51 = true := by kernel_rfl
@[go_sem] theorem tagg51 : Abs.tagg Tryz.prog 51 = false := by kernel_rfl
@[go_sem] theorem tsize51 : Abs.tsize Tryz.prog 51 = 1 := by kernel_rfl
@[go_sem] theorem tzero51 : Abs.tzero Tryz.prog 51 = some [.t (.lit .nilFunc)] := by kernel_rfl
@[go_sem] theorem tok52 : Abs.tok Tryz.prog 52 = true := by kernel_rfl
@[go_sem] theorem tagg52 : Abs.tagg Tryz.prog 52 = false := by kernel_rfl
@[go_sem] theorem tsize52 : Abs.tsize Tryz.prog 52 = 1 := by kernel_rfl
@[go_sem] theorem tzero52 : Abs.tzero Tryz.prog 52 = some [.t (.lit .nilFunc)] := by kernel_rfl
@[go_sem] theorem tok53 : Abs.tok Tryz.prog 53 = true := by kernel_rfl
@[go_sem] theorem tagg53 : Abs.tagg Tryz.prog 53 = false := by kernel_rfl
@[go_sem] theorem tsize53 : Abs.tsize Tryz.prog 53 = 1 := by kernel_rfl
@[go_sem] theorem tzero53 : Abs.tzero Tryz.prog 53 = some [.t (.lit .nilFunc)] := by kernel_rfl
@[go_sem] theorem tok55 : Abs.tok Tryz.prog 55 = true := by kernel_rfl
@[go_sem] theorem tagg55 : Abs.tagg Tryz.prog 55 = false := by kernel_rfl
@[go_sem] theorem tsize55 : Abs.tsize Tryz.prog 55 = 1 := by kernel_rfl
@[go_sem] theorem tzero55 : Abs.tzero Tryz.prog 55 = some [.t (.lit .nilFunc)] := by kernel_rfl
@[go_sem] theorem tok56 : Abs.tok Tryz.prog 56 = true := by kernel_rfl
@[go_sem] theorem tagg56 : Abs.tagg Tryz.prog 56 = false := by kernel_rfl
@[go_sem] theorem tsize56 : Abs.tsize Tryz.prog 56 = 1 := by kernel_rfl
@[go_sem] theorem tzero56 : Abs.tzero Tryz.prog 56 = some [.t (.lit .nilFunc)] := by kernel_rfl
@[go_sem] theorem tok57 : Abs.tok Tryz.prog 57 = true := by kernel_rfl
@[go_sem] theorem tagg57 : Abs.tagg Tryz.prog 57 = false := by kernel_rfl
@[go_sem] theorem tsize57 : Abs.tsize Tryz.prog 57 = 1 := by kernel_rfl
@[go_sem] theorem tzero57 : Abs.tzero Tryz.prog 57 = some [.t (.lit .nilFunc)] := by kernel_rfl
@[go_sem] theorem tok59 : Abs.tok Tryz.prog 59 = true := by kernel_rfl
@[go_sem] theorem tagg59 : Abs.tagg Tryz.prog 59 = false := by kernel_rfl
@[go_sem] theorem tsize59 : Abs.tsize Tryz.prog 59 = 1 := by kernel_rfl
@[go_sem] theorem tzero59 : Abs.tzero Tryz.prog 59 = some [.t (.lit .nilFunc)] := by kernel_rfl
@[go_sem] theorem tok61 : Abs.tok Tryz.prog 61 = true := by kernel_rfl
@[go_sem] theorem tagg61 : Abs.tagg Tryz.prog 61 = false := by kernel_rfl
@[go_sem] theorem tsize61 : Abs.tsize Tryz.prog 61 = 1 := by kernel_rfl
@[go_sem] theorem tzero61 : Abs.tzero Tryz.prog 61 = some [.t (.lit .nilFunc)] := by kernel_rfl
@[go_sem] theorem tok62 : Abs.tok Tryz.prog 62 = true := by kernel_rfl
@[go_sem] theorem tagg62 : Abs.tagg Tryz.prog 62 = false := by kernel_rfl
@[go_sem] theorem tsize62 : Abs.tsize Tryz.prog 62 = 1 := by kernel_rfl
@[go_sem] theorem tzero62 : Abs.tzero Tryz.prog 62 = some [.t (.lit .nilFunc)] := by kernel_rfl
@[go_sem] theorem tok63 : Abs.tok Tryz.prog 63 = true := by kernel_rfl
@[go_sem] theorem tagg63 : Abs.tagg Tryz.prog 63 = false := by kernel_rfl
@[go_sem] theorem tsize63 : Abs.tsize Tryz.prog 63 = 1 := by kernel_rfl
@[go_sem] theorem tzero63 : Abs.tzero Tryz.prog 63 = some [.t (.lit .nilFunc)] := by kernel_rfl
@[go_sem] theorem tok65 : Abs.tok Tryz.prog 65 = true := by kernel_rfl
@[go_sem] theorem tagg65 : Abs.tagg Tryz.prog 65 = false := by kernel_rfl
@[go_sem] theorem tsize65 : Abs.tsize Tryz.prog 65 = 1 := by kernel_rfl
@[go_sem] theorem tzero65 : Abs.tzero Tryz.prog 65 = some [.t (.lit .nilFunc)] := by kernel_rfl
@[go_sem] theorem tok66 : Abs.tok Tryz.prog 66 = true := by kernel_rfl
@[go_sem] theorem tagg66 : Abs.tagg Tryz.prog 66 = false := by kernel_rfl
@[go_sem] theorem tsize66 : Abs.tsize Tryz.prog 66 = 1 := by kernel_rfl
@[go_sem] theorem tzero66 : Abs.tzero Tryz.prog 66 = some [.t (.lit .nilFunc)] := by kernel_rfl
@[go_sem] theorem tok67 : Abs.tok Tryz.prog 67 = true := by kernel_rfl
@[go_sem] theorem tagg67 : Abs.tagg Tryz.prog 67 = false := by kernel_rfl
@[go_sem] theorem tsize67 : Abs.tsize Tryz.prog 67 = 1 := by kernel_rfl
@[go_sem] theorem tzero67 : Abs.tzero Tryz.prog 67 = some [.t (.lit .nilFunc)] := by kernel_rfl
@[go_sem] theorem tok68 : Abs.tok Tryz.prog 68 = true := by kernel_rfl
@[go_sem] theorem tagg68 : Abs.tagg Tryz.prog 68 = false := by kernel_rfl
@[go_sem] theorem tsize68 : Abs.tsize Tryz.prog 68 = 1 := by kernel_rfl
@[go_sem] theorem tzero68 : Abs.tzero Tryz.prog 68 = some [.t (.lit .nilFunc)] := by kernel_rfl
@[go_sem] theorem tok69 : Abs.tok Tryz.prog 69 = true := by kernel_rfl
@[go_sem] theorem tagg69 : Abs.tagg Tryz.prog 69 = false := by kernel_rfl
@[go_sem] theorem tsize69 : Abs.tsize Tryz.prog 69 = 1 := by kernel_rfl
@[go_sem] theorem tzero69 : Abs.tzero Tryz.prog 69 = some [.t (.lit .nilFunc)] := by kernel_rfl
@[go_sem] theorem tok70 : Abs.tok Tryz.prog 70 = true := by kernel_rfl
@[go_sem] theorem tagg70 : Abs.tagg Tryz.prog 70 = false := by kernel_rfl
@[go_sem] theorem tsize70 : Abs.tsize Tryz.prog 70 = 1 := by kernel_rfl
@[go_sem] theorem tzero70 : Abs.tzero Tryz.prog 70 = some [.t (.seq (some true) [])] := by kernel_rfl
@[go_sem] theorem tbytes70 : Abs.tbytes Tryz.prog 70 = 24 := by kernel_rfl
@[go_sem] theorem tsl70 : Abs.isSliceD (Abs.tdesc Tryz.prog 70) = true := by kernel_rfl
@[go_sem] theorem telem70 : Abs.telem Tryz.prog 70 = 32 := by kernel_rfl
@[go_sem] theorem tok71 : Abs.tok Tryz.prog 71 = true := by kernel_rfl
@[go_sem] theorem tagg71 : Abs.tagg Tryz.prog 71 = false := by kernel_rfl
@[go_sem] theorem tsize71 : Abs.tsize Tryz.prog 71 = 1 := by kernel_rfl
@[go_sem] theorem tzero71 : Abs.tzero Tryz.prog 71 = some [.t (.lit .nilFunc)] := by kernel_rfl
@[go_sem] theorem tok72 : Abs.tok Tryz.prog 72 = true := by kernel_rfl
@[go_sem] theorem tagg72 : Abs.tagg Tryz.prog 72 = false := by kernel_rfl
@[go_sem] theorem tsize72 : Abs.tsize Tryz.prog 72 = 1 := by kernel_rfl
@[go_sem] theorem tzero72 : Abs.tzero Tryz.prog 72 = some [.t (.lit .nilFunc)] := by kernel_rfl
@[go_sem] theorem tok73 : Abs.tok Tryz.prog 73 = true := by kernel_rfl
@[go_sem] theorem tagg73 : Abs.tagg Tryz.prog 73 = false := by kernel_rfl
@[go_sem] theorem tsize73 : Abs.tsize Tryz.prog 73 = 1 := by kernel_rfl
@[go_sem] theorem tzero73 : Abs.tzero Tryz.prog 73 = some [.t (.lit .nilFunc)] := by kernel_rfl
@[go_sem] theorem tok74 : Abs.tok Tryz.prog 74 = true := by kernel_rfl
@[go_sem] theorem tagg74 : Abs.tagg Tryz.prog 74 = false := by kernel_rfl
@[go_sem] theorem tsize74 : Abs.tsize Tryz.prog 74 = 1 := by kernel_rfl
@[go_sem] theorem tzero74 : Abs.tzero Tryz.prog 74 = some [.t (.lit .nilFunc)] := by kernel_rfl
@[go_sem] theorem tok75 : Abs.tok Tryz.prog 75 = true := by kernel_rfl
@[go_sem] theorem tagg75 : Abs.tagg Tryz.prog 75 = false := by kernel_rfl
@[go_sem] theorem tsize75 : Abs.tsize Tryz.prog 75 = 1 := by kernel_rfl
@[go_sem] theorem tzero75 : Abs.tzero Tryz.prog 75 = some [.t (.lit .nilFunc)] := by kernel_rfl
@[go_sem] theorem tok76 : Abs.tok Tryz.prog 76 = true := by kernel_rfl
@[go_sem] theorem tagg76 : Abs.tagg Tryz.prog 76 = false := by kernel_rfl
@[go_sem] theorem tsize76 : Abs.tsize Tryz.prog 76 = 1 := by kernel_rfl
@[go_sem] theorem tzero76 : Abs.tzero Tryz.prog 76 = some [.t (.lit .nilFunc)] := by kernel_rfl
@[go_sem] theorem tok77 : Abs.tok Tryz.prog 77 = true := by kernel_rfl
@[go_sem] theorem tagg77 : Abs.tagg Tryz.prog 77 = false := by kernel_rfl
@[go_sem] theorem tsize77 : Abs.tsize Tryz.prog 77 = 1 := by kernel_rfl
@[go_sem] theorem tzero77 : Abs.tzero Tryz.prog 77 = some [.t (.lit .nilFunc)] := by kernel_rfl
@[go_sem] theorem tok78 : Abs.tok Tryz.prog 78 = true := by kernel_rfl
@[go_sem] theorem tagg78 : Abs.tagg Tryz.prog 78 = false := by kernel_rfl
@[go_sem] theorem tsize78 : Abs.tsize Tryz.prog 78 = 1 := by kernel_rfl
@[go_sem] theorem tzero78 : Abs.tzero Tryz.prog 78 = some [.t (.lit .nilFunc)] := by kernel_rfl
@[go_sem] theorem tok79 : Abs.tok Tryz.prog 79 = true := by kernel_rfl
@[go_sem] theorem tagg79 : Abs.tagg Tryz.prog 79 = false := by kernel_rfl
@[go_sem] theorem tsize79 : Abs.tsize Tryz.prog 79 = 1 := by kernel_rfl
@[go_sem] theorem tzero79 : Abs.tzero Tryz.prog 79 = some [.t (.lit (.int .u32 0))] := by kernel_rfl
@[go_sem] theorem tbytes79 : Abs.tbytes Tryz.prog 79 = 4 := by kernel_rfl
@[go_sem] theorem tint79 : Abs.intD (Abs.tdesc Tryz.prog 79) = some .u32 := by kernel_rfl
@[go_sem] theorem tok80 : Abs.tok Tryz.prog 80 = true := by kernel_rfl
@[go_sem] theorem tagg80 : Abs.tagg Tryz.prog 80 = false := by kernel_rfl
@[go_sem] theorem tsize80 : Abs.tsize Tryz.prog 80 = 1 := by kernel_rfl
@[go_sem] theorem tzero80 : Abs.tzero Tryz.prog 80 = some [.t (.lit .nilFunc)] := by kernel_rfl
@[go_sem] theorem tok81 : Abs.tok Tryz.prog 81 = true := by kernel_rfl
@[go_sem] theorem tagg81 : Abs.tagg Tryz.prog 81 = false := by kernel_rfl
@[go_sem] theorem tsize81 : Abs.tsize Tryz.prog 81 = 1 := by kernel_rfl
@[go_sem] theorem tzero81 : Abs.tzero Tryz.prog 81 = some [.t (.lit .nilFunc)] := by kernel_rfl
@[go_sem] theorem tok82 : Abs.tok Tryz.prog 82 = true := by kernel_rfl
@[go_sem] theorem tagg82 : Abs.tagg Tryz.prog 82 = false := by kernel_rfl
@[go_sem] theorem tsize82 : Abs.tsize Tryz.prog 82 = 1 := by kernel_rfl
@[go_sem] theorem tzero82 : Abs.tzero Tryz.prog 82 = some [.t (.lit (.pointer none))] := by kernel_rfl
@[go_sem] theorem tbytes82 : Abs.tbytes Tryz.prog 82 = 8 := by kernel_rfl
@[go_sem] theorem tok83 : Abs.tok Tryz.prog 83 = true := by kernel_rfl
@[go_sem] theorem tagg83 : Abs.tagg Tryz.prog 83 = false := by kernel_rfl
@[go_sem] theorem tsize83 : Abs.tsize Tryz.prog 83 = 1 := by kernel_rfl
@[go_sem] theorem tzero83 : Abs.tzero Tryz.prog 83 = some [.t (.lit .nilFunc)] := by kernel_rfl
@[go_sem] theorem tok84 : Abs.tok Tryz.prog 84 = true := by kernel_rfl
@[go_sem] theorem tagg84 : Abs.tagg Tryz.prog 84 = false := by kernel_rfl
@[go_sem] theorem tsize84 : Abs.tsize Tryz.prog 84 = 1 := by kernel_rfl
@[go_sem] theorem tzero84 : Abs.tzero Tryz.prog 84 = some [.t (.lit .nilFunc)] := by kernel_rfl
@[go_sem] theorem tok85 : Abs.tok Tryz.prog 85 = true := by kernel_rfl
@[go_sem] theorem tagg85 : Abs.tagg Tryz.prog 85 = false := by kernel_rfl
@[go_sem] theorem tsize85 : Abs.tsize Tryz.prog 85 = 1 := by kernel_rfl
@[go_sem] theorem tzero85 : Abs.tzero Tryz.prog 85 = some [.t (.lit .nilFunc)] := by kernel_rfl
@[go_sem] theorem tok86 : Abs.tok Tryz.prog 86 = true := by kernel_rfl
@[go_sem] theorem tagg86 : Abs.tagg Tryz.prog 86 = false := by kernel_rfl
@[go_sem] theorem tsize86 : Abs.tsize Tryz.prog 86 = 1 := by kernel_rfl
@[go_sem] theorem tzero86 : Abs.tzero Tryz.prog 86 = some [.t (.seq (some true) [])] := by kernel_rfl
@[go_sem] theorem tbytes86 : Abs.tbytes Tryz.prog 86 = 24 := by kernel_rfl
@[go_sem] theorem tsl86 : Abs.isSliceD (Abs.tdesc Tryz.prog 86) = true := by kernel_rfl
@[go_sem] theorem telem86 : Abs.telem Tryz.prog 86 = 111 := by kernel_rfl
@[go_sem] theorem tok87 : Abs.tok Tryz.prog 87 = true := by kernel_rfl
@[go_sem] theorem tagg87 : Abs.tagg Tryz.prog 87 = false := by kernel_rfl
@[go_sem] theorem tsize87 : Abs.tsize Tryz.prog 87 = 1 := by kernel_rfl
@[go_sem] theorem tzero87 : Abs.tzero Tryz.prog 87 = some [.t (.seq (some true) [])] := by kernel_rfl
@[go_sem] theorem tbytes87 : Abs.tbytes Tryz.prog 87 = 24 := by kernel_rfl
@[go_sem] theorem tsl87 : Abs.isSliceD (Abs.tdesc Tryz.prog 87) = true := by kernel_rfl
@[go_sem] theorem telem87 : Abs.telem Tryz.prog 87 = 3 := by kernel_rfl
@[go_sem] theorem tok88 : Abs.tok Tryz.prog 88 = true := by kernel_rfl
@[go_sem] theorem tagg88 : Abs.tagg Tryz.prog 88 = false := by kernel_rfl
@[go_sem] theorem tsize88 : Abs.tsize Tryz.prog 88 = 1 := by kernel_rfl
@[go_sem] theorem tzero88 : Abs.tzero Tryz.prog 88 = some [.t (.seq (some true) [])] := by kernel_rfl
@[go_sem] theorem tbytes88 : Abs.tbytes Tryz.prog 88 = 24 := by kernel_rfl
@[go_sem] theorem tsl88 : Abs.isSliceD (Abs.tdesc Tryz.prog 88) = true := by kernel_rfl
@[go_sem] theorem telem88 : Abs.telem Tryz.prog 88 = 86 := by kernel_rfl
@[go_sem] theorem tok89 : Abs.tok Tryz.prog 89 = true := by kernel_rfl
@[go_sem] theorem tagg89 : Abs.tagg Tryz.prog 89 = true := by kernel_rfl
@[go_sem] theorem tsize89 : Abs.tsize Tryz.prog 89 = 3 := by kernel_rfl
@[go_sem] theorem tzero89 : Abs.tzero Tryz.prog 89 = some [.t (.seq (some true) []), .t (.seq (some true) []), .t (.seq (some true) [])] := by kernel_rfl
@[go_sem] theorem tbytes89 : Abs.tbytes Tryz.prog 89 = 72 := by kernel_rfl
@[go_sem] theorem tst89 : Abs.isStructD (Abs.tdesc Tryz.prog 89) = true := by kernel_rfl
@[go_sem] theorem tnf89 : Abs.nfields Tryz.prog 89 = 3 := by kernel_rfl
@[go_sem] theorem tpt89 : Abs.partsTok Tryz.prog 89 = true := by kernel_rfl
@[go_sem] theorem tfo89_0 : Abs.foff Tryz.prog 89 0 = 0 := by kernel_rfl
@[go_sem] theorem tft89_0 : Abs.fty Tryz.prog 89 0 = 87 := by kernel_rfl
@[go_sem] theorem tpl89_0 : Abs.placesA Tryz.prog 89 0 = some (0, 1) := by kernel_rfl
@[go_sem] theorem tfo89_1 : Abs.foff Tryz.prog 89 1 = 1 := by kernel_rfl
@[go_sem] theorem tft89_1 : Abs.fty Tryz.prog 89 1 = 87 := by kernel_rfl
@[go_sem] theorem tpl89_1 : Abs.placesA Tryz.prog 89 1 = some (1, 1) := by kernel_rfl
@[go_sem] theorem tfo89_2 : Abs.foff Tryz.prog 89 2 = 2 := by kernel_rfl
@[go_sem] theorem tft89_2 : Abs.fty Tryz.prog 89 2 = 88 := by kernel_rfl
@[go_sem] theorem tpl89_2 : Abs.placesA Tryz.prog 89 2 = some (2, 1) := by kernel_rfl
@[go_sem] theorem tok90 : Abs.tok Tryz.prog 90 = true := by kernel_rfl
@[go_sem] theorem tagg90 : Abs.tagg Tryz.prog 90 = true := by kernel_rfl
@[go_sem] theorem tsize90 : Abs.tsize Tryz.prog 90 = 3 := by kernel_rfl
@[go_sem] theorem tzero90 : Abs.tzero Tryz.prog 90 = some [.t (.seq (some true) []), .t (.seq (some true) []), .t (.seq (some true) [])] := by kernel_rfl
@[go_sem] theorem tbytes90 : Abs.tbytes Tryz.prog 90 = 72 := by kernel_rfl
@[go_sem] theorem tst90 : Abs.isStructD (Abs.tdesc Tryz.prog 90) = true := by kernel_rfl
@[go_sem] theorem tnf90 : Abs.nfields Tryz.prog 90 = 3 := by kernel_rfl
@[go_sem] theorem tpt90 : Abs.partsTok Tryz.prog 90 = true := by kernel_rfl
@[go_sem] theorem tfo90_0 : Abs.foff Tryz.prog 90 0 = 0 := by kernel_rfl
@[go_sem] theorem tft90_0 : Abs.fty Tryz.prog 90 0 = 87 := by kernel_rfl
@[go_sem] theorem tpl90_0 : Abs.placesA Tryz.prog 90 0 = some (0, 1) := by kernel_rfl
@[go_sem] theorem tfo90_1 : Abs.foff Tryz.prog 90 1 = 1 := by kernel_rfl
@[go_sem] theorem tft90_1 : Abs.fty Tryz.prog 90 1 = 87 := by kernel_rfl
@[go_sem] theorem tpl90_1 : Abs.placesA Tryz.prog 90 1 = some (1, 1) := by kernel_rfl
@[go_sem] theorem tfo90_2 : Abs.foff Tryz.prog 90 2 = 2 := by kernel_rfl
@[go_sem] theorem tft90_2 : Abs.fty Tryz.prog 90 2 = 88 := by kernel_rfl
@[go_sem] theorem tpl90_2 : Abs.placesA Tryz.prog 90 2 = some (2, 1) := by kernel_rfl
@[go_sem] theorem tok91 : Abs.tok Tryz.prog 91 = true := by kernel_rfl
@[go_sem] theorem tagg91 : Abs.tagg Tryz.prog 91 = true := by kernel_rfl
@[go_sem] theorem tsize91 : Abs.tsize Tryz.prog 91 = 6 := by kernel_rfl
@[go_sem] theorem tzero91 : Abs.tzero Tryz.prog 91 = some [.t (.seq (some true) []), .t (.seq (some true) []), .t (.seq (some true) []), .t (.lit (.int .i64 0)), .t (.seq (some true) []), .t (.seq (some true) [])] := by kernel_rfl
@[go_sem] theorem tbytes91 : Abs.tbytes Tryz.prog 91 = 128 := by kernel_rfl
@[go_sem] theorem tst91 : Abs.isStructD (Abs.tdesc Tryz.prog 91) = true := by kernel_rfl
@[go_sem] theorem tnf91 : Abs.nfields Tryz.prog 91 = 4 := by kernel_rfl
@[go_sem] theorem tpt91 : Abs.partsTok Tryz.prog 91 = true := by kernel_rfl
@[go_sem] theorem tfo91_0 : Abs.foff Tryz.prog 91 0 = 0 := by kernel_rfl
@[go_sem] theorem tft91_0 : Abs.fty Tryz.prog 91 0 = 90 := by kernel_rfl
@[go_sem] theorem tpl91_0 : Abs.placesA Tryz.prog 91 0 = some (0, 3) := by kernel_rfl
@[go_sem] theorem tfo91_1 : Abs.foff Tryz.prog 91 1 = 3 := by kernel_rfl
@[go_sem] theorem tft91_1 : Abs.fty Tryz.prog 91 1 = 3 := by kernel_rfl
@[go_sem] theorem tpl91_1 : Abs.placesA Tryz.prog 91 1 = some (3, 1) := by kernel_rfl
@[go_sem] theorem tfo91_2 : Abs.foff Tryz.prog 91 2 = 4 := by kernel_rfl
@[go_sem] theorem tft91_2 : Abs.fty Tryz.prog 91 2 = 86 := by kernel_rfl
@[go_sem] theorem tpl91_2 : Abs.placesA Tryz.prog 91 2 = some (4, 1) := by kernel_rfl
@[go_sem] theorem tfo91_3 : Abs.foff Tryz.prog 91 3 = 5 := by kernel_rfl
@[go_sem] theorem tft91_3 : Abs.fty Tryz.prog 91 3 = 86 := by kernel_rfl
@[go_sem] theorem tpl91_3 : Abs.placesA Tryz.prog 91 3 = some (5, 1) := by kernel_rfl
@[go_sem] theorem tok92 : Abs.tok Tryz.prog 92 = true := by kernel_rfl
@[go_sem] theorem tagg92 : Abs.tagg Tryz.prog 92 = true := by kernel_rfl
@[go_sem] theorem tsize92 : Abs.tsize Tryz.prog 92 = 6 := by kernel_rfl
@[go_sem] theorem tzero92 : Abs.tzero Tryz.prog 92 = some [.t (.seq (some true) []), .t (.seq (some true) []), .t (.seq (some true) []), .t (.lit (.int .i64 0)), .t (.seq (some true) []), .t (.seq (some true) [])] := by kernel_rfl
@[go_sem] theorem tbytes92 : Abs.tbytes Tryz.prog 92 = 128 := by kernel_rfl
@[go_sem] theorem tst92 : Abs.isStructD (Abs.tdesc Tryz.prog 92) = true := by kernel_rfl
@[go_sem] theorem tnf92 : Abs.nfields Tryz.prog 92 = 4 := by kernel_rfl
@[go_sem] theorem tpt92 : Abs.partsTok Tryz.prog 92 = true := by kernel_rfl
@[go_sem] theorem tfo92_0 : Abs.foff Tryz.prog 92 0 = 0 := by kernel_rfl
@[go_sem] theorem tft92_0 : Abs.fty Tryz.prog 92 0 = 90 := by kernel_rfl
@[go_sem] theorem tpl92_0 : Abs.placesA Tryz.prog 92 0 = some (0, 3) := by kernel_rfl
@[go_sem] theorem tfo92_1 : Abs.foff Tryz.prog 92 1 = 3 := by kernel_rfl
@[go_sem] theorem tft92_1 : Abs.fty Tryz.prog 92 1 = 3 := by kernel_rfl
@[go_sem] theorem tpl92_1 : Abs.placesA Tryz.prog 92 1 = some (3, 1) := by kernel_rfl
@[go_sem] theorem tfo92_2 : Abs.foff Tryz.prog 92 2 = 4 := by kernel_rfl
@[go_sem] theorem tft92_2 : Abs.fty Tryz.prog 92 2 = 86 := by kernel_rfl
@[go_sem] theorem tpl92_2 : Abs.placesA Tryz.prog 92 2 = some (4, 1) := by kernel_rfl
@[go_sem] theorem tfo92_3 : Abs.foff Tryz.prog 92 3 = 5 := by kernel_rfl
@[go_sem] theorem tft92_3 : Abs.fty Tryz.prog 92 3 = 86 := by kernel_rfl
@[go_sem] theorem tpl92_3 : Abs.placesA Tryz.prog 92 3 = some (5, 1) := by kernel_rfl
@[go_sem] theorem tok93 : Abs.tok Tryz.prog 93 = true := by kernel_rfl
@[go_sem] theorem tagg93 : Abs.tagg Tryz.prog 93 = false := by kernel_rfl
@[go_sem] theorem tsize93 : Abs.tsize Tryz.prog 93 = 1 := by kernel_rfl
@[go_sem] theorem tzero93 : Abs.tzero Tryz.prog 93 = some [.t (.lit .nilFunc)] := by kernel_rfl
@[go_sem] theorem tok94 : Abs.tok Tryz.prog 94 = true := by kernel_rfl
@[go_sem] theorem tagg94 : Abs.tagg Tryz.prog 94 = false := by kernel_rfl
@[go_sem] theorem tsize94 : Abs.tsize Tryz.prog 94 = 1 := by kernel_rfl
@[go_sem] theorem tzero94 : Abs.tzero Tryz.prog 94 = some [.t (.lit .nilFunc)] := by kernel_rfl
@[go_sem] theorem tok95 : Abs.tok Tryz.prog 95 = true := by kernel_rfl
@[go_sem] theorem tagg95 : Abs.tagg Tryz.prog 95 = false := by kernel_rfl
@[go_sem] theorem tsize95 : Abs.tsize Tryz.prog 95 = 1 := by kernel_rfl
@[go_sem] theorem tzero95 : Abs.tzero Tryz.prog 95 = some [.t (.lit .nilFunc)] := by kernel_rfl
@[go_sem] theorem tok96 : Abs.tok Tryz.prog 96 = true := by kernel_rfl
@[go_sem] theorem tagg96 : Abs.tagg Tryz.prog 96 = false := by kernel_rfl
@[go_sem] theorem tsize96 : Abs.tsize Tryz.prog 96 = 1 := by kernel_rfl
@[go_sem] theorem tzero96 : Abs.tzero Tryz.prog 96 = some [.t (.lit .nilFunc)] := by kernel_rfl
@[go_sem] theorem tok97 : Abs.tok Tryz.prog 97 = true := by kernel_rfl
@[go_sem] theorem tagg97 : Abs.tagg Tryz.prog 97 = false := by kernel_rfl
@[go_sem] theorem tsize97 : Abs.tsize Tryz.prog 97 = 1 := by kernel_rfl
@[go_sem] theorem tzero97 : Abs.tzero Tryz.prog 97 = some [.t (.lit .nilFunc)] := by kernel_rfl
@[go_sem] theorem tok98 : Abs.tok Tryz.prog 98 = true := by kernel_rfl
@[go_sem] theorem tagg98 : Abs.tagg Tryz.prog 98 = false := by kernel_rfl
@[go_sem] theorem tsize98 : Abs.tsize Tryz.prog 98 = 1 := by kernel_rfl
@[go_sem] theorem tzero98 : Abs.tzero Tryz.prog 98 = some [.t (.lit .nilFunc)] := by kernel_rfl
@[go_sem] theorem tok99 : Abs.tok Tryz.prog 99 = true := by kernel_rfl
@[go_sem] theorem tagg99 : Abs.tagg Tryz.prog 99 = true := by kernel_rfl
@[go_sem] theorem tsize99 : Abs.tsize Tryz.prog 99 = 3 := by kernel_rfl
@[go_sem] theorem tzero99 : Abs.tzero Tryz.prog 99 = some [.t (.lit (.int .i64 0)), .t (.lit (.bool false)), .t (.seq (some true) [])] := by kernel_rfl
@[go_sem] theorem tbytes99 : Abs.tbytes Tryz.prog 99 = 40 := by kernel_rfl
@[go_sem] theorem tst99 : Abs.isStructD (Abs.tdesc Tryz.prog 99) = true := by kernel_rfl
@[go_sem] theorem tnf99 : Abs.nfields Tryz.prog 99 = 2 := by kernel_rfl
@[go_sem] theorem tpt99 : Abs.partsTok Tryz.prog 99 = true := by kernel_rfl
@[go_sem] theorem tfo99_0 : Abs.foff Tryz.prog 99 0 = 0 := by kernel_rfl
@[go_sem] theorem tft99_0 : Abs.fty Tryz.prog 99 0 = 3 := by kernel_rfl
@[go_sem] theorem tpl99_0 : Abs.placesA Tryz.prog 99 0 = some (0, 1) := by kernel_rfl
@[go_sem] theorem tfo99_1 : Abs.foff Tryz.prog 99 1 = 1 := by kernel_rfl
@[go_sem] theorem tft99_1 : Abs.fty Tryz.prog 99 1 = 32 := by kernel_rfl
@[go_sem] theorem tpl99_1 : Abs.placesA Tryz.prog 99 1 = some (1, 2) := by kernel_rfl
@[go_sem] theorem tok100 : Abs.tok Tryz.prog 100 = true := by kernel_rfl
@[go_sem] theorem tagg100 : Abs.tagg Tryz.prog 100 = true := by kernel_rfl
@[go_sem] theorem tsize100 : Abs.tsize Tryz.prog 100 = 3 := by kernel_rfl
@[go_sem] theorem tzero100 : Abs.tzero Tryz.prog 100 = some [.t (.lit (.int .i64 0)), .t (.lit (.bool false)), .t (.seq (some true) [])] := by kernel_rfl
@[go_sem] theorem tbytes100 : Abs.tbytes Tryz.prog 100 = 40 := by kernel_rfl
@[go_sem] theorem tst100 : Abs.isStructD (Abs.tdesc Tryz.prog 100) = true := by kernel_rfl
@[go_sem] theorem tnf100 : Abs.nfields Tryz.prog 100 = 2 := by kernel_rfl
@[go_sem] theorem tpt100 : Abs.partsTok Tryz.prog 100 = true := by kernel_rfl
@[go_sem] theorem tfo100_0 : Abs.foff Tryz.prog 100 0 = 0 := by kernel_rfl
@[go_sem] theorem tft100_0 : Abs.fty Tryz.prog 100 0 = 3 := by kernel_rfl
@[go_sem] theorem tpl100_0 : Abs.placesA Tryz.prog 100 0 = some (0, 1) := by kernel_rfl
@[go_sem] theorem tfo100_1 : Abs.foff Tryz.prog 100 1 = 1 := by kernel_rfl
@[go_sem] theorem tft100_1 : Abs.fty Tryz.prog 100 1 = 32 := by kernel_rfl
@[go_sem] theorem tpl100_1 : Abs.placesA Tryz.prog 100 1 = some (1, 2) := by kernel_rfl
@[go_sem] theorem tok101 : Abs.tok Tryz.prog 101 = true := by kernel_rfl
@[go_sem] theorem tagg101 : Abs.tagg Tryz.prog 101 = false := by kernel_rfl
@[go_sem] theorem tsize101 : Abs.tsize Tryz.prog 101 = 1 := by kernel_rfl
@[go_sem] theorem tzero101 : Abs.tzero Tryz.prog 101 = some [.t (.lit .nilFunc)] := by kernel_rfl
@[go_sem] theorem tok102 : Abs.tok Tryz.prog 102 = true := by kernel_rfl
@[go_sem] theorem tagg102 : Abs.tagg Tryz.prog 102 = false := by kernel_rfl
@[go_sem] theorem tsize102 : Abs.tsize Tryz.prog 102 = 1 := by kernel_rfl
@[go_sem] theorem tzero102 : Abs.tzero Tryz.prog 102 = some [.t (.lit .nilFunc)] := by kernel_rfl
@[go_sem] theorem tok103 : Abs.tok Tryz.prog 103 = true := by kernel_rfl
@[go_sem] theorem tagg103 : Abs.tagg Tryz.prog 103 = false := by kernel_rfl
@[go_sem] theorem tsize103 : Abs.tsize Tryz.prog 103 = 1 := by kernel_rfl
@[go_sem] theorem tzero103 : Abs.tzero Tryz.prog 103 = some [.t (.lit .nilFunc)] := by kernel_rfl
@[go_sem] theorem tok104 : Abs.tok Tryz.prog 104 = true := by kernel_rfl
@[go_sem] theorem tagg104 : Abs.tagg Tryz.prog 104 = false := by kernel_rfl
@[go_sem] theorem tsize104 : Abs.tsize Tryz.prog 104 = 1 := by kernel_rfl
@[go_sem] theorem tzero104 : Abs.tzero Tryz.prog 104 = some [.t (.lit .nilFunc)] := by kernel_rfl
@[go_sem] theorem tok105 : Abs.tok Tryz.prog 105 = true := by kernel_rfl
@[go_sem] theorem tagg105 : Abs.tagg Tryz.prog 105 = false := by kernel_rfl
@[go_sem] theorem tsize105 : Abs.tsize Tryz.prog 105 = 1 := by kernel_rfl
@[go_sem] theorem tzero105 : Abs.tzero Tryz.prog 105 = some [.t (.lit .nilFunc)] := by kernel_rfl
@[go_sem] theorem tok106 : Abs.tok Tryz.prog 106 = true := by kernel_rfl
@[go_sem] theorem tagg106 : Abs.tagg Tryz.prog 106 = false := by kernel_rfl
@[go_sem] theorem tsize106 : Abs.tsize Tryz.prog 106 = 1 := by kernel_rfl
@[go_sem] theorem tzero106 : Abs.tzero Tryz.prog 106 = some [.t (.lit .nilFunc)] := by kernel_rfl
@[go_sem] theorem tok107 : Abs.tok Tryz.prog 107 = true := by kernel_rfl
@[go_sem] theorem tagg107 : Abs.tagg Tryz.prog 107 = false := by kernel_rfl
@[go_sem] theorem tsize107 : Abs.tsize Tryz.prog 107 = 1 := by kernel_rfl
@[go_sem] theorem tzero107 : Abs.tzero Tryz.prog 107 = some [.t (.lit (.int .u64 0))] := by kernel_rfl
@[go_sem] theorem tbytes107 : Abs.tbytes Tryz.prog 107 = 8 := by kernel_rfl
@[go_sem] theorem tint107 : Abs.intD (Abs.tdesc Tryz.prog 107) = some .u64 := by kernel_rfl
@[go_sem] theorem tok108 : Abs.tok Tryz.prog 108 = true := by kernel_rfl
@[go_sem] theorem tagg108 : Abs.tagg Tryz.prog 108 = true := by kernel_rfl
@[go_sem] theorem tsize108 : Abs.tsize Tryz.prog 108 = 3 := by kernel_rfl
@[go_sem] theorem tzero108 : Abs.tzero Tryz.prog 108 = some [.t (.lit (.bool false)), .t (.seq (some true) []), .t (.seq (some true) [])] := by kernel_rfl
@[go_sem] theorem tbytes108 : Abs.tbytes Tryz.prog 108 = 56 := by kernel_rfl
@[go_sem] theorem tst108 : Abs.isStructD (Abs.tdesc Tryz.prog 108) = true := by kernel_rfl
@[go_sem] theorem tnf108 : Abs.nfields Tryz.prog 108 = 2 := by kernel_rfl
@[go_sem] theorem tpt108 : Abs.partsTok Tryz.prog 108 = true := by kernel_rfl
@[go_sem] theorem tfo108_0 : Abs.foff Tryz.prog 108 0 = 0 := by kernel_rfl
@[go_sem] theorem tft108_0 : Abs.fty Tryz.prog 108 0 = 32 := by kernel_rfl
@[go_sem] theorem tpl108_0 : Abs.placesA Tryz.prog 108 0 = some (0, 2) := by kernel_rfl
@[go_sem] theorem tfo108_1 : Abs.foff Tryz.prog 108 1 = 2 := by kernel_rfl
@[go_sem] theorem tft108_1 : Abs.fty Tryz.prog 108 1 = 30 := by kernel_rfl
@[go_sem] theorem tpl108_1 : Abs.placesA Tryz.prog 108 1 = some (2, 1) := by kernel_rfl
@[go_sem] theorem tok109 : Abs.tok Tryz.prog 109 = true := by kernel_rfl
@[go_sem] theorem tagg109 : Abs.tagg Tryz.prog 109 = true := by kernel_rfl
@[go_sem] theorem tsize109 : Abs.tsize Tryz.prog 109 = 3 := by kernel_rfl
@[go_sem] theorem tzero109 : Abs.tzero Tryz.prog 109 = some [.t (.lit (.bool false)), .t (.seq (some true) []), .t (.seq (some true) [])] := by kernel_rfl
@[go_sem] theorem tbytes109 : Abs.tbytes Tryz.prog 109 = 56 := by kernel_rfl
@[go_sem] theorem tst109 : Abs.isStructD (Abs.tdesc Tryz.prog 109) = true := by kernel_rfl
@[go_sem] theorem tnf109 : Abs.nfields Tryz.prog 109 = 2 := by kernel_rfl
@[go_sem] theorem tpt109 : Abs.partsTok Tryz.prog 109 = true := by kernel_rfl
@[go_sem] theorem tfo109_0 : Abs.foff Tryz.prog 109 0 = 0 := by kernel_rfl
@[go_sem] theorem tft109_0 : Abs.fty Tryz.prog 109 0 = 32 := by kernel_rfl
@[go_sem] theorem tpl109_0 : Abs.placesA Tryz.prog 109 0 = some (0, 2) := by kernel_rfl
@[go_sem] theorem tfo109_1 : Abs.foff Tryz.prog 109 1 = 2 := by kernel_rfl
@[go_sem] theorem tft109_1 : Abs.fty Tryz.prog 109 1 = 30 := by kernel_rfl
@[go_sem] theorem tpl109_1 : Abs.placesA Tryz.prog 109 1 = some (2, 1) := by kernel_rfl
@[go_sem] theorem tok110 : Abs.tok Tryz.prog 110 = true := by kernel_rfl
@[go_sem] theorem tagg110 : Abs.tagg Tryz.prog 110 = true := by kernel_rfl
@[go_sem] theorem tsize110 : Abs.tsize Tryz.prog 110 = 3 := by kernel_rfl
@[go_sem] theorem tzero110 : Abs.tzero Tryz.prog 110 = some [.t (.lit (.bool false)), .t (.seq (some true) []), .t (.seq (some true) [])] := by kernel_rfl
@[go_sem] theorem tbytes110 : Abs.tbytes Tryz.prog 110 = 56 := by kernel_rfl
@[go_sem] theorem tst110 : Abs.isStructD (Abs.tdesc Tryz.prog 110) = true := by kernel_rfl
@[go_sem] theorem tnf110 : Abs.nfields Tryz.prog 110 = 1 := by kernel_rfl
@[go_sem] theorem tpt110 : Abs.partsTok Tryz.prog 110 = true := by kernel_rfl
@[go_sem] theorem tfo110_0 : Abs.foff Tryz.prog 110 0 = 0 := by kernel_rfl
@[go_sem] theorem tft110_0 : Abs.fty Tryz.prog 110 0 = 109 := by kernel_rfl
@[go_sem] theorem tpl110_0 : Abs.placesA Tryz.prog 110 0 = some (0, 3) := by kernel_rfl
@[go_sem] theorem tok111 : Abs.tok Tryz.prog 111 = true := by kernel_rfl
@[go_sem] theorem tagg111 : Abs.tagg Tryz.prog 111 = true := by kernel_rfl
@[go_sem] theorem tsize111 : Abs.tsize Tryz.prog 111 = 3 := by kernel_rfl
@[go_sem] theorem tzero111 : Abs.tzero Tryz.prog 111 = some [.t (.lit (.bool false)), .t (.seq (some true) []), .t (.seq (some true) [])] := by kernel_rfl
@[go_sem] theorem tbytes111 : Abs.tbytes Tryz.prog 111 = 56 := by kernel_rfl
@[go_sem] theorem tst111 : Abs.isStructD (Abs.tdesc Tryz.prog 111) = true := by kernel_rfl
@[go_sem] theorem tnf111 : Abs.nfields Tryz.prog 111 = 1 := by kernel_rfl
@[go_sem] theorem tpt111 : Abs.partsTok Tryz.prog 111 = true := by kernel_rfl
@[go_sem] theorem tfo111_0 : Abs.foff Tryz.prog 111 0 = 0 := by kernel_rfl
@[go_sem] theorem tft111_0 : Abs.fty Tryz.prog 111 0 = 109 := by kernel_rfl
@[go_sem] theorem tpl111_0 : Abs.placesA Tryz.prog 111 0 = some (0, 3) := by kernel_rfl
@[go_sem] theorem tok112 : Abs.tok Tryz.prog 112 = true := by kernel_rfl
@[go_sem] theorem tagg112 : Abs.tagg Tryz.prog 112 = false := by kernel_rfl
@[go_sem] theorem tsize112 : Abs.tsize Tryz.prog 112 = 1 := by kernel_rfl
@[go_sem] theorem tzero112 : Abs.tzero Tryz.prog 112 = some [.t (.lit .nilFunc)] := by kernel_rfl
@[go_sem] theorem tok113 : Abs.tok Tryz.prog 113 = true := by kernel_rfl
@[go_sem] theorem tagg113 : Abs.tagg Tryz.prog 113 = false := by kernel_rfl
@[go_sem] theorem tsize113 : Abs.tsize Tryz.prog 113 = 1 := by kernel_rfl
@[go_sem] theorem tzero113 : Abs.tzero Tryz.prog 113 = some [.t (.lit .nilFunc)] := by kernel_rfl
@[go_sem] theorem tok114 : Abs.tok Tryz.prog 114 = true := by kernel_rfl
@[go_sem] theorem tagg114 : Abs.tagg Tryz.prog 114 = false := by kernel_rfl
@[go_sem] theorem tsize114 : Abs.tsize Tryz.prog 114 = 1 := by kernel_rfl
@[go_sem] theorem tzero114 : Abs.tzero Tryz.prog 114 = some [.t (.lit .nilFunc)] := by kernel_rfl
@[go_sem] theorem tok115 : Abs.tok Tryz.prog 115 = true := by kernel_rfl
@[go_sem] theorem tagg115 : Abs.tagg Tryz.prog 115 = false := by kernel_rfl
@[go_sem] theorem tsize115 : Abs.tsize Tryz.prog 115 = 1 := by kernel_rfl
@[go_sem] theorem tzero115 : Abs.tzero Tryz.prog 115 = some [.t (.lit .nilFunc)] := by kernel_rfl
@[go_sem] theorem tok116 : Abs.tok Tryz.prog 116 = true := by kernel_rfl
@[go_sem] theorem tagg116 : Abs.tagg Tryz.prog 116 = false := by kernel_rfl
@[go_sem] theorem tsize116 : Abs.tsize Tryz.prog 116 = 1 := by kernel_rfl
@[go_sem] theorem tzero116 : Abs.tzero Tryz.prog 116 = some [.t (.lit .nilFunc)] := by kernel_rfl
@[go_sem] theorem tok117 : Abs.tok Tryz.prog 117 = true := by kernel_rfl
@[go_sem] theorem tagg117 : Abs.tagg Tryz.prog 117 = false := by kernel_rfl
@[go_sem] theorem tsize117 : Abs.tsize Tryz.prog 117 = 1 := by kernel_rfl
@[go_sem] theorem tzero117 : Abs.tzero Tryz.prog 117 = some [.t (.lit .nilFunc)] := by kernel_rfl
@[go_sem] theorem tok118 : Abs.tok Tryz.prog 118 = true := by kernel_rfl
@[go_sem] theorem tagg118 : Abs.tagg Tryz.prog 118 = false := by kernel_rfl
@[go_sem] theorem tsize118 : Abs.tsize Tryz.prog 118 = 1 := by kernel_rfl
@[go_sem] theorem tzero118 : Abs.tzero Tryz.prog 118 = some [.t (.lit .nilFunc)] := by kernel_rfl
@[go_sem] theorem tok119 : Abs.tok Tryz.prog 119 = true := by kernel_rfl
@[go_sem] theorem tagg119 : Abs.tagg Tryz.prog 119 = false := by kernel_rfl
@[go_sem] theorem tsize119 : Abs.tsize Tryz.prog 119 = 1 := by kernel_rfl
@[go_sem] theorem tzero119 : Abs.tzero Tryz.prog 119 = some [.t (.lit .nilFunc)] := by kernel_rfl
@[go_sem] theorem tok120 : Abs.tok Tryz.prog 120 = true := by kernel_rfl
@[go_sem] theorem tagg120 : Abs.tagg Tryz.prog 120 = true := by kernel_rfl
@[go_sem] theorem tsize120 : Abs.tsize Tryz.prog 120 = 3 := by kernel_rfl
@[go_sem] theorem tzero120 : Abs.tzero Tryz.prog 120 = some [.t (.seq (some true) []), .t (.lit (.bool false)), .t (.seq (some true) [])] := by kernel_rfl
@[go_sem] theorem tbytes120 : Abs.tbytes Tryz.prog 120 = 56 := by kernel_rfl
@[go_sem] theorem tst120 : Abs.isStructD (Abs.tdesc Tryz.prog 120) = true := by kernel_rfl
@[go_sem] theorem tnf120 : Abs.nfields Tryz.prog 120 = 1 := by kernel_rfl
@[go_sem] theorem tpt120 : Abs.partsTok Tryz.prog 120 = true := by kernel_rfl
@[go_sem] theorem tfo120_0 : Abs.foff Tryz.prog 120 0 = 0 := by kernel_rfl
@[go_sem] theorem tft120_0 : Abs.fty Tryz.prog 120 0 = 38 := by kernel_rfl
@[go_sem] theorem tpl120_0 : Abs.placesA Tryz.prog 120 0 = some (0, 3) := by kernel_rfl
@[go_sem] theorem tok121 : Abs.tok Tryz.prog 121 = true := by kernel_rfl
@[go_sem] theorem tagg121 : Abs.tagg Tryz.prog 121 = true := by kernel_rfl
@[go_sem] theorem tsize121 : Abs.tsize Tryz.prog 121 = 3 := by kernel_rfl
@[go_sem] theorem tzero121 : Abs.tzero Tryz.prog 121 = some [.t (.seq (some true) []), .t (.lit (.bool false)), .t (.seq (some true) [])] := by kernel_rfl
@[go_sem] theorem tbytes121 : Abs.tbytes Tryz.prog 121 = 56 := by kernel_rfl
@[go_sem] theorem tst121 : Abs.isStructD (Abs.tdesc Tryz.prog 121) = true := by kernel_rfl
@[go_sem] theorem tnf121 : Abs.nfields Tryz.prog 121 = 1 := by kernel_rfl
@[go_sem] theorem tpt121 : Abs.partsTok Tryz.prog 121 = true := by kernel_rfl
@[go_sem] theorem tfo121_0 : Abs.foff Tryz.prog 121 0 = 0 := by kernel_rfl
@[go_sem] theorem tft121_0 : Abs.fty Tryz.prog 121 0 = 38 := by kernel_rfl
@[go_sem] theorem tpl121_0 : Abs.placesA Tryz.prog 121 0 = some (0, 3) := by kernel_rfl
@[go_sem] theorem tok122 : Abs.tok Tryz.prog 122 = true := by kernel_rfl
@[go_sem] theorem tagg122 : Abs.tagg Tryz.prog 122 = true := by kernel_rfl
@[go_sem] theorem tsize122 : Abs.tsize Tryz.prog 122 = 3 := by kernel_rfl
@[go_sem] theorem tzero122 : Abs.tzero Tryz.prog 122 = some [.t (.seq (some true) []), .t (.lit (.bool false)), .t (.seq (some true) [])] := by kernel_rfl
@[go_sem] theorem tbytes122 : Abs.tbytes Tryz.prog 122 = 56 := by kernel_rfl
@[go_sem] theorem tst122 : Abs.isStructD (Abs.tdesc Tryz.prog 122) = true := by kernel_rfl
@[go_sem] theorem tnf122 : Abs.nfields Tryz.prog 122 = 1 := by kernel_rfl
@[go_sem] theorem tpt122 : Abs.partsTok Tryz.prog 122 = true := by kernel_rfl
@[go_sem] theorem tfo122_0 : Abs.foff Tryz.prog 122 0 = 0 := by kernel_rfl
@[go_sem] theorem tft122_0 : Abs.fty Tryz.prog 122 0 = 121 := by kernel_rfl
@[go_sem] theorem tpl122_0 : Abs.placesA Tryz.prog 122 0 = some (0, 3) := by kernel_rfl
@[go_sem] theorem tok123 : Abs.tok Tryz.prog 123 = true := by kernel_rfl
@[go_sem] theorem tagg123 : Abs.tagg Tryz.prog 123 = true := by kernel_rfl
@[go_sem] theorem tsize123 : Abs.tsize Tryz.prog 123 = 3 := by kernel_rfl
@[go_sem] theorem tzero123 : Abs.tzero Tryz.prog 123 = some [.t (.seq (some true) []), .t (.lit (.bool false)), .t (.seq (some true) [])] := by kernel_rfl
@[go_sem] theorem tbytes123 : Abs.tbytes Tryz.prog 123 = 56 := by kernel_rfl
@[go_sem] theorem tst123 : Abs.isStructD (Abs.tdesc Tryz.prog 123) = true := by kernel_rfl
@[go_sem] theorem tnf123 : Abs.nfields Tryz.prog 123 = 1 := by kernel_rfl
@[go_sem] theorem tpt123 : Abs.partsTok Tryz.prog 123 = true := by kernel_rfl
@[go_sem] theorem tfo123_0 : Abs.foff Tryz.prog 123 0 = 0 := by kernel_rfl
@[go_sem] theorem tft123_0 : Abs.fty Tryz.prog 123 0 = 121 := by kernel_rfl
@[go_sem] theorem tpl123_0 : Abs.placesA Tryz.prog 123 0 = some (0, 3) := by kernel_rfl
@[go_sem] theorem tok124 : Abs.tok Tryz.prog 124 = true := by kernel_rfl
@[go_sem] theorem tagg124 : Abs.tagg Tryz.prog 124 = false := by kernel_rfl
@[go_sem] theorem tsize124 : Abs.tsize Tryz.prog 124 = 1 := by kernel_rfl
@[go_sem] theorem tzero124 : Abs.tzero Tryz.prog 124 = some [.t (.lit .nilFunc)] := by kernel_rfl
@[go_sem] theorem tok125 : Abs.tok Tryz.prog 125 = true := by kernel_rfl
@[go_sem] theorem tagg125 : Abs.tagg Tryz.prog 125 = false := by kernel_rfl
@[go_sem] theorem tsize125 : Abs.tsize Tryz.prog 125 = 1 := by kernel_rfl
@[go_sem] theorem tzero125 : Abs.tzero Tryz.prog 125 = some [.t (.lit .nilFunc)] := by kernel_rfl
@[go_sem] theorem tok127 : Abs.tok Tryz.prog 127 = true := by kernel_rfl
@[go_sem] theorem tagg127 : Abs.tagg Tryz.prog 127 = false := by kernel_rfl
@[go_sem] theorem tsize127 : Abs.tsize Tryz.prog 127 = 1 := by kernel_rfl
@[go_sem] theorem tzero127 : Abs.tzero Tryz.prog 127 = some [.t (.lit .nilFunc)] := by kernel_rfl
@[go_sem] theorem tok128 : Abs.tok Tryz.prog 128 = true := by kernel_rfl
@[go_sem] theorem tagg128 : Abs.tagg Tryz.prog 128 = false := by kernel_rfl
@[go_sem] theorem tsize128 : Abs.tsize Tryz.prog 128 = 1 := by kernel_rfl
@[go_sem] theorem tzero128 : Abs.tzero Tryz.prog 128 = some [.t (.lit .nilFunc)] := by kernel_rfl
@[go_sem] theorem tok129 : Abs.tok Tryz.prog 129 = true := by kernel_rfl
@[go_sem] theorem tagg129 : Abs.tagg Tryz.prog 129 = false := by kernel_rfl
@[go_sem] theorem tsize129 : Abs.tsize Tryz.prog 129 = 1 := by kernel_rfl
@[go_sem] theorem tzero129 : Abs.tzero Tryz.prog 129 = some [.t (.lit .nilFunc)] := by kernel_rfl
@[go_sem] theorem tok130 : Abs.tok Tryz.prog 130 = true := by kernel_rfl
@[go_sem] theorem tagg130 : Abs.tagg Tryz.prog 130 = false := by kernel_rfl
@[go_sem] theorem tsize130 : Abs.tsize Tryz.prog 130 = 1 := by kernel_rfl
@[go_sem] theorem tzero130 : Abs.tzero Tryz.prog 130 = some [.t (.lit .nilFunc)] := by kernel_rfl
@[go_sem] theorem tok131 : Abs.tok Tryz.prog 131 = true := by kernel_rfl
@[go_sem] theorem tagg131 : Abs.tagg Tryz.prog 131 = false := by kernel_rfl
@[go_sem] theorem tsize131 : Abs.tsize Tryz.prog 131 = 1 := by kernel_rfl
@[go_sem] theorem tzero131 : Abs.tzero Tryz.prog 131 = some [.t (.lit .nilFunc)] := by kernel_rfl
@[go_sem] theorem tok132 : Abs.tok Tryz.prog 132 = true := by kernel_rfl
@[go_sem] theorem tagg132 : Abs.tagg Tryz.prog 132 = false := by kernel_rfl
@[go_sem] theorem tsize132 : Abs.tsize Tryz.prog 132 = 1 := by kernel_rfl
@[go_sem] theorem tzero132 : Abs.tzero Tryz.prog 132 = some [.t (.lit .nilFunc)] := by kernel_rfl
@[go_sem] theorem tok133 : Abs.tok Tryz.prog 133 = true := by kernel_rfl
@[go_sem] theorem tagg133 : Abs.tagg Tryz.prog 133 = false := by kernel_rfl
@[go_sem] theorem tsize133 : Abs.tsize Tryz.prog 133 = 1 := by kernel_rfl
@[go_sem] theorem tzero133 : Abs.tzero Tryz.prog 133 = some [.t (.lit .nilFunc)] := by kernel_rfl
@[go_sem] theorem tok135 : Abs.tok Tryz.prog 135 = true := by kernel_rfl
@[go_sem] theorem tagg135 : Abs.tagg Tryz.prog 135 = false := by kernel_rfl
@[go_sem] theorem tsize135 : Abs.tsize Tryz.prog 135 = 1 := by kernel_rfl
@[go_sem] theorem tzero135 : Abs.tzero Tryz.prog 135 = some [.t (.lit .nilFunc)] := by kernel_rfl
@[go_sem] theorem tok136 : Abs.tok Tryz.prog 136 = true := by kernel_rfl
@[go_sem] theorem tagg136 : Abs.tagg Tryz.prog 136 = false := by kernel_rfl
@[go_sem] theorem tsize136 : Abs.tsize Tryz.prog 136 = 1 := by kernel_rfl
@[go_sem] theorem tzero136 : Abs.tzero Tryz.prog 136 = some [.t (.lit .nilFunc)] := by kernel_rfl
@[go_sem] theorem tok137 : Abs.tok Tryz.prog 137 = true := by kernel_rfl
@[go_sem] theorem tagg137 : Abs.tagg Tryz.prog 137 = false := by kernel_rfl
@[go_sem] theorem tsize137 : Abs.tsize Tryz.prog 137 = 1 := by kernel_rfl
@[go_sem] theorem tzero137 : Abs.tzero Tryz.prog 137 = some [.t (.lit .nilFunc)] := by kernel_rfl
@[go_sem] theorem tok138 : Abs.tok Tryz.prog 138 = true := by kernel_rfl
@[go_sem] theorem tagg138 : Abs.tagg Tryz.prog 138 = true := by kernel_rfl
@[go_sem] theorem tsize138 : Abs.tsize Tryz.prog 138 = 1 := by kernel_rfl
@[go_sem] theorem tzero138 : Abs.tzero Tryz.prog 138 = some [.t (.seq (some true) [])] := by kernel_rfl
@[go_sem] theorem tbytes138 : Abs.tbytes Tryz.prog 138 = 24 := by kernel_rfl
@[go_sem] theorem tst138 : Abs.isStructD (Abs.tdesc Tryz.prog 138) = true := by kernel_rfl
@[go_sem] theorem tnf138 : Abs.nfields Tryz.prog 138 = 1 := by kernel_rfl
@[go_sem] theorem tpt138 : Abs.partsTok Tryz.prog 138 = true := by kernel_rfl
@[go_sem] theorem tfo138_0 : Abs.foff Tryz.prog 138 0 = 0 := by kernel_rfl
@[go_sem] theorem tft138_0 : Abs.fty Tryz.prog 138 0 = 30 := by kernel_rfl
@[go_sem] theorem tpl138_0 : Abs.placesA Tryz.prog 138 0 = some (0, 1) := by kernel_rfl
@[go_sem] theorem tok139 : Abs.tok Tryz.prog 139 = true := by kernel_rfl
@[go_sem] theorem tagg139 : Abs.tagg Tryz.prog 139 = true := by kernel_rfl
@[go_sem] theorem tsize139 : Abs.tsize Tryz.prog 139 = 1 := by kernel_rfl
@[go_sem] theorem tzero139 : Abs.tzero Tryz.prog 139 = some [.t (.seq (some true) [])] := by kernel_rfl
@[go_sem] theorem tbytes139 : Abs.tbytes Tryz.prog 139 = 24 := by kernel_rfl
@[go_sem] theorem tst139 : Abs.isStructD (Abs.tdesc Tryz.prog 139) = true := by kernel_rfl
@[go_sem] theorem tnf139 : Abs.nfields Tryz.prog 139 = 1 := by kernel_rfl
@[go_sem] theorem tpt139 : Abs.partsTok Tryz.prog 139 = true := by kernel_rfl
@[go_sem] theorem tfo139_0 : Abs.foff Tryz.prog 139 0 = 0 := by kernel_rfl
@[go_sem] theorem tft139_0 : Abs.fty Tryz.prog 139 0 = 30 := by kernel_rfl
@[go_sem] theorem tpl139_0 : Abs.placesA Tryz.prog 139 0 = some (0, 1) := by kernel_rfl
@[go_sem] theorem tok140 : Abs.tok Tryz.prog 140 = true := by kernel_rfl
@[go_sem] theorem tagg140 : Abs.tagg Tryz.prog 140 = true := by kernel_rfl
@[go_sem] theorem tsize140 : Abs.tsize Tryz.prog 140 = 2 := by kernel_rfl
@[go_sem] theorem tzero140 : Abs.tzero Tryz.prog 140 = some [.t (.seq (some true) []), .t (.lit (.bool false))] := by kernel_rfl
@[go_sem] theorem tbytes140 : Abs.tbytes Tryz.prog 140 = 32 := by kernel_rfl
@[go_sem] theorem tst140 : Abs.isStructD (Abs.tdesc Tryz.prog 140) = true := by kernel_rfl
@[go_sem] theorem tnf140 : Abs.nfields Tryz.prog 140 = 2 := by kernel_rfl
@[go_sem] theorem tpt140 : Abs.partsTok Tryz.prog 140 = true := by kernel_rfl
@[go_sem] theorem tfo140_0 : Abs.foff Tryz.prog 140 0 = 0 := by kernel_rfl
@[go_sem] theorem tft140_0 : Abs.fty Tryz.prog 140 0 = 139 := by kernel_rfl
@[go_sem] theorem tpl140_0 : Abs.placesA Tryz.prog 140 0 = some (0, 1) := by kernel_rfl
@[go_sem] theorem tfo140_1 : Abs.foff Tryz.prog 140 1 = 1 := by kernel_rfl
@[go_sem] theorem tft140_1 : Abs.fty Tryz.prog 140 1 = 4 := by kernel_rfl
@[go_sem] theorem tpl140_1 : Abs.placesA Tryz.prog 140 1 = some (1, 1) := by kernel_rfl
@[go_sem] theorem tok141 : Abs.tok Tryz.prog 141 = true := by kernel_rfl
@[go_sem] theorem tagg141 : Abs.tagg Tryz.prog 141 = true := by kernel_rfl
@[go_sem] theorem tsize141 : Abs.tsize Tryz.prog 141 = 2 := by kernel_rfl
@[go_sem] theorem tzero141 : Abs.tzero Tryz.prog 141 = some [.t (.seq (some true) []), .t (.lit (.bool false))] := by kernel_rfl
@[go_sem] theorem tbytes141 : Abs.tbytes Tryz.prog 141 = 32 := by kernel_rfl
@[go_sem] theorem tst141 : Abs.isStructD (Abs.tdesc Tryz.prog 141) = true := by kernel_rfl
@[go_sem] theorem tnf141 : Abs.nfields Tryz.prog 141 = 2 := by kernel_rfl
@[go_sem] theorem tpt141 : Abs.partsTok Tryz.prog 141 = true := by kernel_rfl
@[go_sem] theorem tfo141_0 : Abs.foff Tryz.prog 141 0 = 0 := by kernel_rfl
@[go_sem] theorem tft141_0 : Abs.fty Tryz.prog 141 0 = 139 := by kernel_rfl
@[go_sem] theorem tpl141_0 : Abs.placesA Tryz.prog 141 0 = some (0, 1) := by kernel_rfl
@[go_sem] theorem tfo141_1 : Abs.foff Tryz.prog 141 1 = 1 := by kernel_rfl
@[go_sem] theorem tft141_1 : Abs.fty Tryz.prog 141 1 = 4 := by kernel_rfl
@[go_sem] theorem tpl141_1 : Abs.placesA Tryz.prog 141 1 = some (1, 1) := by kernel_rfl
@[go_sem] theorem tok142 : Abs.tok Tryz.prog 142 = true := by kernel_rfl
@[go_sem] theorem tagg142 : Abs.tagg Tryz.prog 142 = false := by kernel_rfl
@[go_sem] theorem tsize142 : Abs.tsize Tryz.prog 142 = 1 := by kernel_rfl
@[go_sem] theorem tzero142 : Abs.tzero Tryz.prog 142 = some [.t (.lit .nilFunc)] := by kernel_rfl
@[go_sem] theorem tok143 : Abs.tok Tryz.prog 143 = true := by kernel_rfl
@[go_sem] theorem tagg143 : Abs.tagg Tryz.prog 143 = false := by kernel_rfl
@[go_sem] theorem tsize143 : Abs.tsize Tryz.prog 143 = 1 := by kernel_rfl
@[go_sem] theorem tzero143 : Abs.tzero Tryz.prog 143 = some [.t (.lit .nilFunc)] := by kernel_rfl
@[go_sem] theorem tok144 : Abs.tok Tryz.prog 144 = true := by kernel_rfl
@[go_sem] theorem tagg144 : Abs.tagg Tryz.prog 144 = false := by kernel_rfl
@[go_sem] theorem tsize144 : Abs.tsize Tryz.prog 144 = 1 := by kernel_rfl
@[go_sem] theorem tzero144 : Abs.tzero Tryz.prog 144 = some [.t (.lit (.pointer none))] := by kernel_rfl
@[go_sem] theorem tbytes144 : Abs.tbytes Tryz.prog 144 = 8 := by kernel_rfl
@[go_sem] theorem tok145 : Abs.tok Tryz.prog 145 = true := by kernel_rfl
@[go_sem] theorem tagg145 : Abs.tagg Tryz.prog 145 = false := by kernel_rfl
@[go_sem] theorem tsize145 : Abs.tsize Tryz.prog 145 = 1 := by kernel_rfl
@[go_sem] theorem tzero145 : Abs.tzero Tryz.prog 145 = some [.t (.lit (.pointer none))] := by kernel_rfl
@[go_sem] theorem tbytes145 : Abs.tbytes Tryz.prog 145 = 8 := by kernel_rfl
@[go_sem] theorem tok146 : Abs.tok Tryz.prog 146 = true := by kernel_rfl
@[go_sem] theorem tagg146 : Abs.tagg Tryz.prog 146 = false := by kernel_rfl
@[go_sem] theorem tsize146 : Abs.tsize Tryz.prog 146 = 1 := by kernel_rfl
@[go_sem] theorem tzero146 : Abs.tzero Tryz.prog 146 = some [.t (.lit .nilFunc)] := by kernel_rfl
@[go_sem] theorem tok147 : Abs.tok Tryz.prog 147 = true := by kernel_rfl
@[go_sem] theorem tagg147 : Abs.tagg Tryz.prog 147 = false := by kernel_rfl
@[go_sem] theorem tsize147 : Abs.tsize Tryz.prog 147 = 1 := by kernel_rfl
@[go_sem] theorem tzero147 : Abs.tzero Tryz.prog 147 = some [.t (.lit .nilFunc)] := by kernel_rfl
@[go_sem] theorem tok148 : Abs.tok Tryz.prog 148 = true := by kernel_rfl
@[go_sem] theorem tagg148 : Abs.tagg Tryz.prog 148 = true := by kernel_rfl
@[go_sem] theorem tsize148 : Abs.tsize Tryz.prog 148 = 3 := by kernel_rfl
@[go_sem] theorem tzero148 : Abs.tzero Tryz.prog 148 = some [.t (.seq (some true) []), .t (.lit (.bool false)), .t (.seq (some true) [])] := by kernel_rfl
@[go_sem] theorem tbytes148 : Abs.tbytes Tryz.prog 148 = 56 := by kernel_rfl
@[go_sem] theorem tst148 : Abs.isStructD (Abs.tdesc Tryz.prog 148) = true := by kernel_rfl
@[go_sem] theorem tnf148 : Abs.nfields Tryz.prog 148 = 1 := by kernel_rfl
@[go_sem] theorem tpt148 : Abs.partsTok Tryz.prog 148 = true := by kernel_rfl
@[go_sem] theorem tfo148_0 : Abs.foff Tryz.prog 148 0 = 0 := by kernel_rfl
@[go_sem] theorem tft148_0 : Abs.fty Tryz.prog 148 0 = 38 := by kernel_rfl
@[go_sem] theorem tpl148_0 : Abs.placesA Tryz.prog 148 0 = some (0, 3) := by kernel_rfl
@[go_sem] theorem tok149 : Abs.tok Tryz.prog 149 = true := by kernel_rfl
@[go_sem] theorem tagg149 : Abs.tagg Tryz.prog 149 = true := by kernel_rfl
@[go_sem] theorem tsize149 : Abs.tsize Tryz.prog 149 = 3 := by kernel_rfl
@[go_sem] theorem tzero149 : Abs.tzero Tryz.prog 149 = some [.t (.seq (some true) []), .t (.lit (.bool false)), .t (.seq (some true) [])] := by kernel_rfl
@[go_sem] theorem tbytes149 : Abs.tbytes Tryz.prog 149 = 56 := by kernel_rfl
@[go_sem] theorem tst149 : Abs.isStructD (Abs.tdesc Tryz.prog 149) = true := by kernel_rfl
@[go_sem] theorem tnf149 : Abs.nfields Tryz.prog 149 = 1 := by kernel_rfl
@[go_sem] theorem tpt149 : Abs.partsTok Tryz.prog 149 = true := by kernel_rfl
@[go_sem] theorem tfo149_0 : Abs.foff Tryz.prog 149 0 = 0 := by kernel_rfl
@[go_sem] theorem tft149_0 : Abs.fty Tryz.prog 149 0 = 148 := by kernel_rfl
@[go_sem] theorem tpl149_0 : Abs.placesA Tryz.prog 149 0 = some (0, 3) := by kernel_rfl
@[go_sem] theorem tok150 : Abs.tok Tryz.prog 150 = true := by kernel_rfl
@[go_sem] theorem tagg150 : Abs.tagg Tryz.prog 150 = true := by kernel_rfl
@[go_sem] theorem tsize150 : Abs.tsize Tryz.prog 150 = 3 := by kernel_rfl
@[go_sem] theorem tzero150 : Abs.tzero Tryz.prog 150 = some [.t (.seq (some true) []), .t (.lit (.bool false)), .t (.seq (some true) [])] := by kernel_rfl
@[go_sem] theorem tbytes150 : Abs.tbytes Tryz.prog 150 = 56 := by kernel_rfl
@[go_sem] theorem tst150 : Abs.isStructD (Abs.tdesc Tryz.prog 150) = true := by kernel_rfl
@[go_sem] theorem tnf150 : Abs.nfields Tryz.prog 150 = 1 := by kernel_rfl
@[go_sem] theorem tpt150 : Abs.partsTok Tryz.prog 150 = true := by kernel_rfl
@[go_sem] theorem tfo150_0 : Abs.foff Tryz.prog 150 0 = 0 := by kernel_rfl
@[go_sem] theorem tft150_0 : Abs.fty Tryz.prog 150 0 = 148 := by kernel_rfl
@[go_sem] theorem tpl150_0 : Abs.placesA Tryz.prog 150 0 = some (0, 3) := by kernel_rfl
@[go_sem] theorem tok151 : Abs.tok Tryz.prog 151 = true := by kernel_rfl
@[go_sem] theorem tagg151 : Abs.tagg Tryz.prog 151 = false := by kernel_rfl
@[go_sem] theorem tsize151 : Abs.tsize Tryz.prog 151 = 1 := by kernel_rfl
@[go_sem] theorem tzero151 : Abs.tzero Tryz.prog 151 = some [.t (.lit .nilFunc)] := by kernel_rfl
@[go_sem] theorem tok152 : Abs.tok Tryz.prog 152 = true := by kernel_rfl
@[go_sem] theorem tagg152 : Abs.tagg Tryz.prog 152 = false := by kernel_rfl
@[go_sem] theorem tsize152 : Abs.tsize Tryz.prog 152 = 1 := by kernel_rfl
@[go_sem] theorem tzero152 : Abs.tzero Tryz.prog 152 = some [.t (.lit .nilFunc)] := by kernel_rfl
@[go_sem] theorem tok153 : Abs.tok Tryz.prog 153 = true := by kernel_rfl
@[go_sem] theorem tagg153 : Abs.tagg Tryz.prog 153 = false := by kernel_rfl
@[go_sem] theorem tsize153 : Abs.tsize Tryz.prog 153 = 1 := by kernel_rfl
@[go_sem] theorem tzero153 : Abs.tzero Tryz.prog 153 = some [.t (.lit .nilFunc)] := by kernel_rfl
@[go_sem] theorem tok154 : Abs.tok Tryz.prog 154 = true := by kernel_rfl
@[go_sem] theorem tagg154 : Abs.tagg Tryz.prog 154 = false := by kernel_rfl
@[go_sem] theorem tsize154 : Abs.tsize Tryz.prog 154 = 1 := by kernel_rfl
@[go_sem] theorem tzero154 : Abs.tzero Tryz.prog 154 = some [.t (.lit (.pointer none))] := by kernel_rfl
@[go_sem] theorem tbytes154 : Abs.tbytes Tryz.prog 154 = 8 := by kernel_rfl
@[go_sem] theorem tok155 : Abs.tok Tryz.prog 155 = true := by kernel_rfl
@[go_sem] theorem tagg155 : Abs.tagg Tryz.prog 155 = false := by kernel_rfl
@[go_sem] theorem tsize155 : Abs.tsize Tryz.prog 155 = 1 := by kernel_rfl
@[go_sem] theorem tzero155 : Abs.tzero Tryz.prog 155 = some [.t (.lit .nilFunc)] := by kernel_rfl
@[go_sem] theorem tok156 : Abs.tok Tryz.prog 156 = true := by kernel_rfl
@[go_sem] theorem tagg156 : Abs.tagg Tryz.prog 156 = false := by kernel_rfl
@[go_sem] theorem tsize156 : Abs.tsize Tryz.prog 156 = 1 := by kernel_rfl
@[go_sem] theorem tzero156 : Abs.tzero Tryz.prog 156 = some [.t (.lit .nilFunc)] := by kernel_rfl
@[go_sem] theorem tok157 : Abs.tok Tryz.prog 157 = true := by kernel_rfl
@[go_sem] theorem tagg157 : Abs.tagg Tryz.prog 157 = false := by kernel_rfl
@[go_sem] theorem tsize157 : Abs.tsize Tryz.prog 157 = 1 := by kernel_rfl
@[go_sem] theorem tzero157 : Abs.tzero Tryz.prog 157 = some [.t (.lit .nilFunc)] := by kernel_rfl
@[go_sem] theorem tok158 : Abs.tok Tryz.prog 158 = true := by kernel_rfl
@[go_sem] theorem tagg158 : Abs.tagg Tryz.prog 158 = false := by kernel_rfl
@[go_sem] theorem tsize158 : Abs.tsize Tryz.prog 158 = 1 := by kernel_rfl
@[go_sem] theorem tzero158 : Abs.tzero Tryz.prog 158 = some [.t (.lit .nilFunc)] := by kernel_rfl
@[go_sem] theorem tok159 : Abs.tok Tryz.prog 159 = true := by kernel_rfl
@[go_sem] theorem tagg159 : Abs.tagg Tryz.prog 159 = false := by kernel_rfl
@[go_sem] theorem tsize159 : Abs.tsize Tryz.prog 159 = 1 := by kernel_rfl
@[go_sem] theorem tzero159 : Abs.tzero Tryz.prog 159 = some [.t (.lit .nilFunc)] := by kernel_rfl
@[go_sem] theorem tok161 : Abs.tok Tryz.prog 161 = true := by kernel_rfl
@[go_sem] theorem tagg161 : Abs.tagg Tryz.prog 161 = false := by kernel_rfl
@[go_sem] theorem tsize161 : Abs.tsize Tryz.prog 161 = 1 := by kernel_rfl
@[go_sem] theorem tzero161 : Abs.tzero Tryz.prog 161 = some [.t (.lit .nilFunc)] := by kernel_rfl
@[go_sem] theorem tok162 : Abs.tok Tryz.prog 162 = true := by kernel_rfl
@[go_sem] theorem tagg162 : Abs.tagg Tryz.prog 162 = false := by kernel_rfl
@[go_sem] theorem tsize162 : Abs.tsize Tryz.prog 162 = 1 := by kernel_rfl
@[go_sem] theorem tzero162 : Abs.tzero Tryz.prog 162 = some [.t (.lit .nilFunc)] := by kernel_rfl
@[go_sem] theorem tok163 : Abs.tok Tryz.prog 163 = true := by kernel_rfl
@[go_sem] theorem tagg163 : Abs.tagg Tryz.prog 163 = false := by kernel_rfl
@[go_sem] theorem tsize163 : Abs.tsize Tryz.prog 163 = 1 := by kernel_rfl
@[go_sem] theorem tzero163 : Abs.tzero Tryz.prog 163 = some [.t (.lit .nilFunc)] := by kernel_rfl
@[go_sem] theorem tok165 : Abs.tok Tryz.prog 165 = true := by kernel_rfl
@[go_sem] theorem tagg165 : Abs.tagg Tryz.prog 165 = false := by kernel_rfl
@[go_sem] theorem tsize165 : Abs.tsize Tryz.prog 165 = 1 := by kernel_rfl
@[go_sem] theorem tzero165 : Abs.tzero Tryz.prog 165 = some [.t (.lit .nilFunc)] := by kernel_rfl
@[go_sem] theorem tok166 : Abs.tok Tryz.prog 166 = true := by kernel_rfl
@[go_sem] theorem tagg166 : Abs.tagg Tryz.prog 166 = false := by kernel_rfl
@[go_sem] theorem tsize166 : Abs.tsize Tryz.prog 166 = 1 := by kernel_rfl
@[go_sem] theorem tzero166 : Abs.tzero Tryz.prog 166 = some [.t (.lit .nilFunc)] := by kernel_rfl
@[go_sem] theorem tok167 : Abs.tok Tryz.prog 167 = true := by kernel_rfl
@[go_sem] theorem tagg167 : Abs.tagg Tryz.prog 167 = false := by kernel_rfl
@[go_sem] theorem tsize167 : Abs.tsize Tryz.prog 167 = 1 := by kernel_rfl
@[go_sem] theorem tzero167 : Abs.tzero Tryz.prog 167 = some [.t (.seq (some true) [])] := by kernel_rfl
@[go_sem] theorem tbytes167 : Abs.tbytes Tryz.prog 167 = 24 := by kernel_rfl
@[go_sem] theorem tsl167 : Abs.isSliceD (Abs.tdesc Tryz.prog 167) = true := by kernel_rfl
@[go_sem] theorem telem167 : Abs.telem Tryz.prog 167 = 30 := by kernel_rfl
@[go_sem] theorem tok168 : Abs.tok Tryz.prog 168 = true := by kernel_rfl
@[go_sem] theorem tagg168 : Abs.tagg Tryz.prog 168 = false := by kernel_rfl
@[go_sem] theorem tsize168 : Abs.tsize Tryz.prog 168 = 1 := by kernel_rfl
@[go_sem] theorem tzero168 : Abs.tzero Tryz.prog 168 = some [.t (.lit .nilFunc)] := by kernel_rfl
@[go_sem] theorem tok169 : Abs.tok Tryz.prog 169 = true := by kernel_rfl
@[go_sem] theorem tagg169 : Abs.tagg Tryz.prog 169 = false := by kernel_rfl
@[go_sem] theorem tsize169 : Abs.tsize Tryz.prog 169 = 1 := by kernel_rfl
@[go_sem] theorem tzero169 : Abs.tzero Tryz.prog 169 = some [.t (.lit .nilFunc)] := by kernel_rfl
@[go_sem] theorem tok170 : Abs.tok Tryz.prog 170 = true := by kernel_rfl
@[go_sem] theorem tagg170 : Abs.tagg Tryz.prog 170 = false := by kernel_rfl
@[go_sem] theorem tsize170 : Abs.tsize Tryz.prog 170 = 1 := by kernel_rfl
@[go_sem] theorem tzero170 : Abs.tzero Tryz.prog 170 = some [.t (.lit .nilFunc)] := by kernel_rfl
@[go_sem] theorem tok171 : Abs.tok Tryz.prog 171 = true := by kernel_rfl
@[go_sem] theorem tagg171 : Abs.tagg Tryz.prog 171 = false := by kernel_rfl
@[go_sem] theorem tsize171 : Abs.tsize Tryz.prog 171 = 1 := by kernel_rfl
@[go_sem] theorem tzero171 : Abs.tzero Tryz.prog 171 = some [.t (.lit .nilFunc)] := by kernel_rfl
@[go_sem] theorem tok172 : Abs.tok Tryz.prog 172 = true := by kernel_rfl
@[go_sem] theorem tagg172 : Abs.tagg Tryz.prog 172 = false := by kernel_rfl
@[go_sem] theorem tsize172 : Abs.tsize Tryz.prog 172 = 1 := by kernel_rfl
@[go_sem] theorem tzero172 : Abs.tzero Tryz.prog 172 = some [.t (.lit .nilFunc)] := by kernel_rfl
@[go_sem] theorem tok173 : Abs.tok Tryz.prog 173 = true := by kernel_rfl
@[go_sem] theorem tagg173 : Abs.tagg Tryz.prog 173 = false := by kernel_rfl
@[go_sem] theorem tsize173 : Abs.tsize Tryz.prog 173 = 1 := by kernel_rfl
@[go_sem] theorem tzero173 : Abs.tzero Tryz.prog 173 = some [.t (.lit .nilFunc)] := by kernel_rfl
@[go_sem] theorem tok174 : Abs.tok Tryz.prog 174 = true := by kernel_rfl
@[go_sem] theorem tagg174 : Abs.tagg Tryz.prog 174 = false := by kernel_rfl
@[go_sem] theorem tsize174 : Abs.tsize Tryz.prog 174 = 1 := by kernel_rfl
@[go_sem] theorem tzero174 : Abs.tzero Tryz.prog 174 = some [.t (.lit .nilFunc)] := by kernel_rfl
@[go_sem] theorem tok175 : Abs.tok Tryz.prog 175 = true := by kernel_rfl
@[go_sem] theorem tagg175 : Abs.tagg Tryz.prog 175 = true := by kernel_rfl
@[go_sem] theorem tsize175 : Abs.tsize Tryz.prog 175 = 4 := by kernel_rfl
@[go_sem] theorem tzero175 : Abs.tzero Tryz.prog 175 = some [.t (.lit (.pointer none)), .t (.lit (.pointer none)), .t (.lit (.pointer none)), .t (.lit (.string ⟨#[]⟩))] := by kernel_rfl
@[go_sem] theorem tbytes175 : Abs.tbytes Tryz.prog 175 = 40 := by kernel_rfl
@[go_sem] theorem tst175 : Abs.isStructD (Abs.tdesc Tryz.prog 175) = true := by kernel_rfl
@[go_sem] theorem tnf175 : Abs.nfields Tryz.prog 175 = 4 := by kernel_rfl
@[go_sem] theorem tpt175 : Abs.partsTok Tryz.prog 175 = true := by kernel_rfl
@[go_sem] theorem tfo175_0 : Abs.foff Tryz.prog 175 0 = 0 := by kernel_rfl
@[go_sem] theorem tft175_0 : Abs.fty Tryz.prog 175 0 = 17 := by kernel_rfl
@[go_sem] theorem tpl175_0 : Abs.placesA Tryz.prog 175 0 = some (0, 1) := by kernel_rfl
@[go_sem] theorem tfo175_1 : Abs.foff Tryz.prog 175 1 = 1 := by kernel_rfl
@[go_sem] theorem tft175_1 : Abs.fty Tryz.prog 175 1 = 17 := by kernel_rfl
@[go_sem] theorem tpl175_1 : Abs.placesA Tryz.prog 175 1 = some (1, 1) := by kernel_rfl
@[go_sem] theorem tfo175_2 : Abs.foff Tryz.prog 175 2 = 2 := by kernel_rfl
@[go_sem] theorem tft175_2 : Abs.fty Tryz.prog 175 2 = 17 := by kernel_rfl
@[go_sem] theorem tpl175_2 : Abs.placesA Tryz.prog 175 2 = some (2, 1) := by kernel_rfl
@[go_sem] theorem tfo175_3 : Abs.foff Tryz.prog 175 3 = 3 := by kernel_rfl
@[go_sem] theorem tft175_3 : Abs.fty Tryz.prog 175 3 = 9 := by kernel_rfl
@[go_sem] theorem tpl175_3 : Abs.placesA Tryz.prog 175 3 = some (3, 1) := by kernel_rfl
@[go_sem] theorem tok176 : Abs.tok Tryz.prog 176 = true := by kernel_rfl
@[go_sem] theorem tagg176 : Abs.tagg Tryz.prog 176 = true := by kernel_rfl
@[go_sem] theorem tsize176 : Abs.tsize Tryz.prog 176 = 4 := by kernel_rfl
@[go_sem] theorem tzero176 : Abs.tzero Tryz.prog 176 = some [.t (.lit (.pointer none)), .t (.lit (.pointer none)), .t (.lit (.pointer none)), .t (.lit (.string ⟨#[]⟩))] := by kernel_rfl
@[go_sem] theorem tbytes176 : Abs.tbytes Tryz.prog 176 = 40 := by kernel_rfl
@[go_sem] theorem tst176 : Abs.isStructD (Abs.tdesc Tryz.prog 176) = true := by kernel_rfl
@[go_sem] theorem tnf176 : Abs.nfields Tryz.prog 176 = 4 := by kernel_rfl
@[go_sem] theorem tpt176 : Abs.partsTok Tryz.prog 176 = true := by kernel_rfl
@[go_sem] theorem tfo176_0 : Abs.foff Tryz.prog 176 0 = 0 := by kernel_rfl
@[go_sem] theorem tft176_0 : Abs.fty Tryz.prog 176 0 = 17 := by kernel_rfl
@[go_sem] theorem tpl176_0 : Abs.placesA Tryz.prog 176 0 = some (0, 1) := by kernel_rfl
@[go_sem] theorem tfo176_1 : Abs.foff Tryz.prog 176 1 = 1 := by kernel_rfl
@[go_sem] theorem tft176_1 : Abs.fty Tryz.prog 176 1 = 17 := by kernel_rfl
@[go_sem] theorem tpl176_1 : Abs.placesA Tryz.prog 176 1 = some (1, 1) := by kernel_rfl
@[go_sem] theorem tfo176_2 : Abs.foff Tryz.prog 176 2 = 2 := by kernel_rfl
@[go_sem] theorem tft176_2 : Abs.fty Tryz.prog 176 2 = 17 := by kernel_rfl
@[go_sem] theorem tpl176_2 : Abs.placesA Tryz.prog 176 2 = some (2, 1) := by kernel_rfl
@[go_sem] theorem tfo176_3 : Abs.foff Tryz.prog 176 3 = 3 := by kernel_rfl
@[go_sem] theorem tft176_3 : Abs.fty Tryz.prog 176 3 = 9 := by kernel_rfl
@[go_sem] theorem tpl176_3 : Abs.placesA Tryz.prog 176 3 = some (3, 1) := by kernel_rfl
@[go_sem] theorem tok177 : Abs.tok Tryz.prog 177 = true := by kernel_rfl
@[go_sem] theorem tagg177 : Abs.tagg Tryz.prog 177 = true := by kernel_rfl
@[go_sem] theorem tsize177 : Abs.tsize Tryz.prog 177 = 0 := by kernel_rfl
@[go_sem] theorem tzero177 : Abs.tzero Tryz.prog 177 = some [] := by kernel_rfl
@[go_sem] theorem tbytes177 : Abs.tbytes Tryz.prog 177 = 0 := by kernel_rfl
@[go_sem] theorem tsl177 : Abs.isSliceD (Abs.tdesc Tryz.prog 177) = false := by kernel_rfl
@[go_sem] theorem tar177 : Abs.isArrayD (Abs.tdesc Tryz.prog 177) = true := by kernel_rfl
@[go_sem] theorem telem177 : Abs.telem Tryz.prog 177 = 16 := by kernel_rfl
@[go_sem] theorem tlen177 : Abs.arrLen (Abs.tdesc Tryz.prog 177) = 0 := by kernel_rfl
@[go_sem] theorem tpt177 : Abs.partsTok Tryz.prog 177 = true := by kernel_rfl
@[go_sem] theorem tok178 : Abs.tok Tryz.prog 178 = true := by kernel_rfl
@[go_sem] theorem tagg178 : Abs.tagg Tryz.prog 178 = true := by kernel_rfl
@[go_sem] theorem tsize178 : Abs.tsize Tryz.prog 178 = 0 := by kernel_rfl
@[go_sem] theorem tzero178 : Abs.tzero Tryz.prog 178 = some [] := by kernel_rfl
@[go_sem] theorem tbytes178 : Abs.tbytes Tryz.prog 178 = 0 := by kernel_rfl
@[go_sem] theorem tst178 : Abs.isStructD (Abs.tdesc Tryz.prog 178) = true := by kernel_rfl
@[go_sem] theorem tnf178 : Abs.nfields Tryz.prog 178 = 1 := by kernel_rfl
@[go_sem] theorem tpt178 : Abs.partsTok Tryz.prog 178 = true := by kernel_rfl
@[go_sem] theorem tfo178_0 : Abs.foff Tryz.prog 178 0 = 0 := by kernel_rfl
@[go_sem] theorem tft178_0 : Abs.fty Tryz.prog 178 0 = 177 := by kernel_rfl
@[go_sem] theorem tpl178_0 : Abs.placesA Tryz.prog 178 0 = some (0, 0) := by kernel_rfl
@[go_sem] theorem tok179 : Abs.tok Tryz.prog 179 = true := by kernel_rfl
@[go_sem] theorem tagg179 : Abs.tagg Tryz.prog 179 = true := by kernel_rfl
@[go_sem] theorem tsize179 : Abs.tsize Tryz.prog 179 = 0 := by kernel_rfl
@[go_sem] theorem tzero179 : Abs.tzero Tryz.prog 179 = some [] := by kernel_rfl
@[go_sem] theorem tbytes179 : Abs.tbytes Tryz.prog 179 = 0 := by kernel_rfl
@[go_sem] theorem tst179 : Abs.isStructD (Abs.tdesc Tryz.prog 179) = true := by kernel_rfl
@[go_sem] theorem tnf179 : Abs.nfields Tryz.prog 179 = 1 := by kernel_rfl
@[go_sem] theorem tpt179 : Abs.partsTok Tryz.prog 179 = true := by kernel_rfl
@[go_sem] theorem tfo179_0 : Abs.foff Tryz.prog 179 0 = 0 := by kernel_rfl
@[go_sem] theorem tft179_0 : Abs.fty Tryz.prog 179 0 = 177 := by kernel_rfl
@[go_sem] theorem tpl179_0 : Abs.placesA Tryz.prog 179 0 = some (0, 0) := by kernel_rfl
@[go_sem] theorem tok180 : Abs.tok Tryz.prog 180 = true := by kernel_rfl
@[go_sem] theorem tagg180 : Abs.tagg Tryz.prog 180 = false := by kernel_rfl
@[go_sem] theorem tsize180 : Abs.tsize Tryz.prog 180 = 1 := by kernel_rfl
@[go_sem] theorem tzero180 : Abs.tzero Tryz.prog 180 = some [.t (.lit (.int .u8 0))] := by kernel_rfl
@[go_sem] theorem tbytes180 : Abs.tbytes Tryz.prog 180 = 1 := by kernel_rfl
@[go_sem] theorem tint180 : Abs.intD (Abs.tdesc Tryz.prog 180) = some .u8 := by kernel_rfl
@[go_sem] theorem tok181 : Abs.tok Tryz.prog 181 = true := by kernel_rfl
@[go_sem] theorem tagg181 : Abs.tagg Tryz.prog 181 = false := by kernel_rfl
@[go_sem] theorem tsize181 : Abs.tsize Tryz.prog 181 = 1 := by kernel_rfl
@[go_sem] theorem tzero181 : Abs.tzero Tryz.prog 181 = some [.t (.lit (.int .u8 0))] := by kernel_rfl
@[go_sem] theorem tbytes181 : Abs.tbytes Tryz.prog 181 = 1 := by kernel_rfl
@[go_sem] theorem tint181 : Abs.intD (Abs.tdesc Tryz.prog 181) = some .u8 := by kernel_rfl
@[go_sem] theorem tok182 : Abs.tok Tryz.prog 182 = true := by kernel_rfl
@[go_sem] theorem tagg182 : Abs.tagg Tryz.prog 182 = false := by kernel_rfl
@[go_sem] theorem tsize182 : Abs.tsize Tryz.prog 182 = 1 := by kernel_rfl
@[go_sem] theorem tzero182 : Abs.tzero Tryz.prog 182 = some [.t (.lit .nilFunc)] := by kernel_rfl
@[go_sem] theorem tok183 : Abs.tok Tryz.prog 183 = true := by kernel_rfl
@[go_sem] theorem tagg183 : Abs.tagg Tryz.prog 183 = false := by kernel_rfl
@[go_sem] theorem tsize183 : Abs.tsize Tryz.prog 183 = 1 := by kernel_rfl
@[go_sem] theorem tzero183 : Abs.tzero Tryz.prog 183 = some [.t (.lit (.pointer none))] := by kernel_rfl
@[go_sem] theorem tbytes183 : Abs.tbytes Tryz.prog 183 = 8 := by kernel_rfl
@[go_sem] theorem tok184 : Abs.tok Tryz.prog 184 = true := by kernel_rfl
@[go_sem] theorem tagg184 : Abs.tagg Tryz.prog 184 = false := by kernel_rfl
@[go_sem] theorem tsize184 : Abs.tsize Tryz.prog 184 = 1 := by kernel_rfl
@[go_sem] theorem tzero184 : Abs.tzero Tryz.prog 184 = some [.t (.lit (.int .i32 0))] := by kernel_rfl
@[go_sem] theorem tbytes184 : Abs.tbytes Tryz.prog 184 = 4 := by kernel_rfl
@[go_sem] theorem tint184 : Abs.intD (Abs.tdesc Tryz.prog 184) = some .i32 := by kernel_rfl
@[go_sem] theorem tok185 : Abs.tok Tryz.prog 185 = true := by kernel_rfl
@[go_sem] theorem tagg185 : Abs.tagg Tryz.prog 185 = false := by kernel_rfl
@[go_sem] theorem tsize185 : Abs.tsize Tryz.prog 185 = 1 := by kernel_rfl
@[go_sem] theorem tzero185 : Abs.tzero Tryz.prog 185 = some [.t (.lit (.int .i32 0))] := by kernel_rfl
@[go_sem] theorem tbytes185 : Abs.tbytes Tryz.prog 185 = 4 := by kernel_rfl
@[go_sem] theorem tint185 : Abs.intD (Abs.tdesc Tryz.prog 185) = some .i32 := by kernel_rfl
@[go_sem] theorem tok186 : Abs.tok Tryz.prog 186 = true := by kernel_rfl
@[go_sem] theorem tagg186 : Abs.tagg Tryz.prog 186 = true := by kernel_rfl
@[go_sem] theorem tsize186 : Abs.tsize Tryz.prog 186 = 11 := by kernel_rfl
@[go_sem] theorem tzero186 : Abs.tzero Tryz.prog 186 = some [.t (.lit (.int .u64 0)), .t (.lit (.int .u64 0)), .t (.lit (.int .u32 0)), .t (.lit (.int .u8 0)), .t (.lit (.int .u8 0)), .t (.lit (.int .u8 0)), .t (.lit (.int .u8 0)), .t (.lit .nilFunc), .t (.lit (.pointer none)), .t (.lit (.int .i32 0)), .t (.lit (.int .i32 0))] := by kernel_rfl
@[go_sem] theorem tbytes186 : Abs.tbytes Tryz.prog 186 = 48 := by kernel_rfl
@[go_sem] theorem tst186 : Abs.isStructD (Abs.tdesc Tryz.prog 186) = true := by kernel_rfl
@[go_sem] theorem tnf186 : Abs.nfields Tryz.prog 186 = 11 := by kernel_rfl
@[go_sem] theorem tpt186 : Abs.partsTok Tryz.prog 186 = true := by kernel_rfl
@[go_sem] theorem tfo186_0 : Abs.foff Tryz.prog 186 0 = 0 := by kernel_rfl
@[go_sem] theorem tft186_0 : Abs.fty Tryz.prog 186 0 = 12 := by kernel_rfl
@[go_sem] theorem tpl186_0 : Abs.placesA Tryz.prog 186 0 = some (0, 1) := by kernel_rfl
@[go_sem] theorem tfo186_1 : Abs.foff Tryz.prog 186 1 = 1 := by kernel_rfl
@[go_sem] theorem tft186_1 : Abs.fty Tryz.prog 186 1 = 12 := by kernel_rfl
@[go_sem] theorem tpl186_1 : Abs.placesA Tryz.prog 186 1 = some (1, 1) := by kernel_rfl
@[go_sem] theorem tfo186_2 : Abs.foff Tryz.prog 186 2 = 2 := by kernel_rfl
@[go_sem] theorem tft186_2 : Abs.fty Tryz.prog 186 2 = 79 := by kernel_rfl
@[go_sem] theorem tpl186_2 : Abs.placesA Tryz.prog 186 2 = some (2, 1) := by kernel_rfl
@[go_sem] theorem tfo186_3 : Abs.foff Tryz.prog 186 3 = 3 := by kernel_rfl
@[go_sem] theorem tft186_3 : Abs.fty Tryz.prog 186 3 = 180 := by kernel_rfl
@[go_sem] theorem tpl186_3 : Abs.placesA Tryz.prog 186 3 = some (3, 1) := by kernel_rfl
@[go_sem] theorem tfo186_4 : Abs.foff Tryz.prog 186 4 = 4 := by kernel_rfl
@[go_sem] theorem tft186_4 : Abs.fty Tryz.prog 186 4 = 5 := by kernel_rfl
@[go_sem] theorem tpl186_4 : Abs.placesA Tryz.prog 186 4 = some (4, 1) := by kernel_rfl
@[go_sem] theorem tfo186_5 : Abs.foff Tryz.prog 186 5 = 5 := by kernel_rfl
@[go_sem] theorem tft186_5 : Abs.fty Tryz.prog 186 5 = 5 := by kernel_rfl
@[go_sem] theorem tpl186_5 : Abs.placesA Tryz.prog 186 5 = some (5, 1) := by kernel_rfl
@[go_sem] theorem tfo186_6 : Abs.foff Tryz.prog 186 6 = 6 := by kernel_rfl
@[go_sem] theorem tft186_6 : Abs.fty Tryz.prog 186 6 = 181 := by kernel_rfl
@[go_sem] theorem tpl186_6 : Abs.placesA Tryz.prog 186 6 = some (6, 1) := by kernel_rfl
@[go_sem] theorem tfo186_7 : Abs.foff Tryz.prog 186 7 = 7 := by kernel_rfl
@[go_sem] theorem tft186_7 : Abs.fty Tryz.prog 186 7 = 182 := by kernel_rfl
@[go_sem] theorem tpl186_7 : Abs.placesA Tryz.prog 186 7 = some (7, 1) := by kernel_rfl
@[go_sem] theorem tfo186_8 : Abs.foff Tryz.prog 186 8 = 8 := by kernel_rfl
@[go_sem] theorem tft186_8 : Abs.fty Tryz.prog 186 8 = 183 := by kernel_rfl
@[go_sem] theorem tpl186_8 : Abs.placesA Tryz.prog 186 8 = some (8, 1) := by kernel_rfl
@[go_sem] theorem tfo186_9 : Abs.foff Tryz.prog 186 9 = 9 := by kernel_rfl
@[go_sem] theorem tft186_9 : Abs.fty Tryz.prog 186 9 = 184 := by kernel_rfl
@[go_sem] theorem tpl186_9 : Abs.placesA Tryz.prog 186 9 = some (9, 1) := by kernel_rfl
@[go_sem] theorem tfo186_10 : Abs.foff Tryz.prog 186 10 = 10 := by kernel_rfl
@[go_sem] theorem tft186_10 : Abs.fty Tryz.prog 186 10 = 185 := by kernel_rfl
@[go_sem] theorem tpl186_10 : Abs.placesA Tryz.prog 186 10 = some (10, 1) := by kernel_rfl
@[go_sem] theorem tok187 : Abs.tok Tryz.prog 187 = true := by kernel_rfl
@[go_sem] theorem tagg187 : Abs.tagg Tryz.prog 187 = true := by kernel_rfl
@[go_sem] theorem tsize187 : Abs.tsize Tryz.prog 187 = 11 := by kernel_rfl
@[go_sem] theorem tzero187 : Abs.tzero Tryz.prog 187 = some [.t (.lit (.int .u64 0)), .t (.lit (.int .u64 0)), .t (.lit (.int .u32 0)), .t (.lit (.int .u8 0)), .t (.lit (.int .u8 0)), .t (.lit (.int .u8 0)), .t (.lit (.int .u8 0)), .t (.lit .nilFunc), .t (.lit (.pointer none)), .t (.lit (.int .i32 0)), .t (.lit (.int .i32 0))] := by kernel_rfl
@[go_sem] theorem tbytes187 : Abs.tbytes Tryz.prog 187 = 48 := by kernel_rfl
@[go_sem] theorem tst187 : Abs.isStructD (Abs.tdesc Tryz.prog 187) = true := by kernel_rfl
@[go_sem] theorem tnf187 : Abs.nfields Tryz.prog 187 = 11 := by kernel_rfl
@[go_sem] theorem tpt187 : Abs.partsTok Tryz.prog 187 = true := by kernel_rfl
@[go_sem] theorem tfo187_0 : Abs.foff Tryz.prog 187 0 = 0 := by kernel_rfl
@[go_sem] theorem tft187_0 : Abs.fty Tryz.prog 187 0 = 12 := by kernel_rfl
@[go_sem] theorem tpl187_0 : Abs.placesA Tryz.prog 187 0 = some (0, 1) := by kernel_rfl
@[go_sem] theorem tfo187_1 : Abs.foff Tryz.prog 187 1 = 1 := by kernel_rfl
@[go_sem] theorem tft187_1 : Abs.fty Tryz.prog 187 1 = 12 := by kernel_rfl
@[go_sem] theorem tpl187_1 : Abs.placesA Tryz.prog 187 1 = some (1, 1) := by kernel_rfl
@[go_sem] theorem tfo187_2 : Abs.foff Tryz.prog 187 2 = 2 := by kernel_rfl
@[go_sem] theorem tft187_2 : Abs.fty Tryz.prog 187 2 = 79 := by kernel_rfl
@[go_sem] theorem tpl187_2 : Abs.placesA Tryz.prog 187 2 = some (2, 1) := by kernel_rfl
@[go_sem] theorem tfo187_3 : Abs.foff Tryz.prog 187 3 = 3 := by kernel_rfl
@[go_sem] theorem tft187_3 : Abs.fty Tryz.prog 187 3 = 180 := by kernel_rfl
@[go_sem] theorem tpl187_3 : Abs.placesA Tryz.prog 187 3 = some (3, 1) := by kernel_rfl
@[go_sem] theorem tfo187_4 : Abs.foff Tryz.prog 187 4 = 4 := by kernel_rfl
@[go_sem] theorem tft187_4 : Abs.fty Tryz.prog 187 4 = 5 := by kernel_rfl
@[go_sem] theorem tpl187_4 : Abs.placesA Tryz.prog 187 4 = some (4, 1) := by kernel_rfl
@[go_sem] theorem tfo187_5 : Abs.foff Tryz.prog 187 5 = 5 := by kernel_rfl
@[go_sem] theorem tft187_5 : Abs.fty Tryz.prog 187 5 = 5 := by kernel_rfl
@[go_sem] theorem tpl187_5 : Abs.placesA Tryz.prog 187 5 = some (5, 1) := by kernel_rfl
@[go_sem] theorem tfo187_6 : Abs.foff Tryz.prog 187 6 = 6 := by kernel_rfl
@[go_sem] theorem tft187_6 : Abs.fty Tryz.prog 187 6 = 181 := by kernel_rfl
@[go_sem] theorem tpl187_6 : Abs.placesA Tryz.prog 187 6 = some (6, 1) := by kernel_rfl
@[go_sem] theorem tfo187_7 : Abs.foff Tryz.prog 187 7 = 7 := by kernel_rfl
@[go_sem] theorem tft187_7 : Abs.fty Tryz.prog 187 7 = 182 := by kernel_rfl
@[go_sem] theorem tpl187_7 : Abs.placesA Tryz.prog 187 7 = some (7, 1) := by kernel_rfl
@[go_sem] theorem tfo187_8 : Abs.foff Tryz.prog 187 8 = 8 := by kernel_rfl
@[go_sem] theorem tft187_8 : Abs.fty Tryz.prog 187 8 = 183 := by kernel_rfl
@[go_sem] theorem tpl187_8 : Abs.placesA Tryz.prog 187 8 = some (8, 1) := by kernel_rfl
@[go_sem] theorem tfo187_9 : Abs.foff Tryz.prog 187 9 = 9 := by kernel_rfl
@[go_sem] theorem tft187_9 : Abs.fty Tryz.prog 187 9 = 184 := by kernel_rfl
@[go_sem] theorem tpl187_9 : Abs.placesA Tryz.prog 187 9 = some (9, 1) := by kernel_rfl
@[go_sem] theorem tfo187_10 : Abs.foff Tryz.prog 187 10 = 10 := by kernel_rfl
@[go_sem] theorem tft187_10 : Abs.fty Tryz.prog 187 10 = 185 := by kernel_rfl
@[go_sem] theorem tpl187_10 : Abs.placesA Tryz.prog 187 10 = some (10, 1) := by kernel_rfl
@[go_sem] theorem tok188 : Abs.tok Tryz.prog 188 = true := by kernel_rfl
@[go_sem] theorem tagg188 : Abs.tagg Tryz.prog 188 = false := by kernel_rfl
@[go_sem] theorem tsize188 : Abs.tsize Tryz.prog 188 = 1 := by kernel_rfl
@[go_sem] theorem tzero188 : Abs.tzero Tryz.prog 188 = some [.t (.lit (.pointer none))] := by kernel_rfl
@[go_sem] theorem tbytes188 : Abs.tbytes Tryz.prog 188 = 8 := by kernel_rfl
end Go.Proofs.YtfgejnedaijjiaaGreat
