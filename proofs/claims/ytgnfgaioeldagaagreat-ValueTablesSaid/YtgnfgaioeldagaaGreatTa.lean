/- At every input the call answers true and leaves its arguments as they were; no conditions. -/
import Derived.Test.YtgnfgaioeldagaaGreatProg
import Derived.KernelRfl
import Derived.Test.YtgnfgaioeldagaaGreatMb
set_option linter.unusedSimpArgs false
set_option linter.unusedVariables false
namespace Go.Proofs.YtgnfgaioeldagaaGreat
open Go Go.Abs
@[go_sem] theorem tok1 : Abs.tok Tryz.prog 1 = true := by kernel_rfl
@[go_sem] theorem tagg1 : Abs.tagg Tryz.prog 1 = false := by kernel_rfl
@[go_sem] theorem tsize1 : Abs.tsize Tryz.prog 1 = 1 := by kernel_rfl
@[go_sem] theorem tzero1 : Abs.tzero Tryz.prog 1 = some [.t (.lit .nilFunc)] := by kernel_rfl
@[go_sem] theorem tok2 : Abs.tok Tryz.prog 2 = true := by kernel_rfl
@[go_sem] theorem tagg2 : Abs.tagg Tryz.prog 2 = false := by kernel_rfl
@[go_sem] theorem tsize2 : Abs.tsize Tryz.prog 2 = 1 := by kernel_rfl
@[go_sem] theorem tzero2 : Abs.tzero Tryz.prog 2 = some [.t (.lit (.int .i64 0))] := by kernel_rfl
@[go_sem] theorem tbytes2 : Abs.tbytes Tryz.prog 2 = 8 := by kernel_rfl
@[go_sem] theorem tint2 : Abs.intD (Abs.tdesc Tryz.prog 2) = some .i64 := by kernel_rfl
@[go_sem] theorem tok3 : Abs.tok Tryz.prog 3 = true := by kernel_rfl
@[go_sem] theorem tagg3 : Abs.tagg Tryz.prog 3 = false := by kernel_rfl
@[go_sem] theorem tsize3 : Abs.tsize Tryz.prog 3 = 1 := by kernel_rfl
@[go_sem] theorem tzero3 : Abs.tzero Tryz.prog 3 = some [.t (.lit (.int .i64 0))] := by kernel_rfl
@[go_sem] theorem tbytes3 : Abs.tbytes Tryz.prog 3 = 8 := by kernel_rfl
@[go_sem] theorem tint3 : Abs.intD (Abs.tdesc Tryz.prog 3) = some .i64 := by kernel_rfl
@[go_sem] theorem tok4 : Abs.tok Tryz.prog 4 = true := by kernel_rfl
@[go_sem] theorem tagg4 : Abs.tagg Tryz.prog 4 = false := by kernel_rfl
@[go_sem] theorem tsize4 : Abs.tsize Tryz.prog 4 = 1 := by kernel_rfl
@[go_sem] theorem tzero4 : Abs.tzero Tryz.prog 4 = some [.t (.lit (.bool false))] := by kernel_rfl
@[go_sem] theorem tbytes4 : Abs.tbytes Tryz.prog 4 = 1 := by kernel_rfl
@[go_sem] theorem tbool4 : Abs.tdesc Tryz.prog 4 = .bool := by kernel_rfl
@[go_sem] theorem tok5 : Abs.tok Tryz.prog 5 = true := by kernel_rfl
@[go_sem] theorem tagg5 : Abs.tagg Tryz.prog 5 = false := by kernel_rfl
@[go_sem] theorem tsize5 : Abs.tsize Tryz.prog 5 = 1 := by kernel_rfl
@[go_sem] theorem tzero5 : Abs.tzero Tryz.prog 5 = some [.t (.lit (.int .u8 0))] := by kernel_rfl
@[go_sem] theorem tbytes5 : Abs.tbytes Tryz.prog 5 = 1 := by kernel_rfl
@[go_sem] theorem tint5 : Abs.intD (Abs.tdesc Tryz.prog 5) = some .u8 := by kernel_rfl
@[go_sem] theorem tok6 : Abs.tok Tryz.prog 6 = true := by kernel_rfl
@[go_sem] theorem tagg6 : Abs.tagg Tryz.prog 6 = false := by kernel_rfl
@[go_sem] theorem tsize6 : Abs.tsize Tryz.prog 6 = 1 := by kernel_rfl
@[go_sem] theorem tzero6 : Abs.tzero Tryz.prog 6 = some [.t (.lit (.int .u8 0))] := by kernel_rfl
@[go_sem] theorem tbytes6 : Abs.tbytes Tryz.prog 6 = 1 := by kernel_rfl
@[go_sem] theorem tint6 : Abs.intD (Abs.tdesc Tryz.prog 6) = some .u8 := by kernel_rfl
@[go_sem] theorem tok7 : Abs.tok Tryz.prog 7 = true := by kernel_rfl
@[go_sem] theorem tagg7 : Abs.tagg Tryz.prog 7 = true := by kernel_rfl
@[go_sem] theorem tsize7 : Abs.tsize Tryz.prog 7 = 4 := by kernel_rfl
@[go_sem] theorem tzero7 : Abs.tzero Tryz.prog 7 = some [.t (.lit (.int .i64 0)), .t (.lit (.int .i64 0)), .t (.lit (.bool false)), .t (.lit (.int .u8 0))] := by kernel_rfl
@[go_sem] theorem tbytes7 : Abs.tbytes Tryz.prog 7 = 24 := by kernel_rfl
@[go_sem] theorem tst7 : Abs.isStructD (Abs.tdesc Tryz.prog 7) = true := by kernel_rfl
@[go_sem] theorem tnf7 : Abs.nfields Tryz.prog 7 = 4 := by kernel_rfl
@[go_sem] theorem tpt7 : Abs.partsTok Tryz.prog 7 = true := by kernel_rfl
@[go_sem] theorem tfo7_0 : Abs.foff Tryz.prog 7 0 = 0 := by kernel_rfl
@[go_sem] theorem tft7_0 : Abs.fty Tryz.prog 7 0 = 2 := by kernel_rfl
@[go_sem] theorem tpl7_0 : Abs.placesA Tryz.prog 7 0 = some (0, 1) := by kernel_rfl
@[go_sem] theorem tfo7_1 : Abs.foff Tryz.prog 7 1 = 1 := by kernel_rfl
@[go_sem] theorem tft7_1 : Abs.fty Tryz.prog 7 1 = 3 := by kernel_rfl
@[go_sem] theorem tpl7_1 : Abs.placesA Tryz.prog 7 1 = some (1, 1) := by kernel_rfl
@[go_sem] theorem tfo7_2 : Abs.foff Tryz.prog 7 2 = 2 := by kernel_rfl
@[go_sem] theorem tft7_2 : Abs.fty Tryz.prog 7 2 = 4 := by kernel_rfl
@[go_sem] theorem tpl7_2 : Abs.placesA Tryz.prog 7 2 = some (2, 1) := by kernel_rfl
@[go_sem] theorem tfo7_3 : Abs.foff Tryz.prog 7 3 = 3 := by kernel_rfl
@[go_sem] theorem tft7_3 : Abs.fty Tryz.prog 7 3 = 6 := by kernel_rfl
@[go_sem] theorem tpl7_3 : Abs.placesA Tryz.prog 7 3 = some (3, 1) := by kernel_rfl
@[go_sem] theorem tok8 : Abs.tok Tryz.prog 8 = true := by kernel_rfl
@[go_sem] theorem tagg8 : Abs.tagg Tryz.prog 8 = true := by kernel_rfl
@[go_sem] theorem tsize8 : Abs.tsize Tryz.prog 8 = 4 := by kernel_rfl
@[go_sem] theorem tzero8 : Abs.tzero Tryz.prog 8 = some [.t (.lit (.int .i64 0)), .t (.lit (.int .i64 0)), .t (.lit (.bool false)), .t (.lit (.int .u8 0))] := by kernel_rfl
@[go_sem] theorem tbytes8 : Abs.tbytes Tryz.prog 8 = 24 := by kernel_rfl
@[go_sem] theorem tst8 : Abs.isStructD (Abs.tdesc Tryz.prog 8) = true := by kernel_rfl
@[go_sem] theorem tnf8 : Abs.nfields Tryz.prog 8 = 4 := by kernel_rfl
@[go_sem] theorem tpt8 : Abs.partsTok Tryz.prog 8 = true := by kernel_rfl
@[go_sem] theorem tfo8_0 : Abs.foff Tryz.prog 8 0 = 0 := by kernel_rfl
@[go_sem] theorem tft8_0 : Abs.fty Tryz.prog 8 0 = 2 := by kernel_rfl
@[go_sem] theorem tpl8_0 : Abs.placesA Tryz.prog 8 0 = some (0, 1) := by kernel_rfl
@[go_sem] theorem tfo8_1 : Abs.foff Tryz.prog 8 1 = 1 := by kernel_rfl
@[go_sem] theorem tft8_1 : Abs.fty Tryz.prog 8 1 = 3 := by kernel_rfl
@[go_sem] theorem tpl8_1 : Abs.placesA Tryz.prog 8 1 = some (1, 1) := by kernel_rfl
@[go_sem] theorem tfo8_2 : Abs.foff Tryz.prog 8 2 = 2 := by kernel_rfl
@[go_sem] theorem tft8_2 : Abs.fty Tryz.prog 8 2 = 4 := by kernel_rfl
@[go_sem] theorem tpl8_2 : Abs.placesA Tryz.prog 8 2 = some (2, 1) := by kernel_rfl
@[go_sem] theorem tfo8_3 : Abs.foff Tryz.prog 8 3 = 3 := by kernel_rfl
@[go_sem] theorem tft8_3 : Abs.fty Tryz.prog 8 3 = 6 := by kernel_rfl
@[go_sem] theorem tpl8_3 : Abs.placesA Tryz.prog 8 3 = some (3, 1) := by kernel_rfl
@[go_sem] theorem tok9 : Abs.tok Tryz.prog 9 = true := by kernel_rfl
@[go_sem] theorem tagg9 : Abs.tagg Tryz.prog 9 = false := by kernel_rfl
@[go_sem] theorem tsize9 : Abs.tsize Tryz.prog 9 = 1 := by kernel_rfl
@[go_sem] theorem tzero9 : Abs.tzero Tryz.prog 9 = some [.t (.lit (.string ⟨#[]⟩))] := by kernel_rfl
@[go_sem] theorem tbytes9 : Abs.tbytes Tryz.prog 9 = 16 := by kernel_rfl
@[go_sem] theorem tstr9 : Abs.tdesc Tryz.prog 9 = .string := by kernel_rfl
@[go_sem] theorem tok10 : Abs.tok Tryz.prog 10 = true := by kernel_rfl
@[go_sem] theorem tagg10 : Abs.tagg Tryz.prog 10 = false := by kernel_rfl
@[go_sem] theorem tsize10 : Abs.tsize Tryz.prog 10 = 1 := by kernel_rfl
@[go_sem] theorem tzero10 : Abs.tzero Tryz.prog 10 = some [.t (.lit (.string ⟨#[]⟩))] := by kernel_rfl
@[go_sem] theorem tbytes10 : Abs.tbytes Tryz.prog 10 = 16 := by kernel_rfl
@[go_sem] theorem tstr10 : Abs.tdesc Tryz.prog 10 = .string := by kernel_rfl
@[go_sem] theorem tok11 : Abs.tok Tryz.prog 11 = true := by kernel_rfl
@[go_sem] theorem tagg11 : Abs.tagg Tryz.prog 11 = false := by kernel_rfl
@[go_sem] theorem tsize11 : Abs.tsize Tryz.prog 11 = 1 := by kernel_rfl
@[go_sem] theorem tzero11 : Abs.tzero Tryz.prog 11 = some [.t (.lit (.string ⟨#[]⟩))] := by kernel_rfl
@[go_sem] theorem tbytes11 : Abs.tbytes Tryz.prog 11 = 16 := by kernel_rfl
@[go_sem] theorem tstr11 : Abs.tdesc Tryz.prog 11 = .string := by kernel_rfl
@[go_sem] theorem tok12 : Abs.tok Tryz.prog 12 = true := by kernel_rfl
@[go_sem] theorem tagg12 : Abs.tagg Tryz.prog 12 = false := by kernel_rfl
@[go_sem] theorem tsize12 : Abs.tsize Tryz.prog 12 = 1 := by kernel_rfl
@[go_sem] theorem tzero12 : Abs.tzero Tryz.prog 12 = some [.t (.lit (.int .u64 0))] := by kernel_rfl
@[go_sem] theorem tbytes12 : Abs.tbytes Tryz.prog 12 = 8 := by kernel_rfl
@[go_sem] theorem tint12 : Abs.intD (Abs.tdesc Tryz.prog 12) = some .u64 := by kernel_rfl
@[go_sem] theorem tok13 : Abs.tok Tryz.prog 13 = true := by kernel_rfl
@[go_sem] theorem tagg13 : Abs.tagg Tryz.prog 13 = true := by kernel_rfl
@[go_sem] theorem tsize13 : Abs.tsize Tryz.prog 13 = 2 := by kernel_rfl
@[go_sem] theorem tzero13 : Abs.tzero Tryz.prog 13 = some [.t (.lit (.string ⟨#[]⟩)), .t (.lit (.int .u64 0))] := by kernel_rfl
@[go_sem] theorem tbytes13 : Abs.tbytes Tryz.prog 13 = 24 := by kernel_rfl
@[go_sem] theorem tst13 : Abs.isStructD (Abs.tdesc Tryz.prog 13) = true := by kernel_rfl
@[go_sem] theorem tnf13 : Abs.nfields Tryz.prog 13 = 2 := by kernel_rfl
@[go_sem] theorem tpt13 : Abs.partsTok Tryz.prog 13 = true := by kernel_rfl
@[go_sem] theorem tfo13_0 : Abs.foff Tryz.prog 13 0 = 0 := by kernel_rfl
@[go_sem] theorem tft13_0 : Abs.fty Tryz.prog 13 0 = 9 := by kernel_rfl
@[go_sem] theorem tpl13_0 : Abs.placesA Tryz.prog 13 0 = some (0, 1) := by kernel_rfl
@[go_sem] theorem tfo13_1 : Abs.foff Tryz.prog 13 1 = 1 := by kernel_rfl
@[go_sem] theorem tft13_1 : Abs.fty Tryz.prog 13 1 = 12 := by kernel_rfl
@[go_sem] theorem tpl13_1 : Abs.placesA Tryz.prog 13 1 = some (1, 1) := by kernel_rfl
@[go_sem] theorem tok14 : Abs.tok Tryz.prog 14 = true := by kernel_rfl
@[go_sem] theorem tagg14 : Abs.tagg Tryz.prog 14 = true := by kernel_rfl
@[go_sem] theorem tsize14 : Abs.tsize Tryz.prog 14 = 2 := by kernel_rfl
@[go_sem] theorem tzero14 : Abs.tzero Tryz.prog 14 = some [.t (.lit (.string ⟨#[]⟩)), .t (.lit (.int .u64 0))] := by kernel_rfl
@[go_sem] theorem tbytes14 : Abs.tbytes Tryz.prog 14 = 24 := by kernel_rfl
@[go_sem] theorem tst14 : Abs.isStructD (Abs.tdesc Tryz.prog 14) = true := by kernel_rfl
@[go_sem] theorem tnf14 : Abs.nfields Tryz.prog 14 = 2 := by kernel_rfl
@[go_sem] theorem tpt14 : Abs.partsTok Tryz.prog 14 = true := by kernel_rfl
@[go_sem] theorem tfo14_0 : Abs.foff Tryz.prog 14 0 = 0 := by kernel_rfl
@[go_sem] theorem tft14_0 : Abs.fty Tryz.prog 14 0 = 9 := by kernel_rfl
@[go_sem] theorem tpl14_0 : Abs.placesA Tryz.prog 14 0 = some (0, 1) := by kernel_rfl
@[go_sem] theorem tfo14_1 : Abs.foff Tryz.prog 14 1 = 1 := by kernel_rfl
@[go_sem] theorem tft14_1 : Abs.fty Tryz.prog 14 1 = 12 := by kernel_rfl
@[go_sem] theorem tpl14_1 : Abs.placesA Tryz.prog 14 1 = some (1, 1) := by kernel_rfl
@[go_sem] theorem tok15 : Abs.tok Tryz.prog 15 = true := by kernel_rfl
@[go_sem] theorem tagg15 : Abs.tagg Tryz.prog 15 = false := by kernel_rfl
@[go_sem] theorem tsize15 : Abs.tsize Tryz.prog 15 = 1 := by kernel_rfl
@[go_sem] theorem tzero15 : Abs.tzero Tryz.prog 15 = some [.t (.lit (.pointer none))] := by kernel_rfl
@[go_sem] theorem tbytes15 : Abs.tbytes Tryz.prog 15 = 8 := by kernel_rfl
@[go_sem] theorem tok16 : Abs.tok Tryz.prog 16 = true := by kernel_rfl
@[go_sem] theorem tagg16 : Abs.tagg Tryz.prog 16 = false := by kernel_rfl
@[go_sem] theorem tsize16 : Abs.tsize Tryz.prog 16 = 1 := by kernel_rfl
@[go_sem] theorem tzero16 : Abs.tzero Tryz.prog 16 = some [.t (.lit (.pointer none))] := by kernel_rfl
@[go_sem] theorem tbytes16 : Abs.tbytes Tryz.prog 16 = 8 := by kernel_rfl
@[go_sem] theorem tok17 : Abs.tok Tryz.prog 17 = true := by kernel_rfl
@[go_sem] theorem tagg17 : Abs.tagg Tryz.prog 17 = false := by kernel_rfl
@[go_sem] theorem tsize17 : Abs.tsize Tryz.prog 17 = 1 := by kernel_rfl
@[go_sem] theorem tzero17 : Abs.tzero Tryz.prog 17 = some [.t (.lit (.pointer none))] := by kernel_rfl
@[go_sem] theorem tbytes17 : Abs.tbytes Tryz.prog 17 = 8 := by kernel_rfl
@[go_sem] theorem tok18 : Abs.tok Tryz.prog 18 = true := by kernel_rfl
@[go_sem] theorem tagg18 : Abs.tagg Tryz.prog 18 = true := by kernel_rfl
@[go_sem] theorem tsize18 : Abs.tsize Tryz.prog 18 = 1 := by kernel_rfl
@[go_sem] theorem tzero18 : Abs.tzero Tryz.prog 18 = some [.t (.lit (.pointer none))] := by kernel_rfl
@[go_sem] theorem tbytes18 : Abs.tbytes Tryz.prog 18 = 8 := by kernel_rfl
@[go_sem] theorem tst18 : Abs.isStructD (Abs.tdesc Tryz.prog 18) = true := by kernel_rfl
@[go_sem] theorem tnf18 : Abs.nfields Tryz.prog 18 = 1 := by kernel_rfl
@[go_sem] theorem tpt18 : Abs.partsTok Tryz.prog 18 = true := by kernel_rfl
@[go_sem] theorem tfo18_0 : Abs.foff Tryz.prog 18 0 = 0 := by kernel_rfl
@[go_sem] theorem tft18_0 : Abs.fty Tryz.prog 18 0 = 17 := by kernel_rfl
@[go_sem] theorem tpl18_0 : Abs.placesA Tryz.prog 18 0 = some (0, 1) := by kernel_rfl
@[go_sem] theorem tok19 : Abs.tok Tryz.prog 19 = true := by kernel_rfl
@[go_sem] theorem tagg19 : Abs.tagg Tryz.prog 19 = true := by kernel_rfl
@[go_sem] theorem tsize19 : Abs.tsize Tryz.prog 19 = 1 := by kernel_rfl
@[go_sem] theorem tzero19 : Abs.tzero Tryz.prog 19 = some [.t (.lit (.pointer none))] := by kernel_rfl
@[go_sem] theorem tbytes19 : Abs.tbytes Tryz.prog 19 = 8 := by kernel_rfl
@[go_sem] theorem tst19 : Abs.isStructD (Abs.tdesc Tryz.prog 19) = true := by kernel_rfl
@[go_sem] theorem tnf19 : Abs.nfields Tryz.prog 19 = 1 := by kernel_rfl
@[go_sem] theorem tpt19 : Abs.partsTok Tryz.prog 19 = true := by kernel_rfl
@[go_sem] theorem tfo19_0 : Abs.foff Tryz.prog 19 0 = 0 := by kernel_rfl
@[go_sem] theorem tft19_0 : Abs.fty Tryz.prog 19 0 = 17 := by kernel_rfl
@[go_sem] theorem tpl19_0 : Abs.placesA Tryz.prog 19 0 = some (0, 1) := by kernel_rfl
@[go_sem] theorem tok21 : Abs.tok Tryz.prog 21 = true := by kernel_rfl
@[go_sem] theorem tagg21 : Abs.tagg Tryz.prog 21 = false := by kernel_rfl
@[go_sem] theorem tsize21 : Abs.tsize Tryz.prog 21 = 1 := by kernel_rfl
@[go_sem] theorem tzero21 : Abs.tzero Tryz.prog 21 = some [.t (.lit (.int .i32 0))] := by kernel_rfl
@[go_sem] theorem tbytes21 : Abs.tbytes Tryz.prog 21 = 4 := by kernel_rfl
@[go_sem] theorem tint21 : Abs.intD (Abs.tdesc Tryz.prog 21) = some .i32 := by kernel_rfl
@[go_sem] theorem tok22 : Abs.tok Tryz.prog 22 = true := by kernel_rfl
@[go_sem] theorem tagg22 : Abs.tagg Tryz.prog 22 = false := by kernel_rfl
@[go_sem] theorem tsize22 : Abs.tsize Tryz.prog 22 = 1 := by kernel_rfl
@[go_sem] theorem tzero22 : Abs.tzero Tryz.prog 22 = some [.t (.seq (some true) [])] := by kernel_rfl
@[go_sem] theorem tbytes22 : Abs.tbytes Tryz.prog 22 = 24 := by kernel_rfl
@[go_sem] theorem tsl22 : Abs.isSliceD (Abs.tdesc Tryz.prog 22) = true := by kernel_rfl
@[go_sem] theorem telem22 : Abs.telem Tryz.prog 22 = 83 := by kernel_rfl
@[go_sem] theorem tok23 : Abs.tok Tryz.prog 23 = true := by kernel_rfl
@[go_sem] theorem tagg23 : Abs.tagg Tryz.prog 23 = true := by kernel_rfl
@[go_sem] theorem tsize23 : Abs.tsize Tryz.prog 23 = 2 := by kernel_rfl
@[go_sem] theorem tzero23 : Abs.tzero Tryz.prog 23 = some [.t (.lit (.bool false)), .t (.seq (some true) [])] := by kernel_rfl
@[go_sem] theorem tbytes23 : Abs.tbytes Tryz.prog 23 = 32 := by kernel_rfl
@[go_sem] theorem tst23 : Abs.isStructD (Abs.tdesc Tryz.prog 23) = true := by kernel_rfl
@[go_sem] theorem tnf23 : Abs.nfields Tryz.prog 23 = 2 := by kernel_rfl
@[go_sem] theorem tpt23 : Abs.partsTok Tryz.prog 23 = true := by kernel_rfl
@[go_sem] theorem tfo23_0 : Abs.foff Tryz.prog 23 0 = 0 := by kernel_rfl
@[go_sem] theorem tft23_0 : Abs.fty Tryz.prog 23 0 = 4 := by kernel_rfl
@[go_sem] theorem tpl23_0 : Abs.placesA Tryz.prog 23 0 = some (0, 1) := by kernel_rfl
@[go_sem] theorem tfo23_1 : Abs.foff Tryz.prog 23 1 = 1 := by kernel_rfl
@[go_sem] theorem tft23_1 : Abs.fty Tryz.prog 23 1 = 22 := by kernel_rfl
@[go_sem] theorem tpl23_1 : Abs.placesA Tryz.prog 23 1 = some (1, 1) := by kernel_rfl
@[go_sem] theorem tok24 : Abs.tok Tryz.prog 24 = true := by kernel_rfl
@[go_sem] theorem tagg24 : Abs.tagg Tryz.prog 24 = true := by kernel_rfl
@[go_sem] theorem tsize24 : Abs.tsize Tryz.prog 24 = 2 := by kernel_rfl
@[go_sem] theorem tzero24 : Abs.tzero Tryz.prog 24 = some [.t (.lit (.bool false)), .t (.seq (some true) [])] := by kernel_rfl
@[go_sem] theorem tbytes24 : Abs.tbytes Tryz.prog 24 = 32 := by kernel_rfl
@[go_sem] theorem tst24 : Abs.isStructD (Abs.tdesc Tryz.prog 24) = true := by kernel_rfl
@[go_sem] theorem tnf24 : Abs.nfields Tryz.prog 24 = 2 := by kernel_rfl
@[go_sem] theorem tpt24 : Abs.partsTok Tryz.prog 24 = true := by kernel_rfl
@[go_sem] theorem tfo24_0 : Abs.foff Tryz.prog 24 0 = 0 := by kernel_rfl
@[go_sem] theorem tft24_0 : Abs.fty Tryz.prog 24 0 = 4 := by kernel_rfl
@[go_sem] theorem tpl24_0 : Abs.placesA Tryz.prog 24 0 = some (0, 1) := by kernel_rfl
@[go_sem] theorem tfo24_1 : Abs.foff Tryz.prog 24 1 = 1 := by kernel_rfl
@[go_sem] theorem tft24_1 : Abs.fty Tryz.prog 24 1 = 22 := by kernel_rfl
@[go_sem] theorem tpl24_1 : Abs.placesA Tryz.prog 24 1 = some (1, 1) := by kernel_rfl
@[go_sem] theorem tok25 : Abs.tok Tryz.prog 25 = true := by kernel_rfl
@[go_sem] theorem tagg25 : Abs.tagg Tryz.prog 25 = false := by kernel_rfl
@[go_sem] theorem tsize25 : Abs.tsize Tryz.prog 25 = 1 := by kernel_rfl
@[go_sem] theorem tzero25 : Abs.tzero Tryz.prog 25 = some [.t (.seq (some true) [])] := by kernel_rfl
@[go_sem] theorem tbytes25 : Abs.tbytes Tryz.prog 25 = 24 := by kernel_rfl
@[go_sem] theorem tsl25 : Abs.isSliceD (Abs.tdesc Tryz.prog 25) = true := by kernel_rfl
@[go_sem] theorem telem25 : Abs.telem Tryz.prog 25 = 27 := by kernel_rfl
@[go_sem] theorem tok26 : Abs.tok Tryz.prog 26 = true := by kernel_rfl
@[go_sem] theorem tagg26 : Abs.tagg Tryz.prog 26 = true := by kernel_rfl
@[go_sem] theorem tsize26 : Abs.tsize Tryz.prog 26 = 6 := by kernel_rfl
@[go_sem] theorem tzero26 : Abs.tzero Tryz.prog 26 = some [.t (.lit (.int .i64 0)), .t (.lit (.bool false)), .t (.seq (some true) []), .t (.lit (.string ⟨#[]⟩)), .t (.lit (.int .i64 0)), .t (.seq (some true) [])] := by kernel_rfl
@[go_sem] theorem tbytes26 : Abs.tbytes Tryz.prog 26 = 88 := by kernel_rfl
@[go_sem] theorem tst26 : Abs.isStructD (Abs.tdesc Tryz.prog 26) = true := by kernel_rfl
@[go_sem] theorem tnf26 : Abs.nfields Tryz.prog 26 = 5 := by kernel_rfl
@[go_sem] theorem tpt26 : Abs.partsTok Tryz.prog 26 = true := by kernel_rfl
@[go_sem] theorem tfo26_0 : Abs.foff Tryz.prog 26 0 = 0 := by kernel_rfl
@[go_sem] theorem tft26_0 : Abs.fty Tryz.prog 26 0 = 3 := by kernel_rfl
@[go_sem] theorem tpl26_0 : Abs.placesA Tryz.prog 26 0 = some (0, 1) := by kernel_rfl
@[go_sem] theorem tfo26_1 : Abs.foff Tryz.prog 26 1 = 1 := by kernel_rfl
@[go_sem] theorem tft26_1 : Abs.fty Tryz.prog 26 1 = 24 := by kernel_rfl
@[go_sem] theorem tpl26_1 : Abs.placesA Tryz.prog 26 1 = some (1, 2) := by kernel_rfl
@[go_sem] theorem tfo26_2 : Abs.foff Tryz.prog 26 2 = 3 := by kernel_rfl
@[go_sem] theorem tft26_2 : Abs.fty Tryz.prog 26 2 = 9 := by kernel_rfl
@[go_sem] theorem tpl26_2 : Abs.placesA Tryz.prog 26 2 = some (3, 1) := by kernel_rfl
@[go_sem] theorem tfo26_3 : Abs.foff Tryz.prog 26 3 = 4 := by kernel_rfl
@[go_sem] theorem tft26_3 : Abs.fty Tryz.prog 26 3 = 3 := by kernel_rfl
@[go_sem] theorem tpl26_3 : Abs.placesA Tryz.prog 26 3 = some (4, 1) := by kernel_rfl
@[go_sem] theorem tfo26_4 : Abs.foff Tryz.prog 26 4 = 5 := by kernel_rfl
@[go_sem] theorem tft26_4 : Abs.fty Tryz.prog 26 4 = 25 := by kernel_rfl
@[go_sem] theorem tpl26_4 : Abs.placesA Tryz.prog 26 4 = some (5, 1) := by kernel_rfl
@[go_sem] theorem tok27 : Abs.tok Tryz.prog 27 = true := by kernel_rfl
@[go_sem] theorem tagg27 : Abs.tagg Tryz.prog 27 = true := by kernel_rfl
@[go_sem] theorem tsize27 : Abs.tsize Tryz.prog 27 = 6 := by kernel_rfl
@[go_sem] theorem tzero27 : Abs.tzero Tryz.prog 27 = some [.t (.lit (.int .i64 0)), .t (.lit (.bool false)), .t (.seq (some true) []), .t (.lit (.string ⟨#[]⟩)), .t (.lit (.int .i64 0)), .t (.seq (some true) [])] := by kernel_rfl
@[go_sem] theorem tbytes27 : Abs.tbytes Tryz.prog 27 = 88 := by kernel_rfl
@[go_sem] theorem tst27 : Abs.isStructD (Abs.tdesc Tryz.prog 27) = true := by kernel_rfl
@[go_sem] theorem tnf27 : Abs.nfields Tryz.prog 27 = 5 := by kernel_rfl
@[go_sem] theorem tpt27 : Abs.partsTok Tryz.prog 27 = true := by kernel_rfl
@[go_sem] theorem tfo27_0 : Abs.foff Tryz.prog 27 0 = 0 := by kernel_rfl
@[go_sem] theorem tft27_0 : Abs.fty Tryz.prog 27 0 = 3 := by kernel_rfl
@[go_sem] theorem tpl27_0 : Abs.placesA Tryz.prog 27 0 = some (0, 1) := by kernel_rfl
@[go_sem] theorem tfo27_1 : Abs.foff Tryz.prog 27 1 = 1 := by kernel_rfl
@[go_sem] theorem tft27_1 : Abs.fty Tryz.prog 27 1 = 24 := by kernel_rfl
@[go_sem] theorem tpl27_1 : Abs.placesA Tryz.prog 27 1 = some (1, 2) := by kernel_rfl
@[go_sem] theorem tfo27_2 : Abs.foff Tryz.prog 27 2 = 3 := by kernel_rfl
@[go_sem] theorem tft27_2 : Abs.fty Tryz.prog 27 2 = 9 := by kernel_rfl
@[go_sem] theorem tpl27_2 : Abs.placesA Tryz.prog 27 2 = some (3, 1) := by kernel_rfl
@[go_sem] theorem tfo27_3 : Abs.foff Tryz.prog 27 3 = 4 := by kernel_rfl
@[go_sem] theorem tft27_3 : Abs.fty Tryz.prog 27 3 = 3 := by kernel_rfl
@[go_sem] theorem tpl27_3 : Abs.placesA Tryz.prog 27 3 = some (4, 1) := by kernel_rfl
@[go_sem] theorem tfo27_4 : Abs.foff Tryz.prog 27 4 = 5 := by kernel_rfl
@[go_sem] theorem tft27_4 : Abs.fty Tryz.prog 27 4 = 25 := by kernel_rfl
@[go_sem] theorem tpl27_4 : Abs.placesA Tryz.prog 27 4 = some (5, 1) := by kernel_rfl
@[go_sem] theorem tok28 : Abs.tok Tryz.prog 28 = true := by kernel_rfl
@[go_sem] theorem tagg28 : Abs.tagg Tryz.prog 28 = false := by kernel_rfl
@[go_sem] theorem tsize28 : Abs.tsize Tryz.prog 28 = 1 := by kernel_rfl
@[go_sem] theorem tzero28 : Abs.tzero Tryz.prog 28 = some [.t (.seq (some true) [])] := by kernel_rfl
@[go_sem] theorem tbytes28 : Abs.tbytes Tryz.prog 28 = 24 := by kernel_rfl
@[go_sem] theorem tsl28 : Abs.isSliceD (Abs.tdesc Tryz.prog 28) = true := by kernel_rfl
@[go_sem] theorem telem28 : Abs.telem Tryz.prog 28 = 66 := by kernel_rfl
@[go_sem] theorem tok29 : Abs.tok Tryz.prog 29 = true := by kernel_rfl
@[go_sem] theorem tagg29 : Abs.tagg Tryz.prog 29 = false := by kernel_rfl
@[go_sem] theorem tsize29 : Abs.tsize Tryz.prog 29 = 1 := by kernel_rfl
@[go_sem] theorem tzero29 : Abs.tzero Tryz.prog 29 = some [.t (.seq (some true) [])] := by kernel_rfl
@[go_sem] theorem tbytes29 : Abs.tbytes Tryz.prog 29 = 24 := by kernel_rfl
@[go_sem] theorem tsl29 : Abs.isSliceD (Abs.tdesc Tryz.prog 29) = true := by kernel_rfl
@[go_sem] theorem telem29 : Abs.telem Tryz.prog 29 = 3 := by kernel_rfl
@[go_sem] theorem tok30 : Abs.tok Tryz.prog 30 = true := by kernel_rfl
@[go_sem] theorem tagg30 : Abs.tagg Tryz.prog 30 = true := by kernel_rfl
@[go_sem] theorem tsize30 : Abs.tsize Tryz.prog 30 = 3 := by kernel_rfl
@[go_sem] theorem tzero30 : Abs.tzero Tryz.prog 30 = some [.t (.lit (.string ⟨#[]⟩)), .t (.seq (some true) []), .t (.lit (.int .i64 0))] := by kernel_rfl
@[go_sem] theorem tbytes30 : Abs.tbytes Tryz.prog 30 = 48 := by kernel_rfl
@[go_sem] theorem tst30 : Abs.isStructD (Abs.tdesc Tryz.prog 30) = true := by kernel_rfl
@[go_sem] theorem tnf30 : Abs.nfields Tryz.prog 30 = 3 := by kernel_rfl
@[go_sem] theorem tpt30 : Abs.partsTok Tryz.prog 30 = true := by kernel_rfl
@[go_sem] theorem tfo30_0 : Abs.foff Tryz.prog 30 0 = 0 := by kernel_rfl
@[go_sem] theorem tft30_0 : Abs.fty Tryz.prog 30 0 = 9 := by kernel_rfl
@[go_sem] theorem tpl30_0 : Abs.placesA Tryz.prog 30 0 = some (0, 1) := by kernel_rfl
@[go_sem] theorem tfo30_1 : Abs.foff Tryz.prog 30 1 = 1 := by kernel_rfl
@[go_sem] theorem tft30_1 : Abs.fty Tryz.prog 30 1 = 29 := by kernel_rfl
@[go_sem] theorem tpl30_1 : Abs.placesA Tryz.prog 30 1 = some (1, 1) := by kernel_rfl
@[go_sem] theorem tfo30_2 : Abs.foff Tryz.prog 30 2 = 2 := by kernel_rfl
@[go_sem] theorem tft30_2 : Abs.fty Tryz.prog 30 2 = 3 := by kernel_rfl
@[go_sem] theorem tpl30_2 : Abs.placesA Tryz.prog 30 2 = some (2, 1) := by kernel_rfl
@[go_sem] theorem tok31 : Abs.tok Tryz.prog 31 = true := by kernel_rfl
@[go_sem] theorem tagg31 : Abs.tagg Tryz.prog 31 = true := by kernel_rfl
@[go_sem] theorem tsize31 : Abs.tsize Tryz.prog 31 = 3 := by kernel_rfl
@[go_sem] theorem tzero31 : Abs.tzero Tryz.prog 31 = some [.t (.lit (.string ⟨#[]⟩)), .t (.seq (some true) []), .t (.lit (.int .i64 0))] := by kernel_rfl
@[go_sem] theorem tbytes31 : Abs.tbytes Tryz.prog 31 = 48 := by kernel_rfl
@[go_sem] theorem tst31 : Abs.isStructD (Abs.tdesc Tryz.prog 31) = true := by kernel_rfl
@[go_sem] theorem tnf31 : Abs.nfields Tryz.prog 31 = 3 := by kernel_rfl
@[go_sem] theorem tpt31 : Abs.partsTok Tryz.prog 31 = true := by kernel_rfl
@[go_sem] theorem tfo31_0 : Abs.foff Tryz.prog 31 0 = 0 := by kernel_rfl
@[go_sem] theorem tft31_0 : Abs.fty Tryz.prog 31 0 = 9 := by kernel_rfl
@[go_sem] theorem tpl31_0 : Abs.placesA Tryz.prog 31 0 = some (0, 1) := by kernel_rfl
@[go_sem] theorem tfo31_1 : Abs.foff Tryz.prog 31 1 = 1 := by kernel_rfl
@[go_sem] theorem tft31_1 : Abs.fty Tryz.prog 31 1 = 29 := by kernel_rfl
@[go_sem] theorem tpl31_1 : Abs.placesA Tryz.prog 31 1 = some (1, 1) := by kernel_rfl
@[go_sem] theorem tfo31_2 : Abs.foff Tryz.prog 31 2 = 2 := by kernel_rfl
@[go_sem] theorem tft31_2 : Abs.fty Tryz.prog 31 2 = 3 := by kernel_rfl
@[go_sem] theorem tpl31_2 : Abs.placesA Tryz.prog 31 2 = some (2, 1) := by kernel_rfl
@[go_sem] theorem tok32 : Abs.tok Tryz.prog 32 = true := by kernel_rfl
@[go_sem] theorem tagg32 : Abs.tagg Tryz.prog 32 = false := by kernel_rfl
@[go_sem] theorem tsize32 : Abs.tsize Tryz.prog 32 = 1 := by kernel_rfl
@[go_sem] theorem tzero32 : Abs.tzero Tryz.prog 32 = some [.t (.seq (some true) [])] := by kernel_rfl
@[go_sem] theorem tbytes32 : Abs.tbytes Tryz.prog 32 = 24 := by kernel_rfl
@[go_sem] theorem tsl32 : Abs.isSliceD (Abs.tdesc Tryz.prog 32) = true := by kernel_rfl
@[go_sem] theorem telem32 : Abs.telem Tryz.prog 32 = 34 := by kernel_rfl
@[go_sem] theorem tok33 : Abs.tok Tryz.prog 33 = true := by kernel_rfl
@[go_sem] theorem tagg33 : Abs.tagg Tryz.prog 33 = true := by kernel_rfl
@[go_sem] theorem tsize33 : Abs.tsize Tryz.prog 33 = 3 := by kernel_rfl
@[go_sem] theorem tzero33 : Abs.tzero Tryz.prog 33 = some [.t (.lit (.int .i64 0)), .t (.lit (.bool false)), .t (.seq (some true) [])] := by kernel_rfl
@[go_sem] theorem tbytes33 : Abs.tbytes Tryz.prog 33 = 40 := by kernel_rfl
@[go_sem] theorem tst33 : Abs.isStructD (Abs.tdesc Tryz.prog 33) = true := by kernel_rfl
@[go_sem] theorem tnf33 : Abs.nfields Tryz.prog 33 = 2 := by kernel_rfl
@[go_sem] theorem tpt33 : Abs.partsTok Tryz.prog 33 = true := by kernel_rfl
@[go_sem] theorem tfo33_0 : Abs.foff Tryz.prog 33 0 = 0 := by kernel_rfl
@[go_sem] theorem tft33_0 : Abs.fty Tryz.prog 33 0 = 3 := by kernel_rfl
@[go_sem] theorem tpl33_0 : Abs.placesA Tryz.prog 33 0 = some (0, 1) := by kernel_rfl
@[go_sem] theorem tfo33_1 : Abs.foff Tryz.prog 33 1 = 1 := by kernel_rfl
@[go_sem] theorem tft33_1 : Abs.fty Tryz.prog 33 1 = 24 := by kernel_rfl
@[go_sem] theorem tpl33_1 : Abs.placesA Tryz.prog 33 1 = some (1, 2) := by kernel_rfl
@[go_sem] theorem tok34 : Abs.tok Tryz.prog 34 = true := by kernel_rfl
@[go_sem] theorem tagg34 : Abs.tagg Tryz.prog 34 = true := by kernel_rfl
@[go_sem] theorem tsize34 : Abs.tsize Tryz.prog 34 = 3 := by kernel_rfl
@[go_sem] theorem tzero34 : Abs.tzero Tryz.prog 34 = some [.t (.lit (.int .i64 0)), .t (.lit (.bool false)), .t (.seq (some true) [])] := by kernel_rfl
@[go_sem] theorem tbytes34 : Abs.tbytes Tryz.prog 34 = 40 := by kernel_rfl
@[go_sem] theorem tst34 : Abs.isStructD (Abs.tdesc Tryz.prog 34) = true := by kernel_rfl
@[go_sem] theorem tnf34 : Abs.nfields Tryz.prog 34 = 2 := by kernel_rfl
@[go_sem] theorem tpt34 : Abs.partsTok Tryz.prog 34 = true := by kernel_rfl
@[go_sem] theorem tfo34_0 : Abs.foff Tryz.prog 34 0 = 0 := by kernel_rfl
@[go_sem] theorem tft34_0 : Abs.fty Tryz.prog 34 0 = 3 := by kernel_rfl
@[go_sem] theorem tpl34_0 : Abs.placesA Tryz.prog 34 0 = some (0, 1) := by kernel_rfl
@[go_sem] theorem tfo34_1 : Abs.foff Tryz.prog 34 1 = 1 := by kernel_rfl
@[go_sem] theorem tft34_1 : Abs.fty Tryz.prog 34 1 = 24 := by kernel_rfl
@[go_sem] theorem tpl34_1 : Abs.placesA Tryz.prog 34 1 = some (1, 2) := by kernel_rfl
@[go_sem] theorem tok35 : Abs.tok Tryz.prog 35 = true := by kernel_rfl
@[go_sem] theorem tagg35 : Abs.tagg Tryz.prog 35 = false := by kernel_rfl
@[go_sem] theorem tsize35 : Abs.tsize Tryz.prog 35 = 1 := by kernel_rfl
@[go_sem] theorem tzero35 : Abs.tzero Tryz.prog 35 = some [.t (.lit .nilFunc)] := by kernel_rfl
@[go_sem] theorem tok36 : Abs.tok Tryz.prog 36 = true := by kernel_rfl
@[go_sem] theorem tagg36 : Abs.tagg Tryz.prog 36 = false := by kernel_rfl
@[go_sem] theorem tsize36 : Abs.tsize Tryz.prog 36 = 1 := by kernel_rfl
@[go_sem] theorem tzero36 : Abs.tzero Tryz.prog 36 = some [.t (.lit .nilFunc)] := by kernel_rfl
@[go_sem] theorem tok37 : Abs.tok Tryz.prog 37 = true := by kernel_rfl
@[go_sem] theorem tagg37 : Abs.tagg Tryz.prog 37 = false := by kernel_rfl
@[go_sem] theorem tsize37 : Abs.tsize Tryz.prog 37 = 1 := by kernel_rfl
@[go_sem] theorem tzero37 : Abs.tzero Tryz.prog 37 = some [.t (.lit .nilFunc)] := by kernel_rfl
@[go_sem] theorem tok38 : Abs.tok Tryz.prog 38 = true := by kernel_rfl
@[go_sem] theorem tagg38 : Abs.tagg Tryz.prog 38 = false := by kernel_rfl
@[go_sem] theorem tsize38 : Abs.tsize Tryz.prog 38 = 1 := by kernel_rfl
@[go_sem] theorem tzero38 : Abs.tzero Tryz.prog 38 = some [.t (.lit .nilFunc)] := by kernel_rfl
@[go_sem] theorem tok39 : Abs.tok Tryz.prog 39 = true := by kernel_rfl
@[go_sem] theorem tagg39 : Abs.tagg Tryz.prog 39 = false := by kernel_rfl
@[go_sem] theorem tsize39 : Abs.tsize Tryz.prog 39 = 1 := by kernel_rfl
@[go_sem] theorem tzero39 : Abs.tzero Tryz.prog 39 = some [.t (.lit .nilFunc)] := by kernel_rfl
@[go_sem] theorem tok40 : Abs.tok Tryz.prog 40 = true := by kernel_rfl
@[go_sem] theorem tagg40 : Abs.tagg Tryz.prog 40 = false := by kernel_rfl
@[go_sem] theorem tsize40 : Abs.tsize Tryz.prog 40 = 1 := by kernel_rfl
@[go_sem] theorem tzero40 : Abs.tzero Tryz.prog 40 = some [.t (.lit .nilFunc)] := by kernel_rfl
@[go_sem] theorem tok41 : Abs.tok Tryz.prog 41 = true := by kernel_rfl
@[go_sem] theorem tagg41 : Abs.tagg Tryz.prog 41 = false := by kernel_rfl
@[go_sem] theorem tsize41 : Abs.tsize Tryz.prog 41 = 1 := by kernel_rfl
@[go_sem] theorem tzero41 : Abs.tzero Tryz.prog 41 = some [.t (.lit .nilFunc)] := by kernel_rfl
@[go_sem] theorem tok42 : Abs.tok Tryz.prog 42 = true := by kernel_rfl
@[go_sem] theorem tagg42 : Abs.tagg Tryz.prog 42 = false := by kernel_rfl
@[go_sem] theorem tsize42 : Abs.tsize Tryz.prog 42 = 1 := by kernel_rfl
@[go_sem] theorem tzero42 : Abs.tzero Tryz.prog 42 = some [.t (.lit .nilFunc)] := by kernel_rfl
@[go_sem] theorem tok43 : Abs.tok Tryz.prog 43 = true := by kernel_rfl
@[go_sem] theorem tagg43 : Abs.tagg Tryz.prog 43 = false := by kernel_rfl
@[go_sem] theorem tsize43 : Abs.tsize Tryz.prog 43 = 1 := by kernel_rfl
@[go_sem] theorem tzero43 : Abs.tzero Tryz.prog 43 = some [.t (.lit .nilFunc)] := by kernel_rfl
@[go_sem] theorem tok44 : Abs.tok Tryz.prog 44 = true := by kernel_rfl
@[go_sem] theorem tagg44 : Abs.tagg Tryz.prog 44 = false := by kernel_rfl
@[go_sem] theorem tsize44 : Abs.tsize Tryz.prog 44 = 1 := by kernel_rfl
@[go_sem] theorem tzero44 : Abs.tzero Tryz.prog 44 = some [.t (.lit .nilFunc)] := by kernel_rfl
@[go_sem] theorem tok45 : Abs.tok Tryz.prog 45 = true := by kernel_rfl
@[go_sem] theorem tagg45 : Abs.tagg Tryz.prog 45 = false := by kernel_rfl
@[go_sem] theorem tsize45 : Abs.tsize Tryz.prog 45 = 1 := by kernel_rfl
@[go_sem] theorem tzero45 : Abs.tzero Tryz.prog 45 = some [.t (.lit .nilFunc)] := by kernel_rfl
@[go_sem] theorem tok46 : Abs.tok Tryz.prog 46 = true := by kernel_rfl
@[go_sem] theorem tagg46 : Abs.tagg Tryz.prog 46 = false := by kernel_rfl
@[go_sem] theorem tsize46 : Abs.tsize Tryz.prog 46 = 1 := by kernel_rfl
@[go_sem] theorem tzero46 : Abs.tzero Tryz.prog 46 = some [.t (.lit (.int .i16 0))] := by kernel_rfl
@[go_sem] theorem tbytes46 : Abs.tbytes Tryz.prog 46 = 2 := by kernel_rfl
@[go_sem] theorem tint46 : Abs.intD (Abs.tdesc Tryz.prog 46) = some .i16 := by kernel_rfl
@[go_sem] theorem tok47 : Abs.tok Tryz.prog 47 = true := by kernel_rfl
@[go_sem] theorem tagg47 : Abs.tagg Tryz.prog 47 = false := by kernel_rfl
@[go_sem] theorem tsize47 : Abs.tsize Tryz.prog 47 = 1 := by kernel_rfl
@[go_sem] theorem tzero47 : Abs.tzero Tryz.prog 47 = some [.t (.lit .nilFunc)] := by kernel_rfl
@[go_sem] theorem tok48 : Abs.tok Tryz.prog 48 = true := by kernel_rfl
@[go_sem] theorem tagg48 : Abs.tagg Tryz.prog 48 = false := by kernel_rfl
@[go_sem] theorem tsize48 : Abs.tsize Tryz.prog 48 = 1 := by kernel_rfl
@[go_sem] theorem tzero48 : Abs.tzero Tryz.prog 48 = some [.t (.lit .nilFunc)] := by kernel_rfl
@[go_sem] theorem tok49 : Abs.tok Tryz.prog 49 = true := by kernel_rfl
@[go_sem] theorem tagg49 : Abs.tagg Tryz.prog 49 = false := by kernel_rfl
@[go_sem] theorem tsize49 : Abs.tsize Tryz.prog 49 = 1 := by kernel_rfl
@[go_sem] theorem tzero49 : Abs.tzero Tryz.prog 49 = some [.t (.lit (.pointer none))] := by kernel_rfl
@[go_sem] theorem tbytes49 : Abs.tbytes Tryz.prog 49 = 8 := by kernel_rfl
@[go_sem] theorem tok50 : Abs.tok Tryz.prog 50 = true := by kernel_rfl
@[go_sem] theorem tagg50 : Abs.tagg Tryz.prog 50 = false := by kernel_rfl
@[go_sem] theorem tsize50 : Abs.tsize Tryz.prog 50 = 1 := by kernel_rfl
@[go_sem] theorem tzero50 : Abs.tzero Tryz.prog 50 = some [.t (.lit .nilFunc)] := by kernel_rfl
@[go_sem] theorem tok51 : Abs.tok Tryz.prog 51 = true := by kernel_rfl
@[go_sem] theorem tagg51 : Abs.tagg Tryz.prog 51 = false := by kernel_rfl
@[go_sem] theorem tsize51 : Abs.tsize Tryz.prog 51 = 1 := by kernel_rfl
@[go_sem] theorem tzero51 : Abs.tzero Tryz.prog 51 = some [.t (.lit .nilFunc)] := by kernel_rfl
@[go_sem] theorem tok52 : Abs.tok Tryz.prog 52 = true := by kernel_rfl
@[go_sem] theorem tagg52 : Abs.tagg Tryz.prog 52 = false := by kernel_rfl
@[go_sem] theorem tsize52 : Abs.tsize Tryz.prog 52 = 1 := by kernel_rfl
@[go_sem] theorem tzero52 : Abs.tzero Tryz.prog 52 = some [.t (.lit .nilFunc)] := by kernel_rfl
@[go_sem] theorem tok53 : Abs.tok Tryz.prog 53 = true := by kernel_rfl
@[go_sem] theorem tagg53 : Abs.tagg Tryz.prog 53 = false := by kernel_rfl
@[go_sem] theorem tsize53 : Abs.tsize Tryz.prog 53 = 1 := by kernel_rfl
@[go_sem] theorem tzero53 : Abs.tzero Tryz.prog 53 = some [.t (.lit .nilFunc)] := by kernel_rfl
@[go_sem] theorem tok54 : Abs.tok Tryz.prog 54 = true := by kernel_rfl
@[go_sem] theorem tagg54 : Abs.tagg Tryz.prog 54 = false := by kernel_rfl
@[go_sem] theorem tsize54 : Abs.tsize Tryz.prog 54 = 1 := by kernel_rfl
@[go_sem] theorem tzero54 : Abs.tzero Tryz.prog 54 = some [.t (.lit .nilFunc)] := by kernel_rfl
@[go_sem] theorem tok55 : Abs.tok Tryz.prog 55 = true := by kernel_rfl
@[go_sem] theorem tagg55 : Abs.tagg Tryz.prog 55 = false := by kernel_rfl
@[go_sem] theorem tsize55 : Abs.tsize Tryz.prog 55 = 1 := by kernel_rfl
@[go_sem] theorem tzero55 : Abs.tzero Tryz.prog 55 = some [.t (.lit .nilFunc)] := by kernel_rfl
@[go_sem] theorem tok56 : Abs.tok Tryz.prog 56 = true := by kernel_rfl
@[go_sem] theorem tagg56 : Abs.tagg Tryz.prog 56 = false := by kernel_rfl
@[go_sem] theorem tsize56 : Abs.tsize Tryz.prog 56 = 1 := by kernel_rfl
@[go_sem] theorem tzero56 : Abs.tzero Tryz.prog 56 = some [.t (.lit .nilFunc)] := by kernel_rfl
@[go_sem] theorem tok57 : Abs.tok Tryz.prog 57 = true := by kernel_rfl
@[go_sem] theorem tagg57 : Abs.tagg Tryz.prog 57 = false := by kernel_rfl
@[go_sem] theorem tsize57 : Abs.tsize Tryz.prog 57 = 1 := by kernel_rfl
@[go_sem] theorem tzero57 : Abs.tzero Tryz.prog 57 = some [.t (.lit .nilFunc)] := by kernel_rfl
@[go_sem] theorem tok58 : Abs.tok Tryz.prog 58 = true := by kernel_rfl
@[go_sem] theorem tagg58 : Abs.tagg Tryz.prog 58 = false := by kernel_rfl
@[go_sem] theorem tsize58 : Abs.tsize Tryz.prog 58 = 1 := by kernel_rfl
@[go_sem] theorem tzero58 : Abs.tzero Tryz.prog 58 = some [.t (.seq (some true) [])] := by kernel_rfl
@[go_sem] theorem tbytes58 : Abs.tbytes Tryz.prog 58 = 24 := by kernel_rfl
@[go_sem] theorem tsl58 : Abs.isSliceD (Abs.tdesc Tryz.prog 58) = true := by kernel_rfl
@[go_sem] theorem telem58 : Abs.telem Tryz.prog 58 = 31 := by kernel_rfl
@[go_sem] theorem tok60 : Abs.tok Tryz.prog 60 = true := by kernel_rfl
@[go_sem] theorem tagg60 : Abs.tagg Tryz.prog 60 = false := by kernel_rfl
@[go_sem] theorem tsize60 : Abs.tsize Tryz.prog 60 = 1 := by kernel_rfl
@[go_sem] theorem tzero60 : Abs.tzero Tryz.prog 60 = some [.t (.lit .nilFunc)] := by kernel_rfl
@[go_sem] theorem tok61 : Abs.tok Tryz.prog 61 = true := by kernel_rfl
@[go_sem] theorem tagg61 : Abs.tagg Tryz.prog 61 = false := by kernel_rfl
@[go_sem] theorem tsize61 : Abs.tsize Tryz.prog 61 = 1 := by kernel_rfl
@[go_sem] theorem tzero61 : Abs.tzero Tryz.prog 61 = some [.t (.lit .nilFunc)] := by kernel_rfl
@[go_sem] theorem tok62 : Abs.tok Tryz.prog 62 = true := by kernel_rfl
@[go_sem] theorem tagg62 : Abs.tagg Tryz.prog 62 = false := by kernel_rfl
@[go_sem] theorem tsize62 : Abs.tsize Tryz.prog 62 = 1 := by kernel_rfl
@[go_sem] theorem tzero62 : Abs.tzero Tryz.prog 62 = some [.t (.seq (some true) [])] := by kernel_rfl
@[go_sem] theorem tbytes62 : Abs.tbytes Tryz.prog 62 = 24 := by kernel_rfl
@[go_sem] theorem tsl62 : Abs.isSliceD (Abs.tdesc Tryz.prog 62) = true := by kernel_rfl
@[go_sem] theorem telem62 : Abs.telem Tryz.prog 62 = 5 := by kernel_rfl
@[go_sem] theorem tok63 : Abs.tok Tryz.prog 63 = true := by kernel_rfl
@[go_sem] theorem tagg63 : Abs.tagg Tryz.prog 63 = false := by kernel_rfl
@[go_sem] theorem tsize63 : Abs.tsize Tryz.prog 63 = 1 := by kernel_rfl
@[go_sem] theorem tzero63 : Abs.tzero Tryz.prog 63 = some [.t (.lit .nilFunc)] := by kernel_rfl
@[go_sem] theorem tok64 : Abs.tok Tryz.prog 64 = true := by kernel_rfl
@[go_sem] theorem tagg64 : Abs.tagg Tryz.prog 64 = false := by kernel_rfl
@[go_sem] theorem tsize64 : Abs.tsize Tryz.prog 64 = 1 := by kernel_rfl
@[go_sem] theorem tzero64 : Abs.tzero Tryz.prog 64 = some [.t (.seq (some true) [])] := by kernel_rfl
@[go_sem] theorem tbytes64 : Abs.tbytes Tryz.prog 64 = 24 := by kernel_rfl
@[go_sem] theorem tsl64 : Abs.isSliceD (Abs.tdesc Tryz.prog 64) = true := by kernel_rfl
@[go_sem] theorem telem64 : Abs.telem Tryz.prog 64 = 69 := by kernel_rfl
@[go_sem] theorem tok65 : Abs.tok Tryz.prog 65 = true := by kernel_rfl
@[go_sem] theorem tagg65 : Abs.tagg Tryz.prog 65 = true := by kernel_rfl
@[go_sem] theorem tsize65 : Abs.tsize Tryz.prog 65 = 7 := by kernel_rfl
@[go_sem] theorem tzero65 : Abs.tzero Tryz.prog 65 = some [.t (.lit (.string ⟨#[]⟩)), .t (.seq (some true) []), .t (.lit (.int .i64 0)), .t (.seq (some true) []), .t (.lit (.int .i64 0)), .t (.lit (.bool false)), .t (.seq (some true) [])] := by kernel_rfl
@[go_sem] theorem tbytes65 : Abs.tbytes Tryz.prog 65 = 112 := by kernel_rfl
@[go_sem] theorem tst65 : Abs.isStructD (Abs.tdesc Tryz.prog 65) = true := by kernel_rfl
@[go_sem] theorem tnf65 : Abs.nfields Tryz.prog 65 = 3 := by kernel_rfl
@[go_sem] theorem tpt65 : Abs.partsTok Tryz.prog 65 = true := by kernel_rfl
@[go_sem] theorem tfo65_0 : Abs.foff Tryz.prog 65 0 = 0 := by kernel_rfl
@[go_sem] theorem tft65_0 : Abs.fty Tryz.prog 65 0 = 31 := by kernel_rfl
@[go_sem] theorem tpl65_0 : Abs.placesA Tryz.prog 65 0 = some (0, 3) := by kernel_rfl
@[go_sem] theorem tfo65_1 : Abs.foff Tryz.prog 65 1 = 3 := by kernel_rfl
@[go_sem] theorem tft65_1 : Abs.fty Tryz.prog 65 1 = 64 := by kernel_rfl
@[go_sem] theorem tpl65_1 : Abs.placesA Tryz.prog 65 1 = some (3, 1) := by kernel_rfl
@[go_sem] theorem tfo65_2 : Abs.foff Tryz.prog 65 2 = 4 := by kernel_rfl
@[go_sem] theorem tft65_2 : Abs.fty Tryz.prog 65 2 = 34 := by kernel_rfl
@[go_sem] theorem tpl65_2 : Abs.placesA Tryz.prog 65 2 = some (4, 3) := by kernel_rfl
@[go_sem] theorem tok66 : Abs.tok Tryz.prog 66 = true := by kernel_rfl
@[go_sem] theorem tagg66 : Abs.tagg Tryz.prog 66 = true := by kernel_rfl
@[go_sem] theorem tsize66 : Abs.tsize Tryz.prog 66 = 7 := by kernel_rfl
@[go_sem] theorem tzero66 : Abs.tzero Tryz.prog 66 = some [.t (.lit (.string ⟨#[]⟩)), .t (.seq (some true) []), .t (.lit (.int .i64 0)), .t (.seq (some true) []), .t (.lit (.int .i64 0)), .t (.lit (.bool false)), .t (.seq (some true) [])] := by kernel_rfl
@[go_sem] theorem tbytes66 : Abs.tbytes Tryz.prog 66 = 112 := by kernel_rfl
@[go_sem] theorem tst66 : Abs.isStructD (Abs.tdesc Tryz.prog 66) = true := by kernel_rfl
@[go_sem] theorem tnf66 : Abs.nfields Tryz.prog 66 = 3 := by kernel_rfl
@[go_sem] theorem tpt66 : Abs.partsTok Tryz.prog 66 = true := by kernel_rfl
@[go_sem] theorem tfo66_0 : Abs.foff Tryz.prog 66 0 = 0 := by kernel_rfl
@[go_sem] theorem tft66_0 : Abs.fty Tryz.prog 66 0 = 31 := by kernel_rfl
@[go_sem] theorem tpl66_0 : Abs.placesA Tryz.prog 66 0 = some (0, 3) := by kernel_rfl
@[go_sem] theorem tfo66_1 : Abs.foff Tryz.prog 66 1 = 3 := by kernel_rfl
@[go_sem] theorem tft66_1 : Abs.fty Tryz.prog 66 1 = 64 := by kernel_rfl
@[go_sem] theorem tpl66_1 : Abs.placesA Tryz.prog 66 1 = some (3, 1) := by kernel_rfl
@[go_sem] theorem tfo66_2 : Abs.foff Tryz.prog 66 2 = 4 := by kernel_rfl
@[go_sem] theorem tft66_2 : Abs.fty Tryz.prog 66 2 = 34 := by kernel_rfl
@[go_sem] theorem tpl66_2 : Abs.placesA Tryz.prog 66 2 = some (4, 3) := by kernel_rfl
@[go_sem] theorem tok67 : Abs.tok Tryz.prog 67 = true := by kernel_rfl
@[go_sem] theorem tagg67 : Abs.tagg Tryz.prog 67 = false := by kernel_rfl
@[go_sem] theorem tsize67 : Abs.tsize Tryz.prog 67 = 1 := by kernel_rfl
@[go_sem] theorem tzero67 : Abs.tzero Tryz.prog 67 = some [.t (.lit .nilFunc)] := by kernel_rfl
@[go_sem] theorem tok68 : Abs.tok Tryz.prog 68 = true := by kernel_rfl
@[go_sem] theorem tagg68 : Abs.tagg Tryz.prog 68 = true := by kernel_rfl
@[go_sem] theorem tsize68 : Abs.tsize Tryz.prog 68 = 4 := by kernel_rfl
@[go_sem] theorem tzero68 : Abs.tzero Tryz.prog 68 = some [.t (.seq (some true) []), .t (.lit (.int .i64 0)), .t (.lit (.bool false)), .t (.seq (some true) [])] := by kernel_rfl
@[go_sem] theorem tbytes68 : Abs.tbytes Tryz.prog 68 = 64 := by kernel_rfl
@[go_sem] theorem tst68 : Abs.isStructD (Abs.tdesc Tryz.prog 68) = true := by kernel_rfl
@[go_sem] theorem tnf68 : Abs.nfields Tryz.prog 68 = 2 := by kernel_rfl
@[go_sem] theorem tpt68 : Abs.partsTok Tryz.prog 68 = true := by kernel_rfl
@[go_sem] theorem tfo68_0 : Abs.foff Tryz.prog 68 0 = 0 := by kernel_rfl
@[go_sem] theorem tft68_0 : Abs.fty Tryz.prog 68 0 = 32 := by kernel_rfl
@[go_sem] theorem tpl68_0 : Abs.placesA Tryz.prog 68 0 = some (0, 1) := by kernel_rfl
@[go_sem] theorem tfo68_1 : Abs.foff Tryz.prog 68 1 = 1 := by kernel_rfl
@[go_sem] theorem tft68_1 : Abs.fty Tryz.prog 68 1 = 34 := by kernel_rfl
@[go_sem] theorem tpl68_1 : Abs.placesA Tryz.prog 68 1 = some (1, 3) := by kernel_rfl
@[go_sem] theorem tok69 : Abs.tok Tryz.prog 69 = true := by kernel_rfl
@[go_sem] theorem tagg69 : Abs.tagg Tryz.prog 69 = true := by kernel_rfl
@[go_sem] theorem tsize69 : Abs.tsize Tryz.prog 69 = 4 := by kernel_rfl
@[go_sem] theorem tzero69 : Abs.tzero Tryz.prog 69 = some [.t (.seq (some true) []), .t (.lit (.int .i64 0)), .t (.lit (.bool false)), .t (.seq (some true) [])] := by kernel_rfl
@[go_sem] theorem tbytes69 : Abs.tbytes Tryz.prog 69 = 64 := by kernel_rfl
@[go_sem] theorem tst69 : Abs.isStructD (Abs.tdesc Tryz.prog 69) = true := by kernel_rfl
@[go_sem] theorem tnf69 : Abs.nfields Tryz.prog 69 = 2 := by kernel_rfl
@[go_sem] theorem tpt69 : Abs.partsTok Tryz.prog 69 = true := by kernel_rfl
@[go_sem] theorem tfo69_0 : Abs.foff Tryz.prog 69 0 = 0 := by kernel_rfl
@[go_sem] theorem tft69_0 : Abs.fty Tryz.prog 69 0 = 32 := by kernel_rfl
@[go_sem] theorem tpl69_0 : Abs.placesA Tryz.prog 69 0 = some (0, 1) := by kernel_rfl
@[go_sem] theorem tfo69_1 : Abs.foff Tryz.prog 69 1 = 1 := by kernel_rfl
@[go_sem] theorem tft69_1 : Abs.fty Tryz.prog 69 1 = 34 := by kernel_rfl
@[go_sem] theorem tpl69_1 : Abs.placesA Tryz.prog 69 1 = some (1, 3) := by kernel_rfl
@[go_sem] theorem tok70 : Abs.tok Tryz.prog 70 = true := by kernel_rfl
@[go_sem] theorem tagg70 : Abs.tagg Tryz.prog 70 = false := by kernel_rfl
@[go_sem] theorem tsize70 : Abs.tsize Tryz.prog 70 = 1 := by kernel_rfl
@[go_sem] theorem tzero70 : Abs.tzero Tryz.prog 70 = some [.t (.lit .nilFunc)] := by kernel_rfl
@[go_sem] theorem tok71 : Abs.tok Tryz.prog 71 = true := by kernel_rfl
@[go_sem] theorem tagg71 : Abs.tagg Tryz.prog 71 = false := by kernel_rfl
@[go_sem] theorem tsize71 : Abs.tsize Tryz.prog 71 = 1 := by kernel_rfl
@[go_sem] theorem tzero71 : Abs.tzero Tryz.prog 71 = some [.t (.lit .nilFunc)] := by kernel_rfl
@[go_sem] theorem tok72 : Abs.tok Tryz.prog 72 = true := by kernel_rfl
@[go_sem] theorem tagg72 : Abs.tagg Tryz.prog 72 = false := by kernel_rfl
@[go_sem] theorem tsize72 : Abs.tsize Tryz.prog 72 = 1 := by kernel_rfl
@[go_sem] theorem tzero72 : Abs.tzero Tryz.prog 72 = some [.t (.lit .nilFunc)] := by kernel_rfl
@[go_sem] theorem tok73 : Abs.tok Tryz.prog 73 = true := by kernel_rfl
@[go_sem] theorem tagg73 : Abs.tagg Tryz.prog 73 = false := by kernel_rfl
@[go_sem] theorem tsize73 : Abs.tsize Tryz.prog 73 = 1 := by kernel_rfl
@[go_sem] theorem tzero73 : Abs.tzero Tryz.prog 73 = some [.t (.lit .nilFunc)] := by kernel_rfl
@[go_sem] theorem tok74 : Abs.tok Tryz.prog 74 = true := by kernel_rfl
@[go_sem] theorem tagg74 : Abs.tagg Tryz.prog 74 = false := by kernel_rfl
@[go_sem] theorem tsize74 : Abs.tsize Tryz.prog 74 = 1 := by kernel_rfl
@[go_sem] theorem tzero74 : Abs.tzero Tryz.prog 74 = some [.t (.lit .nilFunc)] := by kernel_rfl
@[go_sem] theorem tok75 : Abs.tok Tryz.prog 75 = true := by kernel_rfl
@[go_sem] theorem tagg75 : Abs.tagg Tryz.prog 75 = false := by kernel_rfl
@[go_sem] theorem tsize75 : Abs.tsize Tryz.prog 75 = 1 := by kernel_rfl
@[go_sem] theorem tzero75 : Abs.tzero Tryz.prog 75 = some [.t (.lit .nilFunc)] := by kernel_rfl
@[go_sem] theorem tok76 : Abs.tok Tryz.prog 76 = true := by kernel_rfl
@[go_sem] theorem tagg76 : Abs.tagg Tryz.prog 76 = false := by kernel_rfl
@[go_sem] theorem tsize76 : Abs.tsize Tryz.prog 76 = 1 := by kernel_rfl
@[go_sem] theorem tzero76 : Abs.tzero Tryz.prog 76 = some [.t (.lit .nilFunc)] := by kernel_rfl
@[go_sem] theorem tok77 : Abs.tok Tryz.prog 77 = true := by kernel_rfl
@[go_sem] theorem tagg77 : Abs.tagg Tryz.prog 77 = false := by kernel_rfl
@[go_sem] theorem tsize77 : Abs.tsize Tryz.prog 77 = 1 := by kernel_rfl
@[go_sem] theorem tzero77 : Abs.tzero Tryz.prog 77 = some [.t (.lit .nilFunc)] := by kernel_rfl
@[go_sem] theorem tok78 : Abs.tok Tryz.prog 78 = true := by kernel_rfl
@[go_sem] theorem tagg78 : Abs.tagg Tryz.prog 78 = false := by kernel_rfl
@[go_sem] theorem tsize78 : Abs.tsize Tryz.prog 78 = 1 := by kernel_rfl
@[go_sem] theorem tzero78 : Abs.tzero Tryz.prog 78 = some [.t (.lit .nilFunc)] := by kernel_rfl
@[go_sem] theorem tok79 : Abs.tok Tryz.prog 79 = true := by kernel_rfl
@[go_sem] theorem tagg79 : Abs.tagg Tryz.prog 79 = false := by kernel_rfl
@[go_sem] theorem tsize79 : Abs.tsize Tryz.prog 79 = 1 := by kernel_rfl
@[go_sem] theorem tzero79 : Abs.tzero Tryz.prog 79 = some [.t (.lit .nilFunc)] := by kernel_rfl
@[go_sem] theorem tok80 : Abs.tok Tryz.prog 80 = true := by kernel_rfl
@[go_sem] theorem tagg80 : Abs.tagg Tryz.prog 80 = false := by kernel_rfl
@[go_sem] theorem tsize80 : Abs.tsize Tryz.prog 80 = 1 := by kernel_rfl
@[go_sem] theorem tzero80 : Abs.tzero Tryz.prog 80 = some [.t (.lit .nilFunc)] := by kernel_rfl
@[go_sem] theorem tok81 : Abs.tok Tryz.prog 81 = true := by kernel_rfl
@[go_sem] theorem tagg81 : Abs.tagg Tryz.prog 81 = false := by kernel_rfl
@[go_sem] theorem tsize81 : Abs.tsize Tryz.prog 81 = 1 := by kernel_rfl
@[go_sem] theorem tzero81 : Abs.tzero Tryz.prog 81 = some [.t (.lit .nilFunc)] := by kernel_rfl
@[go_sem] theorem tok82 : Abs.tok Tryz.prog 82 = true := by kernel_rfl
@[go_sem] theorem tagg82 : Abs.tagg Tryz.prog 82 = false := by kernel_rfl
@[go_sem] theorem tsize82 : Abs.tsize Tryz.prog 82 = 1 := by kernel_rfl
@[go_sem] theorem tzero82 : Abs.tzero Tryz.prog 82 = some [.t (.lit .nilFunc)] := by kernel_rfl
@[go_sem] theorem tok83 : Abs.tok Tryz.prog 83 = true := by kernel_rfl
@[go_sem] theorem tagg83 : Abs.tagg Tryz.prog 83 = false := by kernel_rfl
@[go_sem] theorem tsize83 : Abs.tsize Tryz.prog 83 = 1 := by kernel_rfl
@[go_sem] theorem tzero83 : Abs.tzero Tryz.prog 83 = some [.t (.lit (.int .u32 0))] := by kernel_rfl
@[go_sem] theorem tbytes83 : Abs.tbytes Tryz.prog 83 = 4 := by kernel_rfl
@[go_sem] theorem tint83 : Abs.intD (Abs.tdesc Tryz.prog 83) = some .u32 := by kernel_rfl
@[go_sem] theorem tok85 : Abs.tok Tryz.prog 85 = true := by kernel_rfl
@[go_sem] theorem tagg85 : Abs.tagg Tryz.prog 85 = false := by kernel_rfl
@[go_sem] theorem tsize85 : Abs.tsize Tryz.prog 85 = 1 := by kernel_rfl
@[go_sem] theorem tzero85 : Abs.tzero Tryz.prog 85 = some [.t (.lit .nilFunc)] := by kernel_rfl
@[go_sem] theorem tok86 : Abs.tok Tryz.prog 86 = true := by kernel_rfl
@[go_sem] theorem tagg86 : Abs.tagg Tryz.prog 86 = false := by kernel_rfl
@[go_sem] theorem tsize86 : Abs.tsize Tryz.prog 86 = 1 := by kernel_rfl
@[go_sem] theorem tzero86 : Abs.tzero Tryz.prog 86 = some [.t (.lit .nilFunc)] := by kernel_rfl
@[go_sem] theorem tok87 : Abs.tok Tryz.prog 87 = true := by kernel_rfl
@[go_sem] theorem tagg87 : Abs.tagg Tryz.prog 87 = false := by kernel_rfl
@[go_sem] theorem tsize87 : Abs.tsize Tryz.prog 87 = 1 := by kernel_rfl
@[go_sem] theorem tzero87 : Abs.tzero Tryz.prog 87 = some [.t (.lit .nilFunc)] := by kernel_rfl
@[go_sem] theorem tok88 : Abs.tok Tryz.prog 88 = true := by kernel_rfl
@[go_sem] theorem tagg88 : Abs.tagg Tryz.prog 88 = false := by kernel_rfl
@[go_sem] theorem tsize88 : Abs.tsize Tryz.prog 88 = 1 := by kernel_rfl
@[go_sem] theorem tzero88 : Abs.tzero Tryz.prog 88 = some [.t (.lit .nilFunc)] := by kernel_rfl
@[go_sem] theorem tok90 : Abs.tok Tryz.prog 90 = true := by kernel_rfl
@[go_sem] theorem tagg90 : Abs.tagg Tryz.prog 90 = false := by kernel_rfl
@[go_sem] theorem tsize90 : Abs.tsize Tryz.prog 90 = 1 := by kernel_rfl
@[go_sem] theorem tzero90 : Abs.tzero Tryz.prog 90 = some [.t (.lit .nilFunc)] := by kernel_rfl
@[go_sem] theorem tok91 : Abs.tok Tryz.prog 91 = true := by kernel_rfl
@[go_sem] theorem tagg91 : Abs.tagg Tryz.prog 91 = false := by kernel_rfl
@[go_sem] theorem tsize91 : Abs.tsize Tryz.prog 91 = 1 := by kernel_rfl
@[go_sem] theorem tzero91 : Abs.tzero Tryz.prog 91 = some [.t (.lit .nilFunc)] := by kernel_rfl
@[go_sem] theorem tok92 : Abs.tok Tryz.prog 92 = true := by kernel_rfl
@[go_sem] theorem tagg92 : Abs.tagg Tryz.prog 92 = false := by kernel_rfl
@[go_sem] theorem tsize92 : Abs.tsize Tryz.prog 92 = 1 := by kernel_rfl
@[go_sem] theorem tzero92 : Abs.tzero Tryz.prog 92 = some [.t (.lit .nilFunc)] := by kernel_rfl
@[go_sem] theorem tok93 : Abs.tok Tryz.prog 93 = true := by kernel_rfl
@[go_sem] theorem tagg93 : Abs.tagg Tryz.prog 93 = false := by kernel_rfl
@[go_sem] theorem tsize93 : Abs.tsize Tryz.prog 93 = 1 := by kernel_rfl
@[go_sem] theorem tzero93 : Abs.tzero Tryz.prog 93 = some [.t (.lit .nilFunc)] := by kernel_rfl
@[go_sem] theorem tok94 : Abs.tok Tryz.prog 94 = true := by kernel_rfl
@[go_sem] theorem tagg94 : Abs.tagg Tryz.prog 94 = false := by kernel_rfl
@[go_sem] theorem tsize94 : Abs.tsize Tryz.prog 94 = 1 := by kernel_rfl
@[go_sem] theorem tzero94 : Abs.tzero Tryz.prog 94 = some [.t (.lit .nilFunc)] := by kernel_rfl
@[go_sem] theorem tok95 : Abs.tok Tryz.prog 95 = true := by kernel_rfl
@[go_sem] theorem tagg95 : Abs.tagg Tryz.prog 95 = false := by kernel_rfl
@[go_sem] theorem tsize95 : Abs.tsize Tryz.prog 95 = 1 := by kernel_rfl
@[go_sem] theorem tzero95 : Abs.tzero Tryz.prog 95 = some [.t (.lit (.int .u64 0))] := by kernel_rfl
@[go_sem] theorem tbytes95 : Abs.tbytes Tryz.prog 95 = 8 := by kernel_rfl
@[go_sem] theorem tint95 : Abs.intD (Abs.tdesc Tryz.prog 95) = some .u64 := by kernel_rfl
@[go_sem] theorem tok96 : Abs.tok Tryz.prog 96 = true := by kernel_rfl
@[go_sem] theorem tagg96 : Abs.tagg Tryz.prog 96 = false := by kernel_rfl
@[go_sem] theorem tsize96 : Abs.tsize Tryz.prog 96 = 1 := by kernel_rfl
@[go_sem] theorem tzero96 : Abs.tzero Tryz.prog 96 = some [.t (.lit .nilFunc)] := by kernel_rfl
@[go_sem] theorem tok97 : Abs.tok Tryz.prog 97 = true := by kernel_rfl
@[go_sem] theorem tagg97 : Abs.tagg Tryz.prog 97 = false := by kernel_rfl
@[go_sem] theorem tsize97 : Abs.tsize Tryz.prog 97 = 1 := by kernel_rfl
@[go_sem] theorem tzero97 : Abs.tzero Tryz.prog 97 = some [.t (.lit .nilFunc)] := by kernel_rfl
@[go_sem] theorem tok98 : Abs.tok Tryz.prog 98 = true := by kernel_rfl
@[go_sem] theorem tagg98 : Abs.tagg Tryz.prog 98 = false := by kernel_rfl
@[go_sem] theorem tsize98 : Abs.tsize Tryz.prog 98 = 1 := by kernel_rfl
@[go_sem] theorem tzero98 : Abs.tzero Tryz.prog 98 = some [.t (.lit .nilFunc)] := by kernel_rfl
@[go_sem] theorem tok99 : Abs.tok Tryz.prog 99 = true := by kernel_rfl
@[go_sem] theorem tagg99 : Abs.tagg Tryz.prog 99 = false := by kernel_rfl
@[go_sem] theorem tsize99 : Abs.tsize Tryz.prog 99 = 1 := by kernel_rfl
@[go_sem] theorem tzero99 : Abs.tzero Tryz.prog 99 = some [.t (.lit .nilFunc)] := by kernel_rfl
@[go_sem] theorem tok101 : Abs.tok Tryz.prog 101 = true := by kernel_rfl
@[go_sem] theorem tagg101 : Abs.tagg Tryz.prog 101 = false := by kernel_rfl
@[go_sem] theorem tsize101 : Abs.tsize Tryz.prog 101 = 1 := by kernel_rfl
@[go_sem] theorem tzero101 : Abs.tzero Tryz.prog 101 = some [.t (.lit .nilFunc)] := by kernel_rfl
@[go_sem] theorem tok102 : Abs.tok Tryz.prog 102 = true := by kernel_rfl
@[go_sem] theorem tagg102 : Abs.tagg Tryz.prog 102 = false := by kernel_rfl
@[go_sem] theorem tsize102 : Abs.tsize Tryz.prog 102 = 1 := by kernel_rfl
@[go_sem] theorem tzero102 : Abs.tzero Tryz.prog 102 = some [.t (.lit .nilFunc)] := by kernel_rfl
@[go_sem] theorem tok103 : Abs.tok Tryz.prog 103 = true := by kernel_rfl
@[go_sem] theorem tagg103 : Abs.tagg Tryz.prog 103 = false := by kernel_rfl
@[go_sem] theorem tsize103 : Abs.tsize Tryz.prog 103 = 1 := by kernel_rfl
@[go_sem] theorem tzero103 : Abs.tzero Tryz.prog 103 = some [.t (.lit .nilFunc)] := by kernel_rfl
@[go_sem] theorem tok104 : Abs.tok Tryz.prog 104 = true := by kernel_rfl
@[go_sem] theorem tagg104 : Abs.tagg Tryz.prog 104 = false := by kernel_rfl
@[go_sem] theorem tsize104 : Abs.tsize Tryz.prog 104 = 1 := by kernel_rfl
@[go_sem] theorem tzero104 : Abs.tzero Tryz.prog 104 = some [.t (.lit .nilFunc)] := by kernel_rfl
@[go_sem] theorem tok105 : Abs.tok Tryz.prog 105 = true := by kernel_rfl
@[go_sem] theorem tagg105 : Abs.tagg Tryz.prog 105 = false := by kernel_rfl
@[go_sem] theorem tsize105 : Abs.tsize Tryz.prog 105 = 1 := by kernel_rfl
@[go_sem] theorem tzero105 : Abs.tzero Tryz.prog 105 = some [.t (.lit .nilFunc)] := by kernel_rfl
@[go_sem] theorem tok106 : Abs.tok Tryz.prog 106 = true := by kernel_rfl
@[go_sem] theorem tagg106 : Abs.tagg Tryz.prog 106 = false := by kernel_rfl
@[go_sem] theorem tsize106 : Abs.tsize Tryz.prog 106 = 1 := by kernel_rfl
@[go_sem] theorem tzero106 : Abs.tzero Tryz.prog 106 = some [.t (.lit .nilFunc)] := by kernel_rfl
@[go_sem] theorem tok107 : Abs.tok Tryz.prog 107 = true := by kernel_rfl
@[go_sem] theorem tagg107 : Abs.tagg Tryz.prog 107 = false := by kernel_rfl
@[go_sem] theorem tsize107 : Abs.tsize Tryz.prog 107 = 1 := by kernel_rfl
@[go_sem] theorem tzero107 : Abs.tzero Tryz.prog 107 = some [.t (.lit .nilFunc)] := by kernel_rfl
@[go_sem] theorem tok108 : Abs.tok Tryz.prog 108 = true := by kernel_rfl
@[go_sem] theorem tagg108 : Abs.tagg Tryz.prog 108 = false := by kernel_rfl
@[go_sem] theorem tsize108 : Abs.tsize Tryz.prog 108 = 1 := by kernel_rfl
@[go_sem] theorem tzero108 : Abs.tzero Tryz.prog 108 = some [.t (.lit .nilFunc)] := by kernel_rfl
@[go_sem] theorem tok109 : Abs.tok Tryz.prog 109 = true := by kernel_rfl
@[go_sem] theorem tagg109 : Abs.tagg Tryz.prog 109 = false := by kernel_rfl
@[go_sem] theorem tsize109 : Abs.tsize Tryz.prog 109 = 1 := by kernel_rfl
@[go_sem] theorem tzero109 : Abs.tzero Tryz.prog 109 = some [.t (.lit .nilFunc)] := by kernel_rfl
@[go_sem] theorem tok110 : Abs.tok Tryz.prog 110 = true := by kernel_rfl
@[go_sem] theorem tagg110 : Abs.tagg Tryz.prog 110 = false := by kernel_rfl
@[go_sem] theorem tsize110 : Abs.tsize Tryz.prog 110 = 1 := by kernel_rfl
@[go_sem] theorem tzero110 : Abs.tzero Tryz.prog 110 = some [.t (.lit .nilFunc)] := by kernel_rfl
@[go_sem] theorem tok111 : Abs.tok Tryz.prog 111 = true := by kernel_rfl
@[go_sem] theorem tagg111 : Abs.tagg Tryz.prog 111 = false := by kernel_rfl
@[go_sem] theorem tsize111 : Abs.tsize Tryz.prog 111 = 1 := by kernel_rfl
@[go_sem] theorem tzero111 : Abs.tzero Tryz.prog 111 = some [.t (.lit (.int .u64 0))] := by kernel_rfl
@[go_sem] theorem tbytes111 : Abs.tbytes Tryz.prog 111 = 8 := by kernel_rfl
@[go_sem] theorem tint111 : Abs.intD (Abs.tdesc Tryz.prog 111) = some .u64 := by kernel_rfl
@[go_sem] theorem tok112 : Abs.tok Tryz.prog 112 = true := by kernel_rfl
@[go_sem] theorem tagg112 : Abs.tagg Tryz.prog 112 = false := by kernel_rfl
@[go_sem] theorem tsize112 : Abs.tsize Tryz.prog 112 = 1 := by kernel_rfl
@[go_sem] theorem tzero112 : Abs.tzero Tryz.prog 112 = some [.t (.lit .nilFunc)] := by kernel_rfl
@[go_sem] theorem tok113 : Abs.tok Tryz.prog 113 = true := by kernel_rfl
@[go_sem] theorem tagg113 : Abs.tagg Tryz.prog 113 = false := by kernel_rfl
@[go_sem] theorem tsize113 : Abs.tsize Tryz.prog 113 = 1 := by kernel_rfl
@[go_sem] theorem tzero113 : Abs.tzero Tryz.prog 113 = some [.t (.lit .nilFunc)] := by kernel_rfl
@[go_sem] theorem tok114 : Abs.tok Tryz.prog 114 = true := by kernel_rfl
@[go_sem] theorem tagg114 : Abs.tagg Tryz.prog 114 = false := by kernel_rfl
@[go_sem] theorem tsize114 : Abs.tsize Tryz.prog 114 = 1 := by kernel_rfl
@[go_sem] theorem tzero114 : Abs.tzero Tryz.prog 114 = some [.t (.lit .nilFunc)] := by kernel_rfl
@[go_sem] theorem tok115 : Abs.tok Tryz.prog 115 = true := by kernel_rfl
@[go_sem] theorem tagg115 : Abs.tagg Tryz.prog 115 = false := by kernel_rfl
@[go_sem] theorem tsize115 : Abs.tsize Tryz.prog 115 = 1 := by kernel_rfl
@[go_sem] theorem tzero115 : Abs.tzero Tryz.prog 115 = some [.t (.lit .nilFunc)] := by kernel_rfl
@[go_sem] theorem tok116 : Abs.tok Tryz.prog 116 = true := by kernel_rfl
@[go_sem] theorem tagg116 : Abs.tagg Tryz.prog 116 = false := by kernel_rfl
@[go_sem] theorem tsize116 : Abs.tsize Tryz.prog 116 = 1 := by kernel_rfl
@[go_sem] theorem tzero116 : Abs.tzero Tryz.prog 116 = some [.t (.lit .nilFunc)] := by kernel_rfl
@[go_sem] theorem tok117 : Abs.tok Tryz.prog 117 = true := by kernel_rfl
@[go_sem] theorem tagg117 : Abs.tagg Tryz.prog 117 = false := by kernel_rfl
@[go_sem] theorem tsize117 : Abs.tsize Tryz.prog 117 = 1 := by kernel_rfl
@[go_sem] theorem tzero117 : Abs.tzero Tryz.prog 117 = some [.t (.lit .nilFunc)] := by kernel_rfl
@[go_sem] theorem tok118 : Abs.tok Tryz.prog 118 = true := by kernel_rfl
@[go_sem] theorem tagg118 : Abs.tagg Tryz.prog 118 = false := by kernel_rfl
@[go_sem] theorem tsize118 : Abs.tsize Tryz.prog 118 = 1 := by kernel_rfl
@[go_sem] theorem tzero118 : Abs.tzero Tryz.prog 118 = some [.t (.lit .nilFunc)] := by kernel_rfl
@[go_sem] theorem tok119 : Abs.tok Tryz.prog 119 = true := by kernel_rfl
@[go_sem] theorem tagg119 : Abs.tagg Tryz.prog 119 = true := by kernel_rfl
@[go_sem] theorem tsize119 : Abs.tsize Tryz.prog 119 = 1 := by kernel_rfl
@[go_sem] theorem tzero119 : Abs.tzero Tryz.prog 119 = some [.t (.seq (some true) [])] := by kernel_rfl
@[go_sem] theorem tbytes119 : Abs.tbytes Tryz.prog 119 = 24 := by kernel_rfl
@[go_sem] theorem tst119 : Abs.isStructD (Abs.tdesc Tryz.prog 119) = true := by kernel_rfl
@[go_sem] theorem tnf119 : Abs.nfields Tryz.prog 119 = 1 := by kernel_rfl
@[go_sem] theorem tpt119 : Abs.partsTok Tryz.prog 119 = true := by kernel_rfl
@[go_sem] theorem tfo119_0 : Abs.foff Tryz.prog 119 0 = 0 := by kernel_rfl
@[go_sem] theorem tft119_0 : Abs.fty Tryz.prog 119 0 = 22 := by kernel_rfl
@[go_sem] theorem tpl119_0 : Abs.placesA Tryz.prog 119 0 = some (0, 1) := by kernel_rfl
@[go_sem] theorem tok120 : Abs.tok Tryz.prog 120 = true := by kernel_rfl
@[go_sem] theorem tagg120 : Abs.tagg Tryz.prog 120 = true := by kernel_rfl
@[go_sem] theorem tsize120 : Abs.tsize Tryz.prog 120 = 1 := by kernel_rfl
@[go_sem] theorem tzero120 : Abs.tzero Tryz.prog 120 = some [.t (.seq (some true) [])] := by kernel_rfl
@[go_sem] theorem tbytes120 : Abs.tbytes Tryz.prog 120 = 24 := by kernel_rfl
@[go_sem] theorem tst120 : Abs.isStructD (Abs.tdesc Tryz.prog 120) = true := by kernel_rfl
@[go_sem] theorem tnf120 : Abs.nfields Tryz.prog 120 = 1 := by kernel_rfl
@[go_sem] theorem tpt120 : Abs.partsTok Tryz.prog 120 = true := by kernel_rfl
@[go_sem] theorem tfo120_0 : Abs.foff Tryz.prog 120 0 = 0 := by kernel_rfl
@[go_sem] theorem tft120_0 : Abs.fty Tryz.prog 120 0 = 22 := by kernel_rfl
@[go_sem] theorem tpl120_0 : Abs.placesA Tryz.prog 120 0 = some (0, 1) := by kernel_rfl
@[go_sem] theorem tok121 : Abs.tok Tryz.prog 121 = true := by kernel_rfl
@[go_sem] theorem tagg121 : Abs.tagg Tryz.prog 121 = true := by kernel_rfl
@[go_sem] theorem tsize121 : Abs.tsize Tryz.prog 121 = 2 := by kernel_rfl
@[go_sem] theorem tzero121 : Abs.tzero Tryz.prog 121 = some [.t (.seq (some true) []), .t (.lit (.bool false))] := by kernel_rfl
@[go_sem] theorem tbytes121 : Abs.tbytes Tryz.prog 121 = 32 := by kernel_rfl
@[go_sem] theorem tst121 : Abs.isStructD (Abs.tdesc Tryz.prog 121) = true := by kernel_rfl
@[go_sem] theorem tnf121 : Abs.nfields Tryz.prog 121 = 2 := by kernel_rfl
@[go_sem] theorem tpt121 : Abs.partsTok Tryz.prog 121 = true := by kernel_rfl
@[go_sem] theorem tfo121_0 : Abs.foff Tryz.prog 121 0 = 0 := by kernel_rfl
@[go_sem] theorem tft121_0 : Abs.fty Tryz.prog 121 0 = 120 := by kernel_rfl
@[go_sem] theorem tpl121_0 : Abs.placesA Tryz.prog 121 0 = some (0, 1) := by kernel_rfl
@[go_sem] theorem tfo121_1 : Abs.foff Tryz.prog 121 1 = 1 := by kernel_rfl
@[go_sem] theorem tft121_1 : Abs.fty Tryz.prog 121 1 = 4 := by kernel_rfl
@[go_sem] theorem tpl121_1 : Abs.placesA Tryz.prog 121 1 = some (1, 1) := by kernel_rfl
@[go_sem] theorem tok122 : Abs.tok Tryz.prog 122 = true := by kernel_rfl
@[go_sem] theorem tagg122 : Abs.tagg Tryz.prog 122 = true := by kernel_rfl
@[go_sem] theorem tsize122 : Abs.tsize Tryz.prog 122 = 2 := by kernel_rfl
@[go_sem] theorem tzero122 : Abs.tzero Tryz.prog 122 = some [.t (.seq (some true) []), .t (.lit (.bool false))] := by kernel_rfl
@[go_sem] theorem tbytes122 : Abs.tbytes Tryz.prog 122 = 32 := by kernel_rfl
@[go_sem] theorem tst122 : Abs.isStructD (Abs.tdesc Tryz.prog 122) = true := by kernel_rfl
@[go_sem] theorem tnf122 : Abs.nfields Tryz.prog 122 = 2 := by kernel_rfl
@[go_sem] theorem tpt122 : Abs.partsTok Tryz.prog 122 = true := by kernel_rfl
@[go_sem] theorem tfo122_0 : Abs.foff Tryz.prog 122 0 = 0 := by kernel_rfl
@[go_sem] theorem tft122_0 : Abs.fty Tryz.prog 122 0 = 120 := by kernel_rfl
@[go_sem] theorem tpl122_0 : Abs.placesA Tryz.prog 122 0 = some (0, 1) := by kernel_rfl
@[go_sem] theorem tfo122_1 : Abs.foff Tryz.prog 122 1 = 1 := by kernel_rfl
@[go_sem] theorem tft122_1 : Abs.fty Tryz.prog 122 1 = 4 := by kernel_rfl
@[go_sem] theorem tpl122_1 : Abs.placesA Tryz.prog 122 1 = some (1, 1) := by kernel_rfl
@[go_sem] theorem tok123 : Abs.tok Tryz.prog 123 = true := by kernel_rfl
@[go_sem] theorem tagg123 : Abs.tagg Tryz.prog 123 = false := by kernel_rfl
@[go_sem] theorem tsize123 : Abs.tsize Tryz.prog 123 = 1 := by kernel_rfl
@[go_sem] theorem tzero123 : Abs.tzero Tryz.prog 123 = some [.t (.lit .nilFunc)] := by kernel_rfl
@[go_sem] theorem tok124 : Abs.tok Tryz.prog 124 = true := by kernel_rfl
@[go_sem] theorem tagg124 : Abs.tagg Tryz.prog 124 = false := by kernel_rfl
@[go_sem] theorem tsize124 : Abs.tsize Tryz.prog 124 = 1 := by kernel_rfl
@[go_sem] theorem tzero124 : Abs.tzero Tryz.prog 124 = some [.t (.lit .nilFunc)] := by kernel_rfl
@[go_sem] theorem tok125 : Abs.tok Tryz.prog 125 = true := by kernel_rfl
@[go_sem] theorem tagg125 : Abs.tagg Tryz.prog 125 = false := by kernel_rfl
@[go_sem] theorem tsize125 : Abs.tsize Tryz.prog 125 = 1 := by kernel_rfl
@[go_sem] theorem tzero125 : Abs.tzero Tryz.prog 125 = some [.t (.lit .nilFunc)] := by kernel_rfl
@[go_sem] theorem tok126 : Abs.tok Tryz.prog 126 = true := by kernel_rfl
@[go_sem] theorem tagg126 : Abs.tagg Tryz.prog 126 = false := by kernel_rfl
@[go_sem] theorem tsize126 : Abs.tsize Tryz.prog 126 = 1 := by kernel_rfl
@[go_sem] theorem tzero126 : Abs.tzero Tryz.prog 126 = some [.t (.lit .nilFunc)] := by kernel_rfl
@[go_sem] theorem tok127 : Abs.tok Tryz.prog 127 = true := by kernel_rfl
@[go_sem] theorem tagg127 : Abs.tagg Tryz.prog 127 = false := by kernel_rfl
@[go_sem] theorem tsize127 : Abs.tsize Tryz.prog 127 = 1 := by kernel_rfl
@[go_sem] theorem tzero127 : Abs.tzero Tryz.prog 127 = some [.t (.lit .nilFunc)] := by kernel_rfl
@[go_sem] theorem tok128 : Abs.tok Tryz.prog 128 = true := by kernel_rfl
@[go_sem] theorem tagg128 : Abs.tagg Tryz.prog 128 = false := by kernel_rfl
@[go_sem] theorem tsize128 : Abs.tsize Tryz.prog 128 = 1 := by kernel_rfl
@[go_sem] theorem tzero128 : Abs.tzero Tryz.prog 128 = some [.t (.lit .nilFunc)] := by kernel_rfl
@[go_sem] theorem tok129 : Abs.tok Tryz.prog 129 = true := by kernel_rfl
@[go_sem] theorem tagg129 : Abs.tagg Tryz.prog 129 = false := by kernel_rfl
@[go_sem] theorem tsize129 : Abs.tsize Tryz.prog 129 = 1 := by kernel_rfl
@[go_sem] theorem tzero129 : Abs.tzero Tryz.prog 129 = some [.t (.lit .nilFunc)] := by kernel_rfl
@[go_sem] theorem tok131 : Abs.tok Tryz.prog 131 = true := by kernel_rfl
@[go_sem] theorem tagg131 : Abs.tagg Tryz.prog 131 = false := by kernel_rfl
@[go_sem] theorem tsize131 : Abs.tsize Tryz.prog 131 = 1 := by kernel_rfl
@[go_sem] theorem tzero131 : Abs.tzero Tryz.prog 131 = some [.t (.lit .nilFunc)] := by kernel_rfl
@[go_sem] theorem tok132 : Abs.tok Tryz.prog 132 = true := by kernel_rfl
@[go_sem] theorem tagg132 : Abs.tagg Tryz.prog 132 = false := by kernel_rfl
@[go_sem] theorem tsize132 : Abs.tsize Tryz.prog 132 = 1 := by kernel_rfl
@[go_sem] theorem tzero132 : Abs.tzero Tryz.prog 132 = some [.t (.lit .nilFunc)] := by kernel_rfl
@[go_sem] theorem tok133 : Abs.tok Tryz.prog 133 = true := by kernel_rfl
@[go_sem] theorem tagg133 : Abs.tagg Tryz.prog 133 = false := by kernel_rfl
@[go_sem] theorem tsize133 : Abs.tsize Tryz.prog 133 = 1 := by kernel_rfl
@[go_sem] theorem tzero133 : Abs.tzero Tryz.prog 133 = some [.t (.lit .nilFunc)] := by kernel_rfl
@[go_sem] theorem tok134 : Abs.tok Tryz.prog 134 = true := by kernel_rfl
@[go_sem] theorem tagg134 : Abs.tagg Tryz.prog 134 = false := by kernel_rfl
@[go_sem] theorem tsize134 : Abs.tsize Tryz.prog 134 = 1 := by kernel_rfl
@[go_sem] theorem tzero134 : Abs.tzero Tryz.prog 134 = some [.t (.lit .nilFunc)] := by kernel_rfl
@[go_sem] theorem tok135 : Abs.tok Tryz.prog 135 = true := by kernel_rfl
@[go_sem] theorem tagg135 : Abs.tagg Tryz.prog 135 = false := by kernel_rfl
@[go_sem] theorem tsize135 : Abs.tsize Tryz.prog 135 = 1 := by kernel_rfl
@[go_sem] theorem tzero135 : Abs.tzero Tryz.prog 135 = some [.t (.lit .nilFunc)] := by kernel_rfl
@[go_sem] theorem tok136 : Abs.tok Tryz.prog 136 = true := by kernel_rfl
@[go_sem] theorem tagg136 : Abs.tagg Tryz.prog 136 = false := by kernel_rfl
@[go_sem] theorem tsize136 : Abs.tsize Tryz.prog 136 = 1 := by kernel_rfl
@[go_sem] theorem tzero136 : Abs.tzero Tryz.prog 136 = some [.t (.lit .nilFunc)] := by kernel_rfl
@[go_sem] theorem tok137 : Abs.tok Tryz.prog 137 = true := by kernel_rfl
@[go_sem] theorem tagg137 : Abs.tagg Tryz.prog 137 = false := by kernel_rfl
@[go_sem] theorem tsize137 : Abs.tsize Tryz.prog 137 = 1 := by kernel_rfl
@[go_sem] theorem tzero137 : Abs.tzero Tryz.prog 137 = some [.t (.lit .nilFunc)] := by kernel_rfl
@[go_sem] theorem tok138 : Abs.tok Tryz.prog 138 = true := by kernel_rfl
@[go_sem] theorem tagg138 : Abs.tagg Tryz.prog 138 = false := by kernel_rfl
@[go_sem] theorem tsize138 : Abs.tsize Tryz.prog 138 = 1 := by kernel_rfl
@[go_sem] theorem tzero138 : Abs.tzero Tryz.prog 138 = some [.t (.lit .nilFunc)] := by kernel_rfl
@[go_sem] theorem tok139 : Abs.tok Tryz.prog 139 = true := by kernel_rfl
@[go_sem] theorem tagg139 : Abs.tagg Tryz.prog 139 = false := by kernel_rfl
@[go_sem] theorem tsize139 : Abs.tsize Tryz.prog 139 = 1 := by kernel_rfl
@[go_sem] theorem tzero139 : Abs.tzero Tryz.prog 139 = some [.t (.lit .nilFunc)] := by kernel_rfl
@[go_sem] theorem tok141 : Abs.tok Tryz.prog 141 = true := by kernel_rfl
@[go_sem] theorem tagg141 : Abs.tagg Tryz.prog 141 = false := by kernel_rfl
@[go_sem] theorem tsize141 : Abs.tsize Tryz.prog 141 = 1 := by kernel_rfl
@[go_sem] theorem tzero141 : Abs.tzero Tryz.prog 141 = some [.t (.lit .nilFunc)] := by kernel_rfl
@[go_sem] theorem tok142 : Abs.tok Tryz.prog 142 = true := by kernel_rfl
@[go_sem] theorem tagg142 : Abs.tagg Tryz.prog 142 = false := by kernel_rfl
@[go_sem] theorem tsize142 : Abs.tsize Tryz.prog 142 = 1 := by kernel_rfl
@[go_sem] theorem tzero142 : Abs.tzero Tryz.prog 142 = some [.t (.lit .nilFunc)] := by kernel_rfl
@[go_sem] theorem tok143 : Abs.tok Tryz.prog 143 = true := by kernel_rfl
@[go_sem] theorem tagg143 : Abs.tagg Tryz.prog 143 = false := by kernel_rfl
@[go_sem] theorem tsize143 : Abs.tsize Tryz.prog 143 = 1 := by kernel_rfl
@[go_sem] theorem tzero143 : Abs.tzero Tryz.prog 143 = some [.t (.lit .nilFunc)] := by kernel_rfl
@[go_sem] theorem tok145 : Abs.tok Tryz.prog 145 = true := by kernel_rfl
@[go_sem] theorem tagg145 : Abs.tagg Tryz.prog 145 = false := by kernel_rfl
@[go_sem] theorem tsize145 : Abs.tsize Tryz.prog 145 = 1 := by kernel_rfl
@[go_sem] theorem tzero145 : Abs.tzero Tryz.prog 145 = some [.t (.lit .nilFunc)] := by kernel_rfl
@[go_sem] theorem tok146 : Abs.tok Tryz.prog 146 = true := by kernel_rfl
@[go_sem] theorem tagg146 : Abs.tagg Tryz.prog 146 = false := by kernel_rfl
@[go_sem] theorem tsize146 : Abs.tsize Tryz.prog 146 = 1 := by kernel_rfl
@[go_sem] theorem tzero146 : Abs.tzero Tryz.prog 146 = some [.t (.lit .nilFunc)] := by kernel_rfl
@[go_sem] theorem tok147 : Abs.tok Tryz.prog 147 = true := by kernel_rfl
@[go_sem] theorem tagg147 : Abs.tagg Tryz.prog 147 = false := by kernel_rfl
@[go_sem] theorem tsize147 : Abs.tsize Tryz.prog 147 = 1 := by kernel_rfl
@[go_sem] theorem tzero147 : Abs.tzero Tryz.prog 147 = some [.t (.lit .nilFunc)] := by kernel_rfl
@[go_sem] theorem tok148 : Abs.tok Tryz.prog 148 = true := by kernel_rfl
@[go_sem] theorem tagg148 : Abs.tagg Tryz.prog 148 = false := by kernel_rfl
@[go_sem] theorem tsize148 : Abs.tsize Tryz.prog 148 = 1 := by kernel_rfl
@[go_sem] theorem tzero148 : Abs.tzero Tryz.prog 148 = some [.t (.lit (.int .i64 0))] := by kernel_rfl
@[go_sem] theorem tbytes148 : Abs.tbytes Tryz.prog 148 = 8 := by kernel_rfl
@[go_sem] theorem tint148 : Abs.intD (Abs.tdesc Tryz.prog 148) = some .i64 := by kernel_rfl
@[go_sem] theorem tok149 : Abs.tok Tryz.prog 149 = true := by kernel_rfl
@[go_sem] theorem tagg149 : Abs.tagg Tryz.prog 149 = false := by kernel_rfl
@[go_sem] theorem tsize149 : Abs.tsize Tryz.prog 149 = 1 := by kernel_rfl
@[go_sem] theorem tzero149 : Abs.tzero Tryz.prog 149 = some [.t (.lit .nilFunc)] := by kernel_rfl
@[go_sem] theorem tok151 : Abs.tok Tryz.prog 151 = true := by kernel_rfl
@[go_sem] theorem tagg151 : Abs.tagg Tryz.prog 151 = false := by kernel_rfl
@[go_sem] theorem tsize151 : Abs.tsize Tryz.prog 151 = 1 := by kernel_rfl
@[go_sem] theorem tzero151 : Abs.tzero Tryz.prog 151 = some [.t (.lit .nilFunc)] := by kernel_rfl
@[go_sem] theorem tok152 : Abs.tok Tryz.prog 152 = true := by kernel_rfl
@[go_sem] theorem tagg152 : Abs.tagg Tryz.prog 152 = false := by kernel_rfl
@[go_sem] theorem tsize152 : Abs.tsize Tryz.prog 152 = 1 := by kernel_rfl
@[go_sem] theorem tzero152 : Abs.tzero Tryz.prog 152 = some [.t (.lit .nilFunc)] := by kernel_rfl
@[go_sem] theorem tok153 : Abs.tok Tryz.prog 153 = true := by kernel_rfl
@[go_sem] theorem tagg153 : Abs.tagg Tryz.prog 153 = false := by kernel_rfl
@[go_sem] theorem tsize153 : Abs.tsize Tryz.prog 153 = 1 := by kernel_rfl
@[go_sem] theorem tzero153 : Abs.tzero Tryz.prog 153 = some [.t (.lit .nilFunc)] := by kernel_rfl
@[go_sem] theorem tok155 : Abs.tok Tryz.prog 155 = true := by kernel_rfl
@[go_sem] theorem tagg155 : Abs.tagg Tryz.prog 155 = false := by kernel_rfl
@[go_sem] theorem tsize155 : Abs.tsize Tryz.prog 155 = 1 := by kernel_rfl
@[go_sem] theorem tzero155 : Abs.tzero Tryz.prog 155 = some [.t (.lit .nilFunc)] := by kernel_rfl
@[go_sem] theorem tok156 : Abs.tok Tryz.prog 156 = true := by kernel_rfl
@[go_sem] theorem tagg156 : Abs.tagg Tryz.prog 156 = false := by kernel_rfl
@[go_sem] theorem tsize156 : Abs.tsize Tryz.prog 156 = 1 := by kernel_rfl
@[go_sem] theorem tzero156 : Abs.tzero Tryz.prog 156 = some [.t (.lit .nilFunc)] := by kernel_rfl
@[go_sem] theorem tok157 : Abs.tok Tryz.prog 157 = true := by kernel_rfl
@[go_sem] theorem tagg157 : Abs.tagg Tryz.prog 157 = false := by kernel_rfl
@[go_sem] theorem tsize157 : Abs.tsize Tryz.prog 157 = 1 := by kernel_rfl
@[go_sem] theorem tzero157 : Abs.tzero Tryz.prog 157 = some [.t (.seq (some true) [])] := by kernel_rfl
@[go_sem] theorem tbytes157 : Abs.tbytes Tryz.prog 157 = 24 := by kernel_rfl
@[go_sem] theorem tsl157 : Abs.isSliceD (Abs.tdesc Tryz.prog 157) = true := by kernel_rfl
@[go_sem] theorem telem157 : Abs.telem Tryz.prog 157 = 22 := by kernel_rfl
@[go_sem] theorem tok158 : Abs.tok Tryz.prog 158 = true := by kernel_rfl
@[go_sem] theorem tagg158 : Abs.tagg Tryz.prog 158 = false := by kernel_rfl
@[go_sem] theorem tsize158 : Abs.tsize Tryz.prog 158 = 1 := by kernel_rfl
@[go_sem] theorem tzero158 : Abs.tzero Tryz.prog 158 = some [.t (.lit .nilFunc)] := by kernel_rfl
@[go_sem] theorem tok159 : Abs.tok Tryz.prog 159 = true := by kernel_rfl
@[go_sem] theorem tagg159 : Abs.tagg Tryz.prog 159 = false := by kernel_rfl
@[go_sem] theorem tsize159 : Abs.tsize Tryz.prog 159 = 1 := by kernel_rfl
@[go_sem] theorem tzero159 : Abs.tzero Tryz.prog 159 = some [.t (.lit .nilFunc)] := by kernel_rfl
@[go_sem] theorem tok160 : Abs.tok Tryz.prog 160 = true := by kernel_rfl
@[go_sem] theorem tagg160 : Abs.tagg Tryz.prog 160 = false := by kernel_rfl
@[go_sem] theorem tsize160 : Abs.tsize Tryz.prog 160 = 1 := by kernel_rfl
@[go_sem] theorem tzero160 : Abs.tzero Tryz.prog 160 = some [.t (.lit .nilFunc)] := by kernel_rfl
@[go_sem] theorem tok161 : Abs.tok Tryz.prog 161 = true := by kernel_rfl
@[go_sem] theorem tagg161 : Abs.tagg Tryz.prog 161 = false := by kernel_rfl
@[go_sem] theorem tsize161 : Abs.tsize Tryz.prog 161 = 1 := by kernel_rfl
@[go_sem] theorem tzero161 : Abs.tzero Tryz.prog 161 = some [.t (.lit .nilFunc)] := by kernel_rfl
@[go_sem] theorem tok162 : Abs.tok Tryz.prog 162 = true := by kernel_rfl
@[go_sem] theorem tagg162 : Abs.tagg Tryz.prog 162 = true := by kernel_rfl
@[go_sem] theorem tsize162 : Abs.tsize Tryz.prog 162 = 4 := by kernel_rfl
@[go_sem] theorem tzero162 : Abs.tzero Tryz.prog 162 = some [.t (.lit (.pointer none)), .t (.lit (.pointer none)), .t (.lit (.pointer none)), .t (.lit (.string ⟨#[]⟩))] := by kernel_rfl
@[go_sem] theorem tbytes162 : Abs.tbytes Tryz.prog 162 = 40 := by kernel_rfl
@[go_sem] theorem tst162 : Abs.isStructD (Abs.tdesc Tryz.prog 162) = true := by kernel_rfl
@[go_sem] theorem tnf162 : Abs.nfields Tryz.prog 162 = 4 := by kernel_rfl
@[go_sem] theorem tpt162 : Abs.partsTok Tryz.prog 162 = true := by kernel_rfl
@[go_sem] theorem tfo162_0 : Abs.foff Tryz.prog 162 0 = 0 := by kernel_rfl
@[go_sem] theorem tft162_0 : Abs.fty Tryz.prog 162 0 = 17 := by kernel_rfl
@[go_sem] theorem tpl162_0 : Abs.placesA Tryz.prog 162 0 = some (0, 1) := by kernel_rfl
@[go_sem] theorem tfo162_1 : Abs.foff Tryz.prog 162 1 = 1 := by kernel_rfl
@[go_sem] theorem tft162_1 : Abs.fty Tryz.prog 162 1 = 17 := by kernel_rfl
@[go_sem] theorem tpl162_1 : Abs.placesA Tryz.prog 162 1 = some (1, 1) := by kernel_rfl
@[go_sem] theorem tfo162_2 : Abs.foff Tryz.prog 162 2 = 2 := by kernel_rfl
@[go_sem] theorem tft162_2 : Abs.fty Tryz.prog 162 2 = 17 := by kernel_rfl
@[go_sem] theorem tpl162_2 : Abs.placesA Tryz.prog 162 2 = some (2, 1) := by kernel_rfl
@[go_sem] theorem tfo162_3 : Abs.foff Tryz.prog 162 3 = 3 := by kernel_rfl
@[go_sem] theorem tft162_3 : Abs.fty Tryz.prog 162 3 = 9 := by kernel_rfl
@[go_sem] theorem tpl162_3 : Abs.placesA Tryz.prog 162 3 = some (3, 1) := by kernel_rfl
@[go_sem] theorem tok163 : Abs.tok Tryz.prog 163 = true := by kernel_rfl
@[go_sem] theorem tagg163 : Abs.tagg Tryz.prog 163 = true := by kernel_rfl
@[go_sem] theorem tsize163 : Abs.tsize Tryz.prog 163 = 4 := by kernel_rfl
@[go_sem] theorem tzero163 : Abs.tzero Tryz.prog 163 = some [.t (.lit (.pointer none)), .t (.lit (.pointer none)), .t (.lit (.pointer none)), .t (.lit (.string ⟨#[]⟩))] := by kernel_rfl
@[go_sem] theorem tbytes163 : Abs.tbytes Tryz.prog 163 = 40 := by kernel_rfl
@[go_sem] theorem tst163 : Abs.isStructD (Abs.tdesc Tryz.prog 163) = true := by kernel_rfl
@[go_sem] theorem tnf163 : Abs.nfields Tryz.prog 163 = 4 := by kernel_rfl
@[go_sem] theorem tpt163 : Abs.partsTok Tryz.prog 163 = true := by kernel_rfl
@[go_sem] theorem tfo163_0 : Abs.foff Tryz.prog 163 0 = 0 := by kernel_rfl
@[go_sem] theorem tft163_0 : Abs.fty Tryz.prog 163 0 = 17 := by kernel_rfl
@[go_sem] theorem tpl163_0 : Abs.placesA Tryz.prog 163 0 = some (0, 1) := by kernel_rfl
@[go_sem] theorem tfo163_1 : Abs.foff Tryz.prog 163 1 = 1 := by kernel_rfl
@[go_sem] theorem tft163_1 : Abs.fty Tryz.prog 163 1 = 17 := by kernel_rfl
@[go_sem] theorem tpl163_1 : Abs.placesA Tryz.prog 163 1 = some (1, 1) := by kernel_rfl
@[go_sem] theorem tfo163_2 : Abs.foff Tryz.prog 163 2 = 2 := by kernel_rfl
@[go_sem] theorem tft163_2 : Abs.fty Tryz.prog 163 2 = 17 := by kernel_rfl
@[go_sem] theorem tpl163_2 : Abs.placesA Tryz.prog 163 2 = some (2, 1) := by kernel_rfl
@[go_sem] theorem tfo163_3 : Abs.foff Tryz.prog 163 3 = 3 := by kernel_rfl
@[go_sem] theorem tft163_3 : Abs.fty Tryz.prog 163 3 = 9 := by kernel_rfl
@[go_sem] theorem tpl163_3 : Abs.placesA Tryz.prog 163 3 = some (3, 1) := by kernel_rfl
@[go_sem] theorem tok164 : Abs.tok Tryz.prog 164 = true := by kernel_rfl
@[go_sem] theorem tagg164 : Abs.tagg Tryz.prog 164 = true := by kernel_rfl
@[go_sem] theorem tsize164 : Abs.tsize Tryz.prog 164 = 0 := by kernel_rfl
@[go_sem] theorem tzero164 : Abs.tzero Tryz.prog 164 = some [] := by kernel_rfl
@[go_sem] theorem tbytes164 : Abs.tbytes Tryz.prog 164 = 0 := by kernel_rfl
@[go_sem] theorem tsl164 : Abs.isSliceD (Abs.tdesc Tryz.prog 164) = false := by kernel_rfl
@[go_sem] theorem tar164 : Abs.isArrayD (Abs.tdesc Tryz.prog 164) = true := by kernel_rfl
@[go_sem] theorem telem164 : Abs.telem Tryz.prog 164 = 16 := by kernel_rfl
@[go_sem] theorem tlen164 : Abs.arrLen (Abs.tdesc Tryz.prog 164) = 0 := by kernel_rfl
@[go_sem] theorem tpt164 : Abs.partsTok Tryz.prog 164 = true := by kernel_rfl
@[go_sem] theorem tok165 : Abs.tok Tryz.prog 165 = true := by kernel_rfl
@[go_sem] theorem tagg165 : Abs.tagg Tryz.prog 165 = true := by kernel_rfl
@[go_sem] theorem tsize165 : Abs.tsize Tryz.prog 165 = 0 := by kernel_rfl
@[go_sem] theorem tzero165 : Abs.tzero Tryz.prog 165 = some [] := by kernel_rfl
@[go_sem] theorem tbytes165 : Abs.tbytes Tryz.prog 165 = 0 := by kernel_rfl
@[go_sem] theorem tst165 : Abs.isStructD (Abs.tdesc Tryz.prog 165) = true := by kernel_rfl
@[go_sem] theorem tnf165 : Abs.nfields Tryz.prog 165 = 1 := by kernel_rfl
@[go_sem] theorem tpt165 : Abs.partsTok Tryz.prog 165 = true := by kernel_rfl
@[go_sem] theorem tfo165_0 : Abs.foff Tryz.prog 165 0 = 0 := by kernel_rfl
@[go_sem] theorem tft165_0 : Abs.fty Tryz.prog 165 0 = 164 := by kernel_rfl
@[go_sem] theorem tpl165_0 : Abs.placesA Tryz.prog 165 0 = some (0, 0) := by kernel_rfl
@[go_sem] theorem tok166 : Abs.tok Tryz.prog 166 = true := by kernel_rfl
@[go_sem] theorem tagg166 : Abs.tagg Tryz.prog 166 = true := by kernel_rfl
@[go_sem] theorem tsize166 : Abs.tsize Tryz.prog 166 = 0 := by kernel_rfl
@[go_sem] theorem tzero166 : Abs.tzero Tryz.prog 166 = some [] := by kernel_rfl
@[go_sem] theorem tbytes166 : Abs.tbytes Tryz.prog 166 = 0 := by kernel_rfl
@[go_sem] theorem tst166 : Abs.isStructD (Abs.tdesc Tryz.prog 166) = true := by kernel_rfl
@[go_sem] theorem tnf166 : Abs.nfields Tryz.prog 166 = 1 := by kernel_rfl
@[go_sem] theorem tpt166 : Abs.partsTok Tryz.prog 166 = true := by kernel_rfl
@[go_sem] theorem tfo166_0 : Abs.foff Tryz.prog 166 0 = 0 := by kernel_rfl
@[go_sem] theorem tft166_0 : Abs.fty Tryz.prog 166 0 = 164 := by kernel_rfl
@[go_sem] theorem tpl166_0 : Abs.placesA Tryz.prog 166 0 = some (0, 0) := by kernel_rfl
@[go_sem] theorem tok167 : Abs.tok Tryz.prog 167 = true := by kernel_rfl
@[go_sem] theorem tagg167 : Abs.tagg Tryz.prog 167 = false := by kernel_rfl
@[go_sem] theorem tsize167 : Abs.tsize Tryz.prog 167 = 1 := by kernel_rfl
@[go_sem] theorem tzero167 : Abs.tzero Tryz.prog 167 = some [.t (.lit .nilFunc)] := by kernel_rfl
@[go_sem] theorem tok168 : Abs.tok Tryz.prog 168 = true := by kernel_rfl
@[go_sem] theorem tagg168 : Abs.tagg Tryz.prog 168 = false := by kernel_rfl
@[go_sem] theorem tsize168 : Abs.tsize Tryz.prog 168 = 1 := by kernel_rfl
@[go_sem] theorem tzero168 : Abs.tzero Tryz.prog 168 = some [.t (.lit (.int .u8 0))] := by kernel_rfl
@[go_sem] theorem tbytes168 : Abs.tbytes Tryz.prog 168 = 1 := by kernel_rfl
@[go_sem] theorem tint168 : Abs.intD (Abs.tdesc Tryz.prog 168) = some .u8 := by kernel_rfl
@[go_sem] theorem tok169 : Abs.tok Tryz.prog 169 = true := by kernel_rfl
@[go_sem] theorem tagg169 : Abs.tagg Tryz.prog 169 = false := by kernel_rfl
@[go_sem] theorem tsize169 : Abs.tsize Tryz.prog 169 = 1 := by kernel_rfl
@[go_sem] theorem tzero169 : Abs.tzero Tryz.prog 169 = some [.t (.lit (.int .u8 0))] := by kernel_rfl
@[go_sem] theorem tbytes169 : Abs.tbytes Tryz.prog 169 = 1 := by kernel_rfl
@[go_sem] theorem tint169 : Abs.intD (Abs.tdesc Tryz.prog 169) = some .u8 := by kernel_rfl
@[go_sem] theorem tok170 : Abs.tok Tryz.prog 170 = true := by kernel_rfl
@[go_sem] theorem tagg170 : Abs.tagg Tryz.prog 170 = false := by kernel_rfl
@[go_sem] theorem tsize170 : Abs.tsize Tryz.prog 170 = 1 := by kernel_rfl
@[go_sem] theorem tzero170 : Abs.tzero Tryz.prog 170 = some [.t (.lit .nilFunc)] := by kernel_rfl
@[go_sem] theorem tok171 : Abs.tok Tryz.prog 171 = true := by kernel_rfl
@[go_sem] theorem tagg171 : Abs.tagg Tryz.prog 171 = false := by kernel_rfl
@[go_sem] theorem tsize171 : Abs.tsize Tryz.prog 171 = 1 := by kernel_rfl
@[go_sem] theorem tzero171 : Abs.tzero Tryz.prog 171 = some [.t (.lit (.pointer none))] := by kernel_rfl
@[go_sem] theorem tbytes171 : Abs.tbytes Tryz.prog 171 = 8 := by kernel_rfl
@[go_sem] theorem tok172 : Abs.tok Tryz.prog 172 = true := by kernel_rfl
@[go_sem] theorem tagg172 : Abs.tagg Tryz.prog 172 = false := by kernel_rfl
@[go_sem] theorem tsize172 : Abs.tsize Tryz.prog 172 = 1 := by kernel_rfl
@[go_sem] theorem tzero172 : Abs.tzero Tryz.prog 172 = some [.t (.lit (.int .i32 0))] := by kernel_rfl
@[go_sem] theorem tbytes172 : Abs.tbytes Tryz.prog 172 = 4 := by kernel_rfl
@[go_sem] theorem tint172 : Abs.intD (Abs.tdesc Tryz.prog 172) = some .i32 := by kernel_rfl
@[go_sem] theorem tok173 : Abs.tok Tryz.prog 173 = true := by kernel_rfl
@[go_sem] theorem tagg173 : Abs.tagg Tryz.prog 173 = false := by kernel_rfl
@[go_sem] theorem tsize173 : Abs.tsize Tryz.prog 173 = 1 := by kernel_rfl
@[go_sem] theorem tzero173 : Abs.tzero Tryz.prog 173 = some [.t (.lit (.int .i32 0))] := by kernel_rfl
@[go_sem] theorem tbytes173 : Abs.tbytes Tryz.prog 173 = 4 := by kernel_rfl
@[go_sem] theorem tint173 : Abs.intD (Abs.tdesc Tryz.prog 173) = some .i32 := by kernel_rfl
@[go_sem] theorem tok174 : Abs.tok Tryz.prog 174 = true := by kernel_rfl
@[go_sem] theorem tagg174 : Abs.tagg Tryz.prog 174 = true := by kernel_rfl
@[go_sem] theorem tsize174 : Abs.tsize Tryz.prog 174 = 11 := by kernel_rfl
@[go_sem] theorem tzero174 : Abs.tzero Tryz.prog 174 = some [.t (.lit (.int .u64 0)), .t (.lit (.int .u64 0)), .t (.lit (.int .u32 0)), .t (.lit (.int .u8 0)), .t (.lit (.int .u8 0)), .t (.lit (.int .u8 0)), .t (.lit (.int .u8 0)), .t (.lit .nilFunc), .t (.lit (.pointer none)), .t (.lit (.int .i32 0)), .t (.lit (.int .i32 0))] := by kernel_rfl
@[go_sem] theorem tbytes174 : Abs.tbytes Tryz.prog 174 = 48 := by kernel_rfl
@[go_sem] theorem tst174 : Abs.isStructD (Abs.tdesc Tryz.prog 174) = true := by kernel_rfl
@[go_sem] theorem tnf174 : Abs.nfields Tryz.prog 174 = 11 := by kernel_rfl
@[go_sem] theorem tpt174 : Abs.partsTok Tryz.prog 174 = true := by kernel_rfl
@[go_sem] theorem tfo174_0 : Abs.foff Tryz.prog 174 0 = 0 := by kernel_rfl
@[go_sem] theorem tft174_0 : Abs.fty Tryz.prog 174 0 = 12 := by kernel_rfl
@[go_sem] theorem tpl174_0 : Abs.placesA Tryz.prog 174 0 = some (0, 1) := by kernel_rfl
@[go_sem] theorem tfo174_1 : Abs.foff Tryz.prog 174 1 = 1 := by kernel_rfl
@[go_sem] theorem tft174_1 : Abs.fty Tryz.prog 174 1 = 12 := by kernel_rfl
@[go_sem] theorem tpl174_1 : Abs.placesA Tryz.prog 174 1 = some (1, 1) := by kernel_rfl
@[go_sem] theorem tfo174_2 : Abs.foff Tryz.prog 174 2 = 2 := by kernel_rfl
@[go_sem] theorem tft174_2 : Abs.fty Tryz.prog 174 2 = 83 := by kernel_rfl
@[go_sem] theorem tpl174_2 : Abs.placesA Tryz.prog 174 2 = some (2, 1) := by kernel_rfl
@[go_sem] theorem tfo174_3 : Abs.foff Tryz.prog 174 3 = 3 := by kernel_rfl
@[go_sem] theorem tft174_3 : Abs.fty Tryz.prog 174 3 = 168 := by kernel_rfl
@[go_sem] theorem tpl174_3 : Abs.placesA Tryz.prog 174 3 = some (3, 1) := by kernel_rfl
@[go_sem] theorem tfo174_4 : Abs.foff Tryz.prog 174 4 = 4 := by kernel_rfl
@[go_sem] theorem tft174_4 : Abs.fty Tryz.prog 174 4 = 5 := by kernel_rfl
@[go_sem] theorem tpl174_4 : Abs.placesA Tryz.prog 174 4 = some (4, 1) := by kernel_rfl
@[go_sem] theorem tfo174_5 : Abs.foff Tryz.prog 174 5 = 5 := by kernel_rfl
@[go_sem] theorem tft174_5 : Abs.fty Tryz.prog 174 5 = 5 := by kernel_rfl
@[go_sem] theorem tpl174_5 : Abs.placesA Tryz.prog 174 5 = some (5, 1) := by kernel_rfl
@[go_sem] theorem tfo174_6 : Abs.foff Tryz.prog 174 6 = 6 := by kernel_rfl
@[go_sem] theorem tft174_6 : Abs.fty Tryz.prog 174 6 = 169 := by kernel_rfl
@[go_sem] theorem tpl174_6 : Abs.placesA Tryz.prog 174 6 = some (6, 1) := by kernel_rfl
@[go_sem] theorem tfo174_7 : Abs.foff Tryz.prog 174 7 = 7 := by kernel_rfl
@[go_sem] theorem tft174_7 : Abs.fty Tryz.prog 174 7 = 170 := by kernel_rfl
@[go_sem] theorem tpl174_7 : Abs.placesA Tryz.prog 174 7 = some (7, 1) := by kernel_rfl
@[go_sem] theorem tfo174_8 : Abs.foff Tryz.prog 174 8 = 8 := by kernel_rfl
@[go_sem] theorem tft174_8 : Abs.fty Tryz.prog 174 8 = 171 := by kernel_rfl
@[go_sem] theorem tpl174_8 : Abs.placesA Tryz.prog 174 8 = some (8, 1) := by kernel_rfl
@[go_sem] theorem tfo174_9 : Abs.foff Tryz.prog 174 9 = 9 := by kernel_rfl
@[go_sem] theorem tft174_9 : Abs.fty Tryz.prog 174 9 = 172 := by kernel_rfl
@[go_sem] theorem tpl174_9 : Abs.placesA Tryz.prog 174 9 = some (9, 1) := by kernel_rfl
@[go_sem] theorem tfo174_10 : Abs.foff Tryz.prog 174 10 = 10 := by kernel_rfl
@[go_sem] theorem tft174_10 : Abs.fty Tryz.prog 174 10 = 173 := by kernel_rfl
@[go_sem] theorem tpl174_10 : Abs.placesA Tryz.prog 174 10 = some (10, 1) := by kernel_rfl
@[go_sem] theorem tok175 : Abs.tok Tryz.prog 175 = true := by kernel_rfl
@[go_sem] theorem tagg175 : Abs.tagg Tryz.prog 175 = true := by kernel_rfl
@[go_sem] theorem tsize175 : Abs.tsize Tryz.prog 175 = 11 := by kernel_rfl
@[go_sem] theorem tzero175 : Abs.tzero Tryz.prog 175 = some [.t (.lit (.int .u64 0)), .t (.lit (.int .u64 0)), .t (.lit (.int .u32 0)), .t (.lit (.int .u8 0)), .t (.lit (.int .u8 0)), .t (.lit (.int .u8 0)), .t (.lit (.int .u8 0)), .t (.lit .nilFunc), .t (.lit (.pointer none)), .t (.lit (.int .i32 0)), .t (.lit (.int .i32 0))] := by kernel_rfl
@[go_sem] theorem tbytes175 : Abs.tbytes Tryz.prog 175 = 48 := by kernel_rfl
@[go_sem] theorem tst175 : Abs.isStructD (Abs.tdesc Tryz.prog 175) = true := by kernel_rfl
@[go_sem] theorem tnf175 : Abs.nfields Tryz.prog 175 = 11 := by kernel_rfl
@[go_sem] theorem tpt175 : Abs.partsTok Tryz.prog 175 = true := by kernel_rfl
@[go_sem] theorem tfo175_0 : Abs.foff Tryz.prog 175 0 = 0 := by kernel_rfl
@[go_sem] theorem tft175_0 : Abs.fty Tryz.prog 175 0 = 12 := by kernel_rfl
@[go_sem] theorem tpl175_0 : Abs.placesA Tryz.prog 175 0 = some (0, 1) := by kernel_rfl
@[go_sem] theorem tfo175_1 : Abs.foff Tryz.prog 175 1 = 1 := by kernel_rfl
@[go_sem] theorem tft175_1 : Abs.fty Tryz.prog 175 1 = 12 := by kernel_rfl
@[go_sem] theorem tpl175_1 : Abs.placesA Tryz.prog 175 1 = some (1, 1) := by kernel_rfl
@[go_sem] theorem tfo175_2 : Abs.foff Tryz.prog 175 2 = 2 := by kernel_rfl
@[go_sem] theorem tft175_2 : Abs.fty Tryz.prog 175 2 = 83 := by kernel_rfl
@[go_sem] theorem tpl175_2 : Abs.placesA Tryz.prog 175 2 = some (2, 1) := by kernel_rfl
@[go_sem] theorem tfo175_3 : Abs.foff Tryz.prog 175 3 = 3 := by kernel_rfl
@[go_sem] theorem tft175_3 : Abs.fty Tryz.prog 175 3 = 168 := by kernel_rfl
@[go_sem] theorem tpl175_3 : Abs.placesA Tryz.prog 175 3 = some (3, 1) := by kernel_rfl
@[go_sem] theorem tfo175_4 : Abs.foff Tryz.prog 175 4 = 4 := by kernel_rfl
@[go_sem] theorem tft175_4 : Abs.fty Tryz.prog 175 4 = 5 := by kernel_rfl
@[go_sem] theorem tpl175_4 : Abs.placesA Tryz.prog 175 4 = some (4, 1) := by kernel_rfl
@[go_sem] theorem tfo175_5 : Abs.foff Tryz.prog 175 5 = 5 := by kernel_rfl
@[go_sem] theorem tft175_5 : Abs.fty Tryz.prog 175 5 = 5 := by kernel_rfl
@[go_sem] theorem tpl175_5 : Abs.placesA Tryz.prog 175 5 = some (5, 1) := by kernel_rfl
@[go_sem] theorem tfo175_6 : Abs.foff Tryz.prog 175 6 = 6 := by kernel_rfl
@[go_sem] theorem tft175_6 : Abs.fty Tryz.prog 175 6 = 169 := by kernel_rfl
@[go_sem] theorem tpl175_6 : Abs.placesA Tryz.prog 175 6 = some (6, 1) := by kernel_rfl
@[go_sem] theorem tfo175_7 : Abs.foff Tryz.prog 175 7 = 7 := by kernel_rfl
@[go_sem] theorem tft175_7 : Abs.fty Tryz.prog 175 7 = 170 := by kernel_rfl
@[go_sem] theorem tpl175_7 : Abs.placesA Tryz.prog 175 7 = some (7, 1) := by kernel_rfl
@[go_sem] theorem tfo175_8 : Abs.foff Tryz.prog 175 8 = 8 := by kernel_rfl
@[go_sem] theorem tft175_8 : Abs.fty Tryz.prog 175 8 = 171 := by kernel_rfl
@[go_sem] theorem tpl175_8 : Abs.placesA Tryz.prog 175 8 = some (8, 1) := by kernel_rfl
@[go_sem] theorem tfo175_9 : Abs.foff Tryz.prog 175 9 = 9 := by kernel_rfl
@[go_sem] theorem tft175_9 : Abs.fty Tryz.prog 175 9 = 172 := by kernel_rfl
@[go_sem] theorem tpl175_9 : Abs.placesA Tryz.prog 175 9 = some (9, 1) := by kernel_rfl
@[go_sem] theorem tfo175_10 : Abs.foff Tryz.prog 175 10 = 10 := by kernel_rfl
@[go_sem] theorem tft175_10 : Abs.fty Tryz.prog 175 10 = 173 := by kernel_rfl
@[go_sem] theorem tpl175_10 : Abs.placesA Tryz.prog 175 10 = some (10, 1) := by kernel_rfl
@[go_sem] theorem tok176 : Abs.tok Tryz.prog 176 = true := by kernel_rfl
@[go_sem] theorem tagg176 : Abs.tagg Tryz.prog 176 = false := by kernel_rfl
@[go_sem] theorem tsize176 : Abs.tsize Tryz.prog 176 = 1 := by kernel_rfl
@[go_sem] theorem tzero176 : Abs.tzero Tryz.prog 176 = some [.t (.lit (.pointer none))] := by kernel_rfl
@[go_sem] theorem tbytes176 : Abs.tbytes Tryz.prog 176 = 8 := by kernel_rfl
end Go.Proofs.YtgnfgaioeldagaaGreat
