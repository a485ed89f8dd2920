/- At every input the call answers true and leaves its arguments as they were; no conditions. -/
import Derived.Test.YtpnmoecjhannnaaGreatProg
import Derived.KernelRfl
import Derived.Test.YtpnmoecjhannnaaGreatMb
set_option linter.unusedSimpArgs false
set_option linter.unusedVariables false
namespace Go.Proofs.YtpnmoecjhannnaaGreat
open Go Go.Abs
@[go_sem] theorem tok1 : Abs.tok Tryz.prog 1 = true := by kernel_rfl
@[go_sem] theorem tagg1 : Abs.tagg Tryz.prog 1 = false := by kernel_rfl
@[go_sem] theorem tsize1 : Abs.tsize Tryz.prog 1 = 1 := by kernel_rfl
@[go_sem] theorem tzero1 : Abs.tzero Tryz.prog 1 = some [.t (.lit .nilFunc)] := by kernel_rfl
@[go_sem] theorem tok2 : Abs.tok Tryz.prog 2 = true := by kernel_rfl
@[go_sem] theorem tagg2 : Abs.tagg Tryz.prog 2 = false := by kernel_rfl
@[go_sem] theorem tsize2 : Abs.tsize Tryz.prog 2 = 1 := by kernel_rfl
@[go_sem] theorem tzero2 : Abs.tzero Tryz.prog 2 = some [.t (.lit (.int .i64 0))] := by kernel_rfl
@[go_sem] theorem tbytes2 : Abs.tbytes Tryz.prog 2 = 8 := by kernel_rfl
@[go_sem] theorem tint2 : Abs.intD (Abs.tdesc Tryz.prog 2) = some .i64 := by kernel_rfl
@[go_sem] theorem tok3 : Abs.tok Tryz.prog 3 = true := by kernel_rfl
@[go_sem] theorem tagg3 : Abs.tagg Tryz.prog 3 = false := by kernel_rfl
@[go_sem] theorem tsize3 : Abs.tsize Tryz.prog 3 = 1 := by kernel_rfl
@[go_sem] theorem tzero3 : Abs.tzero Tryz.prog 3 = some [.t (.lit (.int .i64 0))] := by kernel_rfl
@[go_sem] theorem tbytes3 : Abs.tbytes Tryz.prog 3 = 8 := by kernel_rfl
@[go_sem] theorem tint3 : Abs.intD (Abs.tdesc Tryz.prog 3) = some .i64 := by kernel_rfl
@[go_sem] theorem tok4 : Abs.tok Tryz.prog 4 = true := by kernel_rfl
@[go_sem] theorem tagg4 : Abs.tagg Tryz.prog 4 = false := by kernel_rfl
@[go_sem] theorem tsize4 : Abs.tsize Tryz.prog 4 = 1 := by kernel_rfl
@[go_sem] theorem tzero4 : Abs.tzero Tryz.prog 4 = some [.t (.lit (.bool false))] := by kernel_rfl
@[go_sem] theorem tbytes4 : Abs.tbytes Tryz.prog 4 = 1 := by kernel_rfl
@[go_sem] theorem tbool4 : Abs.tdesc Tryz.prog 4 = .bool := by kernel_rfl
@[go_sem] theorem tok5 : Abs.tok Tryz.prog 5 = true := by kernel_rfl
@[go_sem] theorem tagg5 : Abs.tagg Tryz.prog 5 = false := by kernel_rfl
@[go_sem] theorem tsize5 : Abs.tsize Tryz.prog 5 = 1 := by kernel_rfl
@[go_sem] theorem tzero5 : Abs.tzero Tryz.prog 5 = some [.t (.lit (.int .u8 0))] := by kernel_rfl
@[go_sem] theorem tbytes5 : Abs.tbytes Tryz.prog 5 = 1 := by kernel_rfl
@[go_sem] theorem tint5 : Abs.intD (Abs.tdesc Tryz.prog 5) = some .u8 := by kernel_rfl
@[go_sem] theorem tok6 : Abs.tok Tryz.prog 6 = true := by kernel_rfl
@[go_sem] theorem tagg6 : Abs.tagg Tryz.prog 6 = false := by kernel_rfl
@[go_sem] theorem tsize6 : Abs.tsize Tryz.prog 6 = 1 := by kernel_rfl
@[go_sem] theorem tzero6 : Abs.tzero Tryz.prog 6 = some [.t (.lit (.int .u8 0))] := by kernel_rfl
@[go_sem] theorem tbytes6 : Abs.tbytes Tryz.prog 6 = 1 := by kernel_rfl
@[go_sem] theorem tint6 : Abs.intD (Abs.tdesc Tryz.prog 6) = some .u8 := by kernel_rfl
@[go_sem] theorem tok7 : Abs.tok Tryz.prog 7 = true := by kernel_rfl
@[go_sem] theorem tagg7 : Abs.tagg Tryz.prog 7 = true := by kernel_rfl
@[go_sem] theorem tsize7 : Abs.tsize Tryz.prog 7 = 4 := by kernel_rfl
@[go_sem] theorem tzero7 : Abs.tzero Tryz.prog 7 = some [.t (.lit (.int .i64 0)), .t (.lit (.int .i64 0)), .t (.lit (.bool false)), .t (.lit (.int .u8 0))] := by kernel_rfl
@[go_sem] theorem tbytes7 : Abs.tbytes Tryz.prog 7 = 24 := by kernel_rfl
@[go_sem] theorem tst7 : Abs.isStructD (Abs.tdesc Tryz.prog 7) = true := by kernel_rfl
@[go_sem] theorem tnf7 : Abs.nfields Tryz.prog 7 = 4 := by kernel_rfl
@[go_sem] theorem tpt7 : Abs.partsTok Tryz.prog 7 = true := by kernel_rfl
@[go_sem] theorem tfo7_0 : Abs.foff Tryz.prog 7 0 = 0 := by kernel_rfl
@[go_sem] theorem tft7_0 : Abs.fty Tryz.prog 7 0 = 2 := by kernel_rfl
@[go_sem] theorem tpl7_0 : Abs.placesA Tryz.prog 7 0 = some (0, 1) := by kernel_rfl
@[go_sem] theorem tfo7_1 : Abs.foff Tryz.prog 7 1 = 1 := by kernel_rfl
@[go_sem] theorem tft7_1 : Abs.fty Tryz.prog 7 1 = 3 := by kernel_rfl
@[go_sem] theorem tpl7_1 : Abs.placesA Tryz.prog 7 1 = some (1, 1) := by kernel_rfl
@[go_sem] theorem tfo7_2 : Abs.foff Tryz.prog 7 2 = 2 := by kernel_rfl
@[go_sem] theorem tft7_2 : Abs.fty Tryz.prog 7 2 = 4 := by kernel_rfl
@[go_sem] theorem tpl7_2 : Abs.placesA Tryz.prog 7 2 = some (2, 1) := by kernel_rfl
@[go_sem] theorem tfo7_3 : Abs.foff Tryz.prog 7 3 = 3 := by kernel_rfl
@[go_sem] theorem tft7_3 : Abs.fty Tryz.prog 7 3 = 6 := by kernel_rfl
@[go_sem] theorem tpl7_3 : Abs.placesA Tryz.prog 7 3 = some (3, 1) := by kernel_rfl
@[go_sem] theorem tok8 : Abs.tok Tryz.prog 8 = true := by kernel_rfl
@[go_sem] theorem tagg8 : Abs.tagg Tryz.prog 8 = true := by kernel_rfl
@[go_sem] theorem tsize8 : Abs.tsize Tryz.prog 8 = 4 := by kernel_rfl
@[go_sem] theorem tzero8 : Abs.tzero Tryz.prog 8 = some [.t (.lit (.int .i64 0)), .t (.lit (.int .i64 0)), .t (.lit (.bool false)), .t (.lit (.int .u8 0))] := by kernel_rfl
@[go_sem] theorem tbytes8 : Abs.tbytes Tryz.prog 8 = 24 := by kernel_rfl
@[go_sem] theorem tst8 : Abs.isStructD (Abs.tdesc Tryz.prog 8) = true := by kernel_rfl
@[go_sem] theorem tnf8 : Abs.nfields Tryz.prog 8 = 4 := by kernel_rfl
@[go_sem] theorem tpt8 : Abs.partsTok Tryz.prog 8 = true := by kernel_rfl
@[go_sem] theorem tfo8_0 : Abs.foff Tryz.prog 8 0 = 0 := by kernel_rfl
@[go_sem] theorem tft8_0 : Abs.fty Tryz.prog 8 0 = 2 := by kernel_rfl
@[go_sem] theorem tpl8_0 : Abs.placesA Tryz.prog 8 0 = some (0, 1) := by kernel_rfl
@[go_sem] theorem tfo8_1 : Abs.foff Tryz.prog 8 1 = 1 := by kernel_rfl
@[go_sem] theorem tft8_1 : Abs.fty Tryz.prog 8 1 = 3 := by kernel_rfl
@[go_sem] theorem tpl8_1 : Abs.placesA Tryz.prog 8 1 = some (1, 1) := by kernel_rfl
@[go_sem] theorem tfo8_2 : Abs.foff Tryz.prog 8 2 = 2 := by kernel_rfl
@[go_sem] theorem tft8_2 : Abs.fty Tryz.prog 8 2 = 4 := by kernel_rfl
@[go_sem] theorem tpl8_2 : Abs.placesA Tryz.prog 8 2 = some (2, 1) := by kernel_rfl
@[go_sem] theorem tfo8_3 : Abs.foff Tryz.prog 8 3 = 3 := by kernel_rfl
@[go_sem] theorem tft8_3 : Abs.fty Tryz.prog 8 3 = 6 := by kernel_rfl
@[go_sem] theorem tpl8_3 : Abs.placesA Tryz.prog 8 3 = some (3, 1) := by kernel_rfl
@[go_sem] theorem tok9 : Abs.tok Tryz.prog 9 = true := by kernel_rfl
@[go_sem] theorem tagg9 : Abs.tagg Tryz.prog 9 = false := by kernel_rfl
@[go_sem] theorem tsize9 : Abs.tsize Tryz.prog 9 = 1 := by kernel_rfl
@[go_sem] theorem tzero9 : Abs.tzero Tryz.prog 9 = some [.t (.lit (.string ⟨#[]⟩))] := by kernel_rfl
@[go_sem] theorem tbytes9 : Abs.tbytes Tryz.prog 9 = 16 := by kernel_rfl
@[go_sem] theorem tstr9 : Abs.tdesc Tryz.prog 9 = .string := by kernel_rfl
@[go_sem] theorem tok10 : Abs.tok Tryz.prog 10 = true := by kernel_rfl
@[go_sem] theorem tagg10 : Abs.tagg Tryz.prog 10 = false := by kernel_rfl
@[go_sem] theorem tsize10 : Abs.tsize Tryz.prog 10 = 1 := by kernel_rfl
@[go_sem] theorem tzero10 : Abs.tzero Tryz.prog 10 = some [.t (.lit (.string ⟨#[]⟩))] := by kernel_rfl
@[go_sem] theorem tbytes10 : Abs.tbytes Tryz.prog 10 = 16 := by kernel_rfl
@[go_sem] theorem tstr10 : Abs.tdesc Tryz.prog 10 = .string := by kernel_rfl
@[go_sem] theorem tok11 : Abs.tok Tryz.prog 11 = true := by kernel_rfl
@[go_sem] theorem tagg11 : Abs.tagg Tryz.prog 11 = false := by kernel_rfl
@[go_sem] theorem tsize11 : Abs.tsize Tryz.prog 11 = 1 := by kernel_rfl
@[go_sem] theorem tzero11 : Abs.tzero Tryz.prog 11 = some [.t (.lit (.string ⟨#[]⟩))] := by kernel_rfl
@[go_sem] theorem tbytes11 : Abs.tbytes Tryz.prog 11 = 16 := by kernel_rfl
@[go_sem] theorem tstr11 : Abs.tdesc Tryz.prog 11 = .string := by kernel_rfl
@[go_sem] theorem tok12 : Abs.tok Tryz.prog 12 = true := by kernel_rfl
@[go_sem] theorem tagg12 : Abs.tagg Tryz.prog 12 = false := by kernel_rfl
@[go_sem] theorem tsize12 : Abs.tsize Tryz.prog 12 = 1 := by kernel_rfl
@[go_sem] theorem tzero12 : Abs.tzero Tryz.prog 12 = some [.t (.lit (.int .u64 0))] := by kernel_rfl
@[go_sem] theorem tbytes12 : Abs.tbytes Tryz.prog 12 = 8 := by kernel_rfl
@[go_sem] theorem tint12 : Abs.intD (Abs.tdesc Tryz.prog 12) = some .u64 := by kernel_rfl
@[go_sem] theorem tok13 : Abs.tok Tryz.prog 13 = true := by kernel_rfl
@[go_sem] theorem tagg13 : Abs.tagg Tryz.prog 13 = true := by kernel_rfl
@[go_sem] theorem tsize13 : Abs.tsize Tryz.prog 13 = 2 := by kernel_rfl
@[go_sem] theorem tzero13 : Abs.tzero Tryz.prog 13 = some [.t (.lit (.string ⟨#[]⟩)), .t (.lit (.int .u64 0))] := by kernel_rfl
@[go_sem] theorem tbytes13 : Abs.tbytes Tryz.prog 13 = 24 := by kernel_rfl
@[go_sem] theorem tst13 : Abs.isStructD (Abs.tdesc Tryz.prog 13) = true := by kernel_rfl
@[go_sem] theorem tnf13 : Abs.nfields Tryz.prog 13 = 2 := by kernel_rfl
@[go_sem] theorem tpt13 : Abs.partsTok Tryz.prog 13 = true := by kernel_rfl
@[go_sem] theorem tfo13_0 : Abs.foff Tryz.prog 13 0 = 0 := by kernel_rfl
@[go_sem] theorem tft13_0 : Abs.fty Tryz.prog 13 0 = 9 := by kernel_rfl
@[go_sem] theorem tpl13_0 : Abs.placesA Tryz.prog 13 0 = some (0, 1) := by kernel_rfl
@[go_sem] theorem tfo13_1 : Abs.foff Tryz.prog 13 1 = 1 := by kernel_rfl
@[go_sem] theorem tft13_1 : Abs.fty Tryz.prog 13 1 = 12 := by kernel_rfl
@[go_sem] theorem tpl13_1 : Abs.placesA Tryz.prog 13 1 = some (1, 1) := by kernel_rfl
@[go_sem] theorem tok14 : Abs.tok Tryz.prog 14 = true := by kernel_rfl
@[go_sem] theorem tagg14 : Abs.tagg Tryz.prog 14 = true := by kernel_rfl
@[go_sem] theorem tsize14 : Abs.tsize Tryz.prog 14 = 2 := by kernel_rfl
@[go_sem] theorem tzero14 : Abs.tzero Tryz.prog 14 = some [.t (.lit (.string ⟨#[]⟩)), .t (.lit (.int .u64 0))] := by kernel_rfl
@[go_sem] theorem tbytes14 : Abs.tbytes Tryz.prog 14 = 24 := by kernel_rfl
@[go_sem] theorem tst14 : Abs.isStructD (Abs.tdesc Tryz.prog 14) = true := by kernel_rfl
@[go_sem] theorem tnf14 : Abs.nfields Tryz.prog 14 = 2 := by kernel_rfl
@[go_sem] theorem tpt14 : Abs.partsTok Tryz.prog 14 = true := by kernel_rfl
@[go_sem] theorem tfo14_0 : Abs.foff Tryz.prog 14 0 = 0 := by kernel_rfl
@[go_sem] theorem tft14_0 : Abs.fty Tryz.prog 14 0 = 9 := by kernel_rfl
@[go_sem] theorem tpl14_0 : Abs.placesA Tryz.prog 14 0 = some (0, 1) := by kernel_rfl
@[go_sem] theorem tfo14_1 : Abs.foff Tryz.prog 14 1 = 1 := by kernel_rfl
@[go_sem] theorem tft14_1 : Abs.fty Tryz.prog 14 1 = 12 := by kernel_rfl
@[go_sem] theorem tpl14_1 : Abs.placesA Tryz.prog 14 1 = some (1, 1) := by kernel_rfl
@[go_sem] theorem tok15 : Abs.tok Tryz.prog 15 = true := by kernel_rfl
@[go_sem] theorem tagg15 : Abs.tagg Tryz.prog 15 = false := by kernel_rfl
@[go_sem] theorem tsize15 : Abs.tsize Tryz.prog 15 = 1 := by kernel_rfl
@[go_sem] theorem tzero15 : Abs.tzero Tryz.prog 15 = some [.t (.lit (.pointer none))] := by kernel_rfl
@[go_sem] theorem tbytes15 : Abs.tbytes Tryz.prog 15 = 8 := by kernel_rfl
@[go_sem] theorem tok16 : Abs.tok Tryz.prog 16 = true := by kernel_rfl
@[go_sem] theorem tagg16 : Abs.tagg Tryz.prog 16 = false := by kernel_rfl
@[go_sem] theorem tsize16 : Abs.tsize Tryz.prog 16 = 1 := by kernel_rfl
@[go_sem] theorem tzero16 : Abs.tzero Tryz.prog 16 = some [.t (.lit (.pointer none))] := by kernel_rfl
@[go_sem] theorem tbytes16 : Abs.tbytes Tryz.prog 16 = 8 := by kernel_rfl
@[go_sem] theorem tok17 : Abs.tok Tryz.prog 17 = true := by kernel_rfl
@[go_sem] theorem tagg17 : Abs.tagg Tryz.prog 17 = false := by kernel_rfl
@[go_sem] theorem tsize17 : Abs.tsize Tryz.prog 17 = 1 := by kernel_rfl
@[go_sem] theorem tzero17 : Abs.tzero Tryz.prog 17 = some [.t (.lit (.pointer none))] := by kernel_rfl
@[go_sem] theorem tbytes17 : Abs.tbytes Tryz.prog 17 = 8 := by kernel_rfl
@[go_sem] theorem tok18 : Abs.tok Tryz.prog 18 = true := by kernel_rfl
@[go_sem] theorem tagg18 : Abs.tagg Tryz.prog 18 = true := by kernel_rfl
@[go_sem] theorem tsize18 : Abs.tsize Tryz.prog 18 = 1 := by kernel_rfl
@[go_sem] theorem tzero18 : Abs.tzero Tryz.prog 18 = some [.t (.lit (.pointer none))] := by kernel_rfl
@[go_sem] theorem tbytes18 : Abs.tbytes Tryz.prog 18 = 8 := by kernel_rfl
@[go_sem] theorem tst18 : Abs.isStructD (Abs.tdesc Tryz.prog 18) = true := by kernel_rfl
@[go_sem] theorem tnf18 : Abs.nfields Tryz.prog 18 = 1 := by kernel_rfl
@[go_sem] theorem tpt18 : Abs.partsTok Tryz.prog 18 = true := by kernel_rfl
@[go_sem] theorem tfo18_0 : Abs.foff Tryz.prog 18 0 = 0 := by kernel_rfl
@[go_sem] theorem tft18_0 : Abs.fty Tryz.prog 18 0 = 17 := by kernel_rfl
@[go_sem] theorem tpl18_0 : Abs.placesA Tryz.prog 18 0 = some (0, 1) := by kernel_rfl
@[go_sem] theorem tok19 : Abs.tok Tryz.prog 19 = true := by kernel_rfl
@[go_sem] theorem tagg19 : Abs.tagg Tryz.prog 19 = true := by kernel_rfl
@[go_sem] theorem tsize19 : Abs.tsize Tryz.prog 19 = 1 := by kernel_rfl
@[go_sem] theorem tzero19 : Abs.tzero Tryz.prog 19 = some [.t (.lit (.pointer none))] := by kernel_rfl
@[go_sem] theorem tbytes19 : Abs.tbytes Tryz.prog 19 = 8 := by kernel_rfl
@[go_sem] theorem tst19 : Abs.isStructD (Abs.tdesc Tryz.prog 19) = true := by kernel_rfl
@[go_sem] theorem tnf19 : Abs.nfields Tryz.prog 19 = 1 := by kernel_rfl
@[go_sem] theorem tpt19 : Abs.partsTok Tryz.prog 19 = true := by kernel_rfl
@[go_sem] theorem tfo19_0 : Abs.foff Tryz.prog 19 0 = 0 := by kernel_rfl
@[go_sem] theorem tft19_0 : Abs.fty Tryz.prog 19 0 = 17 := by kernel_rfl
@[go_sem] theorem tpl19_0 : Abs.placesA Tryz.prog 19 0 = some (0, 1) := by kernel_rfl
@[go_sem] theorem tok21 : Abs.tok Tryz.prog 21 = true := by kernel_rfl
@[go_sem] theorem tagg21 : Abs.tagg Tryz.prog 21 = false := by kernel_rfl
@[go_sem] theorem tsize21 : Abs.tsize Tryz.prog 21 = 1 := by kernel_rfl
@[go_sem] theorem tzero21 : Abs.tzero Tryz.prog 21 = some [.t (.lit (.int .i32 0))] := by kernel_rfl
@[go_sem] theorem tbytes21 : Abs.tbytes Tryz.prog 21 = 4 := by kernel_rfl
@[go_sem] theorem tint21 : Abs.intD (Abs.tdesc Tryz.prog 21) = some .i32 := by kernel_rfl
@[go_sem] theorem tok22 : Abs.tok Tryz.prog 22 = true := by kernel_rfl
@[go_sem] theorem tagg22 : Abs.tagg Tryz.prog 22 = false := by kernel_rfl
@[go_sem] theorem tsize22 : Abs.tsize Tryz.prog 22 = 1 := by kernel_rfl
@[go_sem] theorem tzero22 : Abs.tzero Tryz.prog 22 = some [.t (.seq (some true) [])] := by kernel_rfl
@[go_sem] theorem tbytes22 : Abs.tbytes Tryz.prog 22 = 24 := by kernel_rfl
@[go_sem] theorem tsl22 : Abs.isSliceD (Abs.tdesc Tryz.prog 22) = true := by kernel_rfl
@[go_sem] theorem telem22 : Abs.telem Tryz.prog 22 = 32 := by kernel_rfl
@[go_sem] theorem tok23 : Abs.tok Tryz.prog 23 = true := by kernel_rfl
@[go_sem] theorem tagg23 : Abs.tagg Tryz.prog 23 = true := by kernel_rfl
@[go_sem] theorem tsize23 : Abs.tsize Tryz.prog 23 = 2 := by kernel_rfl
@[go_sem] theorem tzero23 : Abs.tzero Tryz.prog 23 = some [.t (.lit (.bool false)), .t (.seq (some true) [])] := by kernel_rfl
@[go_sem] theorem tbytes23 : Abs.tbytes Tryz.prog 23 = 32 := by kernel_rfl
@[go_sem] theorem tst23 : Abs.isStructD (Abs.tdesc Tryz.prog 23) = true := by kernel_rfl
@[go_sem] theorem tnf23 : Abs.nfields Tryz.prog 23 = 2 := by kernel_rfl
@[go_sem] theorem tpt23 : Abs.partsTok Tryz.prog 23 = true := by kernel_rfl
@[go_sem] theorem tfo23_0 : Abs.foff Tryz.prog 23 0 = 0 := by kernel_rfl
@[go_sem] theorem tft23_0 : Abs.fty Tryz.prog 23 0 = 4 := by kernel_rfl
@[go_sem] theorem tpl23_0 : Abs.placesA Tryz.prog 23 0 = some (0, 1) := by kernel_rfl
@[go_sem] theorem tfo23_1 : Abs.foff Tryz.prog 23 1 = 1 := by kernel_rfl
@[go_sem] theorem tft23_1 : Abs.fty Tryz.prog 23 1 = 22 := by kernel_rfl
@[go_sem] theorem tpl23_1 : Abs.placesA Tryz.prog 23 1 = some (1, 1) := by kernel_rfl
@[go_sem] theorem tok24 : Abs.tok Tryz.prog 24 = true := by kernel_rfl
@[go_sem] theorem tagg24 : Abs.tagg Tryz.prog 24 = true := by kernel_rfl
@[go_sem] theorem tsize24 : Abs.tsize Tryz.prog 24 = 2 := by kernel_rfl
@[go_sem] theorem tzero24 : Abs.tzero Tryz.prog 24 = some [.t (.lit (.bool false)), .t (.seq (some true) [])] := by kernel_rfl
@[go_sem] theorem tbytes24 : Abs.tbytes Tryz.prog 24 = 32 := by kernel_rfl
@[go_sem] theorem tst24 : Abs.isStructD (Abs.tdesc Tryz.prog 24) = true := by kernel_rfl
@[go_sem] theorem tnf24 : Abs.nfields Tryz.prog 24 = 2 := by kernel_rfl
@[go_sem] theorem tpt24 : Abs.partsTok Tryz.prog 24 = true := by kernel_rfl
@[go_sem] theorem tfo24_0 : Abs.foff Tryz.prog 24 0 = 0 := by kernel_rfl
@[go_sem] theorem tft24_0 : Abs.fty Tryz.prog 24 0 = 4 := by kernel_rfl
@[go_sem] theorem tpl24_0 : Abs.placesA Tryz.prog 24 0 = some (0, 1) := by kernel_rfl
@[go_sem] theorem tfo24_1 : Abs.foff Tryz.prog 24 1 = 1 := by kernel_rfl
@[go_sem] theorem tft24_1 : Abs.fty Tryz.prog 24 1 = 22 := by kernel_rfl
@[go_sem] theorem tpl24_1 : Abs.placesA Tryz.prog 24 1 = some (1, 1) := by kernel_rfl
@[go_sem] theorem tok25 : Abs.tok Tryz.prog 25 = true := by kernel_rfl
@[go_sem] theorem tagg25 : Abs.tagg Tryz.prog 25 = true := by kernel_rfl
@[go_sem] theorem tsize25 : Abs.tsize Tryz.prog 25 = 3 := by kernel_rfl
@[go_sem] theorem tzero25 : Abs.tzero Tryz.prog 25 = some [.t (.lit (.bool false)), .t (.seq (some true) []), .t (.seq (some true) [])] := by kernel_rfl
@[go_sem] theorem tbytes25 : Abs.tbytes Tryz.prog 25 = 56 := by kernel_rfl
@[go_sem] theorem tst25 : Abs.isStructD (Abs.tdesc Tryz.prog 25) = true := by kernel_rfl
@[go_sem] theorem tnf25 : Abs.nfields Tryz.prog 25 = 2 := by kernel_rfl
@[go_sem] theorem tpt25 : Abs.partsTok Tryz.prog 25 = true := by kernel_rfl
@[go_sem] theorem tfo25_0 : Abs.foff Tryz.prog 25 0 = 0 := by kernel_rfl
@[go_sem] theorem tft25_0 : Abs.fty Tryz.prog 25 0 = 24 := by kernel_rfl
@[go_sem] theorem tpl25_0 : Abs.placesA Tryz.prog 25 0 = some (0, 2) := by kernel_rfl
@[go_sem] theorem tfo25_1 : Abs.foff Tryz.prog 25 1 = 2 := by kernel_rfl
@[go_sem] theorem tft25_1 : Abs.fty Tryz.prog 25 1 = 22 := by kernel_rfl
@[go_sem] theorem tpl25_1 : Abs.placesA Tryz.prog 25 1 = some (2, 1) := by kernel_rfl
@[go_sem] theorem tok26 : Abs.tok Tryz.prog 26 = true := by kernel_rfl
@[go_sem] theorem tagg26 : Abs.tagg Tryz.prog 26 = true := by kernel_rfl
@[go_sem] theorem tsize26 : Abs.tsize Tryz.prog 26 = 3 := by kernel_rfl
@[go_sem] theorem tzero26 : Abs.tzero Tryz.prog 26 = some [.t (.lit (.bool false)), .t (.seq (some true) []), .t (.seq (some true) [])] := by kernel_rfl
@[go_sem] theorem tbytes26 : Abs.tbytes Tryz.prog 26 = 56 := by kernel_rfl
@[go_sem] theorem tst26 : Abs.isStructD (Abs.tdesc Tryz.prog 26) = true := by kernel_rfl
@[go_sem] theorem tnf26 : Abs.nfields Tryz.prog 26 = 2 := by kernel_rfl
@[go_sem] theorem tpt26 : Abs.partsTok Tryz.prog 26 = true := by kernel_rfl
@[go_sem] theorem tfo26_0 : Abs.foff Tryz.prog 26 0 = 0 := by kernel_rfl
@[go_sem] theorem tft26_0 : Abs.fty Tryz.prog 26 0 = 24 := by kernel_rfl
@[go_sem] theorem tpl26_0 : Abs.placesA Tryz.prog 26 0 = some (0, 2) := by kernel_rfl
@[go_sem] theorem tfo26_1 : Abs.foff Tryz.prog 26 1 = 2 := by kernel_rfl
@[go_sem] theorem tft26_1 : Abs.fty Tryz.prog 26 1 = 22 := by kernel_rfl
@[go_sem] theorem tpl26_1 : Abs.placesA Tryz.prog 26 1 = some (2, 1) := by kernel_rfl
@[go_sem] theorem tok27 : Abs.tok Tryz.prog 27 = true := by kernel_rfl
@[go_sem] theorem tagg27 : Abs.tagg Tryz.prog 27 = false := by kernel_rfl
@[go_sem] theorem tsize27 : Abs.tsize Tryz.prog 27 = 1 := by kernel_rfl
@[go_sem] theorem tzero27 : Abs.tzero Tryz.prog 27 = some [.t (.lit .nilFunc)] := by kernel_rfl
@[go_sem] theorem tok28 : Abs.tok Tryz.prog 28 = true := by kernel_rfl
@[go_sem] theorem tagg28 : Abs.tagg Tryz.prog 28 = false := by kernel_rfl
@[go_sem] theorem tsize28 : Abs.tsize Tryz.prog 28 = 1 := by kernel_rfl
@[go_sem] theorem tzero28 : Abs.tzero Tryz.prog 28 = some [.t (.lit .nilFunc)] := by kernel_rfl
@[go_sem] theorem tok29 : Abs.tok Tryz.prog 29 = true := by kernel_rfl
@[go_sem] theorem tagg29 : Abs.tagg Tryz.prog 29 = false := by kernel_rfl
@[go_sem] theorem tsize29 : Abs.tsize Tryz.prog 29 = 1 := by kernel_rfl
@[go_sem] theorem tzero29 : Abs.tzero Tryz.prog 29 = some [.t (.lit (.int .i64 0))] := by kernel_rfl
@[go_sem] theorem tbytes29 : Abs.tbytes Tryz.prog 29 = 8 := by kernel_rfl
@[go_sem] theorem tint29 : Abs.intD (Abs.tdesc Tryz.prog 29) = some .i64 := by kernel_rfl
@[go_sem] theorem tok31 : Abs.tok Tryz.prog 31 = true := by kernel_rfl
@[go_sem] theorem tagg31 : Abs.tagg Tryz.prog 31 = false := by kernel_rfl
@[go_sem] theorem tsize31 : Abs.tsize Tryz.prog 31 = 1 := by kernel_rfl
@[go_sem] theorem tzero31 : Abs.tzero Tryz.prog 31 = some [.t (.lit .nilFunc)] := by kernel_rfl
@[go_sem] theorem tok32 : Abs.tok Tryz.prog 32 = true := by kernel_rfl
@[go_sem] theorem tagg32 : Abs.tagg Tryz.prog 32 = false := by kernel_rfl
@[go_sem] theorem tsize32 : Abs.tsize Tryz.prog 32 = 1 := by kernel_rfl
@[go_sem] theorem tzero32 : Abs.tzero Tryz.prog 32 = some [.t (.lit (.int .u32 0))] := by kernel_rfl
@[go_sem] theorem tbytes32 : Abs.tbytes Tryz.prog 32 = 4 := by kernel_rfl
@[go_sem] theorem tint32 : Abs.intD (Abs.tdesc Tryz.prog 32) = some .u32 := by kernel_rfl
@[go_sem] theorem tok33 : Abs.tok Tryz.prog 33 = true := by kernel_rfl
@[go_sem] theorem tagg33 : Abs.tagg Tryz.prog 33 = false := by kernel_rfl
@[go_sem] theorem tsize33 : Abs.tsize Tryz.prog 33 = 1 := by kernel_rfl
@[go_sem] theorem tzero33 : Abs.tzero Tryz.prog 33 = some [.t (.lit .nilFunc)] := by kernel_rfl
@[go_sem] theorem tok34 : Abs.tok Tryz.prog 34 = true := by kernel_rfl
@[go_sem] theorem tagg34 : Abs.tagg Tryz.prog 34 = false := by kernel_rfl
@[go_sem] theorem tsize34 : Abs.tsize Tryz.prog 34 = 1 := by kernel_rfl
@[go_sem] theorem tzero34 : Abs.tzero Tryz.prog 34 = some [.t (.lit .nilFunc)] := by kernel_rfl
@[go_sem] theorem tok35 : Abs.tok Tryz.prog 35 = true := by kernel_rfl
@[go_sem] theorem tagg35 : Abs.tagg Tryz.prog 35 = false := by kernel_rfl
@[go_sem] theorem tsize35 : Abs.tsize Tryz.prog 35 = 1 := by kernel_rfl
@[go_sem] theorem tzero35 : Abs.tzero Tryz.prog 35 = some [.t (.lit .nilFunc)] := by kernel_rfl
@[go_sem] theorem tok36 : Abs.tok Tryz.prog 36 = true := by kernel_rfl
@[go_sem] theorem tagg36 : Abs.tagg Tryz.prog 36 = false := by kernel_rfl
@[go_sem] theorem tsize36 : Abs.tsize Tryz.prog 36 = 1 := by kernel_rfl
@[go_sem] theorem tzero36 : Abs.tzero Tryz.prog 36 = some [.t (.lit .nilFunc)] := by kernel_rfl
@[go_sem] theorem tok37 : Abs.tok Tryz.prog 37 = true := by kernel_rfl
@[go_sem] theorem tagg37 : Abs.tagg Tryz.prog 37 = false := by kernel_rfl
@[go_sem] theorem tsize37 : Abs.tsize Tryz.prog 37 = 1 := by kernel_rfl
@[go_sem] theorem tzero37 : Abs.tzero Tryz.prog 37 = some [.t (.lit .nilFunc)] := by kernel_rfl
@[go_sem] theorem tok38 : Abs.tok Tryz.prog 38 = true := by kernel_rfl
@[go_sem] theorem tagg38 : Abs.tagg Tryz.prog 38 = false := by kernel_rfl
@[go_sem] theorem tsize38 : Abs.tsize Tryz.prog 38 = 1 := by kernel_rfl
@[go_sem] theorem tzero38 : Abs.tzero Tryz.prog 38 = some [.t (.lit .nilFunc)] := by kernel_rfl
@[go_sem] theorem tok39 : Abs.tok Tryz.prog 39 = true := by kernel_rfl
@[go_sem] theorem tagg39 : Abs.tagg Tryz.prog 39 = false := by kernel_rfl
@[go_sem] theorem tsize39 : Abs.tsize Tryz.prog 39 = 1 := by kernel_rfl
@[go_sem] theorem tzero39 : Abs.tzero Tryz.prog 39 = some [.t (.lit .nilFunc)] := by kernel_rfl
@[go_sem] theorem tok40 : Abs.tok Tryz.prog 40 = true := by kernel_rfl
@[go_sem] theorem tagg40 : Abs.tagg Tryz.prog 40 = false := by kernel_rfl
@[go_sem] theorem tsize40 : Abs.tsize Tryz.prog 40 = 1 := by kernel_rfl
@[go_sem] theorem tzero40 : Abs.tzero Tryz.prog 40 = some [.t (.lit .nilFunc)] := by kernel_rfl
@[go_sem] theorem tok41 : Abs.tok Tryz.prog 41 = true := by kernel_rfl
@[go_sem] theorem tagg41 : Abs.tagg Tryz.prog 41 = false := by kernel_rfl
@[go_sem] theorem tsize41 : Abs.tsize Tryz.prog 41 = 1 := by kernel_rfl
@[go_sem] theorem tzero41 : Abs.tzero Tryz.prog 41 = some [.t (.lit .nilFunc)] := by kernel_rfl
@[go_sem] theorem tok42 : Abs.tok Tryz.prog 42 = true := by kernel_rfl
@[go_sem] theorem tagg42 : Abs.tagg Tryz.prog 42 = false := by kernel_rfl
@[go_sem] theorem tsize42 : Abs.tsize Tryz.prog 42 = 1 := by kernel_rfl
@[go_sem] theorem tzero42 : Abs.tzero Tryz.prog 42 = some [.t (.lit .nilFunc)] := by kernel_rfl
@[go_sem] theorem tok43 : Abs.tok Tryz.prog 43 = true := by kernel_rfl
@[go_sem] theorem tagg43 : Abs.tagg Tryz.prog 43 = false := by kernel_rfl
@[go_sem] theorem tsize43 : Abs.tsize Tryz.prog 43 = 1 := by kernel_rfl
@[go_sem] theorem tzero43 : Abs.tzero Tryz.prog 43 = some [.t (.lit .nilFunc)] := by kernel_rfl
@[go_sem] theorem tok44 : Abs.tok Tryz.prog 44 = true := by kernel_rfl
@[go_sem] theorem tagg44 : Abs.tagg Tryz.prog 44 = false := by kernel_rfl
@[go_sem] theorem tsize44 : Abs.tsize Tryz.prog 44 = 1 := by kernel_rfl
@[go_sem] theorem tzero44 : Abs.tzero Tryz.prog 44 = some [.t (.lit .nilFunc)] := by kernel_rfl
@[go_sem] theorem tok45 : Abs.tok Tryz.prog 45 = true := by kernel_rfl
@[go_sem] theorem tagg45 : Abs.tagg Tryz.prog 45 = false := by kernel_rfl
@[go_sem] theorem tsize45 : Abs.tsize Tryz.prog 45 = 1 := by kernel_rfl
@[go_sem] theorem tzero45 : Abs.tzero Tryz.prog 45 = some [.t (.lit .nilFunc)] := by kernel_rfl
@[go_sem] theorem tok46 : Abs.tok Tryz.prog 46 = true := by kernel_rfl
@[go_sem] theorem tagg46 : Abs.tagg Tryz.prog 46 = true := by kernel_rfl
@[go_sem] theorem tsize46 : Abs.tsize Tryz.prog 46 = 3 := by kernel_rfl
@[go_sem] theorem tzero46 : Abs.tzero Tryz.prog 46 = some [.t (.lit (.bool false)), .t (.seq (some true) []), .t (.seq (some true) [])] := by kernel_rfl
@[go_sem] theorem tbytes46 : Abs.tbytes Tryz.prog 46 = 56 := by kernel_rfl
@[go_sem] theorem tst46 : Abs.isStructD (Abs.tdesc Tryz.prog 46) = true := by kernel_rfl
@[go_sem] theorem tnf46 : Abs.nfields Tryz.prog 46 = 2 := by kernel_rfl
@[go_sem] theorem tpt46 : Abs.partsTok Tryz.prog 46 = true := by kernel_rfl
@[go_sem] theorem tfo46_0 : Abs.foff Tryz.prog 46 0 = 0 := by kernel_rfl
@[go_sem] theorem tft46_0 : Abs.fty Tryz.prog 46 0 = 24 := by kernel_rfl
@[go_sem] theorem tpl46_0 : Abs.placesA Tryz.prog 46 0 = some (0, 2) := by kernel_rfl
@[go_sem] theorem tfo46_1 : Abs.foff Tryz.prog 46 1 = 2 := by kernel_rfl
@[go_sem] theorem tft46_1 : Abs.fty Tryz.prog 46 1 = 22 := by kernel_rfl
@[go_sem] theorem tpl46_1 : Abs.placesA Tryz.prog 46 1 = some (2, 1) := by kernel_rfl
@[go_sem] theorem tok47 : Abs.tok Tryz.prog 47 = true := by kernel_rfl
@[go_sem] theorem tagg47 : Abs.tagg Tryz.prog 47 = true := by kernel_rfl
@[go_sem] theorem tsize47 : Abs.tsize Tryz.prog 47 = 3 := by kernel_rfl
@[go_sem] theorem tzero47 : Abs.tzero Tryz.prog 47 = some [.t (.lit (.bool false)), .t (.seq (some true) []), .t (.seq (some true) [])] := by kernel_rfl
@[go_sem] theorem tbytes47 : Abs.tbytes Tryz.prog 47 = 56 := by kernel_rfl
@[go_sem] theorem tst47 : Abs.isStructD (Abs.tdesc Tryz.prog 47) = true := by kernel_rfl
@[go_sem] theorem tnf47 : Abs.nfields Tryz.prog 47 = 2 := by kernel_rfl
@[go_sem] theorem tpt47 : Abs.partsTok Tryz.prog 47 = true := by kernel_rfl
@[go_sem] theorem tfo47_0 : Abs.foff Tryz.prog 47 0 = 0 := by kernel_rfl
@[go_sem] theorem tft47_0 : Abs.fty Tryz.prog 47 0 = 24 := by kernel_rfl
@[go_sem] theorem tpl47_0 : Abs.placesA Tryz.prog 47 0 = some (0, 2) := by kernel_rfl
@[go_sem] theorem tfo47_1 : Abs.foff Tryz.prog 47 1 = 2 := by kernel_rfl
@[go_sem] theorem tft47_1 : Abs.fty Tryz.prog 47 1 = 22 := by kernel_rfl
@[go_sem] theorem tpl47_1 : Abs.placesA Tryz.prog 47 1 = some (2, 1) := by kernel_rfl
@[go_sem] theorem tok48 : Abs.tok Tryz.prog 48 = true := by kernel_rfl
@[go_sem] theorem tagg48 : Abs.tagg Tryz.prog 48 = true := by kernel_rfl
@[go_sem] theorem tsize48 : Abs.tsize Tryz.prog 48 = 3 := by kernel_rfl
@[go_sem] theorem tzero48 : Abs.tzero Tryz.prog 48 = some [.t (.lit (.bool false)), .t (.seq (some true) []), .t (.seq (some true) [])] := by kernel_rfl
@[go_sem] theorem tbytes48 : Abs.tbytes Tryz.prog 48 = 56 := by kernel_rfl
@[go_sem] theorem tst48 : Abs.isStructD (Abs.tdesc Tryz.prog 48) = true := by kernel_rfl
@[go_sem] theorem tnf48 : Abs.nfields Tryz.prog 48 = 1 := by kernel_rfl
@[go_sem] theorem tpt48 : Abs.partsTok Tryz.prog 48 = true := by kernel_rfl
@[go_sem] theorem tfo48_0 : Abs.foff Tryz.prog 48 0 = 0 := by kernel_rfl
@[go_sem] theorem tft48_0 : Abs.fty Tryz.prog 48 0 = 47 := by kernel_rfl
@[go_sem] theorem tpl48_0 : Abs.placesA Tryz.prog 48 0 = some (0, 3) := by kernel_rfl
@[go_sem] theorem tok49 : Abs.tok Tryz.prog 49 = true := by kernel_rfl
@[go_sem] theorem tagg49 : Abs.tagg Tryz.prog 49 = true := by kernel_rfl
@[go_sem] theorem tsize49 : Abs.tsize Tryz.prog 49 = 3 := by kernel_rfl
@[go_sem] theorem tzero49 : Abs.tzero Tryz.prog 49 = some [.t (.lit (.bool false)), .t (.seq (some true) []), .t (.seq (some true) [])] := by kernel_rfl
@[go_sem] theorem tbytes49 : Abs.tbytes Tryz.prog 49 = 56 := by kernel_rfl
@[go_sem] theorem tst49 : Abs.isStructD (Abs.tdesc Tryz.prog 49) = true := by kernel_rfl
@[go_sem] theorem tnf49 : Abs.nfields Tryz.prog 49 = 1 := by kernel_rfl
@[go_sem] theorem tpt49 : Abs.partsTok Tryz.prog 49 = true := by kernel_rfl
@[go_sem] theorem tfo49_0 : Abs.foff Tryz.prog 49 0 = 0 := by kernel_rfl
@[go_sem] theorem tft49_0 : Abs.fty Tryz.prog 49 0 = 47 := by kernel_rfl
@[go_sem] theorem tpl49_0 : Abs.placesA Tryz.prog 49 0 = some (0, 3) := by kernel_rfl
@[go_sem] theorem tok50 : Abs.tok Tryz.prog 50 = true := by kernel_rfl
@[go_sem] theorem tagg50 : Abs.tagg Tryz.prog 50 = false := by kernel_rfl
@[go_sem] theorem tsize50 : Abs.tsize Tryz.prog 50 = 1 := by kernel_rfl
@[go_sem] theorem tzero50 : Abs.tzero Tryz.prog 50 = some [.t (.lit .nilFunc)] := by kernel_rfl
@[go_sem] theorem tok51 : Abs.tok Tryz.prog 51 = true := by kernel_rfl
@[go_sem] theorem tagg51 : Abs.tagg Tryz.prog 51 = false := by kernel_rfl
@[go_sem] theorem tsize51 : Abs.tsize Tryz.prog 51 = 1 := by kernel_rfl
@[go_sem] theorem tzero51 : Abs.tzero Tryz.prog 51 = some [.t (.lit .nilFunc)] := by kernel_rfl
@[go_sem] theorem tok52 : Abs.tok Tryz.prog 52 = true := by kernel_rfl
@[go_sem] theorem tagg52 : Abs.tagg Tryz.prog 52 = false := by kernel_rfl
@[go_sem] theorem tsize52 : Abs.tsize Tryz.prog 52 = 1 := by kernel_rfl
@[go_sem] theorem tzero52 : Abs.tzero Tryz.prog 52 = some [.t (.lit .nilFunc)] := by kernel_rfl
@[go_sem] theorem tok53 : Abs.tok Tryz.prog 53 = true := by kernel_rfl
@[go_sem] theorem tagg53 : Abs.tagg Tryz.prog 53 = false := by kernel_rfl
@[go_sem] theorem tsize53 : Abs.tsize Tryz.prog 53 = 1 := by kernel_rfl
@[go_sem] theorem tzero53 : Abs.tzero Tryz.prog 53 = some [.t (.lit .nilFunc)] := by kernel_rfl
@[go_sem] theorem tok54 : Abs.tok Tryz.prog 54 = true := by kernel_rfl
@[go_sem] theorem tagg54 : Abs.tagg Tryz.prog 54 = false := by kernel_rfl
@[go_sem] theorem tsize54 : Abs.tsize Tryz.prog 54 = 1 := by kernel_rfl
@[go_sem] theorem tzero54 : Abs.tzero Tryz.prog 54 = some [.t (.lit .nilFunc)] := by kernel_rfl
@[go_sem] theorem tok55 : Abs.tok Tryz.prog 55 = true := by kernel_rfl
@[go_sem] theorem tagg55 : Abs.tagg Tryz.prog 55 = false := by kernel_rfl
@[go_sem] theorem tsize55 : Abs.tsize Tryz.prog 55 = 1 := by kernel_rfl
@[go_sem] theorem tzero55 : Abs.tzero Tryz.prog 55 = some [.t (.lit .nilFunc)] := by kernel_rfl
@[go_sem] theorem tok56 : Abs.tok Tryz.prog 56 = true := by kernel_rfl
@[go_sem] theorem tagg56 : Abs.tagg Tryz.prog 56 = false := by kernel_rfl
@[go_sem] theorem tsize56 : Abs.tsize Tryz.prog 56 = 1 := by kernel_rfl
@[go_sem] theorem tzero56 : Abs.tzero Tryz.prog 56 = some [.t (.lit .nilFunc)] := by kernel_rfl
@[go_sem] theorem tok57 : Abs.tok Tryz.prog 57 = true := by kernel_rfl
@[go_sem] theorem tagg57 : Abs.tagg Tryz.prog 57 = false := by kernel_rfl
@[go_sem] theorem tsize57 : Abs.tsize Tryz.prog 57 = 1 := by kernel_rfl
@[go_sem] theorem tzero57 : Abs.tzero Tryz.prog 57 = some [.t (.lit .nilFunc)] := by kernel_rfl
@[go_sem] theorem tok58 : Abs.tok Tryz.prog 58 = true := by kernel_rfl
@[go_sem] theorem tagg58 : Abs.tagg Tryz.prog 58 = false := by kernel_rfl
@[go_sem] theorem tsize58 : Abs.tsize Tryz.prog 58 = 1 := by kernel_rfl
@[go_sem] theorem tzero58 : Abs.tzero Tryz.prog 58 = some [.t (.lit .nilFunc)] := by kernel_rfl
@[go_sem] theorem tok59 : Abs.tok Tryz.prog 59 = true := by kernel_rfl
@[go_sem] theorem tagg59 : Abs.tagg Tryz.prog 59 = false := by kernel_rfl
@[go_sem] theorem tsize59 : Abs.tsize Tryz.prog 59 = 1 := by kernel_rfl
@[go_sem] theorem tzero59 : Abs.tzero Tryz.prog 59 = some [.t (.lit .nilFunc)] := by kernel_rfl
@[go_sem] theorem tok60 : Abs.tok Tryz.prog 60 = true := by kernel_rfl
@[go_sem] theorem tagg60 : Abs.tagg Tryz.prog 60 = false := by kernel_rfl
@[go_sem] theorem tsize60 : Abs.tsize Tryz.prog 60 = 1 := by kernel_rfl
@[go_sem] theorem tzero60 : Abs.tzero Tryz.prog 60 = some [.t (.lit .nilFunc)] := by kernel_rfl
@[go_sem] theorem tok61 : Abs.tok Tryz.prog 61 = true := by kernel_rfl
@[go_sem] theorem tagg61 : Abs.tagg Tryz.prog 61 = false := by kernel_rfl
@[go_sem] theorem tsize61 : Abs.tsize Tryz.prog 61 = 1 := by kernel_rfl
@[go_sem] theorem tzero61 : Abs.tzero Tryz.prog 61 = some [.t (.lit .nilFunc)] := by kernel_rfl
@[go_sem] theorem tok63 : Abs.tok Tryz.prog 63 = true := by kernel_rfl
@[go_sem] theorem tagg63 : Abs.tagg Tryz.prog 63 = false := by kernel_rfl
@[go_sem] theorem tsize63 : Abs.tsize Tryz.prog 63 = 1 := by kernel_rfl
@[go_sem] theorem tzero63 : Abs.tzero Tryz.prog 63 = some [.t (.lit .nilFunc)] := by kernel_rfl
@[go_sem] theorem tok64 : Abs.tok Tryz.prog 64 = true := by kernel_rfl
@[go_sem] theorem tagg64 : Abs.tagg Tryz.prog 64 = false := by kernel_rfl
@[go_sem] theorem tsize64 : Abs.tsize Tryz.prog 64 = 1 := by kernel_rfl
@[go_sem] theorem tzero64 : Abs.tzero Tryz.prog 64 = some [.t (.lit .nilFunc)] := by kernel_rfl
@[go_sem] theorem tok65 : Abs.tok Tryz.prog 65 = true := by kernel_rfl
@[go_sem] theorem tagg65 : Abs.tagg Tryz.prog 65 = false := by kernel_rfl
@[go_sem] theorem tsize65 : Abs.tsize Tryz.prog 65 = 1 := by kernel_rfl
@[go_sem] theorem tzero65 : Abs.tzero Tryz.prog 65 = some [.t (.lit .nilFunc)] := by kernel_rfl
@[go_sem] theorem tok66 : Abs.tok Tryz.prog 66 = true := by kernel_rfl
@[go_sem] theorem tagg66 : Abs.tagg Tryz.prog 66 = false := by kernel_rfl
@[go_sem] theorem tsize66 : Abs.tsize Tryz.prog 66 = 1 := by kernel_rfl
@[go_sem] theorem tzero66 : Abs.tzero Tryz.prog 66 = some [.t (.lit .nilFunc)] := by kernel_rfl
@[go_sem] theorem tok67 : Abs.tok Tryz.prog 67 = true := by kernel_rfl
@[go_sem] theorem tagg67 : Abs.tagg Tryz.prog 67 = false := by kernel_rfl
@[go_sem] theorem tsize67 : Abs.tsize Tryz.prog 67 = 1 := by kernel_rfl
@[go_sem] theorem tzero67 : Abs.tzero Tryz.prog 67 = some [.t (.lit .nilFunc)] := by kernel_rfl
@[go_sem] theorem tok68 : Abs.tok Tryz.prog 68 = true := by kernel_rfl
@[go_sem] theorem tagg68 : Abs.tagg Tryz.prog 68 = false := by kernel_rfl
@[go_sem] theorem tsize68 : Abs.tsize Tryz.prog 68 = 1 := by kernel_rfl
@[go_sem] theorem tzero68 : Abs.tzero Tryz.prog 68 = some [.t (.lit (.int .u64 0))] := by kernel_rfl
@[go_sem] theorem tbytes68 : Abs.tbytes Tryz.prog 68 = 8 := by kernel_rfl
@[go_sem] theorem tint68 : Abs.intD (Abs.tdesc Tryz.prog 68) = some .u64 := by kernel_rfl
@[go_sem] theorem tok69 : Abs.tok Tryz.prog 69 = true := by kernel_rfl
@[go_sem] theorem tagg69 : Abs.tagg Tryz.prog 69 = false := by kernel_rfl
@[go_sem] theorem tsize69 : Abs.tsize Tryz.prog 69 = 1 := by kernel_rfl
@[go_sem] theorem tzero69 : Abs.tzero Tryz.prog 69 = some [.t (.lit .nilFunc)] := by kernel_rfl
@[go_sem] theorem tok70 : Abs.tok Tryz.prog 70 = true := by kernel_rfl
@[go_sem] theorem tagg70 : Abs.tagg Tryz.prog 70 = false := by kernel_rfl
@[go_sem] theorem tsize70 : Abs.tsize Tryz.prog 70 = 1 := by kernel_rfl
@[go_sem] theorem tzero70 : Abs.tzero Tryz.prog 70 = some [.t (.lit .nilFunc)] := by kernel_rfl
@[go_sem] theorem tok71 : Abs.tok Tryz.prog 71 = true := by kernel_rfl
@[go_sem] theorem tagg71 : Abs.tagg Tryz.prog 71 = true := by kernel_rfl
@[go_sem] theorem tsize71 : Abs.tsize Tryz.prog 71 = 1 := by kernel_rfl
@[go_sem] theorem tzero71 : Abs.tzero Tryz.prog 71 = some [.t (.seq (some true) [])] := by kernel_rfl
@[go_sem] theorem tbytes71 : Abs.tbytes Tryz.prog 71 = 24 := by kernel_rfl
@[go_sem] theorem tst71 : Abs.isStructD (Abs.tdesc Tryz.prog 71) = true := by kernel_rfl
@[go_sem] theorem tnf71 : Abs.nfields Tryz.prog 71 = 1 := by kernel_rfl
@[go_sem] theorem tpt71 : Abs.partsTok Tryz.prog 71 = true := by kernel_rfl
@[go_sem] theorem tfo71_0 : Abs.foff Tryz.prog 71 0 = 0 := by kernel_rfl
@[go_sem] theorem tft71_0 : Abs.fty Tryz.prog 71 0 = 22 := by kernel_rfl
@[go_sem] theorem tpl71_0 : Abs.placesA Tryz.prog 71 0 = some (0, 1) := by kernel_rfl
@[go_sem] theorem tok72 : Abs.tok Tryz.prog 72 = true := by kernel_rfl
@[go_sem] theorem tagg72 : Abs.tagg Tryz.prog 72 = true := by kernel_rfl
@[go_sem] theorem tsize72 : Abs.tsize Tryz.prog 72 = 1 := by kernel_rfl
@[go_sem] theorem tzero72 : Abs.tzero Tryz.prog 72 = some [.t (.seq (some true) [])] := by kernel_rfl
@[go_sem] theorem tbytes72 : Abs.tbytes Tryz.prog 72 = 24 := by kernel_rfl
@[go_sem] theorem tst72 : Abs.isStructD (Abs.tdesc Tryz.prog 72) = true := by kernel_rfl
@[go_sem] theorem tnf72 : Abs.nfields Tryz.prog 72 = 1 := by kernel_rfl
@[go_sem] theorem tpt72 : Abs.partsTok Tryz.prog 72 = true := by kernel_rfl
@[go_sem] theorem tfo72_0 : Abs.foff Tryz.prog 72 0 = 0 := by kernel_rfl
@[go_sem] theorem tft72_0 : Abs.fty Tryz.prog 72 0 = 22 := by kernel_rfl
@[go_sem] theorem tpl72_0 : Abs.placesA Tryz.prog 72 0 = some (0, 1) := by kernel_rfl
@[go_sem] theorem tok73 : Abs.tok Tryz.prog 73 = true := by kernel_rfl
@[go_sem] theorem tagg73 : Abs.tagg Tryz.prog 73 = true := by kernel_rfl
@[go_sem] theorem tsize73 : Abs.tsize Tryz.prog 73 = 2 := by kernel_rfl
@[go_sem] theorem tzero73 : Abs.tzero Tryz.prog 73 = some [.t (.seq (some true) []), .t (.lit (.bool false))] := by kernel_rfl
@[go_sem] theorem tbytes73 : Abs.tbytes Tryz.prog 73 = 32 := by kernel_rfl
@[go_sem] theorem tst73 : Abs.isStructD (Abs.tdesc Tryz.prog 73) = true := by kernel_rfl
@[go_sem] theorem tnf73 : Abs.nfields Tryz.prog 73 = 2 := by kernel_rfl
@[go_sem] theorem tpt73 : Abs.partsTok Tryz.prog 73 = true := by kernel_rfl
@[go_sem] theorem tfo73_0 : Abs.foff Tryz.prog 73 0 = 0 := by kernel_rfl
@[go_sem] theorem tft73_0 : Abs.fty Tryz.prog 73 0 = 72 := by kernel_rfl
@[go_sem] theorem tpl73_0 : Abs.placesA Tryz.prog 73 0 = some (0, 1) := by kernel_rfl
@[go_sem] theorem tfo73_1 : Abs.foff Tryz.prog 73 1 = 1 := by kernel_rfl
@[go_sem] theorem tft73_1 : Abs.fty Tryz.prog 73 1 = 4 := by kernel_rfl
@[go_sem] theorem tpl73_1 : Abs.placesA Tryz.prog 73 1 = some (1, 1) := by kernel_rfl
@[go_sem] theorem tok74 : Abs.tok Tryz.prog 74 = true := by kernel_rfl
@[go_sem] theorem tagg74 : Abs.tagg Tryz.prog 74 = true := by kernel_rfl
@[go_sem] theorem tsize74 : Abs.tsize Tryz.prog 74 = 2 := by kernel_rfl
@[go_sem] theorem tzero74 : Abs.tzero Tryz.prog 74 = some [.t (.seq (some true) []), .t (.lit (.bool false))] := by kernel_rfl
@[go_sem] theorem tbytes74 : Abs.tbytes Tryz.prog 74 = 32 := by kernel_rfl
@[go_sem] theorem tst74 : Abs.isStructD (Abs.tdesc Tryz.prog 74) = true := by kernel_rfl
@[go_sem] theorem tnf74 : Abs.nfields Tryz.prog 74 = 2 := by kernel_rfl
@[go_sem] theorem tpt74 : Abs.partsTok Tryz.prog 74 = true := by kernel_rfl
@[go_sem] theorem tfo74_0 : Abs.foff Tryz.prog 74 0 = 0 := by kernel_rfl
@[go_sem] theorem tft74_0 : Abs.fty Tryz.prog 74 0 = 72 := by kernel_rfl
@[go_sem] theorem tpl74_0 : Abs.placesA Tryz.prog 74 0 = some (0, 1) := by kernel_rfl
@[go_sem] theorem tfo74_1 : Abs.foff Tryz.prog 74 1 = 1 := by kernel_rfl
@[go_sem] theorem tft74_1 : Abs.fty Tryz.prog 74 1 = 4 := by kernel_rfl
@[go_sem] theorem tpl74_1 : Abs.placesA Tryz.prog 74 1 = some (1, 1) := by kernel_rfl
@[go_sem] theorem tok76 : Abs.tok Tryz.prog 76 = true := by kernel_rfl
@[go_sem] theorem tagg76 : Abs.tagg Tryz.prog 76 = false := by kernel_rfl
@[go_sem] theorem tsize76 : Abs.tsize Tryz.prog 76 = 1 := by kernel_rfl
@[go_sem] theorem tzero76 : Abs.tzero Tryz.prog 76 = some [.t (.lit .nilFunc)] := by kernel_rfl
@[go_sem] theorem tok77 : Abs.tok Tryz.prog 77 = true := by kernel_rfl
@[go_sem] theorem tagg77 : Abs.tagg Tryz.prog 77 = false := by kernel_rfl
@[go_sem] theorem tsize77 : Abs.tsize Tryz.prog 77 = 1 := by kernel_rfl
@[go_sem] theorem tzero77 : Abs.tzero Tryz.prog 77 = some [.t (.lit .nilFunc)] := by kernel_rfl
@[go_sem] theorem tok78 : Abs.tok Tryz.prog 78 = true := by kernel_rfl
@[go_sem] theorem tagg78 : Abs.tagg Tryz.prog 78 = false := by kernel_rfl
@[go_sem] theorem tsize78 : Abs.tsize Tryz.prog 78 = 1 := by kernel_rfl
@[go_sem] theorem tzero78 : Abs.tzero Tryz.prog 78 = some [.t (.lit .nilFunc)] := by kernel_rfl
@[go_sem] theorem tok79 : Abs.tok Tryz.prog 79 = true := by kernel_rfl
@[go_sem] theorem tagg79 : Abs.tagg Tryz.prog 79 = false := by kernel_rfl
@[go_sem] theorem tsize79 : Abs.tsize Tryz.prog 79 = 1 := by kernel_rfl
@[go_sem] theorem tzero79 : Abs.tzero Tryz.prog 79 = some [.t (.lit .nilFunc)] := by kernel_rfl
@[go_sem] theorem tok80 : Abs.tok Tryz.prog 80 = true := by kernel_rfl
@[go_sem] theorem tagg80 : Abs.tagg Tryz.prog 80 = false := by kernel_rfl
@[go_sem] theorem tsize80 : Abs.tsize Tryz.prog 80 = 1 := by kernel_rfl
@[go_sem] theorem tzero80 : Abs.tzero Tryz.prog 80 = some [.t (.lit .nilFunc)] := by kernel_rfl
@[go_sem] theorem tok81 : Abs.tok Tryz.prog 81 = true := by kernel_rfl
@[go_sem] theorem tagg81 : Abs.tagg Tryz.prog 81 = false := by kernel_rfl
@[go_sem] theorem tsize81 : Abs.tsize Tryz.prog 81 = 1 := by kernel_rfl
@[go_sem] theorem tzero81 : Abs.tzero Tryz.prog 81 = some [.t (.lit .nilFunc)] := by kernel_rfl
@[go_sem] theorem tok82 : Abs.tok Tryz.prog 82 = true := by kernel_rfl
@[go_sem] theorem tagg82 : Abs.tagg Tryz.prog 82 = false := by kernel_rfl
@[go_sem] theorem tsize82 : Abs.tsize Tryz.prog 82 = 1 := by kernel_rfl
@[go_sem] theorem tzero82 : Abs.tzero Tryz.prog 82 = some [.t (.lit .nilFunc)] := by kernel_rfl
@[go_sem] theorem tok83 : Abs.tok Tryz.prog 83 = true := by kernel_rfl
@[go_sem] theorem tagg83 : Abs.tagg Tryz.prog 83 = false := by kernel_rfl
@[go_sem] theorem tsize83 : Abs.tsize Tryz.prog 83 = 1 := by kernel_rfl
@[go_sem] theorem tzero83 : Abs.tzero Tryz.prog 83 = some [.t (.lit .nilFunc)] := by kernel_rfl
@[go_sem] theorem tok84 : Abs.tok Tryz.prog 84 = true := by kernel_rfl
@[go_sem] theorem tagg84 : Abs.tagg Tryz.prog 84 = false := by kernel_rfl
@[go_sem] theorem tsize84 : Abs.tsize Tryz.prog 84 = 1 := by kernel_rfl
@[go_sem] theorem tzero84 : Abs.tzero Tryz.prog 84 = some [.t (.seq (some true) [])] := by kernel_rfl
@[go_sem] theorem tbytes84 : Abs.tbytes Tryz.prog 84 = 24 := by kernel_rfl
@[go_sem] theorem tsl84 : Abs.isSliceD (Abs.tdesc Tryz.prog 84) = true := by kernel_rfl
@[go_sem] theorem telem84 : Abs.telem Tryz.prog 84 = 24 := by kernel_rfl
@[go_sem] theorem tok86 : Abs.tok Tryz.prog 86 = true := by kernel_rfl
@[go_sem] theorem tagg86 : Abs.tagg Tryz.prog 86 = false := by kernel_rfl
@[go_sem] theorem tsize86 : Abs.tsize Tryz.prog 86 = 1 := by kernel_rfl
@[go_sem] theorem tzero86 : Abs.tzero Tryz.prog 86 = some [.t (.lit .nilFunc)] := by kernel_rfl
@[go_sem] theorem tok87 : Abs.tok Tryz.prog 87 = true := by kernel_rfl
@[go_sem] theorem tagg87 : Abs.tagg Tryz.prog 87 = false := by kernel_rfl
@[go_sem] theorem tsize87 : Abs.tsize Tryz.prog 87 = 1 := by kernel_rfl
@[go_sem] theorem tzero87 : Abs.tzero Tryz.prog 87 = some [.t (.lit .nilFunc)] := by kernel_rfl
@[go_sem] theorem tok88 : Abs.tok Tryz.prog 88 = true := by kernel_rfl
@[go_sem] theorem tagg88 : Abs.tagg Tryz.prog 88 = false := by kernel_rfl
@[go_sem] theorem tsize88 : Abs.tsize Tryz.prog 88 = 1 := by kernel_rfl
@[go_sem] theorem tzero88 : Abs.tzero Tryz.prog 88 = some [.t (.lit .nilFunc)] := by kernel_rfl
@[go_sem] theorem tok90 : Abs.tok Tryz.prog 90 = true := by kernel_rfl
@[go_sem] theorem tagg90 : Abs.tagg Tryz.prog 90 = false := by kernel_rfl
@[go_sem] theorem tsize90 : Abs.tsize Tryz.prog 90 = 1 := by kernel_rfl
@[go_sem] theorem tzero90 : Abs.tzero Tryz.prog 90 = some [.t (.lit .nilFunc)] := by kernel_rfl
@[go_sem] theorem tok91 : Abs.tok Tryz.prog 91 = true := by kernel_rfl
@[go_sem] theorem tagg91 : Abs.tagg Tryz.prog 91 = false := by kernel_rfl
@[go_sem] theorem tsize91 : Abs.tsize Tryz.prog 91 = 1 := by kernel_rfl
@[go_sem] theorem tzero91 : Abs.tzero Tryz.prog 91 = some [.t (.lit .nilFunc)] := by kernel_rfl
@[go_sem] theorem tok92 : Abs.tok Tryz.prog 92 = true := by kernel_rfl
@[go_sem] theorem tagg92 : Abs.tagg Tryz.prog 92 = false := by kernel_rfl
@[go_sem] theorem tsize92 : Abs.tsize Tryz.prog 92 = 1 := by kernel_rfl
@[go_sem] theorem tzero92 : Abs.tzero Tryz.prog 92 = some [.t (.lit .nilFunc)] := by kernel_rfl
@[go_sem] theorem tok93 : Abs.tok Tryz.prog 93 = true := by kernel_rfl
@[go_sem] theorem tagg93 : Abs.tagg Tryz.prog 93 = false := by kernel_rfl
@[go_sem] theorem tsize93 : Abs.tsize Tryz.prog 93 = 1 := by kernel_rfl
@[go_sem] theorem tzero93 : Abs.tzero Tryz.prog 93 = some [.t (.lit .nilFunc)] := by kernel_rfl
@[go_sem] theorem tok94 : Abs.tok Tryz.prog 94 = true := by kernel_rfl
@[go_sem] theorem tagg94 : Abs.tagg Tryz.prog 94 = false := by kernel_rfl
@[go_sem] theorem tsize94 : Abs.tsize Tryz.prog 94 = 1 := by kernel_rfl
@[go_sem] theorem tzero94 : Abs.tzero Tryz.prog 94 = some [.t (.lit .nilFunc)] := by kernel_rfl
@[go_sem] theorem tok95 : Abs.tok Tryz.prog 95 = true := by kernel_rfl
@[go_sem] theorem tagg95 : Abs.tagg Tryz.prog 95 = false := by kernel_rfl
@[go_sem] theorem tsize95 : Abs.tsize Tryz.prog 95 = 1 := by kernel_rfl
@[go_sem] theorem tzero95 : Abs.tzero Tryz.prog 95 = some [.t (.seq (some true) [])] := by kernel_rfl
@[go_sem] theorem tbytes95 : Abs.tbytes Tryz.prog 95 = 24 := by kernel_rfl
@[go_sem] theorem tsl95 : Abs.isSliceD (Abs.tdesc Tryz.prog 95) = true := by kernel_rfl
@[go_sem] theorem telem95 : Abs.telem Tryz.prog 95 = 22 := by kernel_rfl
@[go_sem] theorem tok96 : Abs.tok Tryz.prog 96 = true := by kernel_rfl
@[go_sem] theorem tagg96 : Abs.tagg Tryz.prog 96 = false := by kernel_rfl
@[go_sem] theorem tsize96 : Abs.tsize Tryz.prog 96 = 1 := by kernel_rfl
@[go_sem] theorem tzero96 : Abs.tzero Tryz.prog 96 = some [.t (.lit .nilFunc)] := by kernel_rfl
@[go_sem] theorem tok97 : Abs.tok Tryz.prog 97 = true := by kernel_rfl
@[go_sem] theorem tagg97 : Abs.tagg Tryz.prog 97 = false := by kernel_rfl
@[go_sem] theorem tsize97 : Abs.tsize Tryz.prog 97 = 1 := by kernel_rfl
@[go_sem] theorem tzero97 : Abs.tzero Tryz.prog 97 = some [.t (.lit .nilFunc)] := by kernel_rfl
@[go_sem] theorem tok98 : Abs.tok Tryz.prog 98 = true := by kernel_rfl
@[go_sem] theorem tagg98 : Abs.tagg Tryz.prog 98 = false := by kernel_rfl
@[go_sem] theorem tsize98 : Abs.tsize Tryz.prog 98 = 1 := by kernel_rfl
@[go_sem] theorem tzero98 : Abs.tzero Tryz.prog 98 = some [.t (.lit .nilFunc)] := by kernel_rfl
@[go_sem] theorem tok99 : Abs.tok Tryz.prog 99 = true := by kernel_rfl
@[go_sem] theorem tagg99 : Abs.tagg Tryz.prog 99 = true := by kernel_rfl
@[go_sem] theorem tsize99 : Abs.tsize Tryz.prog 99 = 4 := by kernel_rfl
@[go_sem] theorem tzero99 : Abs.tzero Tryz.prog 99 = some [.t (.lit (.pointer none)), .t (.lit (.pointer none)), .t (.lit (.pointer none)), .t (.lit (.string ⟨#[]⟩))] := by kernel_rfl
@[go_sem] theorem tbytes99 : Abs.tbytes Tryz.prog 99 = 40 := by kernel_rfl
@[go_sem] theorem tst99 : Abs.isStructD (Abs.tdesc Tryz.prog 99) = true := by kernel_rfl
@[go_sem] theorem tnf99 : Abs.nfields Tryz.prog 99 = 4 := by kernel_rfl
@[go_sem] theorem tpt99 : Abs.partsTok Tryz.prog 99 = true := by kernel_rfl
@[go_sem] theorem tfo99_0 : Abs.foff Tryz.prog 99 0 = 0 := by kernel_rfl
@[go_sem] theorem tft99_0 : Abs.fty Tryz.prog 99 0 = 17 := by kernel_rfl
@[go_sem] theorem tpl99_0 : Abs.placesA Tryz.prog 99 0 = some (0, 1) := by kernel_rfl
@[go_sem] theorem tfo99_1 : Abs.foff Tryz.prog 99 1 = 1 := by kernel_rfl
@[go_sem] theorem tft99_1 : Abs.fty Tryz.prog 99 1 = 17 := by kernel_rfl
@[go_sem] theorem tpl99_1 : Abs.placesA Tryz.prog 99 1 = some (1, 1) := by kernel_rfl
@[go_sem] theorem tfo99_2 : Abs.foff Tryz.prog 99 2 = 2 := by kernel_rfl
@[go_sem] theorem tft99_2 : Abs.fty Tryz.prog 99 2 = 17 := by kernel_rfl
@[go_sem] theorem tpl99_2 : Abs.placesA Tryz.prog 99 2 = some (2, 1) := by kernel_rfl
@[go_sem] theorem tfo99_3 : Abs.foff Tryz.prog 99 3 = 3 := by kernel_rfl
@[go_sem] theorem tft99_3 : Abs.fty Tryz.prog 99 3 = 9 := by kernel_rfl
@[go_sem] theorem tpl99_3 : Abs.placesA Tryz.prog 99 3 = some (3, 1) := by kernel_rfl
@[go_sem] theorem tok100 : Abs.tok Tryz.prog 100 = true := by kernel_rfl
@[go_sem] theorem tagg100 : Abs.tagg Tryz.prog 100 = true := by kernel_rfl
@[go_sem] theorem tsize100 : Abs.tsize Tryz.prog 100 = 4 := by kernel_rfl
@[go_sem] theorem tzero100 : Abs.tzero Tryz.prog 100 = some [.t (.lit (.pointer none)), .t (.lit (.pointer none)), .t (.lit (.pointer none)), .t (.lit (.string ⟨#[]⟩))] := by kernel_rfl
@[go_sem] theorem tbytes100 : Abs.tbytes Tryz.prog 100 = 40 := by kernel_rfl
@[go_sem] theorem tst100 : Abs.isStructD (Abs.tdesc Tryz.prog 100) = true := by kernel_rfl
@[go_sem] theorem tnf100 : Abs.nfields Tryz.prog 100 = 4 := by kernel_rfl
@[go_sem] theorem tpt100 : Abs.partsTok Tryz.prog 100 = true := by kernel_rfl
@[go_sem] theorem tfo100_0 : Abs.foff Tryz.prog 100 0 = 0 := by kernel_rfl
@[go_sem] theorem tft100_0 : Abs.fty Tryz.prog 100 0 = 17 := by kernel_rfl
@[go_sem] theorem tpl100_0 : Abs.placesA Tryz.prog 100 0 = some (0, 1) := by kernel_rfl
@[go_sem] theorem tfo100_1 : Abs.foff Tryz.prog 100 1 = 1 := by kernel_rfl
@[go_sem] theorem tft100_1 : Abs.fty Tryz.prog 100 1 = 17 := by kernel_rfl
@[go_sem] theorem tpl100_1 : Abs.placesA Tryz.prog 100 1 = some (1, 1) := by kernel_rfl
@[go_sem] theorem tfo100_2 : Abs.foff Tryz.prog 100 2 = 2 := by kernel_rfl
@[go_sem] theorem tft100_2 : Abs.fty Tryz.prog 100 2 = 17 := by kernel_rfl
@[go_sem] theorem tpl100_2 : Abs.placesA Tryz.prog 100 2 = some (2, 1) := by kernel_rfl
@[go_sem] theorem tfo100_3 : Abs.foff Tryz.prog 100 3 = 3 := by kernel_rfl
@[go_sem] theorem tft100_3 : Abs.fty Tryz.prog 100 3 = 9 := by kernel_rfl
@[go_sem] theorem tpl100_3 : Abs.placesA Tryz.prog 100 3 = some (3, 1) := by kernel_rfl
@[go_sem] theorem tok101 : Abs.tok Tryz.prog 101 = true := by kernel_rfl
@[go_sem] theorem tagg101 : Abs.tagg Tryz.prog 101 = true := by kernel_rfl
@[go_sem] theorem tsize101 : Abs.tsize Tryz.prog 101 = 0 := by kernel_rfl
@[go_sem] theorem tzero101 : Abs.tzero Tryz.prog 101 = some [] := by kernel_rfl
@[go_sem] theorem tbytes101 : Abs.tbytes Tryz.prog 101 = 0 := by kernel_rfl
@[go_sem] theorem tsl101 : Abs.isSliceD (Abs.tdesc Tryz.prog 101) = false := by kernel_rfl
@[go_sem] theorem tar101 : Abs.isArrayD (Abs.tdesc Tryz.prog 101) = true := by kernel_rfl
@[go_sem] theorem telem101 : Abs.telem Tryz.prog 101 = 16 := by kernel_rfl
@[go_sem] theorem tlen101 : Abs.arrLen (Abs.tdesc Tryz.prog 101) = 0 := by kernel_rfl
@[go_sem] theorem tpt101 : Abs.partsTok Tryz.prog 101 = true := by kernel_rfl
@[go_sem] theorem tok102 : Abs.tok Tryz.prog 102 = true := by kernel_rfl
@[go_sem] theorem tagg102 : Abs.tagg Tryz.prog 102 = true := by kernel_rfl
@[go_sem] theorem tsize102 : Abs.tsize Tryz.prog 102 = 0 := by kernel_rfl
@[go_sem] theorem tzero102 : Abs.tzero Tryz.prog 102 = some [] := by kernel_rfl
@[go_sem] theorem tbytes102 : Abs.tbytes Tryz.prog 102 = 0 := by kernel_rfl
@[go_sem] theorem tst102 : Abs.isStructD (Abs.tdesc Tryz.prog 102) = true := by kernel_rfl
@[go_sem] theorem tnf102 : Abs.nfields Tryz.prog 102 = 1 := by kernel_rfl
@[go_sem] theorem tpt102 : Abs.partsTok Tryz.prog 102 = true := by kernel_rfl
@[go_sem] theorem tfo102_0 : Abs.foff Tryz.prog 102 0 = 0 := by kernel_rfl
@[go_sem] theorem tft102_0 : Abs.fty Tryz.prog 102 0 = 101 := by kernel_rfl
@[go_sem] theorem tpl102_0 : Abs.placesA Tryz.prog 102 0 = some (0, 0) := by kernel_rfl
@[go_sem] theorem tok103 : Abs.tok Tryz.prog 103 = true := by kernel_rfl
@[go_sem] theorem tagg103 : Abs.tagg Tryz.prog 103 = true := by kernel_rfl
@[go_sem] theorem tsize103 : Abs.tsize Tryz.prog 103 = 0 := by kernel_rfl
@[go_sem] theorem tzero103 : Abs.tzero Tryz.prog 103 = some [] := by kernel_rfl
@[go_sem] theorem tbytes103 : Abs.tbytes Tryz.prog 103 = 0 := by kernel_rfl
@[go_sem] theorem tst103 : Abs.isStructD (Abs.tdesc Tryz.prog 103) = true := by kernel_rfl
@[go_sem] theorem tnf103 : Abs.nfields Tryz.prog 103 = 1 := by kernel_rfl
@[go_sem] theorem tpt103 : Abs.partsTok Tryz.prog 103 = true := by kernel_rfl
@[go_sem] theorem tfo103_0 : Abs.foff Tryz.prog 103 0 = 0 := by kernel_rfl
@[go_sem] theorem tft103_0 : Abs.fty Tryz.prog 103 0 = 101 := by kernel_rfl
@[go_sem] theorem tpl103_0 : Abs.placesA Tryz.prog 103 0 = some (0, 0) := by kernel_rfl
@[go_sem] theorem tok104 : Abs.tok Tryz.prog 104 = true := by kernel_rfl
@[go_sem] theorem tagg104 : Abs.tagg Tryz.prog 104 = false := by kernel_rfl
@[go_sem] theorem tsize104 : Abs.tsize Tryz.prog 104 = 1 := by kernel_rfl
@[go_sem] theorem tzero104 : Abs.tzero Tryz.prog 104 = some [.t (.lit (.int .u8 0))] := by kernel_rfl
@[go_sem] theorem tbytes104 : Abs.tbytes Tryz.prog 104 = 1 := by kernel_rfl
@[go_sem] theorem tint104 : Abs.intD (Abs.tdesc Tryz.prog 104) = some .u8 := by kernel_rfl
@[go_sem] theorem tok105 : Abs.tok Tryz.prog 105 = true := by kernel_rfl
@[go_sem] theorem tagg105 : Abs.tagg Tryz.prog 105 = false := by kernel_rfl
@[go_sem] theorem tsize105 : Abs.tsize Tryz.prog 105 = 1 := by kernel_rfl
@[go_sem] theorem tzero105 : Abs.tzero Tryz.prog 105 = some [.t (.lit (.int .u8 0))] := by kernel_rfl
@[go_sem] theorem tbytes105 : Abs.tbytes Tryz.prog 105 = 1 := by kernel_rfl
@[go_sem] theorem tint105 : Abs.intD (Abs.tdesc Tryz.prog 105) = some .u8 := by kernel_rfl
@[go_sem] theorem tok106 : Abs.tok Tryz.prog 106 = true := by kernel_rfl
@[go_sem] theorem tagg106 : Abs.tagg Tryz.prog 106 = false := by kernel_rfl
@[go_sem] theorem tsize106 : Abs.tsize Tryz.prog 106 = 1 := by kernel_rfl
@[go_sem] theorem tzero106 : Abs.tzero Tryz.prog 106 = some [.t (.lit .nilFunc)] := by kernel_rfl
@[go_sem] theorem tok107 : Abs.tok Tryz.prog 107 = true := by kernel_rfl
@[go_sem] theorem tagg107 : Abs.tagg Tryz.prog 107 = false := by kernel_rfl
@[go_sem] theorem tsize107 : Abs.tsize Tryz.prog 107 = 1 := by kernel_rfl
@[go_sem] theorem tzero107 : Abs.tzero Tryz.prog 107 = some [.t (.lit (.pointer none))] := by kernel_rfl
@[go_sem] theorem tbytes107 : Abs.tbytes Tryz.prog 107 = 8 := by kernel_rfl
@[go_sem] theorem tok108 : Abs.tok Tryz.prog 108 = true := by kernel_rfl
@[go_sem] theorem tagg108 : Abs.tagg Tryz.prog 108 = false := by kernel_rfl
@[go_sem] theorem tsize108 : Abs.tsize Tryz.prog 108 = 1 := by kernel_rfl
@[go_sem] theorem tzero108 : Abs.tzero Tryz.prog 108 = some [.t (.lit (.int .i32 0))] := by kernel_rfl
@[go_sem] theorem tbytes108 : Abs.tbytes Tryz.prog 108 = 4 := by kernel_rfl
@[go_sem] theorem tint108 : Abs.intD (Abs.tdesc Tryz.prog 108) = some .i32 := by kernel_rfl
@[go_sem] theorem tok109 : Abs.tok Tryz.prog 109 = true := by kernel_rfl
@[go_sem] theorem tagg109 : Abs.tagg Tryz.prog 109 = false := by kernel_rfl
@[go_sem] theorem tsize109 : Abs.tsize Tryz.prog 109 = 1 := by kernel_rfl
@[go_sem] theorem tzero109 : Abs.tzero Tryz.prog 109 = some [.t (.lit (.int .i32 0))] := by kernel_rfl
@[go_sem] theorem tbytes109 : Abs.tbytes Tryz.prog 109 = 4 := by kernel_rfl
@[go_sem] theorem tint109 : Abs.intD (Abs.tdesc Tryz.prog 109) = some .i32 := by kernel_rfl
@[go_sem] theorem tok110 : Abs.tok Tryz.prog 110 = true := by kernel_rfl
@[go_sem] theorem tagg110 : Abs.tagg Tryz.prog 110 = true := by kernel_rfl
@[go_sem] theorem tsize110 : Abs.tsize Tryz.prog 110 = 11 := by kernel_rfl
@[go_sem] theorem tzero110 : Abs.tzero Tryz.prog 110 = some [.t (.lit (.int .u64 0)), .t (.lit (.int .u64 0)), .t (.lit (.int .u32 0)), .t (.lit (.int .u8 0)), .t (.lit (.int .u8 0)), .t (.lit (.int .u8 0)), .t (.lit (.int .u8 0)), .t (.lit .nilFunc), .t (.lit (.pointer none)), .t (.lit (.int .i32 0)), .t (.lit (.int .i32 0))] := by kernel_rfl
@[go_sem] theorem tbytes110 : Abs.tbytes Tryz.prog 110 = 48 := by kernel_rfl
@[go_sem] theorem tst110 : Abs.isStructD (Abs.tdesc Tryz.prog 110) = true := by kernel_rfl
@[go_sem] theorem tnf110 : Abs.nfields Tryz.prog 110 = 11 := by kernel_rfl
@[go_sem] theorem tpt110 : Abs.partsTok Tryz.prog 110 = true := by kernel_rfl
@[go_sem] theorem tfo110_0 : Abs.foff Tryz.prog 110 0 = 0 := by kernel_rfl
@[go_sem] theorem tft110_0 : Abs.fty Tryz.prog 110 0 = 12 := by kernel_rfl
@[go_sem] theorem tpl110_0 : Abs.placesA Tryz.prog 110 0 = some (0, 1) := by kernel_rfl
@[go_sem] theorem tfo110_1 : Abs.foff Tryz.prog 110 1 = 1 := by kernel_rfl
@[go_sem] theorem tft110_1 : Abs.fty Tryz.prog 110 1 = 12 := by kernel_rfl
@[go_sem] theorem tpl110_1 : Abs.placesA Tryz.prog 110 1 = some (1, 1) := by kernel_rfl
@[go_sem] theorem tfo110_2 : Abs.foff Tryz.prog 110 2 = 2 := by kernel_rfl
@[go_sem] theorem tft110_2 : Abs.fty Tryz.prog 110 2 = 32 := by kernel_rfl
@[go_sem] theorem tpl110_2 : Abs.placesA Tryz.prog 110 2 = some (2, 1) := by kernel_rfl
@[go_sem] theorem tfo110_3 : Abs.foff Tryz.prog 110 3 = 3 := by kernel_rfl
@[go_sem] theorem tft110_3 : Abs.fty Tryz.prog 110 3 = 104 := by kernel_rfl
@[go_sem] theorem tpl110_3 : Abs.placesA Tryz.prog 110 3 = some (3, 1) := by kernel_rfl
@[go_sem] theorem tfo110_4 : Abs.foff Tryz.prog 110 4 = 4 := by kernel_rfl
@[go_sem] theorem tft110_4 : Abs.fty Tryz.prog 110 4 = 5 := by kernel_rfl
@[go_sem] theorem tpl110_4 : Abs.placesA Tryz.prog 110 4 = some (4, 1) := by kernel_rfl
@[go_sem] theorem tfo110_5 : Abs.foff Tryz.prog 110 5 = 5 := by kernel_rfl
@[go_sem] theorem tft110_5 : Abs.fty Tryz.prog 110 5 = 5 := by kernel_rfl
@[go_sem] theorem tpl110_5 : Abs.placesA Tryz.prog 110 5 = some (5, 1) := by kernel_rfl
@[go_sem] theorem tfo110_6 : Abs.foff Tryz.prog 110 6 = 6 := by kernel_rfl
@[go_sem] theorem tft110_6 : Abs.fty Tryz.prog 110 6 = 105 := by kernel_rfl
@[go_sem] theorem tpl110_6 : Abs.placesA Tryz.prog 110 6 = some (6, 1) := by kernel_rfl
@[go_sem] theorem tfo110_7 : Abs.foff Tryz.prog 110 7 = 7 := by kernel_rfl
@[go_sem] theorem tft110_7 : Abs.fty Tryz.prog 110 7 = 106 := by kernel_rfl
@[go_sem] theorem tpl110_7 : Abs.placesA Tryz.prog 110 7 = some (7, 1) := by kernel_rfl
@[go_sem] theorem tfo110_8 : Abs.foff Tryz.prog 110 8 = 8 := by kernel_rfl
@[go_sem] theorem tft110_8 : Abs.fty Tryz.prog 110 8 = 107 := by kernel_rfl
@[go_sem] theorem tpl110_8 : Abs.placesA Tryz.prog 110 8 = some (8, 1) := by kernel_rfl
@[go_sem] theorem tfo110_9 : Abs.foff Tryz.prog 110 9 = 9 := by kernel_rfl
@[go_sem] theorem tft110_9 : Abs.fty Tryz.prog 110 9 = 108 := by kernel_rfl
@[go_sem] theorem tpl110_9 : Abs.placesA Tryz.prog 110 9 = some (9, 1) := by kernel_rfl
@[go_sem] theorem tfo110_10 : Abs.foff Tryz.prog 110 10 = 10 := by kernel_rfl
@[go_sem] theorem tft110_10 : Abs.fty Tryz.prog 110 10 = 109 := by kernel_rfl
@[go_sem] theorem tpl110_10 : Abs.placesA Tryz.prog 110 10 = some (10, 1) := by kernel_rfl
@[go_sem] theorem tok111 : Abs.tok Tryz.prog 111 = true := by kernel_rfl
@[go_sem] theorem tagg111 : Abs.tagg Tryz.prog 111 = true := by kernel_rfl
@[go_sem] theorem tsize111 : Abs.tsize Tryz.prog 111 = 11 := by kernel_rfl
@[go_sem] theorem tzero111 : Abs.tzero Tryz.prog 111 = some [.t (.lit (.int .u64 0)), .t (.lit (.int .u64 0)), .t (.lit (.int .u32 0)), .t (.lit (.int .u8 0)), .t (.lit (.int .u8 0)), .t (.lit (.int .u8 0)), .t (.lit (.int .u8 0)), .t (.lit .nilFunc), .t (.lit (.pointer none)), .t (.lit (.int .i32 0)), .t (.lit (.int .i32 0))] := by kernel_rfl
@[go_sem] theorem tbytes111 : Abs.tbytes Tryz.prog 111 = 48 := by kernel_rfl
@[go_sem] theorem tst111 : Abs.isStructD (Abs.tdesc Tryz.prog 111) = true := by kernel_rfl
@[go_sem] theorem tnf111 : Abs.nfields Tryz.prog 111 = 11 := by kernel_rfl
@[go_sem] theorem tpt111 : Abs.partsTok Tryz.prog 111 = true := by kernel_rfl
@[go_sem] theorem tfo111_0 : Abs.foff Tryz.prog 111 0 = 0 := by kernel_rfl
@[go_sem] theorem tft111_0 : Abs.fty Tryz.prog 111 0 = 12 := by kernel_rfl
@[go_sem] theorem tpl111_0 : Abs.placesA Tryz.prog 111 0 = some (0, 1) := by kernel_rfl
@[go_sem] theorem tfo111_1 : Abs.foff Tryz.prog 111 1 = 1 := by kernel_rfl
@[go_sem] theorem tft111_1 : Abs.fty Tryz.prog 111 1 = 12 := by kernel_rfl
@[go_sem] theorem tpl111_1 : Abs.placesA Tryz.prog 111 1 = some (1, 1) := by kernel_rfl
@[go_sem] theorem tfo111_2 : Abs.foff Tryz.prog 111 2 = 2 := by kernel_rfl
@[go_sem] theorem tft111_2 : Abs.fty Tryz.prog 111 2 = 32 := by kernel_rfl
@[go_sem] theorem tpl111_2 : Abs.placesA Tryz.prog 111 2 = some (2, 1) := by kernel_rfl
@[go_sem] theorem tfo111_3 : Abs.foff Tryz.prog 111 3 = 3 := by kernel_rfl
@[go_sem] theorem tft111_3 : Abs.fty Tryz.prog 111 3 = 104 := by kernel_rfl
@[go_sem] theorem tpl111_3 : Abs.placesA Tryz.prog 111 3 = some (3, 1) := by kernel_rfl
@[go_sem] theorem tfo111_4 : Abs.foff Tryz.prog 111 4 = 4 := by kernel_rfl
@[go_sem] theorem tft111_4 : Abs.fty Tryz.prog 111 4 = 5 := by kernel_rfl
@[go_sem] theorem tpl111_4 : Abs.placesA Tryz.prog 111 4 = some (4, 1) := by kernel_rfl
@[go_sem] theorem tfo111_5 : Abs.foff Tryz.prog 111 5 = 5 := by kernel_rfl
@[go_sem] theorem tft111_5 : Abs.fty Tryz.prog 111 5 = 5 := by kernel_rfl
@[go_sem] theorem tpl111_5 : Abs.placesA Tryz.prog 111 5 = some (5, 1) := by kernel_rfl
@[go_sem] theorem tfo111_6 : Abs.foff Tryz.prog 111 6 = 6 := by kernel_rfl
@[go_sem] theorem tft111_6 : Abs.fty Tryz.prog 111 6 = 105 := by kernel_rfl
@[go_sem] theorem tpl111_6 : Abs.placesA Tryz.prog 111 6 = some (6, 1) := by kernel_rfl
@[go_sem] theorem tfo111_7 : Abs.foff Tryz.prog 111 7 = 7 := by kernel_rfl
@[go_sem] theorem tft111_7 : Abs.fty Tryz.prog 111 7 = 106 := by kernel_rfl
@[go_sem] theorem tpl111_7 : Abs.placesA Tryz.prog 111 7 = some (7, 1) := by kernel_rfl
@[go_sem] theorem tfo111_8 : Abs.foff Tryz.prog 111 8 = 8 := by kernel_rfl
@[go_sem] theorem tft111_8 : Abs.fty Tryz.prog 111 8 = 107 := by kernel_rfl
@[go_sem] theorem tpl111_8 : Abs.placesA Tryz.prog 111 8 = some (8, 1) := by kernel_rfl
@[go_sem] theorem tfo111_9 : Abs.foff Tryz.prog 111 9 = 9 := by kernel_rfl
@[go_sem] theorem tft111_9 : Abs.fty Tryz.prog 111 9 = 108 := by kernel_rfl
@[go_sem] theorem tpl111_9 : Abs.placesA Tryz.prog 111 9 = some (9, 1) := by kernel_rfl
@[go_sem] theorem tfo111_10 : Abs.foff Tryz.prog 111 10 = 10 := by kernel_rfl
@[go_sem] theorem tft111_10 : Abs.fty Tryz.prog 111 10 = 109 := by kernel_rfl
@[go_sem] theorem tpl111_10 : Abs.placesA Tryz.prog 111 10 = some (10, 1) := by kernel_rfl
@[go_sem] theorem tok112 : Abs.tok Tryz.prog 112 = true := by kernel_rfl
@[go_sem] theorem tagg112 : Abs.tagg Tryz.prog 112 = false := by kernel_rfl
@[go_sem] theorem tsize112 : Abs.tsize Tryz.prog 112 = 1 := by kernel_rfl
@[go_sem] theorem tzero112 : Abs.tzero Tryz.prog 112 = some [.t (.lit (.pointer none))] := by kernel_rfl
@[go_sem] theorem tbytes112 : Abs.tbytes Tryz.prog 112 = 8 := by kernel_rfl
end Go.Proofs.YtpnmoecjhannnaaGreat
