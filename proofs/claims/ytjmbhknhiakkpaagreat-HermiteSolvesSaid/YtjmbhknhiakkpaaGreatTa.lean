/- At every input the call answers true and leaves its arguments as they were; no conditions. -/
import Derived.Test.YtjmbhknhiakkpaaGreatProg
import Derived.KernelRfl
import Derived.Test.YtjmbhknhiakkpaaGreatMb
set_option linter.unusedSimpArgs false
set_option linter.unusedVariables false
namespace Go.Proofs.YtjmbhknhiakkpaaGreat
open Go Go.Abs
@[go_sem] theorem tok1 : Abs.tok Tryz.prog 1 = true := by kernel_rfl
@[go_sem] theorem tagg1 : Abs.tagg Tryz.prog 1 = false := by kernel_rfl
@[go_sem] theorem tsize1 : Abs.tsize Tryz.prog 1 = 1 := by kernel_rfl
@[go_sem] theorem tzero1 : Abs.tzero Tryz.prog 1 = some [.t (.lit .nilFunc)] := by kernel_rfl
@[go_sem] theorem tok2 : Abs.tok Tryz.prog 2 = true := by kernel_rfl
@[go_sem] theorem tagg2 : Abs.tagg Tryz.prog 2 = false := by kernel_rfl
@[go_sem] theorem tsize2 : Abs.tsize Tryz.prog 2 = 1 := by kernel_rfl
@[go_sem] theorem tzero2 : Abs.tzero Tryz.prog 2 = some [.t (.lit (.int .i64 0))] := by kernel_rfl
@[go_sem] theorem tbytes2 : Abs.tbytes Tryz.prog 2 = 8 := by kernel_rfl
@[go_sem] theorem tint2 : Abs.intD (Abs.tdesc Tryz.prog 2) = some .i64 := by kernel_rfl
@[go_sem] theorem tok3 : Abs.tok Tryz.prog 3 = true := by kernel_rfl
@[go_sem] theorem tagg3 : Abs.tagg Tryz.prog 3 = false := by kernel_rfl
@[go_sem] theorem tsize3 : Abs.tsize Tryz.prog 3 = 1 := by kernel_rfl
@[go_sem] theorem tzero3 : Abs.tzero Tryz.prog 3 = some [.t (.lit (.int .i64 0))] := by kernel_rfl
@[go_sem] theorem tbytes3 : Abs.tbytes Tryz.prog 3 = 8 := by kernel_rfl
@[go_sem] theorem tint3 : Abs.intD (Abs.tdesc Tryz.prog 3) = some .i64 := by kernel_rfl
@[go_sem] theorem tok4 : Abs.tok Tryz.prog 4 = true := by kernel_rfl
@[go_sem] theorem tagg4 : Abs.tagg Tryz.prog 4 = false := by kernel_rfl
@[go_sem] theorem tsize4 : Abs.tsize Tryz.prog 4 = 1 := by kernel_rfl
@[go_sem] theorem tzero4 : Abs.tzero Tryz.prog 4 = some [.t (.lit (.bool false))] := by kernel_rfl
@[go_sem] theorem tbytes4 : Abs.tbytes Tryz.prog 4 = 1 := by kernel_rfl
@[go_sem] theorem tbool4 : Abs.tdesc Tryz.prog 4 = .bool := by kernel_rfl
@[go_sem] theorem tok5 : Abs.tok Tryz.prog 5 = true := by kernel_rfl
@[go_sem] theorem tagg5 : Abs.tagg Tryz.prog 5 = false := by kernel_rfl
@[go_sem] theorem tsize5 : Abs.tsize Tryz.prog 5 = 1 := by kernel_rfl
@[go_sem] theorem tzero5 : Abs.tzero Tryz.prog 5 = some [.t (.lit (.int .u8 0))] := by kernel_rfl
@[go_sem] theorem tbytes5 : Abs.tbytes Tryz.prog 5 = 1 := by kernel_rfl
@[go_sem] theorem tint5 : Abs.intD (Abs.tdesc Tryz.prog 5) = some .u8 := by kernel_rfl
@[go_sem] theorem tok6 : Abs.tok Tryz.prog 6 = true := by kernel_rfl
@[go_sem] theorem tagg6 : Abs.tagg Tryz.prog 6 = false := by kernel_rfl
@[go_sem] theorem tsize6 : Abs.tsize Tryz.prog 6 = 1 := by kernel_rfl
@[go_sem] theorem tzero6 : Abs.tzero Tryz.prog 6 = some [.t (.lit (.int .u8 0))] := by kernel_rfl
@[go_sem] theorem tbytes6 : Abs.tbytes Tryz.prog 6 = 1 := by kernel_rfl
@[go_sem] theorem tint6 : Abs.intD (Abs.tdesc Tryz.prog 6) = some .u8 := by kernel_rfl
@[go_sem] theorem tok7 : Abs.tok Tryz.prog 7 = true := by kernel_rfl
@[go_sem] theorem tagg7 : Abs.tagg Tryz.prog 7 = true := by kernel_rfl
@[go_sem] theorem tsize7 : Abs.tsize Tryz.prog 7 = 4 := by kernel_rfl
@[go_sem] theorem tzero7 : Abs.tzero Tryz.prog 7 = some [.t (.lit (.int .i64 0)), .t (.lit (.int .i64 0)), .t (.lit (.bool false)), .t (.lit (.int .u8 0))] := by kernel_rfl
@[go_sem] theorem tbytes7 : Abs.tbytes Tryz.prog 7 = 24 := by kernel_rfl
@[go_sem] theorem tst7 : Abs.isStructD (Abs.tdesc Tryz.prog 7) = true := by kernel_rfl
@[go_sem] theorem tnf7 : Abs.nfields Tryz.prog 7 = 4 := by kernel_rfl
@[go_sem] theorem tpt7 : Abs.partsTok Tryz.prog 7 = true := by kernel_rfl
@[go_sem] theorem tfo7_0 : Abs.foff Tryz.prog 7 0 = 0 := by kernel_rfl
@[go_sem] theorem tft7_0 : Abs.fty Tryz.prog 7 0 = 2 := by kernel_rfl
@[go_sem] theorem tpl7_0 : Abs.placesA Tryz.prog 7 0 = some (0, 1) := by kernel_rfl
@[go_sem] theorem tfo7_1 : Abs.foff Tryz.prog 7 1 = 1 := by kernel_rfl
@[go_sem] theorem tft7_1 : Abs.fty Tryz.prog 7 1 = 3 := by kernel_rfl
@[go_sem] theorem tpl7_1 : Abs.placesA Tryz.prog 7 1 = some (1, 1) := by kernel_rfl
@[go_sem] theorem tfo7_2 : Abs.foff Tryz.prog 7 2 = 2 := by kernel_rfl
@[go_sem] theorem tft7_2 : Abs.fty Tryz.prog 7 2 = 4 := by kernel_rfl
@[go_sem] theorem tpl7_2 : Abs.placesA Tryz.prog 7 2 = some (2, 1) := by kernel_rfl
@[go_sem] theorem tfo7_3 : Abs.foff Tryz.prog 7 3 = 3 := by kernel_rfl
@[go_sem] theorem tft7_3 : Abs.fty Tryz.prog 7 3 = 6 := by kernel_rfl
@[go_sem] theorem tpl7_3 : Abs.placesA Tryz.prog 7 3 = some (3, 1) := by kernel_rfl
@[go_sem] theorem tok8 : Abs.tok Tryz.prog 8 = true := by kernel_rfl
@[go_sem] theorem tagg8 : Abs.tagg Tryz.prog 8 = true := by kernel_rfl
@[go_sem] theorem tsize8 : Abs.tsize Tryz.prog 8 = 4 := by kernel_rfl
@[go_sem] theorem tzero8 : Abs.tzero Tryz.prog 8 = some [.t (.lit (.int .i64 0)), .t (.lit (.int .i64 0)), .t (.lit (.bool false)), .t (.lit (.int .u8 0))] := by kernel_rfl
@[go_sem] theorem tbytes8 : Abs.tbytes Tryz.prog 8 = 24 := by kernel_rfl
@[go_sem] theorem tst8 : Abs.isStructD (Abs.tdesc Tryz.prog 8) = true := by kernel_rfl
@[go_sem] theorem tnf8 : Abs.nfields Tryz.prog 8 = 4 := by kernel_rfl
@[go_sem] theorem tpt8 : Abs.partsTok Tryz.prog 8 = true := by kernel_rfl
@[go_sem] theorem tfo8_0 : Abs.foff Tryz.prog 8 0 = 0 := by kernel_rfl
@[go_sem] theorem tft8_0 : Abs.fty Tryz.prog 8 0 = 2 := by kernel_rfl
@[go_sem] theorem tpl8_0 : Abs.placesA Tryz.prog 8 0 = some (0, 1) := by kernel_rfl
@[go_sem] theorem tfo8_1 : Abs.foff Tryz.prog 8 1 = 1 := by kernel_rfl
@[go_sem] theorem tft8_1 : Abs.fty Tryz.prog 8 1 = 3 := by kernel_rfl
@[go_sem] theorem tpl8_1 : Abs.placesA Tryz.prog 8 1 = some (1, 1) := by kernel_rfl
@[go_sem] theorem tfo8_2 : Abs.foff Tryz.prog 8 2 = 2 := by kernel_rfl
@[go_sem] theorem tft8_2 : Abs.fty Tryz.prog 8 2 = 4 := by kernel_rfl
@[go_sem] theorem tpl8_2 : Abs.placesA Tryz.prog 8 2 = some (2, 1) := by kernel_rfl
@[go_sem] theorem tfo8_3 : Abs.foff Tryz.prog 8 3 = 3 := by kernel_rfl
@[go_sem] theorem tft8_3 : Abs.fty Tryz.prog 8 3 = 6 := by kernel_rfl
@[go_sem] theorem tpl8_3 : Abs.placesA Tryz.prog 8 3 = some (3, 1) := by kernel_rfl
@[go_sem] theorem tok9 : Abs.tok Tryz.prog 9 = true := by kernel_rfl
@[go_sem] theorem tagg9 : Abs.tagg Tryz.prog 9 = false := by kernel_rfl
@[go_sem] theorem tsize9 : Abs.tsize Tryz.prog 9 = 1 := by kernel_rfl
@[go_sem] theorem tzero9 : Abs.tzero Tryz.prog 9 = some [.t (.lit (.string ⟨#[]⟩))] := by kernel_rfl
@[go_sem] theorem tbytes9 : Abs.tbytes Tryz.prog 9 = 16 := by kernel_rfl
@[go_sem] theorem tstr9 : Abs.tdesc Tryz.prog 9 = .string := by kernel_rfl
@[go_sem] theorem tok10 : Abs.tok Tryz.prog 10 = true := by kernel_rfl
@[go_sem] theorem tagg10 : Abs.tagg Tryz.prog 10 = false := by kernel_rfl
@[go_sem] theorem tsize10 : Abs.tsize Tryz.prog 10 = 1 := by kernel_rfl
@[go_sem] theorem tzero10 : Abs.tzero Tryz.prog 10 = some [.t (.lit (.string ⟨#[]⟩))] := by kernel_rfl
@[go_sem] theorem tbytes10 : Abs.tbytes Tryz.prog 10 = 16 := by kernel_rfl
@[go_sem] theorem tstr10 : Abs.tdesc Tryz.prog 10 = .string := by kernel_rfl
@[go_sem] theorem tok11 : Abs.tok Tryz.prog 11 = true := by kernel_rfl
@[go_sem] theorem tagg11 : Abs.tagg Tryz.prog 11 = false := by kernel_rfl
@[go_sem] theorem tsize11 : Abs.tsize Tryz.prog 11 = 1 := by kernel_rfl
@[go_sem] theorem tzero11 : Abs.tzero Tryz.prog 11 = some [.t (.lit (.string ⟨#[]⟩))] := by kernel_rfl
@[go_sem] theorem tbytes11 : Abs.tbytes Tryz.prog 11 = 16 := by kernel_rfl
@[go_sem] theorem tstr11 : Abs.tdesc Tryz.prog 11 = .string := by kernel_rfl
@[go_sem] theorem tok12 : Abs.tok Tryz.prog 12 = true := by kernel_rfl
@[go_sem] theorem tagg12 : Abs.tagg Tryz.prog 12 = false := by kernel_rfl
@[go_sem] theorem tsize12 : Abs.tsize Tryz.prog 12 = 1 := by kernel_rfl
@[go_sem] theorem tzero12 : Abs.tzero Tryz.prog 12 = some [.t (.lit (.int .u64 0))] := by kernel_rfl
@[go_sem] theorem tbytes12 : Abs.tbytes Tryz.prog 12 = 8 := by kernel_rfl
@[go_sem] theorem tint12 : Abs.intD (Abs.tdesc Tryz.prog 12) = some .u64 := by kernel_rfl
@[go_sem] theorem tok13 : Abs.tok Tryz.prog 13 = true := by kernel_rfl
@[go_sem] theorem tagg13 : Abs.tagg Tryz.prog 13 = true := by kernel_rfl
@[go_sem] theorem tsize13 : Abs.tsize Tryz.prog 13 = 2 := by kernel_rfl
@[go_sem] theorem tzero13 : Abs.tzero Tryz.prog 13 = some [.t (.lit (.string ⟨#[]⟩)), .t (.lit (.int .u64 0))] := by kernel_rfl
@[go_sem] theorem tbytes13 : Abs.tbytes Tryz.prog 13 = 24 := by kernel_rfl
@[go_sem] theorem tst13 : Abs.isStructD (Abs.tdesc Tryz.prog 13) = true := by kernel_rfl
@[go_sem] theorem tnf13 : Abs.nfields Tryz.prog 13 = 2 := by kernel_rfl
@[go_sem] theorem tpt13 : Abs.partsTok Tryz.prog 13 = true := by kernel_rfl
@[go_sem] theorem tfo13_0 : Abs.foff Tryz.prog 13 0 = 0 := by kernel_rfl
@[go_sem] theorem tft13_0 : Abs.fty Tryz.prog 13 0 = 9 := by kernel_rfl
@[go_sem] theorem tpl13_0 : Abs.placesA Tryz.prog 13 0 = some (0, 1) := by kernel_rfl
@[go_sem] theorem tfo13_1 : Abs.foff Tryz.prog 13 1 = 1 := by kernel_rfl
@[go_sem] theorem tft13_1 : Abs.fty Tryz.prog 13 1 = 12 := by kernel_rfl
@[go_sem] theorem tpl13_1 : Abs.placesA Tryz.prog 13 1 = some (1, 1) := by kernel_rfl
@[go_sem] theorem tok14 : Abs.tok Tryz.prog 14 = true := by kernel_rfl
@[go_sem] theorem tagg14 : Abs.tagg Tryz.prog 14 = true := by kernel_rfl
@[go_sem] theorem tsize14 : Abs.tsize Tryz.prog 14 = 2 := by kernel_rfl
@[go_sem] theorem tzero14 : Abs.tzero Tryz.prog 14 = some [.t (.lit (.string ⟨#[]⟩)), .t (.lit (.int .u64 0))] := by kernel_rfl
@[go_sem] theorem tbytes14 : Abs.tbytes Tryz.prog 14 = 24 := by kernel_rfl
@[go_sem] theorem tst14 : Abs.isStructD (Abs.tdesc Tryz.prog 14) = true := by kernel_rfl
@[go_sem] theorem tnf14 : Abs.nfields Tryz.prog 14 = 2 := by kernel_rfl
@[go_sem] theorem tpt14 : Abs.partsTok Tryz.prog 14 = true := by kernel_rfl
@[go_sem] theorem tfo14_0 : Abs.foff Tryz.prog 14 0 = 0 := by kernel_rfl
@[go_sem] theorem tft14_0 : Abs.fty Tryz.prog 14 0 = 9 := by kernel_rfl
@[go_sem] theorem tpl14_0 : Abs.placesA Tryz.prog 14 0 = some (0, 1) := by kernel_rfl
@[go_sem] theorem tfo14_1 : Abs.foff Tryz.prog 14 1 = 1 := by kernel_rfl
@[go_sem] theorem tft14_1 : Abs.fty Tryz.prog 14 1 = 12 := by kernel_rfl
@[go_sem] theorem tpl14_1 : Abs.placesA Tryz.prog 14 1 = some (1, 1) := by kernel_rfl
@[go_sem] theorem tok15 : Abs.tok Tryz.prog 15 = true := by kernel_rfl
@[go_sem] theorem tagg15 : Abs.tagg Tryz.prog 15 = false := by kernel_rfl
@[go_sem] theorem tsize15 : Abs.tsize Tryz.prog 15 = 1 := by kernel_rfl
@[go_sem] theorem tzero15 : Abs.tzero Tryz.prog 15 = some [.t (.lit (.pointer none))] := by kernel_rfl
@[go_sem] theorem tbytes15 : Abs.tbytes Tryz.prog 15 = 8 := by kernel_rfl
@[go_sem] theorem tok16 : Abs.tok Tryz.prog 16 = true := by kernel_rfl
@[go_sem] theorem tagg16 : Abs.tagg Tryz.prog 16 = false := by kernel_rfl
@[go_sem] theorem tsize16 : Abs.tsize Tryz.prog 16 = 1 := by kernel_rfl
@[go_sem] theorem tzero16 : Abs.tzero Tryz.prog 16 = some [.t (.lit (.pointer none))] := by kernel_rfl
@[go_sem] theorem tbytes16 : Abs.tbytes Tryz.prog 16 = 8 := by kernel_rfl
@[go_sem] theorem tok17 : Abs.tok Tryz.prog 17 = true := by kernel_rfl
@[go_sem] theorem tagg17 : Abs.tagg Tryz.prog 17 = false := by kernel_rfl
@[go_sem] theorem tsize17 : Abs.tsize Tryz.prog 17 = 1 := by kernel_rfl
@[go_sem] theorem tzero17 : Abs.tzero Tryz.prog 17 = some [.t (.lit (.pointer none))] := by kernel_rfl
@[go_sem] theorem tbytes17 : Abs.tbytes Tryz.prog 17 = 8 := by kernel_rfl
@[go_sem] theorem tok18 : Abs.tok Tryz.prog 18 = true := by kernel_rfl
@[go_sem] theorem tagg18 : Abs.tagg Tryz.prog 18 = true := by kernel_rfl
@[go_sem] theorem tsize18 : Abs.tsize Tryz.prog 18 = 1 := by kernel_rfl
@[go_sem] theorem tzero18 : Abs.tzero Tryz.prog 18 = some [.t (.lit (.pointer none))] := by kernel_rfl
@[go_sem] theorem tbytes18 : Abs.tbytes Tryz.prog 18 = 8 := by kernel_rfl
@[go_sem] theorem tst18 : Abs.isStructD (Abs.tdesc Tryz.prog 18) = true := by kernel_rfl
@[go_sem] theorem tnf18 : Abs.nfields Tryz.prog 18 = 1 := by kernel_rfl
@[go_sem] theorem tpt18 : Abs.partsTok Tryz.prog 18 = true := by kernel_rfl
@[go_sem] theorem tfo18_0 : Abs.foff Tryz.prog 18 0 = 0 := by kernel_rfl
@[go_sem] theorem tft18_0 : Abs.fty Tryz.prog 18 0 = 17 := by kernel_rfl
@[go_sem] theorem tpl18_0 : Abs.placesA Tryz.prog 18 0 = some (0, 1) := by kernel_rfl
@[go_sem] theorem tok19 : Abs.tok Tryz.prog 19 = true := by kernel_rfl
@[go_sem] theorem tagg19 : Abs.tagg Tryz.prog 19 = true := by kernel_rfl
@[go_sem] theorem tsize19 : Abs.tsize Tryz.prog 19 = 1 := by kernel_rfl
@[go_sem] theorem tzero19 : Abs.tzero Tryz.prog 19 = some [.t (.lit (.pointer none))] := by kernel_rfl
@[go_sem] theorem tbytes19 : Abs.tbytes Tryz.prog 19 = 8 := by kernel_rfl
@[go_sem] theorem tst19 : Abs.isStructD (Abs.tdesc Tryz.prog 19) = true := by kernel_rfl
@[go_sem] theorem tnf19 : Abs.nfields Tryz.prog 19 = 1 := by kernel_rfl
@[go_sem] theorem tpt19 : Abs.partsTok Tryz.prog 19 = true := by kernel_rfl
@[go_sem] theorem tfo19_0 : Abs.foff Tryz.prog 19 0 = 0 := by kernel_rfl
@[go_sem] theorem tft19_0 : Abs.fty Tryz.prog 19 0 = 17 := by kernel_rfl
@[go_sem] theorem tpl19_0 : Abs.placesA Tryz.prog 19 0 = some (0, 1) := by kernel_rfl
@[go_sem] theorem tok21 : Abs.tok Tryz.prog 21 = true := by kernel_rfl
@[go_sem] theorem tagg21 : Abs.tagg Tryz.prog 21 = false := by kernel_rfl
@[go_sem] theorem tsize21 : Abs.tsize Tryz.prog 21 = 1 := by kernel_rfl
@[go_sem] theorem tzero21 : Abs.tzero Tryz.prog 21 = some [.t (.lit (.int .i32 0))] := by kernel_rfl
@[go_sem] theorem tbytes21 : Abs.tbytes Tryz.prog 21 = 4 := by kernel_rfl
@[go_sem] theorem tint21 : Abs.intD (Abs.tdesc Tryz.prog 21) = some .i32 := by kernel_rfl
@[go_sem] theorem tok22 : Abs.tok Tryz.prog 22 = true := by kernel_rfl
@[go_sem] theorem tagg22 : Abs.tagg Tryz.prog 22 = false := by kernel_rfl
@[go_sem] theorem tsize22 : Abs.tsize Tryz.prog 22 = 1 := by kernel_rfl
@[go_sem] theorem tzero22 : Abs.tzero Tryz.prog 22 = some [.t (.seq (some true) [])] := by kernel_rfl
@[go_sem] theorem tbytes22 : Abs.tbytes Tryz.prog 22 = 24 := by kernel_rfl
@[go_sem] theorem tsl22 : Abs.isSliceD (Abs.tdesc Tryz.prog 22) = true := by kernel_rfl
@[go_sem] theorem telem22 : Abs.telem Tryz.prog 22 = 23 := by kernel_rfl
@[go_sem] theorem tok23 : Abs.tok Tryz.prog 23 = true := by kernel_rfl
@[go_sem] theorem tagg23 : Abs.tagg Tryz.prog 23 = false := by kernel_rfl
@[go_sem] theorem tsize23 : Abs.tsize Tryz.prog 23 = 1 := by kernel_rfl
@[go_sem] theorem tzero23 : Abs.tzero Tryz.prog 23 = some [.t (.seq (some true) [])] := by kernel_rfl
@[go_sem] theorem tbytes23 : Abs.tbytes Tryz.prog 23 = 24 := by kernel_rfl
@[go_sem] theorem tsl23 : Abs.isSliceD (Abs.tdesc Tryz.prog 23) = true := by kernel_rfl
@[go_sem] theorem telem23 : Abs.telem Tryz.prog 23 = 28 := by kernel_rfl
@[go_sem] theorem tok24 : Abs.tok Tryz.prog 24 = true := by kernel_rfl
@[go_sem] theorem tagg24 : Abs.tagg Tryz.prog 24 = false := by kernel_rfl
@[go_sem] theorem tsize24 : Abs.tsize Tryz.prog 24 = 1 := by kernel_rfl
@[go_sem] theorem tzero24 : Abs.tzero Tryz.prog 24 = some [.t (.lit .nilFunc)] := by kernel_rfl
@[go_sem] theorem tok25 : Abs.tok Tryz.prog 25 = true := by kernel_rfl
@[go_sem] theorem tagg25 : Abs.tagg Tryz.prog 25 = false := by kernel_rfl
@[go_sem] theorem tsize25 : Abs.tsize Tryz.prog 25 = 1 := by kernel_rfl
@[go_sem] theorem tzero25 : Abs.tzero Tryz.prog 25 = some [.t (.lit .nilFunc)] := by kernel_rfl
@[go_sem] theorem tok26 : Abs.tok Tryz.prog 26 = true := by kernel_rfl
@[go_sem] theorem tagg26 : Abs.tagg Tryz.prog 26 = false := by kernel_rfl
@[go_sem] theorem tsize26 : Abs.tsize Tryz.prog 26 = 1 := by kernel_rfl
@[go_sem] theorem tzero26 : Abs.tzero Tryz.prog 26 = some [.t (.seq (some true) [])] := by kernel_rfl
@[go_sem] theorem tbytes26 : Abs.tbytes Tryz.prog 26 = 24 := by kernel_rfl
@[go_sem] theorem tsl26 : Abs.isSliceD (Abs.tdesc Tryz.prog 26) = true := by kernel_rfl
@[go_sem] theorem telem26 : Abs.telem Tryz.prog 26 = 56 := by kernel_rfl
@[go_sem] theorem tok27 : Abs.tok Tryz.prog 27 = true := by kernel_rfl
@[go_sem] theorem tagg27 : Abs.tagg Tryz.prog 27 = true := by kernel_rfl
@[go_sem] theorem tsize27 : Abs.tsize Tryz.prog 27 = 2 := by kernel_rfl
@[go_sem] theorem tzero27 : Abs.tzero Tryz.prog 27 = some [.t (.lit (.bool false)), .t (.seq (some true) [])] := by kernel_rfl
@[go_sem] theorem tbytes27 : Abs.tbytes Tryz.prog 27 = 32 := by kernel_rfl
@[go_sem] theorem tst27 : Abs.isStructD (Abs.tdesc Tryz.prog 27) = true := by kernel_rfl
@[go_sem] theorem tnf27 : Abs.nfields Tryz.prog 27 = 2 := by kernel_rfl
@[go_sem] theorem tpt27 : Abs.partsTok Tryz.prog 27 = true := by kernel_rfl
@[go_sem] theorem tfo27_0 : Abs.foff Tryz.prog 27 0 = 0 := by kernel_rfl
@[go_sem] theorem tft27_0 : Abs.fty Tryz.prog 27 0 = 4 := by kernel_rfl
@[go_sem] theorem tpl27_0 : Abs.placesA Tryz.prog 27 0 = some (0, 1) := by kernel_rfl
@[go_sem] theorem tfo27_1 : Abs.foff Tryz.prog 27 1 = 1 := by kernel_rfl
@[go_sem] theorem tft27_1 : Abs.fty Tryz.prog 27 1 = 26 := by kernel_rfl
@[go_sem] theorem tpl27_1 : Abs.placesA Tryz.prog 27 1 = some (1, 1) := by kernel_rfl
@[go_sem] theorem tok28 : Abs.tok Tryz.prog 28 = true := by kernel_rfl
@[go_sem] theorem tagg28 : Abs.tagg Tryz.prog 28 = true := by kernel_rfl
@[go_sem] theorem tsize28 : Abs.tsize Tryz.prog 28 = 2 := by kernel_rfl
@[go_sem] theorem tzero28 : Abs.tzero Tryz.prog 28 = some [.t (.lit (.bool false)), .t (.seq (some true) [])] := by kernel_rfl
@[go_sem] theorem tbytes28 : Abs.tbytes Tryz.prog 28 = 32 := by kernel_rfl
@[go_sem] theorem tst28 : Abs.isStructD (Abs.tdesc Tryz.prog 28) = true := by kernel_rfl
@[go_sem] theorem tnf28 : Abs.nfields Tryz.prog 28 = 2 := by kernel_rfl
@[go_sem] theorem tpt28 : Abs.partsTok Tryz.prog 28 = true := by kernel_rfl
@[go_sem] theorem tfo28_0 : Abs.foff Tryz.prog 28 0 = 0 := by kernel_rfl
@[go_sem] theorem tft28_0 : Abs.fty Tryz.prog 28 0 = 4 := by kernel_rfl
@[go_sem] theorem tpl28_0 : Abs.placesA Tryz.prog 28 0 = some (0, 1) := by kernel_rfl
@[go_sem] theorem tfo28_1 : Abs.foff Tryz.prog 28 1 = 1 := by kernel_rfl
@[go_sem] theorem tft28_1 : Abs.fty Tryz.prog 28 1 = 26 := by kernel_rfl
@[go_sem] theorem tpl28_1 : Abs.placesA Tryz.prog 28 1 = some (1, 1) := by kernel_rfl
@[go_sem] theorem tok29 : Abs.tok Tryz.prog 29 = true := by kernel_rfl
@[go_sem] theorem tagg29 : Abs.tagg Tryz.prog 29 = false := by kernel_rfl
@[go_sem] theorem tsize29 : Abs.tsize Tryz.prog 29 = 1 := by kernel_rfl
@[go_sem] theorem tzero29 : Abs.tzero Tryz.prog 29 = some [.t (.seq (some true) [])] := by kernel_rfl
@[go_sem] theorem tbytes29 : Abs.tbytes Tryz.prog 29 = 24 := by kernel_rfl
@[go_sem] theorem tsl29 : Abs.isSliceD (Abs.tdesc Tryz.prog 29) = true := by kernel_rfl
@[go_sem] theorem telem29 : Abs.telem Tryz.prog 29 = 52 := by kernel_rfl
@[go_sem] theorem tok31 : Abs.tok Tryz.prog 31 = true := by kernel_rfl
@[go_sem] theorem tagg31 : Abs.tagg Tryz.prog 31 = false := by kernel_rfl
@[go_sem] theorem tsize31 : Abs.tsize Tryz.prog 31 = 1 := by kernel_rfl
@[go_sem] theorem tzero31 : Abs.tzero Tryz.prog 31 = some [.t (.lit .nilFunc)] := by kernel_rfl
@[go_sem] theorem tok32 : Abs.tok Tryz.prog 32 = true := by kernel_rfl
@[go_sem] theorem tagg32 : Abs.tagg Tryz.prog 32 = false := by kernel_rfl
@[go_sem] theorem tsize32 : Abs.tsize Tryz.prog 32 = 1 := by kernel_rfl
@[go_sem] theorem tzero32 : Abs.tzero Tryz.prog 32 = some [.t (.lit .nilFunc)] := by kernel_rfl
@[go_sem] theorem tok33 : Abs.tok Tryz.prog 33 = true := by kernel_rfl
@[go_sem] theorem tagg33 : Abs.tagg Tryz.prog 33 = false := by kernel_rfl
@[go_sem] theorem tsize33 : Abs.tsize Tryz.prog 33 = 1 := by kernel_rfl
@[go_sem] theorem tzero33 : Abs.tzero Tryz.prog 33 = some [.t (.lit .nilFunc)] := by kernel_rfl
@[go_sem] theorem tok34 : Abs.tok Tryz.prog 34 = true := by kernel_rfl
@[go_sem] theorem tagg34 : Abs.tagg Tryz.prog 34 = false := by kernel_rfl
@[go_sem] theorem tsize34 : Abs.tsize Tryz.prog 34 = 1 := by kernel_rfl
@[go_sem] theorem tzero34 : Abs.tzero Tryz.prog 34 = some [.t (.lit .nilFunc)] := by kernel_rfl
@[go_sem] theorem tok35 : Abs.tok Tryz.prog 35 = true := by kernel_rfl
@[go_sem] theorem tagg35 : Abs.tagg Tryz.prog 35 = false := by kernel_rfl
@[go_sem] theorem tsize35 : Abs.tsize Tryz.prog 35 = 1 := by kernel_rfl
@[go_sem] theorem tzero35 : Abs.tzero Tryz.prog 35 = some [.t (.lit .nilFunc)] := by kernel_rfl
@[go_sem] theorem tok36 : Abs.tok Tryz.prog 36 = true := by kernel_rfl
@[go_sem] theorem tagg36 : Abs.tagg Tryz.prog 36 = false := by kernel_rfl
@[go_sem] theorem tsize36 : Abs.tsize Tryz.prog 36 = 1 := by kernel_rfl
@[go_sem] theorem tzero36 : Abs.tzero Tryz.prog 36 = some [.t (.lit .nilFunc)] := by kernel_rfl
@[go_sem] theorem tok37 : Abs.tok Tryz.prog 37 = true := by kernel_rfl
@[go_sem] theorem tagg37 : Abs.tagg Tryz.prog 37 = false := by kernel_rfl
@[go_sem] theorem tsize37 : Abs.tsize Tryz.prog 37 = 1 := by kernel_rfl
@[go_sem] theorem tzero37 : Abs.tzero Tryz.prog 37 = some [.t (.lit .nilFunc)] := by kernel_rfl
@[go_sem] theorem tok38 : Abs.tok Tryz.prog 38 = true := by kernel_rfl
@[go_sem] theorem tagg38 : Abs.tagg Tryz.prog 38 = false := by kernel_rfl
@[go_sem] theorem tsize38 : Abs.tsize Tryz.prog 38 = 1 := by kernel_rfl
@[go_sem] theorem tzero38 : Abs.tzero Tryz.prog 38 = some [.t (.lit .nilFunc)] := by kernel_rfl
@[go_sem] theorem tok40 : Abs.tok Tryz.prog 40 = true := by kernel_rfl
@[go_sem] theorem tagg40 : Abs.tagg Tryz.prog 40 = false := by kernel_rfl
@[go_sem] theorem tsize40 : Abs.tsize Tryz.prog 40 = 1 := by kernel_rfl
@[go_sem] theorem tzero40 : Abs.tzero Tryz.prog 40 = some [.t (.lit .nilFunc)] := by kernel_rfl
@[go_sem] theorem tok41 : Abs.tok Tryz.prog 41 = true := by kernel_rfl
@[go_sem] theorem tagg41 : Abs.tagg Tryz.prog 41 = false := by kernel_rfl
@[go_sem] theorem tsize41 : Abs.tsize Tryz.prog 41 = 1 := by kernel_rfl
@[go_sem] theorem tzero41 : Abs.tzero Tryz.prog 41 = some [.t (.lit .nilFunc)] := by kernel_rfl
@[go_sem] theorem tok42 : Abs.tok Tryz.prog 42 = true := by kernel_rfl
@[go_sem] theorem tagg42 : Abs.tagg Tryz.prog 42 = false := by kernel_rfl
@[go_sem] theorem tsize42 : Abs.tsize Tryz.prog 42 = 1 := by kernel_rfl
@[go_sem] theorem tzero42 : Abs.tzero Tryz.prog 42 = some [.t (.lit .nilFunc)] := by kernel_rfl
@[go_sem] theorem tok43 : Abs.tok Tryz.prog 43 = true := by kernel_rfl
@[go_sem] theorem tagg43 : Abs.tagg Tryz.prog 43 = false := by kernel_rfl
@[go_sem] theorem tsize43 : Abs.tsize Tryz.prog 43 = 1 := by kernel_rfl
@[go_sem] theorem tzero43 : Abs.tzero Tryz.prog 43 = some [.t (.lit .nilFunc)] := by kernel_rfl
@[go_sem] theorem tok45 : Abs.tok Tryz.prog 45 = true := by kernel_rfl
@[go_sem] theorem tagg45 : Abs.tagg Tryz.prog 45 = false := by kernel_rfl
@[go_sem] theorem tsize45 : Abs.tsize Tryz.prog 45 = 1 := by kernel_rfl
@[go_sem] theorem tzero45 : Abs.tzero Tryz.prog 45 = some [.t (.lit .nilFunc)] := by kernel_rfl
@[go_sem] theorem tok46 : Abs.tok Tryz.prog 46 = true := by kernel_rfl
@[go_sem] theorem tagg46 : Abs.tagg Tryz.prog 46 = false := by kernel_rfl
@[go_sem] theorem tsize46 : Abs.tsize Tryz.prog 46 = 1 := by kernel_rfl
@[go_sem] theorem tzero46 : Abs.tzero Tryz.prog 46 = some [.t (.lit .nilFunc)] := by kernel_rfl
@[go_sem] theorem tok47 : Abs.tok Tryz.prog 47 = true := by kernel_rfl
@[go_sem] theorem tagg47 : Abs.tagg Tryz.prog 47 = false := by kernel_rfl
@[go_sem] theorem tsize47 : Abs.tsize Tryz.prog 47 = 1 := by kernel_rfl
@[go_sem] theorem tzero47 : Abs.tzero Tryz.prog 47 = some [.t (.lit .nilFunc)] := by kernel_rfl
@[go_sem] theorem tok48 : Abs.tok Tryz.prog 48 = true := by kernel_rfl
@[go_sem] theorem tagg48 : Abs.tagg Tryz.prog 48 = false := by kernel_rfl
@[go_sem] theorem tsize48 : Abs.tsize Tryz.prog 48 = 1 := by kernel_rfl
@[go_sem] theorem tzero48 : Abs.tzero Tryz.prog 48 = some [.t (.lit .nilFunc)] := by kernel_rfl
@[go_sem] theorem tok49 : Abs.tok Tryz.prog 49 = true := by kernel_rfl
@[go_sem] theorem tagg49 : Abs.tagg Tryz.prog 49 = false := by kernel_rfl
@[go_sem] theorem tsize49 : Abs.tsize Tryz.prog 49 = 1 := by kernel_rfl
@[go_sem] theorem tzero49 : Abs.tzero Tryz.prog 49 = some [.t (.lit .nilFunc)] := by kernel_rfl
@[go_sem] theorem tok50 : Abs.tok Tryz.prog 50 = true := by kernel_rfl
@[go_sem] theorem tagg50 : Abs.tagg Tryz.prog 50 = false := by kernel_rfl
@[go_sem] theorem tsize50 : Abs.tsize Tryz.prog 50 = 1 := by kernel_rfl
@[go_sem] theorem tzero50 : Abs.tzero Tryz.prog 50 = some [.t (.lit .nilFunc)] := by kernel_rfl
@[go_sem] theorem tok51 : Abs.tok Tryz.prog 51 = true := by kernel_rfl
@[go_sem] theorem tagg51 : Abs.tagg Tryz.prog 51 = true := by kernel_rfl
@[go_sem] theorem tsize51 : Abs.tsize Tryz.prog 51 = 3 := by kernel_rfl
@[go_sem] theorem tzero51 : Abs.tzero Tryz.prog 51 = some [.t (.lit (.bool false)), .t (.seq (some true) []), .t (.seq (some true) [])] := by kernel_rfl
@[go_sem] theorem tbytes51 : Abs.tbytes Tryz.prog 51 = 56 := by kernel_rfl
@[go_sem] theorem tst51 : Abs.isStructD (Abs.tdesc Tryz.prog 51) = true := by kernel_rfl
@[go_sem] theorem tnf51 : Abs.nfields Tryz.prog 51 = 2 := by kernel_rfl
@[go_sem] theorem tpt51 : Abs.partsTok Tryz.prog 51 = true := by kernel_rfl
@[go_sem] theorem tfo51_0 : Abs.foff Tryz.prog 51 0 = 0 := by kernel_rfl
@[go_sem] theorem tft51_0 : Abs.fty Tryz.prog 51 0 = 28 := by kernel_rfl
@[go_sem] theorem tpl51_0 : Abs.placesA Tryz.prog 51 0 = some (0, 2) := by kernel_rfl
@[go_sem] theorem tfo51_1 : Abs.foff Tryz.prog 51 1 = 2 := by kernel_rfl
@[go_sem] theorem tft51_1 : Abs.fty Tryz.prog 51 1 = 26 := by kernel_rfl
@[go_sem] theorem tpl51_1 : Abs.placesA Tryz.prog 51 1 = some (2, 1) := by kernel_rfl
@[go_sem] theorem tok52 : Abs.tok Tryz.prog 52 = true := by kernel_rfl
@[go_sem] theorem tagg52 : Abs.tagg Tryz.prog 52 = true := by kernel_rfl
@[go_sem] theorem tsize52 : Abs.tsize Tryz.prog 52 = 3 := by kernel_rfl
@[go_sem] theorem tzero52 : Abs.tzero Tryz.prog 52 = some [.t (.lit (.bool false)), .t (.seq (some true) []), .t (.seq (some true) [])] := by kernel_rfl
@[go_sem] theorem tbytes52 : Abs.tbytes Tryz.prog 52 = 56 := by kernel_rfl
@[go_sem] theorem tst52 : Abs.isStructD (Abs.tdesc Tryz.prog 52) = true := by kernel_rfl
@[go_sem] theorem tnf52 : Abs.nfields Tryz.prog 52 = 2 := by kernel_rfl
@[go_sem] theorem tpt52 : Abs.partsTok Tryz.prog 52 = true := by kernel_rfl
@[go_sem] theorem tfo52_0 : Abs.foff Tryz.prog 52 0 = 0 := by kernel_rfl
@[go_sem] theorem tft52_0 : Abs.fty Tryz.prog 52 0 = 28 := by kernel_rfl
@[go_sem] theorem tpl52_0 : Abs.placesA Tryz.prog 52 0 = some (0, 2) := by kernel_rfl
@[go_sem] theorem tfo52_1 : Abs.foff Tryz.prog 52 1 = 2 := by kernel_rfl
@[go_sem] theorem tft52_1 : Abs.fty Tryz.prog 52 1 = 26 := by kernel_rfl
@[go_sem] theorem tpl52_1 : Abs.placesA Tryz.prog 52 1 = some (2, 1) := by kernel_rfl
@[go_sem] theorem tok53 : Abs.tok Tryz.prog 53 = true := by kernel_rfl
@[go_sem] theorem tagg53 : Abs.tagg Tryz.prog 53 = false := by kernel_rfl
@[go_sem] theorem tsize53 : Abs.tsize Tryz.prog 53 = 1 := by kernel_rfl
@[go_sem] theorem tzero53 : Abs.tzero Tryz.prog 53 = some [.t (.lit .nilFunc)] := by kernel_rfl
@[go_sem] theorem tok54 : Abs.tok Tryz.prog 54 = true := by kernel_rfl
@[go_sem] theorem tagg54 : Abs.tagg Tryz.prog 54 = false := by kernel_rfl
@[go_sem] theorem tsize54 : Abs.tsize Tryz.prog 54 = 1 := by kernel_rfl
@[go_sem] theorem tzero54 : Abs.tzero Tryz.prog 54 = some [.t (.lit .nilFunc)] := by kernel_rfl
@[go_sem] theorem tok55 : Abs.tok Tryz.prog 55 = true := by kernel_rfl
@[go_sem] theorem tagg55 : Abs.tagg Tryz.prog 55 = false := by kernel_rfl
@[go_sem] theorem tsize55 : Abs.tsize Tryz.prog 55 = 1 := by kernel_rfl
@[go_sem] theorem tzero55 : Abs.tzero Tryz.prog 55 = some [.t (.lit .nilFunc)] := by kernel_rfl
@[go_sem] theorem tok56 : Abs.tok Tryz.prog 56 = true := by kernel_rfl
@[go_sem] theorem tagg56 : Abs.tagg Tryz.prog 56 = false := by kernel_rfl
@[go_sem] theorem tsize56 : Abs.tsize Tryz.prog 56 = 1 := by kernel_rfl
@[go_sem] theorem tzero56 : Abs.tzero Tryz.prog 56 = some [.t (.lit (.int .u32 0))] := by kernel_rfl
@[go_sem] theorem tbytes56 : Abs.tbytes Tryz.prog 56 = 4 := by kernel_rfl
@[go_sem] theorem tint56 : Abs.intD (Abs.tdesc Tryz.prog 56) = some .u32 := by kernel_rfl
@[go_sem] theorem tok57 : Abs.tok Tryz.prog 57 = true := by kernel_rfl
@[go_sem] theorem tagg57 : Abs.tagg Tryz.prog 57 = false := by kernel_rfl
@[go_sem] theorem tsize57 : Abs.tsize Tryz.prog 57 = 1 := by kernel_rfl
@[go_sem] theorem tzero57 : Abs.tzero Tryz.prog 57 = some [.t (.lit .nilFunc)] := by kernel_rfl
@[go_sem] theorem tok58 : Abs.tok Tryz.prog 58 = true := by kernel_rfl
@[go_sem] theorem tagg58 : Abs.tagg Tryz.prog 58 = false := by kernel_rfl
@[go_sem] theorem tsize58 : Abs.tsize Tryz.prog 58 = 1 := by kernel_rfl
@[go_sem] theorem tzero58 : Abs.tzero Tryz.prog 58 = some [.t (.lit (.int .u64 0))] := by kernel_rfl
@[go_sem] theorem tbytes58 : Abs.tbytes Tryz.prog 58 = 8 := by kernel_rfl
@[go_sem] theorem tint58 : Abs.intD (Abs.tdesc Tryz.prog 58) = some .u64 := by kernel_rfl
@[go_sem] theorem tok59 : Abs.tok Tryz.prog 59 = true := by kernel_rfl
@[go_sem] theorem tagg59 : Abs.tagg Tryz.prog 59 = false := by kernel_rfl
@[go_sem] theorem tsize59 : Abs.tsize Tryz.prog 59 = 1 := by kernel_rfl
@[go_sem] theorem tzero59 : Abs.tzero Tryz.prog 59 = some [.t (.lit (.pointer none))] := by kernel_rfl
@[go_sem] theorem tbytes59 : Abs.tbytes Tryz.prog 59 = 8 := by kernel_rfl
@[go_sem] theorem tok60 : Abs.tok Tryz.prog 60 = true := by kernel_rfl
@[go_sem] theorem tagg60 : Abs.tagg Tryz.prog 60 = false := by kernel_rfl
@[go_sem] theorem tsize60 : Abs.tsize Tryz.prog 60 = 1 := by kernel_rfl
@[go_sem] theorem tzero60 : Abs.tzero Tryz.prog 60 = some [.t (.seq (some true) [])] := by kernel_rfl
@[go_sem] theorem tbytes60 : Abs.tbytes Tryz.prog 60 = 24 := by kernel_rfl
@[go_sem] theorem tsl60 : Abs.isSliceD (Abs.tdesc Tryz.prog 60) = true := by kernel_rfl
@[go_sem] theorem telem60 : Abs.telem Tryz.prog 60 = 3 := by kernel_rfl
@[go_sem] theorem tok62 : Abs.tok Tryz.prog 62 = true := by kernel_rfl
@[go_sem] theorem tagg62 : Abs.tagg Tryz.prog 62 = false := by kernel_rfl
@[go_sem] theorem tsize62 : Abs.tsize Tryz.prog 62 = 1 := by kernel_rfl
@[go_sem] theorem tzero62 : Abs.tzero Tryz.prog 62 = some [.t (.lit .nilFunc)] := by kernel_rfl
@[go_sem] theorem tok63 : Abs.tok Tryz.prog 63 = true := by kernel_rfl
@[go_sem] theorem tagg63 : Abs.tagg Tryz.prog 63 = false := by kernel_rfl
@[go_sem] theorem tsize63 : Abs.tsize Tryz.prog 63 = 1 := by kernel_rfl
@[go_sem] theorem tzero63 : Abs.tzero Tryz.prog 63 = some [.t (.seq (some true) [])] := by kernel_rfl
@[go_sem] theorem tbytes63 : Abs.tbytes Tryz.prog 63 = 24 := by kernel_rfl
@[go_sem] theorem tsl63 : Abs.isSliceD (Abs.tdesc Tryz.prog 63) = true := by kernel_rfl
@[go_sem] theorem telem63 : Abs.telem Tryz.prog 63 = 23 := by kernel_rfl
@[go_sem] theorem tok64 : Abs.tok Tryz.prog 64 = true := by kernel_rfl
@[go_sem] theorem tagg64 : Abs.tagg Tryz.prog 64 = true := by kernel_rfl
@[go_sem] theorem tsize64 : Abs.tsize Tryz.prog 64 = 3 := by kernel_rfl
@[go_sem] theorem tzero64 : Abs.tzero Tryz.prog 64 = some [.t (.seq (some true) []), .t (.seq (some true) []), .t (.seq (some true) [])] := by kernel_rfl
@[go_sem] theorem tbytes64 : Abs.tbytes Tryz.prog 64 = 72 := by kernel_rfl
@[go_sem] theorem tst64 : Abs.isStructD (Abs.tdesc Tryz.prog 64) = true := by kernel_rfl
@[go_sem] theorem tnf64 : Abs.nfields Tryz.prog 64 = 3 := by kernel_rfl
@[go_sem] theorem tpt64 : Abs.partsTok Tryz.prog 64 = true := by kernel_rfl
@[go_sem] theorem tfo64_0 : Abs.foff Tryz.prog 64 0 = 0 := by kernel_rfl
@[go_sem] theorem tft64_0 : Abs.fty Tryz.prog 64 0 = 63 := by kernel_rfl
@[go_sem] theorem tpl64_0 : Abs.placesA Tryz.prog 64 0 = some (0, 1) := by kernel_rfl
@[go_sem] theorem tfo64_1 : Abs.foff Tryz.prog 64 1 = 1 := by kernel_rfl
@[go_sem] theorem tft64_1 : Abs.fty Tryz.prog 64 1 = 63 := by kernel_rfl
@[go_sem] theorem tpl64_1 : Abs.placesA Tryz.prog 64 1 = some (1, 1) := by kernel_rfl
@[go_sem] theorem tfo64_2 : Abs.foff Tryz.prog 64 2 = 2 := by kernel_rfl
@[go_sem] theorem tft64_2 : Abs.fty Tryz.prog 64 2 = 63 := by kernel_rfl
@[go_sem] theorem tpl64_2 : Abs.placesA Tryz.prog 64 2 = some (2, 1) := by kernel_rfl
@[go_sem] theorem tok65 : Abs.tok Tryz.prog 65 = true := by kernel_rfl
@[go_sem] theorem tagg65 : Abs.tagg Tryz.prog 65 = true := by kernel_rfl
@[go_sem] theorem tsize65 : Abs.tsize Tryz.prog 65 = 3 := by kernel_rfl
@[go_sem] theorem tzero65 : Abs.tzero Tryz.prog 65 = some [.t (.seq (some true) []), .t (.seq (some true) []), .t (.seq (some true) [])] := by kernel_rfl
@[go_sem] theorem tbytes65 : Abs.tbytes Tryz.prog 65 = 72 := by kernel_rfl
@[go_sem] theorem tst65 : Abs.isStructD (Abs.tdesc Tryz.prog 65) = true := by kernel_rfl
@[go_sem] theorem tnf65 : Abs.nfields Tryz.prog 65 = 3 := by kernel_rfl
@[go_sem] theorem tpt65 : Abs.partsTok Tryz.prog 65 = true := by kernel_rfl
@[go_sem] theorem tfo65_0 : Abs.foff Tryz.prog 65 0 = 0 := by kernel_rfl
@[go_sem] theorem tft65_0 : Abs.fty Tryz.prog 65 0 = 63 := by kernel_rfl
@[go_sem] theorem tpl65_0 : Abs.placesA Tryz.prog 65 0 = some (0, 1) := by kernel_rfl
@[go_sem] theorem tfo65_1 : Abs.foff Tryz.prog 65 1 = 1 := by kernel_rfl
@[go_sem] theorem tft65_1 : Abs.fty Tryz.prog 65 1 = 63 := by kernel_rfl
@[go_sem] theorem tpl65_1 : Abs.placesA Tryz.prog 65 1 = some (1, 1) := by kernel_rfl
@[go_sem] theorem tfo65_2 : Abs.foff Tryz.prog 65 2 = 2 := by kernel_rfl
@[go_sem] theorem tft65_2 : Abs.fty Tryz.prog 65 2 = 63 := by kernel_rfl
@[go_sem] theorem tpl65_2 : Abs.placesA Tryz.prog 65 2 = some (2, 1) := by kernel_rfl
@[go_sem] theorem tok66 : Abs.tok Tryz.prog 66 = true := by kernel_rfl
@[go_sem] theorem tagg66 : Abs.tagg Tryz.prog 66 = false := by kernel_rfl
@[go_sem] theorem tsize66 : Abs.tsize Tryz.prog 66 = 1 := by kernel_rfl
@[go_sem] theorem tzero66 : Abs.tzero Tryz.prog 66 = some [.t (.lit .nilFunc)] := by kernel_rfl
@[go_sem] theorem tok67 : Abs.tok Tryz.prog 67 = true := by kernel_rfl
@[go_sem] theorem tagg67 : Abs.tagg Tryz.prog 67 = false := by kernel_rfl
@[go_sem] theorem tsize67 : Abs.tsize Tryz.prog 67 = 1 := by kernel_rfl
@[go_sem] theorem tzero67 : Abs.tzero Tryz.prog 67 = some [.t (.lit .nilFunc)] := by kernel_rfl
@[go_sem] theorem tok68 : Abs.tok Tryz.prog 68 = true := by kernel_rfl
@[go_sem] theorem tagg68 : Abs.tagg Tryz.prog 68 = false := by kernel_rfl
@[go_sem] theorem tsize68 : Abs.tsize Tryz.prog 68 = 1 := by kernel_rfl
@[go_sem] theorem tzero68 : Abs.tzero Tryz.prog 68 = some [.t (.lit .nilFunc)] := by kernel_rfl
@[go_sem] theorem tok69 : Abs.tok Tryz.prog 69 = true := by kernel_rfl
@[go_sem] theorem tagg69 : Abs.tagg Tryz.prog 69 = false := by kernel_rfl
@[go_sem] theorem tsize69 : Abs.tsize Tryz.prog 69 = 1 := by kernel_rfl
@[go_sem] theorem tzero69 : Abs.tzero Tryz.prog 69 = some [.t (.lit .nilFunc)] := by kernel_rfl
@[go_sem] theorem tok70 : Abs.tok Tryz.prog 70 = true := by kernel_rfl
@[go_sem] theorem tagg70 : Abs.tagg Tryz.prog 70 = false := by kernel_rfl
@[go_sem] theorem tsize70 : Abs.tsize Tryz.prog 70 = 1 := by kernel_rfl
@[go_sem] theorem tzero70 : Abs.tzero Tryz.prog 70 = some [.t (.lit .nilFunc)] := by kernel_rfl
@[go_sem] theorem tok71 : Abs.tok Tryz.prog 71 = true := by kernel_rfl
@[go_sem] theorem tagg71 : Abs.tagg Tryz.prog 71 = false := by kernel_rfl
@[go_sem] theorem tsize71 : Abs.tsize Tryz.prog 71 = 1 := by kernel_rfl
@[go_sem] theorem tzero71 : Abs.tzero Tryz.prog 71 = some [.t (.lit .nilFunc)] := by kernel_rfl
@[go_sem] theorem tok73 : Abs.tok Tryz.prog 73 = true := by kernel_rfl
@[go_sem] theorem tagg73 : Abs.tagg Tryz.prog 73 = false := by kernel_rfl
@[go_sem] theorem tsize73 : Abs.tsize Tryz.prog 73 = 1 := by kernel_rfl
@[go_sem] theorem tzero73 : Abs.tzero Tryz.prog 73 = some [.t (.lit .nilFunc)] := by kernel_rfl
@[go_sem] theorem tok74 : Abs.tok Tryz.prog 74 = true := by kernel_rfl
@[go_sem] theorem tagg74 : Abs.tagg Tryz.prog 74 = false := by kernel_rfl
@[go_sem] theorem tsize74 : Abs.tsize Tryz.prog 74 = 1 := by kernel_rfl
@[go_sem] theorem tzero74 : Abs.tzero Tryz.prog 74 = some [.t (.lit .nilFunc)] := by kernel_rfl
@[go_sem] theorem tok75 : Abs.tok Tryz.prog 75 = true := by kernel_rfl
@[go_sem] theorem tagg75 : Abs.tagg Tryz.prog 75 = false := by kernel_rfl
@[go_sem] theorem tsize75 : Abs.tsize Tryz.prog 75 = 1 := by kernel_rfl
@[go_sem] theorem tzero75 : Abs.tzero Tryz.prog 75 = some [.t (.lit .nilFunc)] := by kernel_rfl
@[go_sem] theorem tok76 : Abs.tok Tryz.prog 76 = true := by kernel_rfl
@[go_sem] theorem tagg76 : Abs.tagg Tryz.prog 76 = false := by kernel_rfl
@[go_sem] theorem tsize76 : Abs.tsize Tryz.prog 76 = 1 := by kernel_rfl
@[go_sem] theorem tzero76 : Abs.tzero Tryz.prog 76 = some [.t (.lit .nilFunc)] := by kernel_rfl
@[go_sem] theorem tok77 : Abs.tok Tryz.prog 77 = true := by kernel_rfl
@[go_sem] theorem tagg77 : Abs.tagg Tryz.prog 77 = false := by kernel_rfl
@[go_sem] theorem tsize77 : Abs.tsize Tryz.prog 77 = 1 := by kernel_rfl
@[go_sem] theorem tzero77 : Abs.tzero Tryz.prog 77 = some [.t (.lit .nilFunc)] := by kernel_rfl
@[go_sem] theorem tok78 : Abs.tok Tryz.prog 78 = true := by kernel_rfl
@[go_sem] theorem tagg78 : Abs.tagg Tryz.prog 78 = false := by kernel_rfl
@[go_sem] theorem tsize78 : Abs.tsize Tryz.prog 78 = 1 := by kernel_rfl
@[go_sem] theorem tzero78 : Abs.tzero Tryz.prog 78 = some [.t (.lit .nilFunc)] := by kernel_rfl
@[go_sem] theorem tok79 : Abs.tok Tryz.prog 79 = true := by kernel_rfl
@[go_sem] theorem tagg79 : Abs.tagg Tryz.prog 79 = false := by kernel_rfl
@[go_sem] theorem tsize79 : Abs.tsize Tryz.prog 79 = 1 := by kernel_rfl
@[go_sem] theorem tzero79 : Abs.tzero Tryz.prog 79 = some [.t (.lit .nilFunc)] := by kernel_rfl
@[go_sem] theorem tok80 : Abs.tok Tryz.prog 80 = true := by kernel_rfl
@[go_sem] theorem tagg80 : Abs.tagg Tryz.prog 80 = false := by kernel_rfl
@[go_sem] theorem tsize80 : Abs.tsize Tryz.prog 80 = 1 := by kernel_rfl
@[go_sem] theorem tzero80 : Abs.tzero Tryz.prog 80 = some [.t (.lit .nilFunc)] := by kernel_rfl
@[go_sem] theorem tok81 : Abs.tok Tryz.prog 81 = true := by kernel_rfl
@[go_sem] theorem tagg81 : Abs.tagg Tryz.prog 81 = false := by kernel_rfl
@[go_sem] theorem tsize81 : Abs.tsize Tryz.prog 81 = 1 := by kernel_rfl
@[go_sem] theorem tzero81 : Abs.tzero Tryz.prog 81 = some [.t (.lit .nilFunc)] := by kernel_rfl
@[go_sem] theorem tok82 : Abs.tok Tryz.prog 82 = true := by kernel_rfl
@[go_sem] theorem tagg82 : Abs.tagg Tryz.prog 82 = false := by kernel_rfl
@[go_sem] theorem tsize82 : Abs.tsize Tryz.prog 82 = 1 := by kernel_rfl
@[go_sem] theorem tzero82 : Abs.tzero Tryz.prog 82 = some [.t (.lit .nilFunc)] := by kernel_rfl
@[go_sem] theorem tok83 : Abs.tok Tryz.prog 83 = true := by kernel_rfl
@[go_sem] theorem tagg83 : Abs.tagg Tryz.prog 83 = true := by kernel_rfl
@[go_sem] theorem tsize83 : Abs.tsize Tryz.prog 83 = 1 := by kernel_rfl
@[go_sem] theorem tzero83 : Abs.tzero Tryz.prog 83 = some [.t (.seq (some true) [])] := by kernel_rfl
@[go_sem] theorem tbytes83 : Abs.tbytes Tryz.prog 83 = 24 := by kernel_rfl
@[go_sem] theorem tst83 : Abs.isStructD (Abs.tdesc Tryz.prog 83) = true := by kernel_rfl
@[go_sem] theorem tnf83 : Abs.nfields Tryz.prog 83 = 1 := by kernel_rfl
@[go_sem] theorem tpt83 : Abs.partsTok Tryz.prog 83 = true := by kernel_rfl
@[go_sem] theorem tfo83_0 : Abs.foff Tryz.prog 83 0 = 0 := by kernel_rfl
@[go_sem] theorem tft83_0 : Abs.fty Tryz.prog 83 0 = 26 := by kernel_rfl
@[go_sem] theorem tpl83_0 : Abs.placesA Tryz.prog 83 0 = some (0, 1) := by kernel_rfl
@[go_sem] theorem tok84 : Abs.tok Tryz.prog 84 = true := by kernel_rfl
@[go_sem] theorem tagg84 : Abs.tagg Tryz.prog 84 = true := by kernel_rfl
@[go_sem] theorem tsize84 : Abs.tsize Tryz.prog 84 = 1 := by kernel_rfl
@[go_sem] theorem tzero84 : Abs.tzero Tryz.prog 84 = some [.t (.seq (some true) [])] := by kernel_rfl
@[go_sem] theorem tbytes84 : Abs.tbytes Tryz.prog 84 = 24 := by kernel_rfl
@[go_sem] theorem tst84 : Abs.isStructD (Abs.tdesc Tryz.prog 84) = true := by kernel_rfl
@[go_sem] theorem tnf84 : Abs.nfields Tryz.prog 84 = 1 := by kernel_rfl
@[go_sem] theorem tpt84 : Abs.partsTok Tryz.prog 84 = true := by kernel_rfl
@[go_sem] theorem tfo84_0 : Abs.foff Tryz.prog 84 0 = 0 := by kernel_rfl
@[go_sem] theorem tft84_0 : Abs.fty Tryz.prog 84 0 = 26 := by kernel_rfl
@[go_sem] theorem tpl84_0 : Abs.placesA Tryz.prog 84 0 = some (0, 1) := by kernel_rfl
@[go_sem] theorem tok85 : Abs.tok Tryz.prog 85 = true := by kernel_rfl
@[go_sem] theorem tagg85 : Abs.tagg Tryz.prog 85 = true := by kernel_rfl
@[go_sem] theorem tsize85 : Abs.tsize Tryz.prog 85 = 2 := by kernel_rfl
@[go_sem] theorem tzero85 : Abs.tzero Tryz.prog 85 = some [.t (.seq (some true) []), .t (.lit (.bool false))] := by kernel_rfl
@[go_sem] theorem tbytes85 : Abs.tbytes Tryz.prog 85 = 32 := by kernel_rfl
@[go_sem] theorem tst85 : Abs.isStructD (Abs.tdesc Tryz.prog 85) = true := by kernel_rfl
@[go_sem] theorem tnf85 : Abs.nfields Tryz.prog 85 = 2 := by kernel_rfl
@[go_sem] theorem tpt85 : Abs.partsTok Tryz.prog 85 = true := by kernel_rfl
@[go_sem] theorem tfo85_0 : Abs.foff Tryz.prog 85 0 = 0 := by kernel_rfl
@[go_sem] theorem tft85_0 : Abs.fty Tryz.prog 85 0 = 84 := by kernel_rfl
@[go_sem] theorem tpl85_0 : Abs.placesA Tryz.prog 85 0 = some (0, 1) := by kernel_rfl
@[go_sem] theorem tfo85_1 : Abs.foff Tryz.prog 85 1 = 1 := by kernel_rfl
@[go_sem] theorem tft85_1 : Abs.fty Tryz.prog 85 1 = 4 := by kernel_rfl
@[go_sem] theorem tpl85_1 : Abs.placesA Tryz.prog 85 1 = some (1, 1) := by kernel_rfl
@[go_sem] theorem tok86 : Abs.tok Tryz.prog 86 = true := by kernel_rfl
@[go_sem] theorem tagg86 : Abs.tagg Tryz.prog 86 = true := by kernel_rfl
@[go_sem] theorem tsize86 : Abs.tsize Tryz.prog 86 = 2 := by kernel_rfl
@[go_sem] theorem tzero86 : Abs.tzero Tryz.prog 86 = some [.t (.seq (some true) []), .t (.lit (.bool false))] := by kernel_rfl
@[go_sem] theorem tbytes86 : Abs.tbytes Tryz.prog 86 = 32 := by kernel_rfl
@[go_sem] theorem tst86 : Abs.isStructD (Abs.tdesc Tryz.prog 86) = true := by kernel_rfl
@[go_sem] theorem tnf86 : Abs.nfields Tryz.prog 86 = 2 := by kernel_rfl
@[go_sem] theorem tpt86 : Abs.partsTok Tryz.prog 86 = true := by kernel_rfl
@[go_sem] theorem tfo86_0 : Abs.foff Tryz.prog 86 0 = 0 := by kernel_rfl
@[go_sem] theorem tft86_0 : Abs.fty Tryz.prog 86 0 = 84 := by kernel_rfl
@[go_sem] theorem tpl86_0 : Abs.placesA Tryz.prog 86 0 = some (0, 1) := by kernel_rfl
@[go_sem] theorem tfo86_1 : Abs.foff Tryz.prog 86 1 = 1 := by kernel_rfl
@[go_sem] theorem tft86_1 : Abs.fty Tryz.prog 86 1 = 4 := by kernel_rfl
@[go_sem] theorem tpl86_1 : Abs.placesA Tryz.prog 86 1 = some (1, 1) := by kernel_rfl
@[go_sem] theorem tok87 : Abs.tok Tryz.prog 87 = true := by kernel_rfl
@[go_sem] theorem tagg87 : Abs.tagg Tryz.prog 87 = false := by kernel_rfl
@[go_sem] theorem tsize87 : Abs.tsize Tryz.prog 87 = 1 := by kernel_rfl
@[go_sem] theorem tzero87 : Abs.tzero Tryz.prog 87 = some [.t (.lit .nilFunc)] := by kernel_rfl
@[go_sem] theorem tok88 : Abs.tok Tryz.prog 88 = true := by kernel_rfl
@[go_sem] theorem tagg88 : Abs.tagg Tryz.prog 88 = false := by kernel_rfl
@[go_sem] theorem tsize88 : Abs.tsize Tryz.prog 88 = 1 := by kernel_rfl
@[go_sem] theorem tzero88 : Abs.tzero Tryz.prog 88 = some [.t (.lit .nilFunc)] := by kernel_rfl
@[go_sem] theorem tok89 : Abs.tok Tryz.prog 89 = true := by kernel_rfl
@[go_sem] theorem tagg89 : Abs.tagg Tryz.prog 89 = false := by kernel_rfl
@[go_sem] theorem tsize89 : Abs.tsize Tryz.prog 89 = 1 := by kernel_rfl
@[go_sem] theorem tzero89 : Abs.tzero Tryz.prog 89 = some [.t (.seq (some true) [])] := by kernel_rfl
@[go_sem] theorem tbytes89 : Abs.tbytes Tryz.prog 89 = 24 := by kernel_rfl
@[go_sem] theorem tsl89 : Abs.isSliceD (Abs.tdesc Tryz.prog 89) = true := by kernel_rfl
@[go_sem] theorem telem89 : Abs.telem Tryz.prog 89 = 93 := by kernel_rfl
@[go_sem] theorem tok90 : Abs.tok Tryz.prog 90 = true := by kernel_rfl
@[go_sem] theorem tagg90 : Abs.tagg Tryz.prog 90 = true := by kernel_rfl
@[go_sem] theorem tsize90 : Abs.tsize Tryz.prog 90 = 3 := by kernel_rfl
@[go_sem] theorem tzero90 : Abs.tzero Tryz.prog 90 = some [.t (.lit (.bool false)), .t (.seq (some true) []), .t (.seq (some true) [])] := by kernel_rfl
@[go_sem] theorem tbytes90 : Abs.tbytes Tryz.prog 90 = 56 := by kernel_rfl
@[go_sem] theorem tst90 : Abs.isStructD (Abs.tdesc Tryz.prog 90) = true := by kernel_rfl
@[go_sem] theorem tnf90 : Abs.nfields Tryz.prog 90 = 2 := by kernel_rfl
@[go_sem] theorem tpt90 : Abs.partsTok Tryz.prog 90 = true := by kernel_rfl
@[go_sem] theorem tfo90_0 : Abs.foff Tryz.prog 90 0 = 0 := by kernel_rfl
@[go_sem] theorem tft90_0 : Abs.fty Tryz.prog 90 0 = 28 := by kernel_rfl
@[go_sem] theorem tpl90_0 : Abs.placesA Tryz.prog 90 0 = some (0, 2) := by kernel_rfl
@[go_sem] theorem tfo90_1 : Abs.foff Tryz.prog 90 1 = 2 := by kernel_rfl
@[go_sem] theorem tft90_1 : Abs.fty Tryz.prog 90 1 = 26 := by kernel_rfl
@[go_sem] theorem tpl90_1 : Abs.placesA Tryz.prog 90 1 = some (2, 1) := by kernel_rfl
@[go_sem] theorem tok91 : Abs.tok Tryz.prog 91 = true := by kernel_rfl
@[go_sem] theorem tagg91 : Abs.tagg Tryz.prog 91 = true := by kernel_rfl
@[go_sem] theorem tsize91 : Abs.tsize Tryz.prog 91 = 3 := by kernel_rfl
@[go_sem] theorem tzero91 : Abs.tzero Tryz.prog 91 = some [.t (.lit (.bool false)), .t (.seq (some true) []), .t (.seq (some true) [])] := by kernel_rfl
@[go_sem] theorem tbytes91 : Abs.tbytes Tryz.prog 91 = 56 := by kernel_rfl
@[go_sem] theorem tst91 : Abs.isStructD (Abs.tdesc Tryz.prog 91) = true := by kernel_rfl
@[go_sem] theorem tnf91 : Abs.nfields Tryz.prog 91 = 2 := by kernel_rfl
@[go_sem] theorem tpt91 : Abs.partsTok Tryz.prog 91 = true := by kernel_rfl
@[go_sem] theorem tfo91_0 : Abs.foff Tryz.prog 91 0 = 0 := by kernel_rfl
@[go_sem] theorem tft91_0 : Abs.fty Tryz.prog 91 0 = 28 := by kernel_rfl
@[go_sem] theorem tpl91_0 : Abs.placesA Tryz.prog 91 0 = some (0, 2) := by kernel_rfl
@[go_sem] theorem tfo91_1 : Abs.foff Tryz.prog 91 1 = 2 := by kernel_rfl
@[go_sem] theorem tft91_1 : Abs.fty Tryz.prog 91 1 = 26 := by kernel_rfl
@[go_sem] theorem tpl91_1 : Abs.placesA Tryz.prog 91 1 = some (2, 1) := by kernel_rfl
@[go_sem] theorem tok92 : Abs.tok Tryz.prog 92 = true := by kernel_rfl
@[go_sem] theorem tagg92 : Abs.tagg Tryz.prog 92 = true := by kernel_rfl
@[go_sem] theorem tsize92 : Abs.tsize Tryz.prog 92 = 3 := by kernel_rfl
@[go_sem] theorem tzero92 : Abs.tzero Tryz.prog 92 = some [.t (.lit (.bool false)), .t (.seq (some true) []), .t (.seq (some true) [])] := by kernel_rfl
@[go_sem] theorem tbytes92 : Abs.tbytes Tryz.prog 92 = 56 := by kernel_rfl
@[go_sem] theorem tst92 : Abs.isStructD (Abs.tdesc Tryz.prog 92) = true := by kernel_rfl
@[go_sem] theorem tnf92 : Abs.nfields Tryz.prog 92 = 1 := by kernel_rfl
@[go_sem] theorem tpt92 : Abs.partsTok Tryz.prog 92 = true := by kernel_rfl
@[go_sem] theorem tfo92_0 : Abs.foff Tryz.prog 92 0 = 0 := by kernel_rfl
@[go_sem] theorem tft92_0 : Abs.fty Tryz.prog 92 0 = 91 := by kernel_rfl
@[go_sem] theorem tpl92_0 : Abs.placesA Tryz.prog 92 0 = some (0, 3) := by kernel_rfl
@[go_sem] theorem tok93 : Abs.tok Tryz.prog 93 = true := by kernel_rfl
@[go_sem] theorem tagg93 : Abs.tagg Tryz.prog 93 = true := by kernel_rfl
@[go_sem] theorem tsize93 : Abs.tsize Tryz.prog 93 = 3 := by kernel_rfl
@[go_sem] theorem tzero93 : Abs.tzero Tryz.prog 93 = some [.t (.lit (.bool false)), .t (.seq (some true) []), .t (.seq (some true) [])] := by kernel_rfl
@[go_sem] theorem tbytes93 : Abs.tbytes Tryz.prog 93 = 56 := by kernel_rfl
@[go_sem] theorem tst93 : Abs.isStructD (Abs.tdesc Tryz.prog 93) = true := by kernel_rfl
@[go_sem] theorem tnf93 : Abs.nfields Tryz.prog 93 = 1 := by kernel_rfl
@[go_sem] theorem tpt93 : Abs.partsTok Tryz.prog 93 = true := by kernel_rfl
@[go_sem] theorem tfo93_0 : Abs.foff Tryz.prog 93 0 = 0 := by kernel_rfl
@[go_sem] theorem tft93_0 : Abs.fty Tryz.prog 93 0 = 91 := by kernel_rfl
@[go_sem] theorem tpl93_0 : Abs.placesA Tryz.prog 93 0 = some (0, 3) := by kernel_rfl
@[go_sem] theorem tok94 : Abs.tok Tryz.prog 94 = true := by kernel_rfl
@[go_sem] theorem tagg94 : Abs.tagg Tryz.prog 94 = false := by kernel_rfl
@[go_sem] theorem tsize94 : Abs.tsize Tryz.prog 94 = 1 := by kernel_rfl
@[go_sem] theorem tzero94 : Abs.tzero Tryz.prog 94 = some [.t (.lit .nilFunc)] := by kernel_rfl
@[go_sem] theorem tok95 : Abs.tok Tryz.prog 95 = true := by kernel_rfl
@[go_sem] theorem tagg95 : Abs.tagg Tryz.prog 95 = false := by kernel_rfl
@[go_sem] theorem tsize95 : Abs.tsize Tryz.prog 95 = 1 := by kernel_rfl
@[go_sem] theorem tzero95 : Abs.tzero Tryz.prog 95 = some [.t (.lit .nilFunc)] := by kernel_rfl
@[go_sem] theorem tok96 : Abs.tok Tryz.prog 96 = true := by kernel_rfl
@[go_sem] theorem tagg96 : Abs.tagg Tryz.prog 96 = false := by kernel_rfl
@[go_sem] theorem tsize96 : Abs.tsize Tryz.prog 96 = 1 := by kernel_rfl
@[go_sem] theorem tzero96 : Abs.tzero Tryz.prog 96 = some [.t (.lit .nilFunc)] := by kernel_rfl
@[go_sem] theorem tok97 : Abs.tok Tryz.prog 97 = true := by kernel_rfl
@[go_sem] theorem tagg97 : Abs.tagg Tryz.prog 97 = false := by kernel_rfl
@[go_sem] theorem tsize97 : Abs.tsize Tryz.prog 97 = 1 := by kernel_rfl
@[go_sem] theorem tzero97 : Abs.tzero Tryz.prog 97 = some [.t (.lit .nilFunc)] := by kernel_rfl
@[go_sem] theorem tok98 : Abs.tok Tryz.prog 98 = true := by kernel_rfl
@[go_sem] theorem tagg98 : Abs.tagg Tryz.prog 98 = false := by kernel_rfl
@[go_sem] theorem tsize98 : Abs.tsize Tryz.prog 98 = 1 := by kernel_rfl
@[go_sem] theorem tzero98 : Abs.tzero Tryz.prog 98 = some [.t (.lit .nilFunc)] := by kernel_rfl
@[go_sem] theorem tok99 : Abs.tok Tryz.prog 99 = true := by kernel_rfl
@[go_sem] theorem tagg99 : Abs.tagg Tryz.prog 99 = false := by kernel_rfl
@[go_sem] theorem tsize99 : Abs.tsize Tryz.prog 99 = 1 := by kernel_rfl
@[go_sem] theorem tzero99 : Abs.tzero Tryz.prog 99 = some [.t (.lit .nilFunc)] := by kernel_rfl
@[go_sem] theorem tok100 : Abs.tok Tryz.prog 100 = true := by kernel_rfl
@[go_sem] theorem tagg100 : Abs.tagg Tryz.prog 100 = false := by kernel_rfl
@[go_sem] theorem tsize100 : Abs.tsize Tryz.prog 100 = 1 := by kernel_rfl
@[go_sem] theorem tzero100 : Abs.tzero Tryz.prog 100 = some [.t (.lit .nilFunc)] := by kernel_rfl
@[go_sem] theorem tok101 : Abs.tok Tryz.prog 101 = true := by kernel_rfl
@[go_sem] theorem tagg101 : Abs.tagg Tryz.prog 101 = false := by kernel_rfl
@[go_sem] theorem tsize101 : Abs.tsize Tryz.prog 101 = 1 := by kernel_rfl
@[go_sem] theorem tzero101 : Abs.tzero Tryz.prog 101 = some [.t (.lit .nilFunc)] := by kernel_rfl
@[go_sem] theorem tok103 : Abs.tok Tryz.prog 103 = true := by kernel_rfl
@[go_sem] theorem tagg103 : Abs.tagg Tryz.prog 103 = false := by kernel_rfl
@[go_sem] theorem tsize103 : Abs.tsize Tryz.prog 103 = 1 := by kernel_rfl
@[go_sem] theorem tzero103 : Abs.tzero Tryz.prog 103 = some [.t (.lit .nilFunc)] := by kernel_rfl
@[go_sem] theorem tok105 : Abs.tok Tryz.prog 105 = true := by kernel_rfl
@[go_sem] theorem tagg105 : Abs.tagg Tryz.prog 105 = false := by kernel_rfl
@[go_sem] theorem tsize105 : Abs.tsize Tryz.prog 105 = 1 := by kernel_rfl
@[go_sem] theorem tzero105 : Abs.tzero Tryz.prog 105 = some [.t (.lit .nilFunc)] := by kernel_rfl
@[go_sem] theorem tok107 : Abs.tok Tryz.prog 107 = true := by kernel_rfl
@[go_sem] theorem tagg107 : Abs.tagg Tryz.prog 107 = false := by kernel_rfl
@[go_sem] theorem tsize107 : Abs.tsize Tryz.prog 107 = 1 := by kernel_rfl
@[go_sem] theorem tzero107 : Abs.tzero Tryz.prog 107 = some [.t (.lit .nilFunc)] := by kernel_rfl
@[go_sem] theorem tok108 : Abs.tok Tryz.prog 108 = true := by kernel_rfl
@[go_sem] theorem tagg108 : Abs.tagg Tryz.prog 108 = false := by kernel_rfl
@[go_sem] theorem tsize108 : Abs.tsize Tryz.prog 108 = 1 := by kernel_rfl
@[go_sem] theorem tzero108 : Abs.tzero Tryz.prog 108 = some [.t (.lit .nilFunc)] := by kernel_rfl
@[go_sem] theorem tok109 : Abs.tok Tryz.prog 109 = true := by kernel_rfl
@[go_sem] theorem tagg109 : Abs.tagg Tryz.prog 109 = false := by kernel_rfl
@[go_sem] theorem tsize109 : Abs.tsize Tryz.prog 109 = 1 := by kernel_rfl
@[go_sem] theorem tzero109 : Abs.tzero Tryz.prog 109 = some [.t (.lit .nilFunc)] := by kernel_rfl
@[go_sem] theorem tok110 : Abs.tok Tryz.prog 110 = true := by kernel_rfl
@[go_sem] theorem tagg110 : Abs.tagg Tryz.prog 110 = false := by kernel_rfl
@[go_sem] theorem tsize110 : Abs.tsize Tryz.prog 110 = 1 := by kernel_rfl
@[go_sem] theorem tzero110 : Abs.tzero Tryz.prog 110 = some [.t (.lit .nilFunc)] := by kernel_rfl
@[go_sem] theorem tok111 : Abs.tok Tryz.prog 111 = true := by kernel_rfl
@[go_sem] theorem tagg111 : Abs.tagg Tryz.prog 111 = false := by kernel_rfl
@[go_sem] theorem tsize111 : Abs.tsize Tryz.prog 111 = 1 := by kernel_rfl
@[go_sem] theorem tzero111 : Abs.tzero Tryz.prog 111 = some [.t (.lit .nilFunc)] := by kernel_rfl
@[go_sem] theorem tok112 : Abs.tok Tryz.prog 112 = true := by kernel_rfl
@[go_sem] theorem tagg112 : Abs.tagg Tryz.prog 112 = false := by kernel_rfl
@[go_sem] theorem tsize112 : Abs.tsize Tryz.prog 112 = 1 := by kernel_rfl
@[go_sem] theorem tzero112 : Abs.tzero Tryz.prog 112 = some [.t (.lit .nilFunc)] := by kernel_rfl
@[go_sem] theorem tok113 : Abs.tok Tryz.prog 113 = true := by kernel_rfl
@[go_sem] theorem tagg113 : Abs.tagg Tryz.prog 113 = true := by kernel_rfl
@[go_sem] theorem tsize113 : Abs.tsize Tryz.prog 113 = 2 := by kernel_rfl
@[go_sem] theorem tzero113 : Abs.tzero Tryz.prog 113 = some [.t (.seq (some true) []), .t (.seq (some true) [])] := by kernel_rfl
@[go_sem] theorem tbytes113 : Abs.tbytes Tryz.prog 113 = 48 := by kernel_rfl
@[go_sem] theorem tsl113 : Abs.isSliceD (Abs.tdesc Tryz.prog 113) = false := by kernel_rfl
@[go_sem] theorem tar113 : Abs.isArrayD (Abs.tdesc Tryz.prog 113) = true := by kernel_rfl
@[go_sem] theorem telem113 : Abs.telem Tryz.prog 113 = 63 := by kernel_rfl
@[go_sem] theorem tlen113 : Abs.arrLen (Abs.tdesc Tryz.prog 113) = 2 := by kernel_rfl
@[go_sem] theorem tpt113 : Abs.partsTok Tryz.prog 113 = true := by kernel_rfl
@[go_sem] theorem tpl113_0 : Abs.placesA Tryz.prog 113 0 = some (0, 1) := by kernel_rfl
@[go_sem] theorem tpl113_1 : Abs.placesA Tryz.prog 113 1 = some (1, 1) := by kernel_rfl
@[go_sem] theorem tok114 : Abs.tok Tryz.prog 114 = true := by kernel_rfl
@[go_sem] theorem tagg114 : Abs.tagg Tryz.prog 114 = false := by kernel_rfl
@[go_sem] theorem tsize114 : Abs.tsize Tryz.prog 114 = 1 := by kernel_rfl
@[go_sem] theorem tzero114 : Abs.tzero Tryz.prog 114 = some [.t (.lit .nilFunc)] := by kernel_rfl
@[go_sem] theorem tok116 : Abs.tok Tryz.prog 116 = true := by kernel_rfl
@[go_sem] theorem tagg116 : Abs.tagg Tryz.prog 116 = false := by kernel_rfl
@[go_sem] theorem tsize116 : Abs.tsize Tryz.prog 116 = 1 := by kernel_rfl
@[go_sem] theorem tzero116 : Abs.tzero Tryz.prog 116 = some [.t (.lit .nilFunc)] := by kernel_rfl
@[go_sem] theorem tok117 : Abs.tok Tryz.prog 117 = true := by kernel_rfl
@[go_sem] theorem tagg117 : Abs.tagg Tryz.prog 117 = false := by kernel_rfl
@[go_sem] theorem tsize117 : Abs.tsize Tryz.prog 117 = 1 := by kernel_rfl
@[go_sem] theorem tzero117 : Abs.tzero Tryz.prog 117 = some [.t (.lit .nilFunc)] := by kernel_rfl
@[go_sem] theorem tok118 : Abs.tok Tryz.prog 118 = true := by kernel_rfl
@[go_sem] theorem tagg118 : Abs.tagg Tryz.prog 118 = false := by kernel_rfl
@[go_sem] theorem tsize118 : Abs.tsize Tryz.prog 118 = 1 := by kernel_rfl
@[go_sem] theorem tzero118 : Abs.tzero Tryz.prog 118 = some [.t (.seq (some true) [])] := by kernel_rfl
@[go_sem] theorem tbytes118 : Abs.tbytes Tryz.prog 118 = 24 := by kernel_rfl
@[go_sem] theorem tsl118 : Abs.isSliceD (Abs.tdesc Tryz.prog 118) = true := by kernel_rfl
@[go_sem] theorem telem118 : Abs.telem Tryz.prog 118 = 26 := by kernel_rfl
@[go_sem] theorem tok119 : Abs.tok Tryz.prog 119 = true := by kernel_rfl
@[go_sem] theorem tagg119 : Abs.tagg Tryz.prog 119 = false := by kernel_rfl
@[go_sem] theorem tsize119 : Abs.tsize Tryz.prog 119 = 1 := by kernel_rfl
@[go_sem] theorem tzero119 : Abs.tzero Tryz.prog 119 = some [.t (.lit .nilFunc)] := by kernel_rfl
@[go_sem] theorem tok120 : Abs.tok Tryz.prog 120 = true := by kernel_rfl
@[go_sem] theorem tagg120 : Abs.tagg Tryz.prog 120 = false := by kernel_rfl
@[go_sem] theorem tsize120 : Abs.tsize Tryz.prog 120 = 1 := by kernel_rfl
@[go_sem] theorem tzero120 : Abs.tzero Tryz.prog 120 = some [.t (.lit .nilFunc)] := by kernel_rfl
@[go_sem] theorem tok121 : Abs.tok Tryz.prog 121 = true := by kernel_rfl
@[go_sem] theorem tagg121 : Abs.tagg Tryz.prog 121 = false := by kernel_rfl
@[go_sem] theorem tsize121 : Abs.tsize Tryz.prog 121 = 1 := by kernel_rfl
@[go_sem] theorem tzero121 : Abs.tzero Tryz.prog 121 = some [.t (.lit .nilFunc)] := by kernel_rfl
@[go_sem] theorem tok122 : Abs.tok Tryz.prog 122 = true := by kernel_rfl
@[go_sem] theorem tagg122 : Abs.tagg Tryz.prog 122 = false := by kernel_rfl
@[go_sem] theorem tsize122 : Abs.tsize Tryz.prog 122 = 1 := by kernel_rfl
@[go_sem] theorem tzero122 : Abs.tzero Tryz.prog 122 = some [.t (.lit .nilFunc)] := by kernel_rfl
@[go_sem] theorem tok123 : Abs.tok Tryz.prog 123 = true := by kernel_rfl
@[go_sem] theorem tagg123 : Abs.tagg Tryz.prog 123 = false := by kernel_rfl
@[go_sem] theorem tsize123 : Abs.tsize Tryz.prog 123 = 1 := by kernel_rfl
@[go_sem] theorem tzero123 : Abs.tzero Tryz.prog 123 = some [.t (.lit .nilFunc)] := by kernel_rfl
@[go_sem] theorem tok124 : Abs.tok Tryz.prog 124 = true := by kernel_rfl
@[go_sem] theorem tagg124 : Abs.tagg Tryz.prog 124 = false := by kernel_rfl
@[go_sem] theorem tsize124 : Abs.tsize Tryz.prog 124 = 1 := by kernel_rfl
@[go_sem] theorem tzero124 : Abs.tzero Tryz.prog 124 = some [.t (.lit .nilFunc)] := by kernel_rfl
@[go_sem] theorem tok125 : Abs.tok Tryz.prog 125 = true := by kernel_rfl
@[go_sem] theorem tagg125 : Abs.tagg Tryz.prog 125 = false := by kernel_rfl
@[go_sem] theorem tsize125 : Abs.tsize Tryz.prog 125 = 1 := by kernel_rfl
@[go_sem] theorem tzero125 : Abs.tzero Tryz.prog 125 = some [.t (.lit .nilFunc)] := by kernel_rfl
@[go_sem] theorem tok126 : Abs.tok Tryz.prog 126 = true := by kernel_rfl
@[go_sem] theorem tagg126 : Abs.tagg Tryz.prog 126 = false := by kernel_rfl
@[go_sem] theorem tsize126 : Abs.tsize Tryz.prog 126 = 1 := by kernel_rfl
@[go_sem] theorem tzero126 : Abs.tzero Tryz.prog 126 = some [.t (.lit .nilFunc)] := by kernel_rfl
@[go_sem] theorem tok127 : Abs.tok Tryz.prog 127 = true := by kernel_rfl
@[go_sem] theorem tagg127 : Abs.tagg Tryz.prog 127 = true := by kernel_rfl
@[go_sem] theorem tsize127 : Abs.tsize Tryz.prog 127 = 4 := by kernel_rfl
@[go_sem] theorem tzero127 : Abs.tzero Tryz.prog 127 = some [.t (.lit (.pointer none)), .t (.lit (.pointer none)), .t (.lit (.pointer none)), .t (.lit (.string ⟨#[]⟩))] := by kernel_rfl
@[go_sem] theorem tbytes127 : Abs.tbytes Tryz.prog 127 = 40 := by kernel_rfl
@[go_sem] theorem tst127 : Abs.isStructD (Abs.tdesc Tryz.prog 127) = true := by kernel_rfl
@[go_sem] theorem tnf127 : Abs.nfields Tryz.prog 127 = 4 := by kernel_rfl
@[go_sem] theorem tpt127 : Abs.partsTok Tryz.prog 127 = true := by kernel_rfl
@[go_sem] theorem tfo127_0 : Abs.foff Tryz.prog 127 0 = 0 := by kernel_rfl
@[go_sem] theorem tft127_0 : Abs.fty Tryz.prog 127 0 = 17 := by kernel_rfl
@[go_sem] theorem tpl127_0 : Abs.placesA Tryz.prog 127 0 = some (0, 1) := by kernel_rfl
@[go_sem] theorem tfo127_1 : Abs.foff Tryz.prog 127 1 = 1 := by kernel_rfl
@[go_sem] theorem tft127_1 : Abs.fty Tryz.prog 127 1 = 17 := by kernel_rfl
@[go_sem] theorem tpl127_1 : Abs.placesA Tryz.prog 127 1 = some (1, 1) := by kernel_rfl
@[go_sem] theorem tfo127_2 : Abs.foff Tryz.prog 127 2 = 2 := by kernel_rfl
@[go_sem] theorem tft127_2 : Abs.fty Tryz.prog 127 2 = 17 := by kernel_rfl
@[go_sem] theorem tpl127_2 : Abs.placesA Tryz.prog 127 2 = some (2, 1) := by kernel_rfl
@[go_sem] theorem tfo127_3 : Abs.foff Tryz.prog 127 3 = 3 := by kernel_rfl
@[go_sem] theorem tft127_3 : Abs.fty Tryz.prog 127 3 = 9 := by kernel_rfl
@[go_sem] theorem tpl127_3 : Abs.placesA Tryz.prog 127 3 = some (3, 1) := by kernel_rfl
@[go_sem] theorem tok128 : Abs.tok Tryz.prog 128 = true := by kernel_rfl
@[go_sem] theorem tagg128 : Abs.tagg Tryz.prog 128 = true := by kernel_rfl
@[go_sem] theorem tsize128 : Abs.tsize Tryz.prog 128 = 4 := by kernel_rfl
@[go_sem] theorem tzero128 : Abs.tzero Tryz.prog 128 = some [.t (.lit (.pointer none)), .t (.lit (.pointer none)), .t (.lit (.pointer none)), .t (.lit (.string ⟨#[]⟩))] := by kernel_rfl
@[go_sem] theorem tbytes128 : Abs.tbytes Tryz.prog 128 = 40 := by kernel_rfl
@[go_sem] theorem tst128 : Abs.isStructD (Abs.tdesc Tryz.prog 128) = true := by kernel_rfl
@[go_sem] theorem tnf128 : Abs.nfields Tryz.prog 128 = 4 := by kernel_rfl
@[go_sem] theorem tpt128 : Abs.partsTok Tryz.prog 128 = true := by kernel_rfl
@[go_sem] theorem tfo128_0 : Abs.foff Tryz.prog 128 0 = 0 := by kernel_rfl
@[go_sem] theorem tft128_0 : Abs.fty Tryz.prog 128 0 = 17 := by kernel_rfl
@[go_sem] theorem tpl128_0 : Abs.placesA Tryz.prog 128 0 = some (0, 1) := by kernel_rfl
@[go_sem] theorem tfo128_1 : Abs.foff Tryz.prog 128 1 = 1 := by kernel_rfl
@[go_sem] theorem tft128_1 : Abs.fty Tryz.prog 128 1 = 17 := by kernel_rfl
@[go_sem] theorem tpl128_1 : Abs.placesA Tryz.prog 128 1 = some (1, 1) := by kernel_rfl
@[go_sem] theorem tfo128_2 : Abs.foff Tryz.prog 128 2 = 2 := by kernel_rfl
@[go_sem] theorem tft128_2 : Abs.fty Tryz.prog 128 2 = 17 := by kernel_rfl
@[go_sem] theorem tpl128_2 : Abs.placesA Tryz.prog 128 2 = some (2, 1) := by kernel_rfl
@[go_sem] theorem tfo128_3 : Abs.foff Tryz.prog 128 3 = 3 := by kernel_rfl
@[go_sem] theorem tft128_3 : Abs.fty Tryz.prog 128 3 = 9 := by kernel_rfl
@[go_sem] theorem tpl128_3 : Abs.placesA Tryz.prog 128 3 = some (3, 1) := by kernel_rfl
@[go_sem] theorem tok129 : Abs.tok Tryz.prog 129 = true := by kernel_rfl
@[go_sem] theorem tagg129 : Abs.tagg Tryz.prog 129 = true := by kernel_rfl
@[go_sem] theorem tsize129 : Abs.tsize Tryz.prog 129 = 0 := by kernel_rfl
@[go_sem] theorem tzero129 : Abs.tzero Tryz.prog 129 = some [] := by kernel_rfl
@[go_sem] theorem tbytes129 : Abs.tbytes Tryz.prog 129 = 0 := by kernel_rfl
@[go_sem] theorem tsl129 : Abs.isSliceD (Abs.tdesc Tryz.prog 129) = false := by kernel_rfl
@[go_sem] theorem tar129 : Abs.isArrayD (Abs.tdesc Tryz.prog 129) = true := by kernel_rfl
@[go_sem] theorem telem129 : Abs.telem Tryz.prog 129 = 16 := by kernel_rfl
@[go_sem] theorem tlen129 : Abs.arrLen (Abs.tdesc Tryz.prog 129) = 0 := by kernel_rfl
@[go_sem] theorem tpt129 : Abs.partsTok Tryz.prog 129 = true := by kernel_rfl
@[go_sem] theorem tok130 : Abs.tok Tryz.prog 130 = true := by kernel_rfl
@[go_sem] theorem tagg130 : Abs.tagg Tryz.prog 130 = true := by kernel_rfl
@[go_sem] theorem tsize130 : Abs.tsize Tryz.prog 130 = 0 := by kernel_rfl
@[go_sem] theorem tzero130 : Abs.tzero Tryz.prog 130 = some [] := by kernel_rfl
@[go_sem] theorem tbytes130 : Abs.tbytes Tryz.prog 130 = 0 := by kernel_rfl
@[go_sem] theorem tst130 : Abs.isStructD (Abs.tdesc Tryz.prog 130) = true := by kernel_rfl
@[go_sem] theorem tnf130 : Abs.nfields Tryz.prog 130 = 1 := by kernel_rfl
@[go_sem] theorem tpt130 : Abs.partsTok Tryz.prog 130 = true := by kernel_rfl
@[go_sem] theorem tfo130_0 : Abs.foff Tryz.prog 130 0 = 0 := by kernel_rfl
@[go_sem] theorem tft130_0 : Abs.fty Tryz.prog 130 0 = 129 := by kernel_rfl
@[go_sem] theorem tpl130_0 : Abs.placesA Tryz.prog 130 0 = some (0, 0) := by kernel_rfl
@[go_sem] theorem tok131 : Abs.tok Tryz.prog 131 = true := by kernel_rfl
@[go_sem] theorem tagg131 : Abs.tagg Tryz.prog 131 = true := by kernel_rfl
@[go_sem] theorem tsize131 : Abs.tsize Tryz.prog 131 = 0 := by kernel_rfl
@[go_sem] theorem tzero131 : Abs.tzero Tryz.prog 131 = some [] := by kernel_rfl
@[go_sem] theorem tbytes131 : Abs.tbytes Tryz.prog 131 = 0 := by kernel_rfl
@[go_sem] theorem tst131 : Abs.isStructD (Abs.tdesc Tryz.prog 131) = true := by kernel_rfl
@[go_sem] theorem tnf131 : Abs.nfields Tryz.prog 131 = 1 := by kernel_rfl
@[go_sem] theorem tpt131 : Abs.partsTok Tryz.prog 131 = true := by kernel_rfl
@[go_sem] theorem tfo131_0 : Abs.foff Tryz.prog 131 0 = 0 := by kernel_rfl
@[go_sem] theorem tft131_0 : Abs.fty Tryz.prog 131 0 = 129 := by kernel_rfl
@[go_sem] theorem tpl131_0 : Abs.placesA Tryz.prog 131 0 = some (0, 0) := by kernel_rfl
@[go_sem] theorem tok132 : Abs.tok Tryz.prog 132 = true := by kernel_rfl
@[go_sem] theorem tagg132 : Abs.tagg Tryz.prog 132 = false := by kernel_rfl
@[go_sem] theorem tsize132 : Abs.tsize Tryz.prog 132 = 1 := by kernel_rfl
@[go_sem] theorem tzero132 : Abs.tzero Tryz.prog 132 = some [.t (.lit (.int .u8 0))] := by kernel_rfl
@[go_sem] theorem tbytes132 : Abs.tbytes Tryz.prog 132 = 1 := by kernel_rfl
@[go_sem] theorem tint132 : Abs.intD (Abs.tdesc Tryz.prog 132) = some .u8 := by kernel_rfl
@[go_sem] theorem tok133 : Abs.tok Tryz.prog 133 = true := by kernel_rfl
@[go_sem] theorem tagg133 : Abs.tagg Tryz.prog 133 = false := by kernel_rfl
@[go_sem] theorem tsize133 : Abs.tsize Tryz.prog 133 = 1 := by kernel_rfl
@[go_sem] theorem tzero133 : Abs.tzero Tryz.prog 133 = some [.t (.lit (.int .u8 0))] := by kernel_rfl
@[go_sem] theorem tbytes133 : Abs.tbytes Tryz.prog 133 = 1 := by kernel_rfl
@[go_sem] theorem tint133 : Abs.intD (Abs.tdesc Tryz.prog 133) = some .u8 := by kernel_rfl
@[go_sem] theorem tok134 : Abs.tok Tryz.prog 134 = true := by kernel_rfl
@[go_sem] theorem tagg134 : Abs.tagg Tryz.prog 134 = false := by kernel_rfl
@[go_sem] theorem tsize134 : Abs.tsize Tryz.prog 134 = 1 := by kernel_rfl
@[go_sem] theorem tzero134 : Abs.tzero Tryz.prog 134 = some [.t (.lit .nilFunc)] := by kernel_rfl
@[go_sem] theorem tok135 : Abs.tok Tryz.prog 135 = true := by kernel_rfl
@[go_sem] theorem tagg135 : Abs.tagg Tryz.prog 135 = false := by kernel_rfl
@[go_sem] theorem tsize135 : Abs.tsize Tryz.prog 135 = 1 := by kernel_rfl
@[go_sem] theorem tzero135 : Abs.tzero Tryz.prog 135 = some [.t (.lit (.pointer none))] := by kernel_rfl
@[go_sem] theorem tbytes135 : Abs.tbytes Tryz.prog 135 = 8 := by kernel_rfl
@[go_sem] theorem tok136 : Abs.tok Tryz.prog 136 = true := by kernel_rfl
@[go_sem] theorem tagg136 : Abs.tagg Tryz.prog 136 = false := by kernel_rfl
@[go_sem] theorem tsize136 : Abs.tsize Tryz.prog 136 = 1 := by kernel_rfl
@[go_sem] theorem tzero136 : Abs.tzero Tryz.prog 136 = some [.t (.lit (.int .i32 0))] := by kernel_rfl
@[go_sem] theorem tbytes136 : Abs.tbytes Tryz.prog 136 = 4 := by kernel_rfl
@[go_sem] theorem tint136 : Abs.intD (Abs.tdesc Tryz.prog 136) = some .i32 := by kernel_rfl
@[go_sem] theorem tok137 : Abs.tok Tryz.prog 137 = true := by kernel_rfl
@[go_sem] theorem tagg137 : Abs.tagg Tryz.prog 137 = false := by kernel_rfl
@[go_sem] theorem tsize137 : Abs.tsize Tryz.prog 137 = 1 := by kernel_rfl
@[go_sem] theorem tzero137 : Abs.tzero Tryz.prog 137 = some [.t (.lit (.int .i32 0))] := by kernel_rfl
@[go_sem] theorem tbytes137 : Abs.tbytes Tryz.prog 137 = 4 := by kernel_rfl
@[go_sem] theorem tint137 : Abs.intD (Abs.tdesc Tryz.prog 137) = some .i32 := by kernel_rfl
@[go_sem] theorem tok138 : Abs.tok Tryz.prog 138 = true := by kernel_rfl
@[go_sem] theorem tagg138 : Abs.tagg Tryz.prog 138 = true := by kernel_rfl
@[go_sem] theorem tsize138 : Abs.tsize Tryz.prog 138 = 11 := by kernel_rfl
@[go_sem] theorem tzero138 : Abs.tzero Tryz.prog 138 = some [.t (.lit (.int .u64 0)), .t (.lit (.int .u64 0)), .t (.lit (.int .u32 0)), .t (.lit (.int .u8 0)), .t (.lit (.int .u8 0)), .t (.lit (.int .u8 0)), .t (.lit (.int .u8 0)), .t (.lit .nilFunc), .t (.lit (.pointer none)), .t (.lit (.int .i32 0)), .t (.lit (.int .i32 0))] := by kernel_rfl
@[go_sem] theorem tbytes138 : Abs.tbytes Tryz.prog 138 = 48 := by kernel_rfl
@[go_sem] theorem tst138 : Abs.isStructD (Abs.tdesc Tryz.prog 138) = true := by kernel_rfl
@[go_sem] theorem tnf138 : Abs.nfields Tryz.prog 138 = 11 := by kernel_rfl
@[go_sem] theorem tpt138 : Abs.partsTok Tryz.prog 138 = true := by kernel_rfl
@[go_sem] theorem tfo138_0 : Abs.foff Tryz.prog 138 0 = 0 := by kernel_rfl
@[go_sem] theorem tft138_0 : Abs.fty Tryz.prog 138 0 = 12 := by kernel_rfl
@[go_sem] theorem tpl138_0 : Abs.placesA Tryz.prog 138 0 = some (0, 1) := by kernel_rfl
@[go_sem] theorem tfo138_1 : Abs.foff Tryz.prog 138 1 = 1 := by kernel_rfl
@[go_sem] theorem tft138_1 : Abs.fty Tryz.prog 138 1 = 12 := by kernel_rfl
@[go_sem] theorem tpl138_1 : Abs.placesA Tryz.prog 138 1 = some (1, 1) := by kernel_rfl
@[go_sem] theorem tfo138_2 : Abs.foff Tryz.prog 138 2 = 2 := by kernel_rfl
@[go_sem] theorem tft138_2 : Abs.fty Tryz.prog 138 2 = 56 := by kernel_rfl
@[go_sem] theorem tpl138_2 : Abs.placesA Tryz.prog 138 2 = some (2, 1) := by kernel_rfl
@[go_sem] theorem tfo138_3 : Abs.foff Tryz.prog 138 3 = 3 := by kernel_rfl
@[go_sem] theorem tft138_3 : Abs.fty Tryz.prog 138 3 = 132 := by kernel_rfl
@[go_sem] theorem tpl138_3 : Abs.placesA Tryz.prog 138 3 = some (3, 1) := by kernel_rfl
@[go_sem] theorem tfo138_4 : Abs.foff Tryz.prog 138 4 = 4 := by kernel_rfl
@[go_sem] theorem tft138_4 : Abs.fty Tryz.prog 138 4 = 5 := by kernel_rfl
@[go_sem] theorem tpl138_4 : Abs.placesA Tryz.prog 138 4 = some (4, 1) := by kernel_rfl
@[go_sem] theorem tfo138_5 : Abs.foff Tryz.prog 138 5 = 5 := by kernel_rfl
@[go_sem] theorem tft138_5 : Abs.fty Tryz.prog 138 5 = 5 := by kernel_rfl
@[go_sem] theorem tpl138_5 : Abs.placesA Tryz.prog 138 5 = some (5, 1) := by kernel_rfl
@[go_sem] theorem tfo138_6 : Abs.foff Tryz.prog 138 6 = 6 := by kernel_rfl
@[go_sem] theorem tft138_6 : Abs.fty Tryz.prog 138 6 = 133 := by kernel_rfl
@[go_sem] theorem tpl138_6 : Abs.placesA Tryz.prog 138 6 = some (6, 1) := by kernel_rfl
@[go_sem] theorem tfo138_7 : Abs.foff Tryz.prog 138 7 = 7 := by kernel_rfl
@[go_sem] theorem tft138_7 : Abs.fty Tryz.prog 138 7 = 134 := by kernel_rfl
@[go_sem] theorem tpl138_7 : Abs.placesA Tryz.prog 138 7 = some (7, 1) := by kernel_rfl
@[go_sem] theorem tfo138_8 : Abs.foff Tryz.prog 138 8 = 8 := by kernel_rfl
@[go_sem] theorem tft138_8 : Abs.fty Tryz.prog 138 8 = 135 := by kernel_rfl
@[go_sem] theorem tpl138_8 : Abs.placesA Tryz.prog 138 8 = some (8, 1) := by kernel_rfl
@[go_sem] theorem tfo138_9 : Abs.foff Tryz.prog 138 9 = 9 := by kernel_rfl
@[go_sem] theorem tft138_9 : Abs.fty Tryz.prog 138 9 = 136 := by kernel_rfl
@[go_sem] theorem tpl138_9 : Abs.placesA Tryz.prog 138 9 = some (9, 1) := by kernel_rfl
@[go_sem] theorem tfo138_10 : Abs.foff Tryz.prog 138 10 = 10 := by kernel_rfl
@[go_sem] theorem tft138_10 : Abs.fty Tryz.prog 138 10 = 137 := by kernel_rfl
@[go_sem] theorem tpl138_10 : Abs.placesA Tryz.prog 138 10 = some (10, 1) := by kernel_rfl
@[go_sem] theorem tok139 : Abs.tok Tryz.prog 139 = true := by kernel_rfl
@[go_sem] theorem tagg139 : Abs.tagg Tryz.prog 139 = true := by kernel_rfl
@[go_sem] theorem tsize139 : Abs.tsize Tryz.prog 139 = 11 := by kernel_rfl
@[go_sem] theorem tzero139 : Abs.tzero Tryz.prog 139 = some [.t (.lit (.int .u64 0)), .t (.lit (.int .u64 0)), .t (.lit (.int .u32 0)), .t (.lit (.int .u8 0)), .t (.lit (.int .u8 0)), .t (.lit (.int .u8 0)), .t (.lit (.int .u8 0)), .t (.lit .nilFunc), .t (.lit (.pointer none)), .t (.lit (.int .i32 0)), .t (.lit (.int .i32 0))] := by kernel_rfl
@[go_sem] theorem tbytes139 : Abs.tbytes Tryz.prog 139 = 48 := by kernel_rfl
@[go_sem] theorem tst139 : Abs.isStructD (Abs.tdesc Tryz.prog 139) = true := by kernel_rfl
@[go_sem] theorem tnf139 : Abs.nfields Tryz.prog 139 = 11 := by kernel_rfl
@[go_sem] theorem tpt139 : Abs.partsTok Tryz.prog 139 = true := by kernel_rfl
@[go_sem] theorem tfo139_0 : Abs.foff Tryz.prog 139 0 = 0 := by kernel_rfl
@[go_sem] theorem tft139_0 : Abs.fty Tryz.prog 139 0 = 12 := by kernel_rfl
@[go_sem] theorem tpl139_0 : Abs.placesA Tryz.prog 139 0 = some (0, 1) := by kernel_rfl
@[go_sem] theorem tfo139_1 : Abs.foff Tryz.prog 139 1 = 1 := by kernel_rfl
@[go_sem] theorem tft139_1 : Abs.fty Tryz.prog 139 1 = 12 := by kernel_rfl
@[go_sem] theorem tpl139_1 : Abs.placesA Tryz.prog 139 1 = some (1, 1) := by kernel_rfl
@[go_sem] theorem tfo139_2 : Abs.foff Tryz.prog 139 2 = 2 := by kernel_rfl
@[go_sem] theorem tft139_2 : Abs.fty Tryz.prog 139 2 = 56 := by kernel_rfl
@[go_sem] theorem tpl139_2 : Abs.placesA Tryz.prog 139 2 = some (2, 1) := by kernel_rfl
@[go_sem] theorem tfo139_3 : Abs.foff Tryz.prog 139 3 = 3 := by kernel_rfl
@[go_sem] theorem tft139_3 : Abs.fty Tryz.prog 139 3 = 132 := by kernel_rfl
@[go_sem] theorem tpl139_3 : Abs.placesA Tryz.prog 139 3 = some (3, 1) := by kernel_rfl
@[go_sem] theorem tfo139_4 : Abs.foff Tryz.prog 139 4 = 4 := by kernel_rfl
@[go_sem] theorem tft139_4 : Abs.fty Tryz.prog 139 4 = 5 := by kernel_rfl
@[go_sem] theorem tpl139_4 : Abs.placesA Tryz.prog 139 4 = some (4, 1) := by kernel_rfl
@[go_sem] theorem tfo139_5 : Abs.foff Tryz.prog 139 5 = 5 := by kernel_rfl
@[go_sem] theorem tft139_5 : Abs.fty Tryz.prog 139 5 = 5 := by kernel_rfl
@[go_sem] theorem tpl139_5 : Abs.placesA Tryz.prog 139 5 = some (5, 1) := by kernel_rfl
@[go_sem] theorem tfo139_6 : Abs.foff Tryz.prog 139 6 = 6 := by kernel_rfl
@[go_sem] theorem tft139_6 : Abs.fty Tryz.prog 139 6 = 133 := by kernel_rfl
@[go_sem] theorem tpl139_6 : Abs.placesA Tryz.prog 139 6 = some (6, 1) := by kernel_rfl
@[go_sem] theorem tfo139_7 : Abs.foff Tryz.prog 139 7 = 7 := by kernel_rfl
@[go_sem] theorem tft139_7 : Abs.fty Tryz.prog 139 7 = 134 := by kernel_rfl
@[go_sem] theorem tpl139_7 : Abs.placesA Tryz.prog 139 7 = some (7, 1) := by kernel_rfl
@[go_sem] theorem tfo139_8 : Abs.foff Tryz.prog 139 8 = 8 := by kernel_rfl
@[go_sem] theorem tft139_8 : Abs.fty Tryz.prog 139 8 = 135 := by kernel_rfl
@[go_sem] theorem tpl139_8 : Abs.placesA Tryz.prog 139 8 = some (8, 1) := by kernel_rfl
@[go_sem] theorem tfo139_9 : Abs.foff Tryz.prog 139 9 = 9 := by kernel_rfl
@[go_sem] theorem tft139_9 : Abs.fty Tryz.prog 139 9 = 136 := by kernel_rfl
@[go_sem] theorem tpl139_9 : Abs.placesA Tryz.prog 139 9 = some (9, 1) := by kernel_rfl
@[go_sem] theorem tfo139_10 : Abs.foff Tryz.prog 139 10 = 10 := by kernel_rfl
@[go_sem] theorem tft139_10 : Abs.fty Tryz.prog 139 10 = 137 := by kernel_rfl
@[go_sem] theorem tpl139_10 : Abs.placesA Tryz.prog 139 10 = some (10, 1) := by kernel_rfl
@[go_sem] theorem tok140 : Abs.tok Tryz.prog 140 = true := by kernel_rfl
@[go_sem] theorem tagg140 : Abs.tagg Tryz.prog 140 = false := by kernel_rfl
@[go_sem] theorem tsize140 : Abs.tsize Tryz.prog 140 = 1 := by kernel_rfl
@[go_sem] theorem tzero140 : Abs.tzero Tryz.prog 140 = some [.t (.lit (.pointer none))] := by kernel_rfl
@[go_sem] theorem tbytes140 : Abs.tbytes Tryz.prog 140 = 8 := by kernel_rfl
end Go.Proofs.YtjmbhknhiakkpaaGreat
