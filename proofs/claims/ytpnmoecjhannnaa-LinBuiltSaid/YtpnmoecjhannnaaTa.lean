/- At every input the call answers true and leaves its arguments as they were; no conditions. -/
import Derived.Test.YtpnmoecjhannnaaProg
import Derived.KernelRfl
import Derived.Test.YtpnmoecjhannnaaMb
set_option linter.unusedSimpArgs false
set_option linter.unusedVariables false
namespace Go.Proofs.Ytpnmoecjhannnaa
open Go Go.Abs
@[go_sem] theorem tok1 : Abs.tok Try.prog 1 = true := by kernel_rfl
@[go_sem] theorem tagg1 : Abs.tagg Try.prog 1 = false := by kernel_rfl
@[go_sem] theorem tsize1 : Abs.tsize Try.prog 1 = 1 := by kernel_rfl
@[go_sem] theorem tzero1 : Abs.tzero Try.prog 1 = some [.t (.lit .nilFunc)] := by kernel_rfl
@[go_sem] theorem tok2 : Abs.tok Try.prog 2 = true := by kernel_rfl
@[go_sem] theorem tagg2 : Abs.tagg Try.prog 2 = false := by kernel_rfl
@[go_sem] theorem tsize2 : Abs.tsize Try.prog 2 = 1 := by kernel_rfl
@[go_sem] theorem tzero2 : Abs.tzero Try.prog 2 = some [.t (.lit (.int .i64 0))] := by kernel_rfl
@[go_sem] theorem tbytes2 : Abs.tbytes Try.prog 2 = 8 := by kernel_rfl
@[go_sem] theorem tint2 : Abs.intD (Abs.tdesc Try.prog 2) = some .i64 := by kernel_rfl
@[go_sem] theorem tok3 : Abs.tok Try.prog 3 = true := by kernel_rfl
@[go_sem] theorem tagg3 : Abs.tagg Try.prog 3 = false := by kernel_rfl
@[go_sem] theorem tsize3 : Abs.tsize Try.prog 3 = 1 := by kernel_rfl
@[go_sem] theorem tzero3 : Abs.tzero Try.prog 3 = some [.t (.lit (.int .i64 0))] := by kernel_rfl
@[go_sem] theorem tbytes3 : Abs.tbytes Try.prog 3 = 8 := by kernel_rfl
@[go_sem] theorem tint3 : Abs.intD (Abs.tdesc Try.prog 3) = some .i64 := by kernel_rfl
@[go_sem] theorem tok4 : Abs.tok Try.prog 4 = true := by kernel_rfl
@[go_sem] theorem tagg4 : Abs.tagg Try.prog 4 = false := by kernel_rfl
@[go_sem] theorem tsize4 : Abs.tsize Try.prog 4 = 1 := by kernel_rfl
@[go_sem] theorem tzero4 : Abs.tzero Try.prog 4 = some [.t (.lit (.bool false))] := by kernel_rfl
@[go_sem] theorem tbytes4 : Abs.tbytes Try.prog 4 = 1 := by kernel_rfl
@[go_sem] theorem tbool4 : Abs.tdesc Try.prog 4 = .bool := by kernel_rfl
@[go_sem] theorem tok5 : Abs.tok Try.prog 5 = true := by kernel_rfl
@[go_sem] theorem tagg5 : Abs.tagg Try.prog 5 = false := by kernel_rfl
@[go_sem] theorem tsize5 : Abs.tsize Try.prog 5 = 1 := by kernel_rfl
@[go_sem] theorem tzero5 : Abs.tzero Try.prog 5 = some [.t (.lit (.int .u8 0))] := by kernel_rfl
@[go_sem] theorem tbytes5 : Abs.tbytes Try.prog 5 = 1 := by kernel_rfl
@[go_sem] theorem tint5 : Abs.intD (Abs.tdesc Try.prog 5) = some .u8 := by kernel_rfl
@[go_sem] theorem tok6 : Abs.tok Try.prog 6 = true := by kernel_rfl
@[go_sem] theorem tagg6 : Abs.tagg Try.prog 6 = false := by kernel_rfl
@[go_sem] theorem tsize6 : Abs.tsize Try.prog 6 = 1 := by kernel_rfl
@[go_sem] theorem tzero6 : Abs.tzero Try.prog 6 = some [.t (.lit (.int .u8 0))] := by kernel_rfl
@[go_sem] theorem tbytes6 : Abs.tbytes Try.prog 6 = 1 := by kernel_rfl
@[go_sem] theorem tint6 : Abs.intD (Abs.tdesc Try.prog 6) = some .u8 := by kernel_rfl
@[go_sem] theorem tok7 : Abs.tok Try.prog 7 = true := by kernel_rfl
@[go_sem] theorem tagg7 : Abs.tagg Try.prog 7 = true := by kernel_rfl
@[go_sem] theorem tsize7 : Abs.tsize Try.prog 7 = 4 := by kernel_rfl
@[go_sem] theorem tzero7 : Abs.tzero Try.prog 7 = some [.t (.lit (.int .i64 0)), .t (.lit (.int .i64 0)), .t (.lit (.bool false)), .t (.lit (.int .u8 0))] := by kernel_rfl
@[go_sem] theorem tbytes7 : Abs.tbytes Try.prog 7 = 24 := by kernel_rfl
@[go_sem] theorem tst7 : Abs.isStructD (Abs.tdesc Try.prog 7) = true := by kernel_rfl
@[go_sem] theorem tnf7 : Abs.nfields Try.prog 7 = 4 := by kernel_rfl
@[go_sem] theorem tpt7 : Abs.partsTok Try.prog 7 = true := by kernel_rfl
@[go_sem] theorem tfo7_0 : Abs.foff Try.prog 7 0 = 0 := by kernel_rfl
@[go_sem] theorem tft7_0 : Abs.fty Try.prog 7 0 = 2 := by kernel_rfl
@[go_sem] theorem tpl7_0 : Abs.placesA Try.prog 7 0 = some (0, 1) := by kernel_rfl
@[go_sem] theorem tfo7_1 : Abs.foff Try.prog 7 1 = 1 := by kernel_rfl
@[go_sem] theorem tft7_1 : Abs.fty Try.prog 7 1 = 3 := by kernel_rfl
@[go_sem] theorem tpl7_1 : Abs.placesA Try.prog 7 1 = some (1, 1) := by kernel_rfl
@[go_sem] theorem tfo7_2 : Abs.foff Try.prog 7 2 = 2 := by kernel_rfl
@[go_sem] theorem tft7_2 : Abs.fty Try.prog 7 2 = 4 := by kernel_rfl
@[go_sem] theorem tpl7_2 : Abs.placesA Try.prog 7 2 = some (2, 1) := by kernel_rfl
@[go_sem] theorem tfo7_3 : Abs.foff Try.prog 7 3 = 3 := by kernel_rfl
@[go_sem] theorem tft7_3 : Abs.fty Try.prog 7 3 = 6 := by kernel_rfl
@[go_sem] theorem tpl7_3 : Abs.placesA Try.prog 7 3 = some (3, 1) := by kernel_rfl
@[go_sem] theorem tok8 : Abs.tok Try.prog 8 = true := by kernel_rfl
@[go_sem] theorem tagg8 : Abs.tagg Try.prog 8 = true := by kernel_rfl
@[go_sem] theorem tsize8 : Abs.tsize Try.prog 8 = 4 := by kernel_rfl
@[go_sem] theorem tzero8 : Abs.tzero Try.prog 8 = some [.t (.lit (.int .i64 0)), .t (.lit (.int .i64 0)), .t (.lit (.bool false)), .t (.lit (.int .u8 0))] := by kernel_rfl
@[go_sem] theorem tbytes8 : Abs.tbytes Try.prog 8 = 24 := by kernel_rfl
@[go_sem] theorem tst8 : Abs.isStructD (Abs.tdesc Try.prog 8) = true := by kernel_rfl
@[go_sem] theorem tnf8 : Abs.nfields Try.prog 8 = 4 := by kernel_rfl
@[go_sem] theorem tpt8 : Abs.partsTok Try.prog 8 = true := by kernel_rfl
@[go_sem] theorem tfo8_0 : Abs.foff Try.prog 8 0 = 0 := by kernel_rfl
@[go_sem] theorem tft8_0 : Abs.fty Try.prog 8 0 = 2 := by kernel_rfl
@[go_sem] theorem tpl8_0 : Abs.placesA Try.prog 8 0 = some (0, 1) := by kernel_rfl
@[go_sem] theorem tfo8_1 : Abs.foff Try.prog 8 1 = 1 := by kernel_rfl
@[go_sem] theorem tft8_1 : Abs.fty Try.prog 8 1 = 3 := by kernel_rfl
@[go_sem] theorem tpl8_1 : Abs.placesA Try.prog 8 1 = some (1, 1) := by kernel_rfl
@[go_sem] theorem tfo8_2 : Abs.foff Try.prog 8 2 = 2 := by kernel_rfl
@[go_sem] theorem tft8_2 : Abs.fty Try.prog 8 2 = 4 := by kernel_rfl
@[go_sem] theorem tpl8_2 : Abs.placesA Try.prog 8 2 = some (2, 1) := by kernel_rfl
@[go_sem] theorem tfo8_3 : Abs.foff Try.prog 8 3 = 3 := by kernel_rfl
@[go_sem] theorem tft8_3 : Abs.fty Try.prog 8 3 = 6 := by kernel_rfl
@[go_sem] theorem tpl8_3 : Abs.placesA Try.prog 8 3 = some (3, 1) := by kernel_rfl
@[go_sem] theorem tok9 : Abs.tok Try.prog 9 = true := by kernel_rfl
@[go_sem] theorem tagg9 : Abs.tagg Try.prog 9 = false := by kernel_rfl
@[go_sem] theorem tsize9 : Abs.tsize Try.prog 9 = 1 := by kernel_rfl
@[go_sem] theorem tzero9 : Abs.tzero Try.prog 9 = some [.t (.lit (.string ⟨#[]⟩))] := by kernel_rfl
@[go_sem] theorem tbytes9 : Abs.tbytes Try.prog 9 = 16 := by kernel_rfl
@[go_sem] theorem tstr9 : Abs.tdesc Try.prog 9 = .string := by kernel_rfl
@[go_sem] theorem tok10 : Abs.tok Try.prog 10 = true := by kernel_rfl
@[go_sem] theorem tagg10 : Abs.tagg Try.prog 10 = false := by kernel_rfl
@[go_sem] theorem tsize10 : Abs.tsize Try.prog 10 = 1 := by kernel_rfl
@[go_sem] theorem tzero10 : Abs.tzero Try.prog 10 = some [.t (.lit (.string ⟨#[]⟩))] := by kernel_rfl
@[go_sem] theorem tbytes10 : Abs.tbytes Try.prog 10 = 16 := by kernel_rfl
@[go_sem] theorem tstr10 : Abs.tdesc Try.prog 10 = .string := by kernel_rfl
@[go_sem] theorem tok11 : Abs.tok Try.prog 11 = true := by kernel_rfl
@[go_sem] theorem tagg11 : Abs.tagg Try.prog 11 = false := by kernel_rfl
@[go_sem] theorem tsize11 : Abs.tsize Try.prog 11 = 1 := by kernel_rfl
@[go_sem] theorem tzero11 : Abs.tzero Try.prog 11 = some [.t (.lit (.string ⟨#[]⟩))] := by kernel_rfl
@[go_sem] theorem tbytes11 : Abs.tbytes Try.prog 11 = 16 := by kernel_rfl
@[go_sem] theorem tstr11 : Abs.tdesc Try.prog 11 = .string := by kernel_rfl
@[go_sem] theorem tok12 : Abs.tok Try.prog 12 = true := by kernel_rfl
@[go_sem] theorem tagg12 : Abs.tagg Try.prog 12 = false := by kernel_rfl
@[go_sem] theorem tsize12 : Abs.tsize Try.prog 12 = 1 := by kernel_rfl
@[go_sem] theorem tzero12 : Abs.tzero Try.prog 12 = some [.t (.lit (.int .u64 0))] := by kernel_rfl
@[go_sem] theorem tbytes12 : Abs.tbytes Try.prog 12 = 8 := by kernel_rfl
@[go_sem] theorem tint12 : Abs.intD (Abs.tdesc Try.prog 12) = some .u64 := by kernel_rfl
@[go_sem] theorem tok13 : Abs.tok Try.prog 13 = true := by kernel_rfl
@[go_sem] theorem tagg13 : Abs.tagg Try.prog 13 = true := by kernel_rfl
@[go_sem] theorem tsize13 : Abs.tsize Try.prog 13 = 2 := by kernel_rfl
@[go_sem] theorem tzero13 : Abs.tzero Try.prog 13 = some [.t (.lit (.string ⟨#[]⟩)), .t (.lit (.int .u64 0))] := by kernel_rfl
@[go_sem] theorem tbytes13 : Abs.tbytes Try.prog 13 = 24 := by kernel_rfl
@[go_sem] theorem tst13 : Abs.isStructD (Abs.tdesc Try.prog 13) = true := by kernel_rfl
@[go_sem] theorem tnf13 : Abs.nfields Try.prog 13 = 2 := by kernel_rfl
@[go_sem] theorem tpt13 : Abs.partsTok Try.prog 13 = true := by kernel_rfl
@[go_sem] theorem tfo13_0 : Abs.foff Try.prog 13 0 = 0 := by kernel_rfl
@[go_sem] theorem tft13_0 : Abs.fty Try.prog 13 0 = 9 := by kernel_rfl
@[go_sem] theorem tpl13_0 : Abs.placesA Try.prog 13 0 = some (0, 1) := by kernel_rfl
@[go_sem] theorem tfo13_1 : Abs.foff Try.prog 13 1 = 1 := by kernel_rfl
@[go_sem] theorem tft13_1 : Abs.fty Try.prog 13 1 = 12 := by kernel_rfl
@[go_sem] theorem tpl13_1 : Abs.placesA Try.prog 13 1 = some (1, 1) := by kernel_rfl
@[go_sem] theorem tok14 : Abs.tok Try.prog 14 = true := by kernel_rfl
@[go_sem] theorem tagg14 : Abs.tagg Try.prog 14 = true := by kernel_rfl
@[go_sem] theorem tsize14 : Abs.tsize Try.prog 14 = 2 := by kernel_rfl
@[go_sem] theorem tzero14 : Abs.tzero Try.prog 14 = some [.t (.lit (.string ⟨#[]⟩)), .t (.lit (.int .u64 0))] := by kernel_rfl
@[go_sem] theorem tbytes14 : Abs.tbytes Try.prog 14 = 24 := by kernel_rfl
@[go_sem] theorem tst14 : Abs.isStructD (Abs.tdesc Try.prog 14) = true := by kernel_rfl
@[go_sem] theorem tnf14 : Abs.nfields Try.prog 14 = 2 := by kernel_rfl
@[go_sem] theorem tpt14 : Abs.partsTok Try.prog 14 = true := by kernel_rfl
@[go_sem] theorem tfo14_0 : Abs.foff Try.prog 14 0 = 0 := by kernel_rfl
@[go_sem] theorem tft14_0 : Abs.fty Try.prog 14 0 = 9 := by kernel_rfl
@[go_sem] theorem tpl14_0 : Abs.placesA Try.prog 14 0 = some (0, 1) := by kernel_rfl
@[go_sem] theorem tfo14_1 : Abs.foff Try.prog 14 1 = 1 := by kernel_rfl
@[go_sem] theorem tft14_1 : Abs.fty Try.prog 14 1 = 12 := by kernel_rfl
@[go_sem] theorem tpl14_1 : Abs.placesA Try.prog 14 1 = some (1, 1) := by kernel_rfl
@[go_sem] theorem tok15 : Abs.tok Try.prog 15 = true := by kernel_rfl
@[go_sem] theorem tagg15 : Abs.tagg Try.prog 15 = false := by kernel_rfl
@[go_sem] theorem tsize15 : Abs.tsize Try.prog 15 = 1 := by kernel_rfl
@[go_sem] theorem tzero15 : Abs.tzero Try.prog 15 = some [.t (.lit (.pointer none))] := by kernel_rfl
@[go_sem] theorem tbytes15 : Abs.tbytes Try.prog 15 = 8 := by kernel_rfl
@[go_sem] theorem tok16 : Abs.tok Try.prog 16 = true := by kernel_rfl
@[go_sem] theorem tagg16 : Abs.tagg Try.prog 16 = false := by kernel_rfl
@[go_sem] theorem tsize16 : Abs.tsize Try.prog 16 = 1 := by kernel_rfl
@[go_sem] theorem tzero16 : Abs.tzero Try.prog 16 = some [.t (.lit (.pointer none))] := by kernel_rfl
@[go_sem] theorem tbytes16 : Abs.tbytes Try.prog 16 = 8 := by kernel_rfl
@[go_sem] theorem tok17 : Abs.tok Try.prog 17 = true := by kernel_rfl
@[go_sem] theorem tagg17 : Abs.tagg Try.prog 17 = false := by kernel_rfl
@[go_sem] theorem tsize17 : Abs.tsize Try.prog 17 = 1 := by kernel_rfl
@[go_sem] theorem tzero17 : Abs.tzero Try.prog 17 = some [.t (.lit (.pointer none))] := by kernel_rfl
@[go_sem] theorem tbytes17 : Abs.tbytes Try.prog 17 = 8 := by kernel_rfl
@[go_sem] theorem tok18 : Abs.tok Try.prog 18 = true := by kernel_rfl
@[go_sem] theorem tagg18 : Abs.tagg Try.prog 18 = true := by kernel_rfl
@[go_sem] theorem tsize18 : Abs.tsize Try.prog 18 = 1 := by kernel_rfl
@[go_sem] theorem tzero18 : Abs.tzero Try.prog 18 = some [.t (.lit (.pointer none))] := by kernel_rfl
@[go_sem] theorem tbytes18 : Abs.tbytes Try.prog 18 = 8 := by kernel_rfl
@[go_sem] theorem tst18 : Abs.isStructD (Abs.tdesc Try.prog 18) = true := by kernel_rfl
@[go_sem] theorem tnf18 : Abs.nfields Try.prog 18 = 1 := by kernel_rfl
@[go_sem] theorem tpt18 : Abs.partsTok Try.prog 18 = true := by kernel_rfl
@[go_sem] theorem tfo18_0 : Abs.foff Try.prog 18 0 = 0 := by kernel_rfl
@[go_sem] theorem tft18_0 : Abs.fty Try.prog 18 0 = 17 := by kernel_rfl
@[go_sem] theorem tpl18_0 : Abs.placesA Try.prog 18 0 = some (0, 1) := by kernel_rfl
@[go_sem] theorem tok19 : Abs.tok Try.prog 19 = true := by kernel_rfl
@[go_sem] theorem tagg19 : Abs.tagg Try.prog 19 = true := by kernel_rfl
@[go_sem] theorem tsize19 : Abs.tsize Try.prog 19 = 1 := by kernel_rfl
@[go_sem] theorem tzero19 : Abs.tzero Try.prog 19 = some [.t (.lit (.pointer none))] := by kernel_rfl
@[go_sem] theorem tbytes19 : Abs.tbytes Try.prog 19 = 8 := by kernel_rfl
@[go_sem] theorem tst19 : Abs.isStructD (Abs.tdesc Try.prog 19) = true := by kernel_rfl
@[go_sem] theorem tnf19 : Abs.nfields Try.prog 19 = 1 := by kernel_rfl
@[go_sem] theorem tpt19 : Abs.partsTok Try.prog 19 = true := by kernel_rfl
@[go_sem] theorem tfo19_0 : Abs.foff Try.prog 19 0 = 0 := by kernel_rfl
@[go_sem] theorem tft19_0 : Abs.fty Try.prog 19 0 = 17 := by kernel_rfl
@[go_sem] theorem tpl19_0 : Abs.placesA Try.prog 19 0 = some (0, 1) := by kernel_rfl
@[go_sem] theorem tok21 : Abs.tok Try.prog 21 = true := by kernel_rfl
@[go_sem] theorem tagg21 : Abs.tagg Try.prog 21 = false := by kernel_rfl
@[go_sem] theorem tsize21 : Abs.tsize Try.prog 21 = 1 := by kernel_rfl
@[go_sem] theorem tzero21 : Abs.tzero Try.prog 21 = some [.t (.lit (.int .i32 0))] := by kernel_rfl
@[go_sem] theorem tbytes21 : Abs.tbytes Try.prog 21 = 4 := by kernel_rfl
@[go_sem] theorem tint21 : Abs.intD (Abs.tdesc Try.prog 21) = some .i32 := by kernel_rfl
@[go_sem] theorem tok22 : Abs.tok Try.prog 22 = true := by kernel_rfl
@[go_sem] theorem tagg22 : Abs.tagg Try.prog 22 = false := by kernel_rfl
@[go_sem] theorem tsize22 : Abs.tsize Try.prog 22 = 1 := by kernel_rfl
@[go_sem] theorem tzero22 : Abs.tzero Try.prog 22 = some [.t (.lit (.int .i16 0))] := by kernel_rfl
@[go_sem] theorem tbytes22 : Abs.tbytes Try.prog 22 = 2 := by kernel_rfl
@[go_sem] theorem tint22 : Abs.intD (Abs.tdesc Try.prog 22) = some .i16 := by kernel_rfl
@[go_sem] theorem tok23 : Abs.tok Try.prog 23 = true := by kernel_rfl
@[go_sem] theorem tagg23 : Abs.tagg Try.prog 23 = false := by kernel_rfl
@[go_sem] theorem tsize23 : Abs.tsize Try.prog 23 = 1 := by kernel_rfl
@[go_sem] theorem tzero23 : Abs.tzero Try.prog 23 = some [.t (.lit .nilFunc)] := by kernel_rfl
@[go_sem] theorem tok24 : Abs.tok Try.prog 24 = true := by kernel_rfl
@[go_sem] theorem tagg24 : Abs.tagg Try.prog 24 = false := by kernel_rfl
@[go_sem] theorem tsize24 : Abs.tsize Try.prog 24 = 1 := by kernel_rfl
@[go_sem] theorem tzero24 : Abs.tzero Try.prog 24 = some [.t (.seq (some true) [])] := by kernel_rfl
@[go_sem] theorem tbytes24 : Abs.tbytes Try.prog 24 = 24 := by kernel_rfl
@[go_sem] theorem tsl24 : Abs.isSliceD (Abs.tdesc Try.prog 24) = true := by kernel_rfl
@[go_sem] theorem telem24 : Abs.telem Try.prog 24 = 115 := by kernel_rfl
@[go_sem] theorem tok25 : Abs.tok Try.prog 25 = true := by kernel_rfl
@[go_sem] theorem tagg25 : Abs.tagg Try.prog 25 = true := by kernel_rfl
@[go_sem] theorem tsize25 : Abs.tsize Try.prog 25 = 2 := by kernel_rfl
@[go_sem] theorem tzero25 : Abs.tzero Try.prog 25 = some [.t (.lit (.bool false)), .t (.seq (some true) [])] := by kernel_rfl
@[go_sem] theorem tbytes25 : Abs.tbytes Try.prog 25 = 32 := by kernel_rfl
@[go_sem] theorem tst25 : Abs.isStructD (Abs.tdesc Try.prog 25) = true := by kernel_rfl
@[go_sem] theorem tnf25 : Abs.nfields Try.prog 25 = 2 := by kernel_rfl
@[go_sem] theorem tpt25 : Abs.partsTok Try.prog 25 = true := by kernel_rfl
@[go_sem] theorem tfo25_0 : Abs.foff Try.prog 25 0 = 0 := by kernel_rfl
@[go_sem] theorem tft25_0 : Abs.fty Try.prog 25 0 = 4 := by kernel_rfl
@[go_sem] theorem tpl25_0 : Abs.placesA Try.prog 25 0 = some (0, 1) := by kernel_rfl
@[go_sem] theorem tfo25_1 : Abs.foff Try.prog 25 1 = 1 := by kernel_rfl
@[go_sem] theorem tft25_1 : Abs.fty Try.prog 25 1 = 24 := by kernel_rfl
@[go_sem] theorem tpl25_1 : Abs.placesA Try.prog 25 1 = some (1, 1) := by kernel_rfl
@[go_sem] theorem tok26 : Abs.tok Try.prog 26 = true := by kernel_rfl
@[go_sem] theorem tagg26 : Abs.tagg Try.prog 26 = true := by kernel_rfl
@[go_sem] theorem tsize26 : Abs.tsize Try.prog 26 = 2 := by kernel_rfl
@[go_sem] theorem tzero26 : Abs.tzero Try.prog 26 = some [.t (.lit (.bool false)), .t (.seq (some true) [])] := by kernel_rfl
@[go_sem] theorem tbytes26 : Abs.tbytes Try.prog 26 = 32 := by kernel_rfl
@[go_sem] theorem tst26 : Abs.isStructD (Abs.tdesc Try.prog 26) = true := by kernel_rfl
@[go_sem] theorem tnf26 : Abs.nfields Try.prog 26 = 2 := by kernel_rfl
@[go_sem] theorem tpt26 : Abs.partsTok Try.prog 26 = true := by kernel_rfl
@[go_sem] theorem tfo26_0 : Abs.foff Try.prog 26 0 = 0 := by kernel_rfl
@[go_sem] theorem tft26_0 : Abs.fty Try.prog 26 0 = 4 := by kernel_rfl
@[go_sem] theorem tpl26_0 : Abs.placesA Try.prog 26 0 = some (0, 1) := by kernel_rfl
@[go_sem] theorem tfo26_1 : Abs.foff Try.prog 26 1 = 1 := by kernel_rfl
@[go_sem] theorem tft26_1 : Abs.fty Try.prog 26 1 = 24 := by kernel_rfl
@[go_sem] theorem tpl26_1 : Abs.placesA Try.prog 26 1 = some (1, 1) := by kernel_rfl
@[go_sem] theorem tok27 : Abs.tok Try.prog 27 = true := by kernel_rfl
@[go_sem] theorem tagg27 : Abs.tagg Try.prog 27 = true := by kernel_rfl
@[go_sem] theorem tsize27 : Abs.tsize Try.prog 27 = 3 := by kernel_rfl
@[go_sem] theorem tzero27 : Abs.tzero Try.prog 27 = some [.t (.lit (.bool false)), .t (.seq (some true) []), .t (.seq (some true) [])] := by kernel_rfl
@[go_sem] theorem tbytes27 : Abs.tbytes Try.prog 27 = 56 := by kernel_rfl
@[go_sem] theorem tst27 : Abs.isStructD (Abs.tdesc Try.prog 27) = true := by kernel_rfl
@[go_sem] theorem tnf27 : Abs.nfields Try.prog 27 = 2 := by kernel_rfl
@[go_sem] theorem tpt27 : Abs.partsTok Try.prog 27 = true := by kernel_rfl
@[go_sem] theorem tfo27_0 : Abs.foff Try.prog 27 0 = 0 := by kernel_rfl
@[go_sem] theorem tft27_0 : Abs.fty Try.prog 27 0 = 26 := by kernel_rfl
@[go_sem] theorem tpl27_0 : Abs.placesA Try.prog 27 0 = some (0, 2) := by kernel_rfl
@[go_sem] theorem tfo27_1 : Abs.foff Try.prog 27 1 = 2 := by kernel_rfl
@[go_sem] theorem tft27_1 : Abs.fty Try.prog 27 1 = 24 := by kernel_rfl
@[go_sem] theorem tpl27_1 : Abs.placesA Try.prog 27 1 = some (2, 1) := by kernel_rfl
@[go_sem] theorem tok28 : Abs.tok Try.prog 28 = true := by kernel_rfl
@[go_sem] theorem tagg28 : Abs.tagg Try.prog 28 = true := by kernel_rfl
@[go_sem] theorem tsize28 : Abs.tsize Try.prog 28 = 3 := by kernel_rfl
@[go_sem] theorem tzero28 : Abs.tzero Try.prog 28 = some [.t (.lit (.bool false)), .t (.seq (some true) []), .t (.seq (some true) [])] := by kernel_rfl
@[go_sem] theorem tbytes28 : Abs.tbytes Try.prog 28 = 56 := by kernel_rfl
@[go_sem] theorem tst28 : Abs.isStructD (Abs.tdesc Try.prog 28) = true := by kernel_rfl
@[go_sem] theorem tnf28 : Abs.nfields Try.prog 28 = 2 := by kernel_rfl
@[go_sem] theorem tpt28 : Abs.partsTok Try.prog 28 = true := by kernel_rfl
@[go_sem] theorem tfo28_0 : Abs.foff Try.prog 28 0 = 0 := by kernel_rfl
@[go_sem] theorem tft28_0 : Abs.fty Try.prog 28 0 = 26 := by kernel_rfl
@[go_sem] theorem tpl28_0 : Abs.placesA Try.prog 28 0 = some (0, 2) := by kernel_rfl
@[go_sem] theorem tfo28_1 : Abs.foff Try.prog 28 1 = 2 := by kernel_rfl
@[go_sem] theorem tft28_1 : Abs.fty Try.prog 28 1 = 24 := by kernel_rfl
@[go_sem] theorem tpl28_1 : Abs.placesA Try.prog 28 1 = some (2, 1) := by kernel_rfl
@[go_sem] theorem tok29 : Abs.tok Try.prog 29 = true := by kernel_rfl
@[go_sem] theorem tagg29 : Abs.tagg Try.prog 29 = false := by kernel_rfl
@[go_sem] theorem tsize29 : Abs.tsize Try.prog 29 = 1 := by kernel_rfl
@[go_sem] theorem tzero29 : Abs.tzero Try.prog 29 = some [.t (.lit .nilFunc)] := by kernel_rfl
@[go_sem] theorem tok30 : Abs.tok Try.prog 30 = true := by kernel_rfl
@[go_sem] theorem tagg30 : Abs.tagg Try.prog 30 = false := by kernel_rfl
@[go_sem] theorem tsize30 : Abs.tsize Try.prog 30 = 1 := by kernel_rfl
@[go_sem] theorem tzero30 : Abs.tzero Try.prog 30 = some [.t (.lit .nilFunc)] := by kernel_rfl
@[go_sem] theorem tok31 : Abs.tok Try.prog 31 = true := by kernel_rfl
@[go_sem] theorem tagg31 : Abs.tagg Try.prog 31 = false := by kernel_rfl
@[go_sem] theorem tsize31 : Abs.tsize Try.prog 31 = 1 := by kernel_rfl
@[go_sem] theorem tzero31 : Abs.tzero Try.prog 31 = some [.t (.lit .nilFunc)] := by kernel_rfl
@[go_sem] theorem tok32 : Abs.tok Try.prog 32 = true := by kernel_rfl
@[go_sem] theorem tagg32 : Abs.tagg Try.prog 32 = false := by kernel_rfl
@[go_sem] theorem tsize32 : Abs.tsize Try.prog 32 = 1 := by kernel_rfl
@[go_sem] theorem tzero32 : Abs.tzero Try.prog 32 = some [.t (.lit .nilFunc)] := by kernel_rfl
@[go_sem] theorem tok33 : Abs.tok Try.prog 33 = true := by kernel_rfl
@[go_sem] theorem tagg33 : Abs.tagg Try.prog 33 = false := by kernel_rfl
@[go_sem] theorem tsize33 : Abs.tsize Try.prog 33 = 1 := by kernel_rfl
@[go_sem] theorem tzero33 : Abs.tzero Try.prog 33 = some [.t (.lit .nilFunc)] := by kernel_rfl
@[go_sem] theorem tok34 : Abs.tok Try.prog 34 = true := by kernel_rfl
@[go_sem] theorem tagg34 : Abs.tagg Try.prog 34 = false := by kernel_rfl
@[go_sem] theorem tsize34 : Abs.tsize Try.prog 34 = 1 := by kernel_rfl
@[go_sem] theorem tzero34 : Abs.tzero Try.prog 34 = some [.t (.lit .nilFunc)] := by kernel_rfl
@[go_sem] theorem tok35 : Abs.tok Try.prog 35 = true := by kernel_rfl
@[go_sem] theorem tagg35 : Abs.tagg Try.prog 35 = false := by kernel_rfl
@[go_sem] theorem tsize35 : Abs.tsize Try.prog 35 = 1 := by kernel_rfl
@[go_sem] theorem tzero35 : Abs.tzero Try.prog 35 = some [.t (.lit .nilFunc)] := by kernel_rfl
@[go_sem] theorem tok36 : Abs.tok Try.prog 36 = true := by kernel_rfl
@[go_sem] theorem tagg36 : Abs.tagg Try.prog 36 = false := by kernel_rfl
@[go_sem] theorem tsize36 : Abs.tsize Try.prog 36 = 1 := by kernel_rfl
@[go_sem] theorem tzero36 : Abs.tzero Try.prog 36 = some [.t (.lit .nilFunc)] := by kernel_rfl
@[go_sem] theorem tok37 : Abs.tok Try.prog 37 = true := by kernel_rfl
@[go_sem] theorem tagg37 : Abs.tagg Try.prog 37 = false := by kernel_rfl
@[go_sem] theorem tsize37 : Abs.tsize Try.prog 37 = 1 := by kernel_rfl
@[go_sem] theorem tzero37 : Abs.tzero Try.prog 37 = some [.t (.lit .nilFunc)] := by kernel_rfl
@[go_sem] theorem tok38 : Abs.tok Try.prog 38 = true := by kernel_rfl
@[go_sem] theorem tagg38 : Abs.tagg Try.prog 38 = false := by kernel_rfl
@[go_sem] theorem tsize38 : Abs.tsize Try.prog 38 = 1 := by kernel_rfl
@[go_sem] theorem tzero38 : Abs.tzero Try.prog 38 = some [.t (.lit .nilFunc)] := by kernel_rfl
@[go_sem] theorem tok39 : Abs.tok Try.prog 39 = true := by kernel_rfl
@[go_sem] theorem tagg39 : Abs.tagg Try.prog 39 = false := by kernel_rfl
@[go_sem] theorem tsize39 : Abs.tsize Try.prog 39 = 1 := by kernel_rfl
@[go_sem] theorem tzero39 : Abs.tzero Try.prog 39 = some [.t (.lit (.int .i64 0))] := by kernel_rfl
@[go_sem] theorem tbytes39 : Abs.tbytes Try.prog 39 = 8 := by kernel_rfl
@[go_sem] theorem tint39 : Abs.intD (Abs.tdesc Try.prog 39) = some .i64 := by kernel_rfl
@[go_sem] theorem tok41 : Abs.tok Try.prog 41 = true := by kernel_rfl
@[go_sem] theorem tagg41 : Abs.tagg Try.prog 41 = false := by kernel_rfl
@[go_sem] theorem tsize41 : Abs.tsize Try.prog 41 = 1 := by kernel_rfl
@[go_sem] theorem tzero41 : Abs.tzero Try.prog 41 = some [.t (.lit .nilFunc)] := by kernel_rfl
@[go_sem] theorem tok42 : Abs.tok Try.prog 42 = true := by kernel_rfl
@[go_sem] theorem tagg42 : Abs.tagg Try.prog 42 = false := by kernel_rfl
@[go_sem] theorem tsize42 : Abs.tsize Try.prog 42 = 1 := by kernel_rfl
@[go_sem] theorem tzero42 : Abs.tzero Try.prog 42 = some [.t (.lit .nilFunc)] := by kernel_rfl
@[go_sem] theorem tok43 : Abs.tok Try.prog 43 = true := by kernel_rfl
@[go_sem] theorem tagg43 : Abs.tagg Try.prog 43 = false := by kernel_rfl
@[go_sem] theorem tsize43 : Abs.tsize Try.prog 43 = 1 := by kernel_rfl
@[go_sem] theorem tzero43 : Abs.tzero Try.prog 43 = some [.t (.lit .nilFunc)] := by kernel_rfl
@[go_sem] theorem tok44 : Abs.tok Try.prog 44 = true := by kernel_rfl
@[go_sem] theorem tagg44 : Abs.tagg Try.prog 44 = false := by kernel_rfl
@[go_sem] theorem tsize44 : Abs.tsize Try.prog 44 = 1 := by kernel_rfl
@[go_sem] theorem tzero44 : Abs.tzero Try.prog 44 = some [.t (.seq (some true) [])] := by kernel_rfl
@[go_sem] theorem tbytes44 : Abs.tbytes Try.prog 44 = 24 := by kernel_rfl
@[go_sem] theorem tsl44 : Abs.isSliceD (Abs.tdesc Try.prog 44) = true := by kernel_rfl
@[go_sem] theorem telem44 : Abs.telem Try.prog 44 = 76 := by kernel_rfl
@[go_sem] theorem tok45 : Abs.tok Try.prog 45 = true := by kernel_rfl
@[go_sem] theorem tagg45 : Abs.tagg Try.prog 45 = true := by kernel_rfl
@[go_sem] theorem tsize45 : Abs.tsize Try.prog 45 = 3 := by kernel_rfl
@[go_sem] theorem tzero45 : Abs.tzero Try.prog 45 = some [.t (.seq (some true) []), .t (.lit (.bool false)), .t (.seq (some true) [])] := by kernel_rfl
@[go_sem] theorem tbytes45 : Abs.tbytes Try.prog 45 = 56 := by kernel_rfl
@[go_sem] theorem tst45 : Abs.isStructD (Abs.tdesc Try.prog 45) = true := by kernel_rfl
@[go_sem] theorem tnf45 : Abs.nfields Try.prog 45 = 2 := by kernel_rfl
@[go_sem] theorem tpt45 : Abs.partsTok Try.prog 45 = true := by kernel_rfl
@[go_sem] theorem tfo45_0 : Abs.foff Try.prog 45 0 = 0 := by kernel_rfl
@[go_sem] theorem tft45_0 : Abs.fty Try.prog 45 0 = 44 := by kernel_rfl
@[go_sem] theorem tpl45_0 : Abs.placesA Try.prog 45 0 = some (0, 1) := by kernel_rfl
@[go_sem] theorem tfo45_1 : Abs.foff Try.prog 45 1 = 1 := by kernel_rfl
@[go_sem] theorem tft45_1 : Abs.fty Try.prog 45 1 = 26 := by kernel_rfl
@[go_sem] theorem tpl45_1 : Abs.placesA Try.prog 45 1 = some (1, 2) := by kernel_rfl
@[go_sem] theorem tok46 : Abs.tok Try.prog 46 = true := by kernel_rfl
@[go_sem] theorem tagg46 : Abs.tagg Try.prog 46 = true := by kernel_rfl
@[go_sem] theorem tsize46 : Abs.tsize Try.prog 46 = 3 := by kernel_rfl
@[go_sem] theorem tzero46 : Abs.tzero Try.prog 46 = some [.t (.seq (some true) []), .t (.lit (.bool false)), .t (.seq (some true) [])] := by kernel_rfl
@[go_sem] theorem tbytes46 : Abs.tbytes Try.prog 46 = 56 := by kernel_rfl
@[go_sem] theorem tst46 : Abs.isStructD (Abs.tdesc Try.prog 46) = true := by kernel_rfl
@[go_sem] theorem tnf46 : Abs.nfields Try.prog 46 = 2 := by kernel_rfl
@[go_sem] theorem tpt46 : Abs.partsTok Try.prog 46 = true := by kernel_rfl
@[go_sem] theorem tfo46_0 : Abs.foff Try.prog 46 0 = 0 := by kernel_rfl
@[go_sem] theorem tft46_0 : Abs.fty Try.prog 46 0 = 44 := by kernel_rfl
@[go_sem] theorem tpl46_0 : Abs.placesA Try.prog 46 0 = some (0, 1) := by kernel_rfl
@[go_sem] theorem tfo46_1 : Abs.foff Try.prog 46 1 = 1 := by kernel_rfl
@[go_sem] theorem tft46_1 : Abs.fty Try.prog 46 1 = 26 := by kernel_rfl
@[go_sem] theorem tpl46_1 : Abs.placesA Try.prog 46 1 = some (1, 2) := by kernel_rfl
@[go_sem] theorem tok47 : Abs.tok Try.prog 47 = true := by kernel_rfl
@[go_sem] theorem tagg47 : Abs.tagg Try.prog 47 = false := by kernel_rfl
@[go_sem] theorem tsize47 : Abs.tsize Try.prog 47 = 1 := by kernel_rfl
@[go_sem] theorem tzero47 : Abs.tzero Try.prog 47 = some [.t (.seq (some true) [])] := by kernel_rfl
@[go_sem] theorem tbytes47 : Abs.tbytes Try.prog 47 = 24 := by kernel_rfl
@[go_sem] theorem tsl47 : Abs.isSliceD (Abs.tdesc Try.prog 47) = true := by kernel_rfl
@[go_sem] theorem telem47 : Abs.telem Try.prog 47 = 26 := by kernel_rfl
@[go_sem] theorem tok48 : Abs.tok Try.prog 48 = true := by kernel_rfl
@[go_sem] theorem tagg48 : Abs.tagg Try.prog 48 = false := by kernel_rfl
@[go_sem] theorem tsize48 : Abs.tsize Try.prog 48 = 1 := by kernel_rfl
@[go_sem] theorem tzero48 : Abs.tzero Try.prog 48 = some [.t (.lit .nilFunc)] := by kernel_rfl
@[go_sem] theorem tok49 : Abs.tok Try.prog 49 = true := by kernel_rfl
@[go_sem] theorem tagg49 : Abs.tagg Try.prog 49 = false := by kernel_rfl
@[go_sem] theorem tsize49 : Abs.tsize Try.prog 49 = 1 := by kernel_rfl
@[go_sem] theorem tzero49 : Abs.tzero Try.prog 49 = some [.t (.lit .nilFunc)] := by kernel_rfl
@[go_sem] theorem tok50 : Abs.tok Try.prog 50 = true := by kernel_rfl
@[go_sem] theorem tagg50 : Abs.tagg Try.prog 50 = false := by kernel_rfl
@[go_sem] theorem tsize50 : Abs.tsize Try.prog 50 = 1 := by kernel_rfl
@[go_sem] theorem tzero50 : Abs.tzero Try.prog 50 = some [.t (.lit .nilFunc)] := by kernel_rfl
@[go_sem] theorem tok51 : Abs.tok Try.prog 51 = true := by kernel_rfl
@[go_sem] theorem tagg51 : Abs.tagg Try.prog 51 = false := by kernel_rfl
@[go_sem] theorem tsize51 : Abs.tsize Try.prog 51 = 1 := by kernel_rfl
@[go_sem] theorem tzero51 : Abs.tzero Try.prog 51 = some [.t (.lit .nilFunc)] := by kernel_rfl
@[go_sem] theorem tok52 : Abs.tok Try.prog 52 = true := by kernel_rfl
@[go_sem] theorem tagg52 : Abs.tagg Try.prog 52 = false := by kernel_rfl
@[go_sem] theorem tsize52 : Abs.tsize Try.prog 52 = 1 := by kernel_rfl
@[go_sem] theorem tzero52 : Abs.tzero Try.prog 52 = some [.t (.lit .nilFunc)] := by kernel_rfl
@[go_sem] theorem tok53 : Abs.tok Try.prog 53 = true := by kernel_rfl
@[go_sem] theorem tagg53 : Abs.tagg Try.prog 53 = false := by kernel_rfl
@[go_sem] theorem tsize53 : Abs.tsize Try.prog 53 = 1 := by kernel_rfl
@[go_sem] theorem tzero53 : Abs.tzero Try.prog 53 = some [.t (.lit .nilFunc)] := by kernel_rfl
@[go_sem] theorem tok54 : Abs.tok Try.prog 54 = true := by kernel_rfl
@[go_sem] theorem tagg54 : Abs.tagg Try.prog 54 = false := by kernel_rfl
@[go_sem] theorem tsize54 : Abs.tsize Try.prog 54 = 1 := by kernel_rfl
@[go_sem] theorem tzero54 : Abs.tzero Try.prog 54 = some [.t (.lit .nilFunc)] := by kernel_rfl
@[go_sem] theorem tok55 : Abs.tok Try.prog 55 = true := by kernel_rfl
@[go_sem] theorem tagg55 : Abs.tagg Try.prog 55 = false := by kernel_rfl
@[go_sem] theorem tsize55 : Abs.tsize Try.prog 55 = 1 := by kernel_rfl
@[go_sem] theorem tzero55 : Abs.tzero Try.prog 55 = some [.t (.lit .nilFunc)] := by kernel_rfl
@[go_sem] theorem tok56 : Abs.tok Try.prog 56 = true := by kernel_rfl
@[go_sem] theorem tagg56 : Abs.tagg Try.prog 56 = false := by kernel_rfl
@[go_sem] theorem tsize56 : Abs.tsize Try.prog 56 = 1 := by kernel_rfl
@[go_sem] theorem tzero56 : Abs.tzero Try.prog 56 = some [.t (.lit .nilFunc)] := by kernel_rfl
@[go_sem] theorem tok57 : Abs.tok Try.prog 57 = true := by kernel_rfl
@[go_sem] theorem tagg57 : Abs.tagg Try.prog 57 = false := by kernel_rfl
@[go_sem] theorem tsize57 : Abs.tsize Try.prog 57 = 1 := by kernel_rfl
@[go_sem] theorem tzero57 : Abs.tzero Try.prog 57 = some [.t (.lit .nilFunc)] := by kernel_rfl
@[go_sem] theorem tok58 : Abs.tok Try.prog 58 = true := by kernel_rfl
@[go_sem] theorem tagg58 : Abs.tagg Try.prog 58 = false := by kernel_rfl
@[go_sem] theorem tsize58 : Abs.tsize Try.prog 58 = 1 := by kernel_rfl
@[go_sem] theorem tzero58 : Abs.tzero Try.prog 58 = some [.t (.lit .nilFunc)] := by kernel_rfl
@[go_sem] theorem tok59 : Abs.tok Try.prog 59 = true := by kernel_rfl
@[go_sem] theorem tagg59 : Abs.tagg Try.prog 59 = false := by kernel_rfl
@[go_sem] theorem tsize59 : Abs.tsize Try.prog 59 = 1 := by kernel_rfl
@[go_sem] theorem tzero59 : Abs.tzero Try.prog 59 = some [.t (.lit .nilFunc)] := by kernel_rfl
@[go_sem] theorem tok60 : Abs.tok Try.prog 60 = true := by kernel_rfl
@[go_sem] theorem tagg60 : Abs.tagg Try.prog 60 = false := by kernel_rfl
@[go_sem] theorem tsize60 : Abs.tsize Try.prog 60 = 1 := by kernel_rfl
@[go_sem] theorem tzero60 : Abs.tzero Try.prog 60 = some [.t (.lit .nilFunc)] := by kernel_rfl
@[go_sem] theorem tok61 : Abs.tok Try.prog 61 = true := by kernel_rfl
@[go_sem] theorem tagg61 : Abs.tagg Try.prog 61 = false := by kernel_rfl
@[go_sem] theorem tsize61 : Abs.tsize Try.prog 61 = 1 := by kernel_rfl
@[go_sem] theorem tzero61 : Abs.tzero Try.prog 61 = some [.t (.lit .nilFunc)] := by kernel_rfl
@[go_sem] theorem tok62 : Abs.tok Try.prog 62 = true := by kernel_rfl
@[go_sem] theorem tagg62 : Abs.tagg Try.prog 62 = false := by kernel_rfl
@[go_sem] theorem tsize62 : Abs.tsize Try.prog 62 = 1 := by kernel_rfl
@[go_sem] theorem tzero62 : Abs.tzero Try.prog 62 = some [.t (.lit .nilFunc)] := by kernel_rfl
@[go_sem] theorem tok63 : Abs.tok Try.prog 63 = true := by kernel_rfl
@[go_sem] theorem tagg63 : Abs.tagg Try.prog 63 = false := by kernel_rfl
@[go_sem] theorem tsize63 : Abs.tsize Try.prog 63 = 1 := by kernel_rfl
@[go_sem] theorem tzero63 : Abs.tzero Try.prog 63 = some [.t (.lit .nilFunc)] := by kernel_rfl
@[go_sem] theorem tok64 : Abs.tok Try.prog 64 = true := by kernel_rfl
@[go_sem] theorem tagg64 : Abs.tagg Try.prog 64 = false := by kernel_rfl
@[go_sem] theorem tsize64 : Abs.tsize Try.prog 64 = 1 := by kernel_rfl
@[go_sem] theorem tzero64 : Abs.tzero Try.prog 64 = some [.t (.lit .nilFunc)] := by kernel_rfl
@[go_sem] theorem tok65 : Abs.tok Try.prog 65 = true := by kernel_rfl
@[go_sem] theorem tagg65 : Abs.tagg Try.prog 65 = false := by kernel_rfl
@[go_sem] theorem tsize65 : Abs.tsize Try.prog 65 = 1 := by kernel_rfl
@[go_sem] theorem tzero65 : Abs.tzero Try.prog 65 = some [.t (.seq (some true) [])] := by kernel_rfl
@[go_sem] theorem tbytes65 : Abs.tbytes Try.prog 65 = 24 := by kernel_rfl
@[go_sem] theorem tsl65 : Abs.isSliceD (Abs.tdesc Try.prog 65) = true := by kernel_rfl
@[go_sem] theorem telem65 : Abs.telem Try.prog 65 = 66 := by kernel_rfl
@[go_sem] theorem tok66 : Abs.tok Try.prog 66 = true := by kernel_rfl
@[go_sem] theorem tagg66 : Abs.tagg Try.prog 66 = false := by kernel_rfl
@[go_sem] theorem tsize66 : Abs.tsize Try.prog 66 = 1 := by kernel_rfl
@[go_sem] theorem tzero66 : Abs.tzero Try.prog 66 = some [.t (.lit (.int .i8 0))] := by kernel_rfl
@[go_sem] theorem tbytes66 : Abs.tbytes Try.prog 66 = 1 := by kernel_rfl
@[go_sem] theorem tint66 : Abs.intD (Abs.tdesc Try.prog 66) = some .i8 := by kernel_rfl
@[go_sem] theorem tok67 : Abs.tok Try.prog 67 = true := by kernel_rfl
@[go_sem] theorem tagg67 : Abs.tagg Try.prog 67 = false := by kernel_rfl
@[go_sem] theorem tsize67 : Abs.tsize Try.prog 67 = 1 := by kernel_rfl
@[go_sem] theorem tzero67 : Abs.tzero Try.prog 67 = some [.t (.lit .nilFunc)] := by kernel_rfl
@[go_sem] theorem tok68 : Abs.tok Try.prog 68 = true := by kernel_rfl
@[go_sem] theorem tagg68 : Abs.tagg Try.prog 68 = false := by kernel_rfl
@[go_sem] theorem tsize68 : Abs.tsize Try.prog 68 = 1 := by kernel_rfl
@[go_sem] theorem tzero68 : Abs.tzero Try.prog 68 = some [.t (.lit .nilFunc)] := by kernel_rfl
@[go_sem] theorem tok69 : Abs.tok Try.prog 69 = true := by kernel_rfl
@[go_sem] theorem tagg69 : Abs.tagg Try.prog 69 = false := by kernel_rfl
@[go_sem] theorem tsize69 : Abs.tsize Try.prog 69 = 1 := by kernel_rfl
@[go_sem] theorem tzero69 : Abs.tzero Try.prog 69 = some [.t (.seq (some true) [])] := by kernel_rfl
@[go_sem] theorem tbytes69 : Abs.tbytes Try.prog 69 = 24 := by kernel_rfl
@[go_sem] theorem tsl69 : Abs.isSliceD (Abs.tdesc Try.prog 69) = true := by kernel_rfl
@[go_sem] theorem telem69 : Abs.telem Try.prog 69 = 46 := by kernel_rfl
@[go_sem] theorem tok71 : Abs.tok Try.prog 71 = true := by kernel_rfl
@[go_sem] theorem tagg71 : Abs.tagg Try.prog 71 = false := by kernel_rfl
@[go_sem] theorem tsize71 : Abs.tsize Try.prog 71 = 1 := by kernel_rfl
@[go_sem] theorem tzero71 : Abs.tzero Try.prog 71 = some [.t (.lit .nilFunc)] := by kernel_rfl
@[go_sem] theorem tok72 : Abs.tok Try.prog 72 = true := by kernel_rfl
@[go_sem] theorem tagg72 : Abs.tagg Try.prog 72 = false := by kernel_rfl
@[go_sem] theorem tsize72 : Abs.tsize Try.prog 72 = 1 := by kernel_rfl
@[go_sem] theorem tzero72 : Abs.tzero Try.prog 72 = some [.t (.lit .nilFunc)] := by kernel_rfl
@[go_sem] theorem tok73 : Abs.tok Try.prog 73 = true := by kernel_rfl
@[go_sem] theorem tagg73 : Abs.tagg Try.prog 73 = false := by kernel_rfl
@[go_sem] theorem tsize73 : Abs.tsize Try.prog 73 = 1 := by kernel_rfl
@[go_sem] theorem tzero73 : Abs.tzero Try.prog 73 = some [.t (.lit .nilFunc)] := by kernel_rfl
@[go_sem] theorem tok74 : Abs.tok Try.prog 74 = true := by kernel_rfl
@[go_sem] theorem tagg74 : Abs.tagg Try.prog 74 = false := by kernel_rfl
@[go_sem] theorem tsize74 : Abs.tsize Try.prog 74 = 1 := by kernel_rfl
@[go_sem] theorem tzero74 : Abs.tzero Try.prog 74 = some [.t (.lit .nilFunc)] := by kernel_rfl
@[go_sem] theorem tok75 : Abs.tok Try.prog 75 = true := by kernel_rfl
@[go_sem] theorem tagg75 : Abs.tagg Try.prog 75 = true := by kernel_rfl
@[go_sem] theorem tsize75 : Abs.tsize Try.prog 75 = 3 := by kernel_rfl
@[go_sem] theorem tzero75 : Abs.tzero Try.prog 75 = some [.t (.lit (.int .i64 0)), .t (.lit (.bool false)), .t (.seq (some true) [])] := by kernel_rfl
@[go_sem] theorem tbytes75 : Abs.tbytes Try.prog 75 = 40 := by kernel_rfl
@[go_sem] theorem tst75 : Abs.isStructD (Abs.tdesc Try.prog 75) = true := by kernel_rfl
@[go_sem] theorem tnf75 : Abs.nfields Try.prog 75 = 2 := by kernel_rfl
@[go_sem] theorem tpt75 : Abs.partsTok Try.prog 75 = true := by kernel_rfl
@[go_sem] theorem tfo75_0 : Abs.foff Try.prog 75 0 = 0 := by kernel_rfl
@[go_sem] theorem tft75_0 : Abs.fty Try.prog 75 0 = 3 := by kernel_rfl
@[go_sem] theorem tpl75_0 : Abs.placesA Try.prog 75 0 = some (0, 1) := by kernel_rfl
@[go_sem] theorem tfo75_1 : Abs.foff Try.prog 75 1 = 1 := by kernel_rfl
@[go_sem] theorem tft75_1 : Abs.fty Try.prog 75 1 = 26 := by kernel_rfl
@[go_sem] theorem tpl75_1 : Abs.placesA Try.prog 75 1 = some (1, 2) := by kernel_rfl
@[go_sem] theorem tok76 : Abs.tok Try.prog 76 = true := by kernel_rfl
@[go_sem] theorem tagg76 : Abs.tagg Try.prog 76 = true := by kernel_rfl
@[go_sem] theorem tsize76 : Abs.tsize Try.prog 76 = 3 := by kernel_rfl
@[go_sem] theorem tzero76 : Abs.tzero Try.prog 76 = some [.t (.lit (.int .i64 0)), .t (.lit (.bool false)), .t (.seq (some true) [])] := by kernel_rfl
@[go_sem] theorem tbytes76 : Abs.tbytes Try.prog 76 = 40 := by kernel_rfl
@[go_sem] theorem tst76 : Abs.isStructD (Abs.tdesc Try.prog 76) = true := by kernel_rfl
@[go_sem] theorem tnf76 : Abs.nfields Try.prog 76 = 2 := by kernel_rfl
@[go_sem] theorem tpt76 : Abs.partsTok Try.prog 76 = true := by kernel_rfl
@[go_sem] theorem tfo76_0 : Abs.foff Try.prog 76 0 = 0 := by kernel_rfl
@[go_sem] theorem tft76_0 : Abs.fty Try.prog 76 0 = 3 := by kernel_rfl
@[go_sem] theorem tpl76_0 : Abs.placesA Try.prog 76 0 = some (0, 1) := by kernel_rfl
@[go_sem] theorem tfo76_1 : Abs.foff Try.prog 76 1 = 1 := by kernel_rfl
@[go_sem] theorem tft76_1 : Abs.fty Try.prog 76 1 = 26 := by kernel_rfl
@[go_sem] theorem tpl76_1 : Abs.placesA Try.prog 76 1 = some (1, 2) := by kernel_rfl
@[go_sem] theorem tok77 : Abs.tok Try.prog 77 = true := by kernel_rfl
@[go_sem] theorem tagg77 : Abs.tagg Try.prog 77 = false := by kernel_rfl
@[go_sem] theorem tsize77 : Abs.tsize Try.prog 77 = 1 := by kernel_rfl
@[go_sem] theorem tzero77 : Abs.tzero Try.prog 77 = some [.t (.lit .nilFunc)] := by kernel_rfl
@[go_sem] theorem tok78 : Abs.tok Try.prog 78 = true := by kernel_rfl
@[go_sem] theorem tagg78 : Abs.tagg Try.prog 78 = false := by kernel_rfl
@[go_sem] theorem tsize78 : Abs.tsize Try.prog 78 = 1 := by kernel_rfl
@[go_sem] theorem tzero78 : Abs.tzero Try.prog 78 = some [.t (.lit .nilFunc)] := by kernel_rfl
@[go_sem] theorem tok79 : Abs.tok Try.prog 79 = true := by kernel_rfl
@[go_sem] theorem tagg79 : Abs.tagg Try.prog 79 = true := by kernel_rfl
@[go_sem] theorem tsize79 : Abs.tsize Try.prog 79 = 3 := by kernel_rfl
@[go_sem] theorem tzero79 : Abs.tzero Try.prog 79 = some [.t (.lit (.bool false)), .t (.seq (some true) []), .t (.seq (some true) [])] := by kernel_rfl
@[go_sem] theorem tbytes79 : Abs.tbytes Try.prog 79 = 56 := by kernel_rfl
@[go_sem] theorem tst79 : Abs.isStructD (Abs.tdesc Try.prog 79) = true := by kernel_rfl
@[go_sem] theorem tnf79 : Abs.nfields Try.prog 79 = 2 := by kernel_rfl
@[go_sem] theorem tpt79 : Abs.partsTok Try.prog 79 = true := by kernel_rfl
@[go_sem] theorem tfo79_0 : Abs.foff Try.prog 79 0 = 0 := by kernel_rfl
@[go_sem] theorem tft79_0 : Abs.fty Try.prog 79 0 = 26 := by kernel_rfl
@[go_sem] theorem tpl79_0 : Abs.placesA Try.prog 79 0 = some (0, 2) := by kernel_rfl
@[go_sem] theorem tfo79_1 : Abs.foff Try.prog 79 1 = 2 := by kernel_rfl
@[go_sem] theorem tft79_1 : Abs.fty Try.prog 79 1 = 24 := by kernel_rfl
@[go_sem] theorem tpl79_1 : Abs.placesA Try.prog 79 1 = some (2, 1) := by kernel_rfl
@[go_sem] theorem tok80 : Abs.tok Try.prog 80 = true := by kernel_rfl
@[go_sem] theorem tagg80 : Abs.tagg Try.prog 80 = true := by kernel_rfl
@[go_sem] theorem tsize80 : Abs.tsize Try.prog 80 = 3 := by kernel_rfl
@[go_sem] theorem tzero80 : Abs.tzero Try.prog 80 = some [.t (.lit (.bool false)), .t (.seq (some true) []), .t (.seq (some true) [])] := by kernel_rfl
@[go_sem] theorem tbytes80 : Abs.tbytes Try.prog 80 = 56 := by kernel_rfl
@[go_sem] theorem tst80 : Abs.isStructD (Abs.tdesc Try.prog 80) = true := by kernel_rfl
@[go_sem] theorem tnf80 : Abs.nfields Try.prog 80 = 2 := by kernel_rfl
@[go_sem] theorem tpt80 : Abs.partsTok Try.prog 80 = true := by kernel_rfl
@[go_sem] theorem tfo80_0 : Abs.foff Try.prog 80 0 = 0 := by kernel_rfl
@[go_sem] theorem tft80_0 : Abs.fty Try.prog 80 0 = 26 := by kernel_rfl
@[go_sem] theorem tpl80_0 : Abs.placesA Try.prog 80 0 = some (0, 2) := by kernel_rfl
@[go_sem] theorem tfo80_1 : Abs.foff Try.prog 80 1 = 2 := by kernel_rfl
@[go_sem] theorem tft80_1 : Abs.fty Try.prog 80 1 = 24 := by kernel_rfl
@[go_sem] theorem tpl80_1 : Abs.placesA Try.prog 80 1 = some (2, 1) := by kernel_rfl
@[go_sem] theorem tok81 : Abs.tok Try.prog 81 = true := by kernel_rfl
@[go_sem] theorem tagg81 : Abs.tagg Try.prog 81 = true := by kernel_rfl
@[go_sem] theorem tsize81 : Abs.tsize Try.prog 81 = 3 := by kernel_rfl
@[go_sem] theorem tzero81 : Abs.tzero Try.prog 81 = some [.t (.lit (.bool false)), .t (.seq (some true) []), .t (.seq (some true) [])] := by kernel_rfl
@[go_sem] theorem tbytes81 : Abs.tbytes Try.prog 81 = 56 := by kernel_rfl
@[go_sem] theorem tst81 : Abs.isStructD (Abs.tdesc Try.prog 81) = true := by kernel_rfl
@[go_sem] theorem tnf81 : Abs.nfields Try.prog 81 = 1 := by kernel_rfl
@[go_sem] theorem tpt81 : Abs.partsTok Try.prog 81 = true := by kernel_rfl
@[go_sem] theorem tfo81_0 : Abs.foff Try.prog 81 0 = 0 := by kernel_rfl
@[go_sem] theorem tft81_0 : Abs.fty Try.prog 81 0 = 80 := by kernel_rfl
@[go_sem] theorem tpl81_0 : Abs.placesA Try.prog 81 0 = some (0, 3) := by kernel_rfl
@[go_sem] theorem tok82 : Abs.tok Try.prog 82 = true := by kernel_rfl
@[go_sem] theorem tagg82 : Abs.tagg Try.prog 82 = true := by kernel_rfl
@[go_sem] theorem tsize82 : Abs.tsize Try.prog 82 = 3 := by kernel_rfl
@[go_sem] theorem tzero82 : Abs.tzero Try.prog 82 = some [.t (.lit (.bool false)), .t (.seq (some true) []), .t (.seq (some true) [])] := by kernel_rfl
@[go_sem] theorem tbytes82 : Abs.tbytes Try.prog 82 = 56 := by kernel_rfl
@[go_sem] theorem tst82 : Abs.isStructD (Abs.tdesc Try.prog 82) = true := by kernel_rfl
@[go_sem] theorem tnf82 : Abs.nfields Try.prog 82 = 1 := by kernel_rfl
@[go_sem] theorem tpt82 : Abs.partsTok Try.prog 82 = true := by kernel_rfl
@[go_sem] theorem tfo82_0 : Abs.foff Try.prog 82 0 = 0 := by kernel_rfl
@[go_sem] theorem tft82_0 : Abs.fty Try.prog 82 0 = 80 := by kernel_rfl
@[go_sem] theorem tpl82_0 : Abs.placesA Try.prog 82 0 = some (0, 3) := by kernel_rfl
@[go_sem] theorem tok83 : Abs.tok Try.prog 83 = true := by kernel_rfl
@[go_sem] theorem tagg83 : Abs.tagg Try.prog 83 = false := by kernel_rfl
@[go_sem] theorem tsize83 : Abs.tsize Try.prog 83 = 1 := by kernel_rfl
@[go_sem] theorem tzero83 : Abs.tzero Try.prog 83 = some [.t (.lit .nilFunc)] := by kernel_rfl
@[go_sem] theorem tok84 : Abs.tok Try.prog 84 = true := by kernel_rfl
@[go_sem] theorem tagg84 : Abs.tagg Try.prog 84 = false := by kernel_rfl
@[go_sem] theorem tsize84 : Abs.tsize Try.prog 84 = 1 := by kernel_rfl
@[go_sem] theorem tzero84 : Abs.tzero Try.prog 84 = some [.t (.lit .nilFunc)] := by kernel_rfl
@[go_sem] theorem tok85 : Abs.tok Try.prog 85 = true := by kernel_rfl
@[go_sem] theorem tagg85 : Abs.tagg Try.prog 85 = false := by kernel_rfl
@[go_sem] theorem tsize85 : Abs.tsize Try.prog 85 = 1 := by kernel_rfl
@[go_sem] theorem tzero85 : Abs.tzero Try.prog 85 = some [.t (.lit .nilFunc)] := by kernel_rfl
@[go_sem] theorem tok86 : Abs.tok Try.prog 86 = true := by kernel_rfl
@[go_sem] theorem tagg86 : Abs.tagg Try.prog 86 = false := by kernel_rfl
@[go_sem] theorem tsize86 : Abs.tsize Try.prog 86 = 1 := by kernel_rfl
@[go_sem] theorem tzero86 : Abs.tzero Try.prog 86 = some [.t (.lit .nilFunc)] := by kernel_rfl
@[go_sem] theorem tok87 : Abs.tok Try.prog 87 = true := by kernel_rfl
@[go_sem] theorem tagg87 : Abs.tagg Try.prog 87 = false := by kernel_rfl
@[go_sem] theorem tsize87 : Abs.tsize Try.prog 87 = 1 := by kernel_rfl
@[go_sem] theorem tzero87 : Abs.tzero Try.prog 87 = some [.t (.lit .nilFunc)] := by kernel_rfl
@[go_sem] theorem tok88 : Abs.tok Try.prog 88 = true := by kernel_rfl
@[go_sem] theorem tagg88 : Abs.tagg Try.prog 88 = false := by kernel_rfl
@[go_sem] theorem tsize88 : Abs.tsize Try.prog 88 = 1 := by kernel_rfl
@[go_sem] theorem tzero88 : Abs.tzero Try.prog 88 = some [.t (.lit .nilFunc)] := by kernel_rfl
@[go_sem] theorem tok89 : Abs.tok Try.prog 89 = true := by kernel_rfl
@[go_sem] theorem tagg89 : Abs.tagg Try.prog 89 = false := by kernel_rfl
@[go_sem] theorem tsize89 : Abs.tsize Try.prog 89 = 1 := by kernel_rfl
@[go_sem] theorem tzero89 : Abs.tzero Try.prog 89 = some [.t (.lit (.int .u64 0))] := by kernel_rfl
@[go_sem] theorem tbytes89 : Abs.tbytes Try.prog 89 = 8 := by kernel_rfl
@[go_sem] theorem tint89 : Abs.intD (Abs.tdesc Try.prog 89) = some .u64 := by kernel_rfl
@[go_sem] theorem tok90 : Abs.tok Try.prog 90 = true := by kernel_rfl
@[go_sem] theorem tagg90 : Abs.tagg Try.prog 90 = false := by kernel_rfl
@[go_sem] theorem tsize90 : Abs.tsize Try.prog 90 = 1 := by kernel_rfl
@[go_sem] theorem tzero90 : Abs.tzero Try.prog 90 = some [.t (.lit .nilFunc)] := by kernel_rfl
@[go_sem] theorem tok91 : Abs.tok Try.prog 91 = true := by kernel_rfl
@[go_sem] theorem tagg91 : Abs.tagg Try.prog 91 = false := by kernel_rfl
@[go_sem] theorem tsize91 : Abs.tsize Try.prog 91 = 1 := by kernel_rfl
@[go_sem] theorem tzero91 : Abs.tzero Try.prog 91 = some [.t (.lit .nilFunc)] := by kernel_rfl
@[go_sem] theorem tok92 : Abs.tok Try.prog 92 = true := by kernel_rfl
@[go_sem] theorem tagg92 : Abs.tagg Try.prog 92 = false := by kernel_rfl
@[go_sem] theorem tsize92 : Abs.tsize Try.prog 92 = 1 := by kernel_rfl
@[go_sem] theorem tzero92 : Abs.tzero Try.prog 92 = some [.t (.lit .nilFunc)] := by kernel_rfl
@[go_sem] theorem tok93 : Abs.tok Try.prog 93 = true := by kernel_rfl
@[go_sem] theorem tagg93 : Abs.tagg Try.prog 93 = false := by kernel_rfl
@[go_sem] theorem tsize93 : Abs.tsize Try.prog 93 = 1 := by kernel_rfl
@[go_sem] theorem tzero93 : Abs.tzero Try.prog 93 = some [.t (.lit .nilFunc)] := by kernel_rfl
@[go_sem] theorem tok94 : Abs.tok Try.prog 94 = true := by kernel_rfl
@[go_sem] theorem tagg94 : Abs.tagg Try.prog 94 = false := by kernel_rfl
@[go_sem] theorem tsize94 : Abs.tsize Try.prog 94 = 1 := by kernel_rfl
@[go_sem] theorem tzero94 : Abs.tzero Try.prog 94 = some [.t (.lit .nilFunc)] := by kernel_rfl
@[go_sem] theorem tok95 : Abs.tok Try.prog 95 = true := by kernel_rfl
@[go_sem] theorem tagg95 : Abs.tagg Try.prog 95 = false := by kernel_rfl
@[go_sem] theorem tsize95 : Abs.tsize Try.prog 95 = 1 := by kernel_rfl
@[go_sem] theorem tzero95 : Abs.tzero Try.prog 95 = some [.t (.lit .nilFunc)] := by kernel_rfl
@[go_sem] theorem tok96 : Abs.tok Try.prog 96 = true := by kernel_rfl
@[go_sem] theorem tagg96 : Abs.tagg Try.prog 96 = false := by kernel_rfl
@[go_sem] theorem tsize96 : Abs.tsize Try.prog 96 = 1 := by kernel_rfl
@[go_sem] theorem tzero96 : Abs.tzero Try.prog 96 = some [.t (.lit .nilFunc)] := by kernel_rfl
@[go_sem] theorem tok97 : Abs.tok Try.prog 97 = true := by kernel_rfl
@[go_sem] theorem tagg97 : Abs.tagg Try.prog 97 = false := by kernel_rfl
@[go_sem] theorem tsize97 : Abs.tsize Try.prog 97 = 1 := by kernel_rfl
@[go_sem] theorem tzero97 : Abs.tzero Try.prog 97 = some [.t (.lit .nilFunc)] := by kernel_rfl
@[go_sem] theorem tok98 : Abs.tok Try.prog 98 = true := by kernel_rfl
@[go_sem] theorem tagg98 : Abs.tagg Try.prog 98 = false := by kernel_rfl
@[go_sem] theorem tsize98 : Abs.tsize Try.prog 98 = 1 := by kernel_rfl
@[go_sem] theorem tzero98 : Abs.tzero Try.prog 98 = some [.t (.lit .nilFunc)] := by kernel_rfl
@[go_sem] theorem tok99 : Abs.tok Try.prog 99 = true := by kernel_rfl
@[go_sem] theorem tagg99 : Abs.tagg Try.prog 99 = false := by kernel_rfl
@[go_sem] theorem tsize99 : Abs.tsize Try.prog 99 = 1 := by kernel_rfl
@[go_sem] theorem tzero99 : Abs.tzero Try.prog 99 = some [.t (.lit .nilFunc)] := by kernel_rfl
@[go_sem] theorem tok100 : Abs.tok Try.prog 100 = true := by kernel_rfl
@[go_sem] theorem tagg100 : Abs.tagg Try.prog 100 = false := by kernel_rfl
@[go_sem] theorem tsize100 : Abs.tsize Try.prog 100 = 1 := by kernel_rfl
@[go_sem] theorem tzero100 : Abs.tzero Try.prog 100 = some [.t (.lit .nilFunc)] := by kernel_rfl
@[go_sem] theorem tok101 : Abs.tok Try.prog 101 = true := by kernel_rfl
@[go_sem] theorem tagg101 : Abs.tagg Try.prog 101 = false := by kernel_rfl
@[go_sem] theorem tsize101 : Abs.tsize Try.prog 101 = 1 := by kernel_rfl
@[go_sem] theorem tzero101 : Abs.tzero Try.prog 101 = some [.t (.lit .nilFunc)] := by kernel_rfl
@[go_sem] theorem tok102 : Abs.tok Try.prog 102 = true := by kernel_rfl
@[go_sem] theorem tagg102 : Abs.tagg Try.prog 102 = false := by kernel_rfl
@[go_sem] theorem tsize102 : Abs.tsize Try.prog 102 = 1 := by kernel_rfl
@[go_sem] theorem tzero102 : Abs.tzero Try.prog 102 = some [.t (.lit .nilFunc)] := by kernel_rfl
@[go_sem] theorem tok103 : Abs.tok Try.prog 103 = true := by kernel_rfl
@[go_sem] theorem tagg103 : Abs.tagg Try.prog 103 = false := by kernel_rfl
@[go_sem] theorem tsize103 : Abs.tsize Try.prog 103 = 1 := by kernel_rfl
@[go_sem] theorem tzero103 : Abs.tzero Try.prog 103 = some [.t (.lit .nilFunc)] := by kernel_rfl
@[go_sem] theorem tok104 : Abs.tok Try.prog 104 = true := by kernel_rfl
@[go_sem] theorem tagg104 : Abs.tagg Try.prog 104 = true := by kernel_rfl
@[go_sem] theorem tsize104 : Abs.tsize Try.prog 104 = 3 := by kernel_rfl
@[go_sem] theorem tzero104 : Abs.tzero Try.prog 104 = some [.t (.seq (some true) []), .t (.lit (.bool false)), .t (.seq (some true) [])] := by kernel_rfl
@[go_sem] theorem tbytes104 : Abs.tbytes Try.prog 104 = 56 := by kernel_rfl
@[go_sem] theorem tst104 : Abs.isStructD (Abs.tdesc Try.prog 104) = true := by kernel_rfl
@[go_sem] theorem tnf104 : Abs.nfields Try.prog 104 = 1 := by kernel_rfl
@[go_sem] theorem tpt104 : Abs.partsTok Try.prog 104 = true := by kernel_rfl
@[go_sem] theorem tfo104_0 : Abs.foff Try.prog 104 0 = 0 := by kernel_rfl
@[go_sem] theorem tft104_0 : Abs.fty Try.prog 104 0 = 46 := by kernel_rfl
@[go_sem] theorem tpl104_0 : Abs.placesA Try.prog 104 0 = some (0, 3) := by kernel_rfl
@[go_sem] theorem tok105 : Abs.tok Try.prog 105 = true := by kernel_rfl
@[go_sem] theorem tagg105 : Abs.tagg Try.prog 105 = true := by kernel_rfl
@[go_sem] theorem tsize105 : Abs.tsize Try.prog 105 = 3 := by kernel_rfl
@[go_sem] theorem tzero105 : Abs.tzero Try.prog 105 = some [.t (.seq (some true) []), .t (.lit (.bool false)), .t (.seq (some true) [])] := by kernel_rfl
@[go_sem] theorem tbytes105 : Abs.tbytes Try.prog 105 = 56 := by kernel_rfl
@[go_sem] theorem tst105 : Abs.isStructD (Abs.tdesc Try.prog 105) = true := by kernel_rfl
@[go_sem] theorem tnf105 : Abs.nfields Try.prog 105 = 1 := by kernel_rfl
@[go_sem] theorem tpt105 : Abs.partsTok Try.prog 105 = true := by kernel_rfl
@[go_sem] theorem tfo105_0 : Abs.foff Try.prog 105 0 = 0 := by kernel_rfl
@[go_sem] theorem tft105_0 : Abs.fty Try.prog 105 0 = 46 := by kernel_rfl
@[go_sem] theorem tpl105_0 : Abs.placesA Try.prog 105 0 = some (0, 3) := by kernel_rfl
@[go_sem] theorem tok106 : Abs.tok Try.prog 106 = true := by kernel_rfl
@[go_sem] theorem tagg106 : Abs.tagg Try.prog 106 = true := by kernel_rfl
@[go_sem] theorem tsize106 : Abs.tsize Try.prog 106 = 3 := by kernel_rfl
@[go_sem] theorem tzero106 : Abs.tzero Try.prog 106 = some [.t (.seq (some true) []), .t (.lit (.bool false)), .t (.seq (some true) [])] := by kernel_rfl
@[go_sem] theorem tbytes106 : Abs.tbytes Try.prog 106 = 56 := by kernel_rfl
@[go_sem] theorem tst106 : Abs.isStructD (Abs.tdesc Try.prog 106) = true := by kernel_rfl
@[go_sem] theorem tnf106 : Abs.nfields Try.prog 106 = 1 := by kernel_rfl
@[go_sem] theorem tpt106 : Abs.partsTok Try.prog 106 = true := by kernel_rfl
@[go_sem] theorem tfo106_0 : Abs.foff Try.prog 106 0 = 0 := by kernel_rfl
@[go_sem] theorem tft106_0 : Abs.fty Try.prog 106 0 = 105 := by kernel_rfl
@[go_sem] theorem tpl106_0 : Abs.placesA Try.prog 106 0 = some (0, 3) := by kernel_rfl
@[go_sem] theorem tok107 : Abs.tok Try.prog 107 = true := by kernel_rfl
@[go_sem] theorem tagg107 : Abs.tagg Try.prog 107 = true := by kernel_rfl
@[go_sem] theorem tsize107 : Abs.tsize Try.prog 107 = 3 := by kernel_rfl
@[go_sem] theorem tzero107 : Abs.tzero Try.prog 107 = some [.t (.seq (some true) []), .t (.lit (.bool false)), .t (.seq (some true) [])] := by kernel_rfl
@[go_sem] theorem tbytes107 : Abs.tbytes Try.prog 107 = 56 := by kernel_rfl
@[go_sem] theorem tst107 : Abs.isStructD (Abs.tdesc Try.prog 107) = true := by kernel_rfl
@[go_sem] theorem tnf107 : Abs.nfields Try.prog 107 = 1 := by kernel_rfl
@[go_sem] theorem tpt107 : Abs.partsTok Try.prog 107 = true := by kernel_rfl
@[go_sem] theorem tfo107_0 : Abs.foff Try.prog 107 0 = 0 := by kernel_rfl
@[go_sem] theorem tft107_0 : Abs.fty Try.prog 107 0 = 105 := by kernel_rfl
@[go_sem] theorem tpl107_0 : Abs.placesA Try.prog 107 0 = some (0, 3) := by kernel_rfl
@[go_sem] theorem tok109 : Abs.tok Try.prog 109 = true := by kernel_rfl
@[go_sem] theorem tagg109 : Abs.tagg Try.prog 109 = false := by kernel_rfl
@[go_sem] theorem tsize109 : Abs.tsize Try.prog 109 = 1 := by kernel_rfl
@[go_sem] theorem tzero109 : Abs.tzero Try.prog 109 = some [.t (.lit .nilFunc)] := by kernel_rfl
@[go_sem] theorem tok110 : Abs.tok Try.prog 110 = true := by kernel_rfl
@[go_sem] theorem tagg110 : Abs.tagg Try.prog 110 = true := by kernel_rfl
@[go_sem] theorem tsize110 : Abs.tsize Try.prog 110 = 1 := by kernel_rfl
@[go_sem] theorem tzero110 : Abs.tzero Try.prog 110 = some [.t (.seq (some true) [])] := by kernel_rfl
@[go_sem] theorem tbytes110 : Abs.tbytes Try.prog 110 = 24 := by kernel_rfl
@[go_sem] theorem tst110 : Abs.isStructD (Abs.tdesc Try.prog 110) = true := by kernel_rfl
@[go_sem] theorem tnf110 : Abs.nfields Try.prog 110 = 1 := by kernel_rfl
@[go_sem] theorem tpt110 : Abs.partsTok Try.prog 110 = true := by kernel_rfl
@[go_sem] theorem tfo110_0 : Abs.foff Try.prog 110 0 = 0 := by kernel_rfl
@[go_sem] theorem tft110_0 : Abs.fty Try.prog 110 0 = 24 := by kernel_rfl
@[go_sem] theorem tpl110_0 : Abs.placesA Try.prog 110 0 = some (0, 1) := by kernel_rfl
@[go_sem] theorem tok111 : Abs.tok Try.prog 111 = true := by kernel_rfl
@[go_sem] theorem tagg111 : Abs.tagg Try.prog 111 = true := by kernel_rfl
@[go_sem] theorem tsize111 : Abs.tsize Try.prog 111 = 1 := by kernel_rfl
@[go_sem] theorem tzero111 : Abs.tzero Try.prog 111 = some [.t (.seq (some true) [])] := by kernel_rfl
@[go_sem] theorem tbytes111 : Abs.tbytes Try.prog 111 = 24 := by kernel_rfl
@[go_sem] theorem tst111 : Abs.isStructD (Abs.tdesc Try.prog 111) = true := by kernel_rfl
@[go_sem] theorem tnf111 : Abs.nfields Try.prog 111 = 1 := by kernel_rfl
@[go_sem] theorem tpt111 : Abs.partsTok Try.prog 111 = true := by kernel_rfl
@[go_sem] theorem tfo111_0 : Abs.foff Try.prog 111 0 = 0 := by kernel_rfl
@[go_sem] theorem tft111_0 : Abs.fty Try.prog 111 0 = 24 := by kernel_rfl
@[go_sem] theorem tpl111_0 : Abs.placesA Try.prog 111 0 = some (0, 1) := by kernel_rfl
@[go_sem] theorem tok112 : Abs.tok Try.prog 112 = true := by kernel_rfl
@[go_sem] theorem tagg112 : Abs.tagg Try.prog 112 = true := by kernel_rfl
@[go_sem] theorem tsize112 : Abs.tsize Try.prog 112 = 2 := by kernel_rfl
@[go_sem] theorem tzero112 : Abs.tzero Try.prog 112 = some [.t (.seq (some true) []), .t (.lit (.bool false))] := by kernel_rfl
@[go_sem] theorem tbytes112 : Abs.tbytes Try.prog 112 = 32 := by kernel_rfl
@[go_sem] theorem tst112 : Abs.isStructD (Abs.tdesc Try.prog 112) = true := by kernel_rfl
@[go_sem] theorem tnf112 : Abs.nfields Try.prog 112 = 2 := by kernel_rfl
@[go_sem] theorem tpt112 : Abs.partsTok Try.prog 112 = true := by kernel_rfl
@[go_sem] theorem tfo112_0 : Abs.foff Try.prog 112 0 = 0 := by kernel_rfl
@[go_sem] theorem tft112_0 : Abs.fty Try.prog 112 0 = 111 := by kernel_rfl
@[go_sem] theorem tpl112_0 : Abs.placesA Try.prog 112 0 = some (0, 1) := by kernel_rfl
@[go_sem] theorem tfo112_1 : Abs.foff Try.prog 112 1 = 1 := by kernel_rfl
@[go_sem] theorem tft112_1 : Abs.fty Try.prog 112 1 = 4 := by kernel_rfl
@[go_sem] theorem tpl112_1 : Abs.placesA Try.prog 112 1 = some (1, 1) := by kernel_rfl
@[go_sem] theorem tok113 : Abs.tok Try.prog 113 = true := by kernel_rfl
@[go_sem] theorem tagg113 : Abs.tagg Try.prog 113 = true := by kernel_rfl
@[go_sem] theorem tsize113 : Abs.tsize Try.prog 113 = 2 := by kernel_rfl
@[go_sem] theorem tzero113 : Abs.tzero Try.prog 113 = some [.t (.seq (some true) []), .t (.lit (.bool false))] := by kernel_rfl
@[go_sem] theorem tbytes113 : Abs.tbytes Try.prog 113 = 32 := by kernel_rfl
@[go_sem] theorem tst113 : Abs.isStructD (Abs.tdesc Try.prog 113) = true := by kernel_rfl
@[go_sem] theorem tnf113 : Abs.nfields Try.prog 113 = 2 := by kernel_rfl
@[go_sem] theorem tpt113 : Abs.partsTok Try.prog 113 = true := by kernel_rfl
@[go_sem] theorem tfo113_0 : Abs.foff Try.prog 113 0 = 0 := by kernel_rfl
@[go_sem] theorem tft113_0 : Abs.fty Try.prog 113 0 = 111 := by kernel_rfl
@[go_sem] theorem tpl113_0 : Abs.placesA Try.prog 113 0 = some (0, 1) := by kernel_rfl
@[go_sem] theorem tfo113_1 : Abs.foff Try.prog 113 1 = 1 := by kernel_rfl
@[go_sem] theorem tft113_1 : Abs.fty Try.prog 113 1 = 4 := by kernel_rfl
@[go_sem] theorem tpl113_1 : Abs.placesA Try.prog 113 1 = some (1, 1) := by kernel_rfl
@[go_sem] theorem tok114 : Abs.tok Try.prog 114 = true := by kernel_rfl
@[go_sem] theorem tagg114 : Abs.tagg Try.prog 114 = false := by kernel_rfl
@[go_sem] theorem tsize114 : Abs.tsize Try.prog 114 = 1 := by kernel_rfl
@[go_sem] theorem tzero114 : Abs.tzero Try.prog 114 = some [.t (.lit .nilFunc)] := by kernel_rfl
@[go_sem] theorem tok115 : Abs.tok Try.prog 115 = true := by kernel_rfl
@[go_sem] theorem tagg115 : Abs.tagg Try.prog 115 = false := by kernel_rfl
@[go_sem] theorem tsize115 : Abs.tsize Try.prog 115 = 1 := by kernel_rfl
@[go_sem] theorem tzero115 : Abs.tzero Try.prog 115 = some [.t (.lit (.int .u32 0))] := by kernel_rfl
@[go_sem] theorem tbytes115 : Abs.tbytes Try.prog 115 = 4 := by kernel_rfl
@[go_sem] theorem tint115 : Abs.intD (Abs.tdesc Try.prog 115) = some .u32 := by kernel_rfl
@[go_sem] theorem tok116 : Abs.tok Try.prog 116 = true := by kernel_rfl
@[go_sem] theorem tagg116 : Abs.tagg Try.prog 116 = false := by kernel_rfl
@[go_sem] theorem tsize116 : Abs.tsize Try.prog 116 = 1 := by kernel_rfl
@[go_sem] theorem tzero116 : Abs.tzero Try.prog 116 = some [.t (.lit .nilFunc)] := by kernel_rfl
@[go_sem] theorem tok118 : Abs.tok Try.prog 118 = true := by kernel_rfl
@[go_sem] theorem tagg118 : Abs.tagg Try.prog 118 = false := by kernel_rfl
@[go_sem] theorem tsize118 : Abs.tsize Try.prog 118 = 1 := by kernel_rfl
@[go_sem] theorem tzero118 : Abs.tzero Try.prog 118 = some [.t (.lit .nilFunc)] := by kernel_rfl
@[go_sem] theorem tok119 : Abs.tok Try.prog 119 = true := by kernel_rfl
@[go_sem] theorem tagg119 : Abs.tagg Try.prog 119 = false := by kernel_rfl
@[go_sem] theorem tsize119 : Abs.tsize Try.prog 119 = 1 := by kernel_rfl
@[go_sem] theorem tzero119 : Abs.tzero Try.prog 119 = some [.t (.lit .nilFunc)] := by kernel_rfl
@[go_sem] theorem tok120 : Abs.tok Try.prog 120 = true := by kernel_rfl
@[go_sem] theorem tagg120 : Abs.tagg Try.prog 120 = false := by kernel_rfl
@[go_sem] theorem tsize120 : Abs.tsize Try.prog 120 = 1 := by kernel_rfl
@[go_sem] theorem tzero120 : Abs.tzero Try.prog 120 = some [.t (.lit .nilFunc)] := by kernel_rfl
@[go_sem] theorem tok121 : Abs.tok Try.prog 121 = true := by kernel_rfl
@[go_sem] theorem tagg121 : Abs.tagg Try.prog 121 = false := by kernel_rfl
@[go_sem] theorem tsize121 : Abs.tsize Try.prog 121 = 1 := by kernel_rfl
@[go_sem] theorem tzero121 : Abs.tzero Try.prog 121 = some [.t (.lit .nilFunc)] := by kernel_rfl
@[go_sem] theorem tok122 : Abs.tok Try.prog 122 = true := by kernel_rfl
@[go_sem] theorem tagg122 : Abs.tagg Try.prog 122 = false := by kernel_rfl
@[go_sem] theorem tsize122 : Abs.tsize Try.prog 122 = 1 := by kernel_rfl
@[go_sem] theorem tzero122 : Abs.tzero Try.prog 122 = some [.t (.lit .nilFunc)] := by kernel_rfl
@[go_sem] theorem tok123 : Abs.tok Try.prog 123 = true := by kernel_rfl
@[go_sem] theorem tagg123 : Abs.tagg Try.prog 123 = false := by kernel_rfl
@[go_sem] theorem tsize123 : Abs.tsize Try.prog 123 = 1 := by kernel_rfl
@[go_sem] theorem tzero123 : Abs.tzero Try.prog 123 = some [.t (.lit .nilFunc)] := by kernel_rfl
@[go_sem] theorem tok124 : Abs.tok Try.prog 124 = true := by kernel_rfl
@[go_sem] theorem tagg124 : Abs.tagg Try.prog 124 = false := by kernel_rfl
@[go_sem] theorem tsize124 : Abs.tsize Try.prog 124 = 1 := by kernel_rfl
@[go_sem] theorem tzero124 : Abs.tzero Try.prog 124 = some [.t (.lit .nilFunc)] := by kernel_rfl
@[go_sem] theorem tok126 : Abs.tok Try.prog 126 = true := by kernel_rfl
@[go_sem] theorem tagg126 : Abs.tagg Try.prog 126 = false := by kernel_rfl
@[go_sem] theorem tsize126 : Abs.tsize Try.prog 126 = 1 := by kernel_rfl
@[go_sem] theorem tzero126 : Abs.tzero Try.prog 126 = some [.t (.lit .nilFunc)] := by kernel_rfl
@[go_sem] theorem tok128 : Abs.tok Try.prog 128 = true := by kernel_rfl
@[go_sem] theorem tagg128 : Abs.tagg Try.prog 128 = false := by kernel_rfl
@[go_sem] theorem tsize128 : Abs.tsize Try.prog 128 = 1 := by kernel_rfl
@[go_sem] theorem tzero128 : Abs.tzero Try.prog 128 = some [.t (.lit .nilFunc)] := by kernel_rfl
@[go_sem] theorem tok129 : Abs.tok Try.prog 129 = true := by kernel_rfl
@[go_sem] theorem tagg129 : Abs.tagg Try.prog 129 = false := by kernel_rfl
@[go_sem] theorem tsize129 : Abs.tsize Try.prog 129 = 1 := by kernel_rfl
@[go_sem] theorem tzero129 : Abs.tzero Try.prog 129 = some [.t (.lit .nilFunc)] := by kernel_rfl
@[go_sem] theorem tok130 : Abs.tok Try.prog 130 = true := by kernel_rfl
@[go_sem] theorem tagg130 : Abs.tagg Try.prog 130 = false := by kernel_rfl
@[go_sem] theorem tsize130 : Abs.tsize Try.prog 130 = 1 := by kernel_rfl
@[go_sem] theorem tzero130 : Abs.tzero Try.prog 130 = some [.t (.lit .nilFunc)] := by kernel_rfl
@[go_sem] theorem tok131 : Abs.tok Try.prog 131 = true := by kernel_rfl
@[go_sem] theorem tagg131 : Abs.tagg Try.prog 131 = false := by kernel_rfl
@[go_sem] theorem tsize131 : Abs.tsize Try.prog 131 = 1 := by kernel_rfl
@[go_sem] theorem tzero131 : Abs.tzero Try.prog 131 = some [.t (.lit .nilFunc)] := by kernel_rfl
@[go_sem] theorem tok132 : Abs.tok Try.prog 132 = true := by kernel_rfl
@[go_sem] theorem tagg132 : Abs.tagg Try.prog 132 = false := by kernel_rfl
@[go_sem] theorem tsize132 : Abs.tsize Try.prog 132 = 1 := by kernel_rfl
@[go_sem] theorem tzero132 : Abs.tzero Try.prog 132 = some [.t (.lit .nilFunc)] := by kernel_rfl
@[go_sem] theorem tok133 : Abs.tok Try.prog 133 = true := by kernel_rfl
@[go_sem] theorem tagg133 : Abs.tagg Try.prog 133 = false := by kernel_rfl
@[go_sem] theorem tsize133 : Abs.tsize Try.prog 133 = 1 := by kernel_rfl
@[go_sem] theorem tzero133 : Abs.tzero Try.prog 133 = some [.t (.lit .nilFunc)] := by kernel_rfl
@[go_sem] theorem tok134 : Abs.tok Try.prog 134 = true := by kernel_rfl
@[go_sem] theorem tagg134 : Abs.tagg Try.prog 134 = false := by kernel_rfl
@[go_sem] theorem tsize134 : Abs.tsize Try.prog 134 = 1 := by kernel_rfl
@[go_sem] theorem tzero134 : Abs.tzero Try.prog 134 = some [.t (.lit .nilFunc)] := by kernel_rfl
@[go_sem] theorem tok135 : Abs.tok Try.prog 135 = true := by kernel_rfl
@[go_sem] theorem tagg135 : Abs.tagg Try.prog 135 = false := by kernel_rfl
@[go_sem] theorem tsize135 : Abs.tsize Try.prog 135 = 1 := by kernel_rfl
@[go_sem] theorem tzero135 : Abs.tzero Try.prog 135 = some [.t (.seq (some true) [])] := by kernel_rfl
@[go_sem] theorem tbytes135 : Abs.tbytes Try.prog 135 = 24 := by kernel_rfl
@[go_sem] theorem tsl135 : Abs.isSliceD (Abs.tdesc Try.prog 135) = true := by kernel_rfl
@[go_sem] theorem telem135 : Abs.telem Try.prog 135 = 24 := by kernel_rfl
@[go_sem] theorem tok136 : Abs.tok Try.prog 136 = true := by kernel_rfl
@[go_sem] theorem tagg136 : Abs.tagg Try.prog 136 = false := by kernel_rfl
@[go_sem] theorem tsize136 : Abs.tsize Try.prog 136 = 1 := by kernel_rfl
@[go_sem] theorem tzero136 : Abs.tzero Try.prog 136 = some [.t (.lit .nilFunc)] := by kernel_rfl
@[go_sem] theorem tok137 : Abs.tok Try.prog 137 = true := by kernel_rfl
@[go_sem] theorem tagg137 : Abs.tagg Try.prog 137 = false := by kernel_rfl
@[go_sem] theorem tsize137 : Abs.tsize Try.prog 137 = 1 := by kernel_rfl
@[go_sem] theorem tzero137 : Abs.tzero Try.prog 137 = some [.t (.lit .nilFunc)] := by kernel_rfl
@[go_sem] theorem tok138 : Abs.tok Try.prog 138 = true := by kernel_rfl
@[go_sem] theorem tagg138 : Abs.tagg Try.prog 138 = false := by kernel_rfl
@[go_sem] theorem tsize138 : Abs.tsize Try.prog 138 = 1 := by kernel_rfl
@[go_sem] theorem tzero138 : Abs.tzero Try.prog 138 = some [.t (.lit .nilFunc)] := by kernel_rfl
@[go_sem] theorem tok139 : Abs.tok Try.prog 139 = true := by kernel_rfl
@[go_sem] theorem tagg139 : Abs.tagg Try.prog 139 = true := by kernel_rfl
@[go_sem] theorem tsize139 : Abs.tsize Try.prog 139 = 4 := by kernel_rfl
@[go_sem] theorem tzero139 : Abs.tzero Try.prog 139 = some [.t (.lit (.pointer none)), .t (.lit (.pointer none)), .t (.lit (.pointer none)), .t (.lit (.string ⟨#[]⟩))] := by kernel_rfl
@[go_sem] theorem tbytes139 : Abs.tbytes Try.prog 139 = 40 := by kernel_rfl
@[go_sem] theorem tst139 : Abs.isStructD (Abs.tdesc Try.prog 139) = true := by kernel_rfl
@[go_sem] theorem tnf139 : Abs.nfields Try.prog 139 = 4 := by kernel_rfl
@[go_sem] theorem tpt139 : Abs.partsTok Try.prog 139 = true := by kernel_rfl
@[go_sem] theorem tfo139_0 : Abs.foff Try.prog 139 0 = 0 := by kernel_rfl
@[go_sem] theorem tft139_0 : Abs.fty Try.prog 139 0 = 17 := by kernel_rfl
@[go_sem] theorem tpl139_0 : Abs.placesA Try.prog 139 0 = some (0, 1) := by kernel_rfl
@[go_sem] theorem tfo139_1 : Abs.foff Try.prog 139 1 = 1 := by kernel_rfl
@[go_sem] theorem tft139_1 : Abs.fty Try.prog 139 1 = 17 := by kernel_rfl
@[go_sem] theorem tpl139_1 : Abs.placesA Try.prog 139 1 = some (1, 1) := by kernel_rfl
@[go_sem] theorem tfo139_2 : Abs.foff Try.prog 139 2 = 2 := by kernel_rfl
@[go_sem] theorem tft139_2 : Abs.fty Try.prog 139 2 = 17 := by kernel_rfl
@[go_sem] theorem tpl139_2 : Abs.placesA Try.prog 139 2 = some (2, 1) := by kernel_rfl
@[go_sem] theorem tfo139_3 : Abs.foff Try.prog 139 3 = 3 := by kernel_rfl
@[go_sem] theorem tft139_3 : Abs.fty Try.prog 139 3 = 9 := by kernel_rfl
@[go_sem] theorem tpl139_3 : Abs.placesA Try.prog 139 3 = some (3, 1) := by kernel_rfl
@[go_sem] theorem tok140 : Abs.tok Try.prog 140 = true := by kernel_rfl
@[go_sem] theorem tagg140 : Abs.tagg Try.prog 140 = true := by kernel_rfl
@[go_sem] theorem tsize140 : Abs.tsize Try.prog 140 = 4 := by kernel_rfl
@[go_sem] theorem tzero140 : Abs.tzero Try.prog 140 = some [.t (.lit (.pointer none)), .t (.lit (.pointer none)), .t (.lit (.pointer none)), .t (.lit (.string ⟨#[]⟩))] := by kernel_rfl
@[go_sem] theorem tbytes140 : Abs.tbytes Try.prog 140 = 40 := by kernel_rfl
@[go_sem] theorem tst140 : Abs.isStructD (Abs.tdesc Try.prog 140) = true := by kernel_rfl
@[go_sem] theorem tnf140 : Abs.nfields Try.prog 140 = 4 := by kernel_rfl
@[go_sem] theorem tpt140 : Abs.partsTok Try.prog 140 = true := by kernel_rfl
@[go_sem] theorem tfo140_0 : Abs.foff Try.prog 140 0 = 0 := by kernel_rfl
@[go_sem] theorem tft140_0 : Abs.fty Try.prog 140 0 = 17 := by kernel_rfl
@[go_sem] theorem tpl140_0 : Abs.placesA Try.prog 140 0 = some (0, 1) := by kernel_rfl
@[go_sem] theorem tfo140_1 : Abs.foff Try.prog 140 1 = 1 := by kernel_rfl
@[go_sem] theorem tft140_1 : Abs.fty Try.prog 140 1 = 17 := by kernel_rfl
@[go_sem] theorem tpl140_1 : Abs.placesA Try.prog 140 1 = some (1, 1) := by kernel_rfl
@[go_sem] theorem tfo140_2 : Abs.foff Try.prog 140 2 = 2 := by kernel_rfl
@[go_sem] theorem tft140_2 : Abs.fty Try.prog 140 2 = 17 := by kernel_rfl
@[go_sem] theorem tpl140_2 : Abs.placesA Try.prog 140 2 = some (2, 1) := by kernel_rfl
@[go_sem] theorem tfo140_3 : Abs.foff Try.prog 140 3 = 3 := by kernel_rfl
@[go_sem] theorem tft140_3 : Abs.fty Try.prog 140 3 = 9 := by kernel_rfl
@[go_sem] theorem tpl140_3 : Abs.placesA Try.prog 140 3 = some (3, 1) := by kernel_rfl
@[go_sem] theorem tok141 : Abs.tok Try.prog 141 = true := by kernel_rfl
@[go_sem] theorem tagg141 : Abs.tagg Try.prog 141 = true := by kernel_rfl
@[go_sem] theorem tsize141 : Abs.tsize Try.prog 141 = 0 := by kernel_rfl
@[go_sem] theorem tzero141 : Abs.tzero Try.prog 141 = some [] := by kernel_rfl
@[go_sem] theorem tbytes141 : Abs.tbytes Try.prog 141 = 0 := by kernel_rfl
@[go_sem] theorem tsl141 : Abs.isSliceD (Abs.tdesc Try.prog 141) = false := by kernel_rfl
@[go_sem] theorem tar141 : Abs.isArrayD (Abs.tdesc Try.prog 141) = true := by kernel_rfl
@[go_sem] theorem telem141 : Abs.telem Try.prog 141 = 16 := by kernel_rfl
@[go_sem] theorem tlen141 : Abs.arrLen (Abs.tdesc Try.prog 141) = 0 := by kernel_rfl
@[go_sem] theorem tpt141 : Abs.partsTok Try.prog 141 = true := by kernel_rfl
@[go_sem] theorem tok142 : Abs.tok Try.prog 142 = true := by kernel_rfl
@[go_sem] theorem tagg142 : Abs.tagg Try.prog 142 = true := by kernel_rfl
@[go_sem] theorem tsize142 : Abs.tsize Try.prog 142 = 0 := by kernel_rfl
@[go_sem] theorem tzero142 : Abs.tzero Try.prog 142 = some [] := by kernel_rfl
@[go_sem] theorem tbytes142 : Abs.tbytes Try.prog 142 = 0 := by kernel_rfl
@[go_sem] theorem tst142 : Abs.isStructD (Abs.tdesc Try.prog 142) = true := by kernel_rfl
@[go_sem] theorem tnf142 : Abs.nfields Try.prog 142 = 1 := by kernel_rfl
@[go_sem] theorem tpt142 : Abs.partsTok Try.prog 142 = true := by kernel_rfl
@[go_sem] theorem tfo142_0 : Abs.foff Try.prog 142 0 = 0 := by kernel_rfl
@[go_sem] theorem tft142_0 : Abs.fty Try.prog 142 0 = 141 := by kernel_rfl
@[go_sem] theorem tpl142_0 : Abs.placesA Try.prog 142 0 = some (0, 0) := by kernel_rfl
@[go_sem] theorem tok143 : Abs.tok Try.prog 143 = true := by kernel_rfl
@[go_sem] theorem tagg143 : Abs.tagg Try.prog 143 = true := by kernel_rfl
@[go_sem] theorem tsize143 : Abs.tsize Try.prog 143 = 0 := by kernel_rfl
@[go_sem] theorem tzero143 : Abs.tzero Try.prog 143 = some [] := by kernel_rfl
@[go_sem] theorem tbytes143 : Abs.tbytes Try.prog 143 = 0 := by kernel_rfl
@[go_sem] theorem tst143 : Abs.isStructD (Abs.tdesc Try.prog 143) = true := by kernel_rfl
@[go_sem] theorem tnf143 : Abs.nfields Try.prog 143 = 1 := by kernel_rfl
@[go_sem] theorem tpt143 : Abs.partsTok Try.prog 143 = true := by kernel_rfl
@[go_sem] theorem tfo143_0 : Abs.foff Try.prog 143 0 = 0 := by kernel_rfl
@[go_sem] theorem tft143_0 : Abs.fty Try.prog 143 0 = 141 := by kernel_rfl
@[go_sem] theorem tpl143_0 : Abs.placesA Try.prog 143 0 = some (0, 0) := by kernel_rfl
@[go_sem] theorem tok144 : Abs.tok Try.prog 144 = true := by kernel_rfl
@[go_sem] theorem tagg144 : Abs.tagg Try.prog 144 = false := by kernel_rfl
@[go_sem] theorem tsize144 : Abs.tsize Try.prog 144 = 1 := by kernel_rfl
@[go_sem] theorem tzero144 : Abs.tzero Try.prog 144 = some [.t (.lit (.int .u8 0))] := by kernel_rfl
@[go_sem] theorem tbytes144 : Abs.tbytes Try.prog 144 = 1 := by kernel_rfl
@[go_sem] theorem tint144 : Abs.intD (Abs.tdesc Try.prog 144) = some .u8 := by kernel_rfl
@[go_sem] theorem tok145 : Abs.tok Try.prog 145 = true := by kernel_rfl
@[go_sem] theorem tagg145 : Abs.tagg Try.prog 145 = false := by kernel_rfl
@[go_sem] theorem tsize145 : Abs.tsize Try.prog 145 = 1 := by kernel_rfl
@[go_sem] theorem tzero145 : Abs.tzero Try.prog 145 = some [.t (.lit (.int .u8 0))] := by kernel_rfl
@[go_sem] theorem tbytes145 : Abs.tbytes Try.prog 145 = 1 := by kernel_rfl
@[go_sem] theorem tint145 : Abs.intD (Abs.tdesc Try.prog 145) = some .u8 := by kernel_rfl
@[go_sem] theorem tok146 : Abs.tok Try.prog 146 = true := by kernel_rfl
@[go_sem] theorem tagg146 : Abs.tagg Try.prog 146 = false := by kernel_rfl
@[go_sem] theorem tsize146 : Abs.tsize Try.prog 146 = 1 := by kernel_rfl
@[go_sem] theorem tzero146 : Abs.tzero Try.prog 146 = some [.t (.lit .nilFunc)] := by kernel_rfl
@[go_sem] theorem tok147 : Abs.tok Try.prog 147 = true := by kernel_rfl
@[go_sem] theorem tagg147 : Abs.tagg Try.prog 147 = false := by kernel_rfl
@[go_sem] theorem tsize147 : Abs.tsize Try.prog 147 = 1 := by kernel_rfl
@[go_sem] theorem tzero147 : Abs.tzero Try.prog 147 = some [.t (.lit (.pointer none))] := by kernel_rfl
@[go_sem] theorem tbytes147 : Abs.tbytes Try.prog 147 = 8 := by kernel_rfl
@[go_sem] theorem tok148 : Abs.tok Try.prog 148 = true := by kernel_rfl
@[go_sem] theorem tagg148 : Abs.tagg Try.prog 148 = false := by kernel_rfl
@[go_sem] theorem tsize148 : Abs.tsize Try.prog 148 = 1 := by kernel_rfl
@[go_sem] theorem tzero148 : Abs.tzero Try.prog 148 = some [.t (.lit (.int .i32 0))] := by kernel_rfl
@[go_sem] theorem tbytes148 : Abs.tbytes Try.prog 148 = 4 := by kernel_rfl
@[go_sem] theorem tint148 : Abs.intD (Abs.tdesc Try.prog 148) = some .i32 := by kernel_rfl
@[go_sem] theorem tok149 : Abs.tok Try.prog 149 = true := by kernel_rfl
@[go_sem] theorem tagg149 : Abs.tagg Try.prog 149 = false := by kernel_rfl
@[go_sem] theorem tsize149 : Abs.tsize Try.prog 149 = 1 := by kernel_rfl
@[go_sem] theorem tzero149 : Abs.tzero Try.prog 149 = some [.t (.lit (.int .i32 0))] := by kernel_rfl
@[go_sem] theorem tbytes149 : Abs.tbytes Try.prog 149 = 4 := by kernel_rfl
@[go_sem] theorem tint149 : Abs.intD (Abs.tdesc Try.prog 149) = some .i32 := by kernel_rfl
@[go_sem] theorem tok150 : Abs.tok Try.prog 150 = true := by kernel_rfl
@[go_sem] theorem tagg150 : Abs.tagg Try.prog 150 = true := by kernel_rfl
@[go_sem] theorem tsize150 : Abs.tsize Try.prog 150 = 11 := by kernel_rfl
@[go_sem] theorem tzero150 : Abs.tzero Try.prog 150 = some [.t (.lit (.int .u64 0)), .t (.lit (.int .u64 0)), .t (.lit (.int .u32 0)), .t (.lit (.int .u8 0)), .t (.lit (.int .u8 0)), .t (.lit (.int .u8 0)), .t (.lit (.int .u8 0)), .t (.lit .nilFunc), .t (.lit (.pointer none)), .t (.lit (.int .i32 0)), .t (.lit (.int .i32 0))] := by kernel_rfl
@[go_sem] theorem tbytes150 : Abs.tbytes Try.prog 150 = 48 := by kernel_rfl
@[go_sem] theorem tst150 : Abs.isStructD (Abs.tdesc Try.prog 150) = true := by kernel_rfl
@[go_sem] theorem tnf150 : Abs.nfields Try.prog 150 = 11 := by kernel_rfl
@[go_sem] theorem tpt150 : Abs.partsTok Try.prog 150 = true := by kernel_rfl
@[go_sem] theorem tfo150_0 : Abs.foff Try.prog 150 0 = 0 := by kernel_rfl
@[go_sem] theorem tft150_0 : Abs.fty Try.prog 150 0 = 12 := by kernel_rfl
@[go_sem] theorem tpl150_0 : Abs.placesA Try.prog 150 0 = some (0, 1) := by kernel_rfl
@[go_sem] theorem tfo150_1 : Abs.foff Try.prog 150 1 = 1 := by kernel_rfl
@[go_sem] theorem tft150_1 : Abs.fty Try.prog 150 1 = 12 := by kernel_rfl
@[go_sem] theorem tpl150_1 : Abs.placesA Try.prog 150 1 = some (1, 1) := by kernel_rfl
@[go_sem] theorem tfo150_2 : Abs.foff Try.prog 150 2 = 2 := by kernel_rfl
@[go_sem] theorem tft150_2 : Abs.fty Try.prog 150 2 = 115 := by kernel_rfl
@[go_sem] theorem tpl150_2 : Abs.placesA Try.prog 150 2 = some (2, 1) := by kernel_rfl
@[go_sem] theorem tfo150_3 : Abs.foff Try.prog 150 3 = 3 := by kernel_rfl
@[go_sem] theorem tft150_3 : Abs.fty Try.prog 150 3 = 144 := by kernel_rfl
@[go_sem] theorem tpl150_3 : Abs.placesA Try.prog 150 3 = some (3, 1) := by kernel_rfl
@[go_sem] theorem tfo150_4 : Abs.foff Try.prog 150 4 = 4 := by kernel_rfl
@[go_sem] theorem tft150_4 : Abs.fty Try.prog 150 4 = 5 := by kernel_rfl
@[go_sem] theorem tpl150_4 : Abs.placesA Try.prog 150 4 = some (4, 1) := by kernel_rfl
@[go_sem] theorem tfo150_5 : Abs.foff Try.prog 150 5 = 5 := by kernel_rfl
@[go_sem] theorem tft150_5 : Abs.fty Try.prog 150 5 = 5 := by kernel_rfl
@[go_sem] theorem tpl150_5 : Abs.placesA Try.prog 150 5 = some (5, 1) := by kernel_rfl
@[go_sem] theorem tfo150_6 : Abs.foff Try.prog 150 6 = 6 := by kernel_rfl
@[go_sem] theorem tft150_6 : Abs.fty Try.prog 150 6 = 145 := by kernel_rfl
@[go_sem] theorem tpl150_6 : Abs.placesA Try.prog 150 6 = some (6, 1) := by kernel_rfl
@[go_sem] theorem tfo150_7 : Abs.foff Try.prog 150 7 = 7 := by kernel_rfl
@[go_sem] theorem tft150_7 : Abs.fty Try.prog 150 7 = 146 := by kernel_rfl
@[go_sem] theorem tpl150_7 : Abs.placesA Try.prog 150 7 = some (7, 1) := by kernel_rfl
@[go_sem] theorem tfo150_8 : Abs.foff Try.prog 150 8 = 8 := by kernel_rfl
@[go_sem] theorem tft150_8 : Abs.fty Try.prog 150 8 = 147 := by kernel_rfl
@[go_sem] theorem tpl150_8 : Abs.placesA Try.prog 150 8 = some (8, 1) := by kernel_rfl
@[go_sem] theorem tfo150_9 : Abs.foff Try.prog 150 9 = 9 := by kernel_rfl
@[go_sem] theorem tft150_9 : Abs.fty Try.prog 150 9 = 148 := by kernel_rfl
@[go_sem] theorem tpl150_9 : Abs.placesA Try.prog 150 9 = some (9, 1) := by kernel_rfl
@[go_sem] theorem tfo150_10 : Abs.foff Try.prog 150 10 = 10 := by kernel_rfl
@[go_sem] theorem tft150_10 : Abs.fty Try.prog 150 10 = 149 := by kernel_rfl
@[go_sem] theorem tpl150_10 : Abs.placesA Try.prog 150 10 = some (10, 1) := by kernel_rfl
@[go_sem] theorem tok151 : Abs.tok Try.prog 151 = true := by kernel_rfl
@[go_sem] theorem tagg151 : Abs.tagg Try.prog 151 = true := by kernel_rfl
@[go_sem] theorem tsize151 : Abs.tsize Try.prog 151 = 11 := by kernel_rfl
@[go_sem] theorem tzero151 : Abs.tzero Try.prog 151 = some [.t (.lit (.int .u64 0)), .t (.lit (.int .u64 0)), .t (.lit (.int .u32 0)), .t (.lit (.int .u8 0)), .t (.lit (.int .u8 0)), .t (.lit (.int .u8 0)), .t (.lit (.int .u8 0)), .t (.lit .nilFunc), .t (.lit (.pointer none)), .t (.lit (.int .i32 0)), .t (.lit (.int .i32 0))] := by kernel_rfl
@[go_sem] theorem tbytes151 : Abs.tbytes Try.prog 151 = 48 := by kernel_rfl
@[go_sem] theorem tst151 : Abs.isStructD (Abs.tdesc Try.prog 151) = true := by kernel_rfl
@[go_sem] theorem tnf151 : Abs.nfields Try.prog 151 = 11 := by kernel_rfl
@[go_sem] theorem tpt151 : Abs.partsTok Try.prog 151 = true := by kernel_rfl
@[go_sem] theorem tfo151_0 : Abs.foff Try.prog 151 0 = 0 := by kernel_rfl
@[go_sem] theorem tft151_0 : Abs.fty Try.prog 151 0 = 12 := by kernel_rfl
@[go_sem] theorem tpl151_0 : Abs.placesA Try.prog 151 0 = some (0, 1) := by kernel_rfl
@[go_sem] theorem tfo151_1 : Abs.foff Try.prog 151 1 = 1 := by kernel_rfl
@[go_sem] theorem tft151_1 : Abs.fty Try.prog 151 1 = 12 := by kernel_rfl
@[go_sem] theorem tpl151_1 : Abs.placesA Try.prog 151 1 = some (1, 1) := by kernel_rfl
@[go_sem] theorem tfo151_2 : Abs.foff Try.prog 151 2 = 2 := by kernel_rfl
@[go_sem] theorem tft151_2 : Abs.fty Try.prog 151 2 = 115 := by kernel_rfl
@[go_sem] theorem tpl151_2 : Abs.placesA Try.prog 151 2 = some (2, 1) := by kernel_rfl
@[go_sem] theorem tfo151_3 : Abs.foff Try.prog 151 3 = 3 := by kernel_rfl
@[go_sem] theorem tft151_3 : Abs.fty Try.prog 151 3 = 144 := by kernel_rfl
@[go_sem] theorem tpl151_3 : Abs.placesA Try.prog 151 3 = some (3, 1) := by kernel_rfl
@[go_sem] theorem tfo151_4 : Abs.foff Try.prog 151 4 = 4 := by kernel_rfl
@[go_sem] theorem tft151_4 : Abs.fty Try.prog 151 4 = 5 := by kernel_rfl
@[go_sem] theorem tpl151_4 : Abs.placesA Try.prog 151 4 = some (4, 1) := by kernel_rfl
@[go_sem] theorem tfo151_5 : Abs.foff Try.prog 151 5 = 5 := by kernel_rfl
@[go_sem] theorem tft151_5 : Abs.fty Try.prog 151 5 = 5 := by kernel_rfl
@[go_sem] theorem tpl151_5 : Abs.placesA Try.prog 151 5 = some (5, 1) := by kernel_rfl
@[go_sem] theorem tfo151_6 : Abs.foff Try.prog 151 6 = 6 := by kernel_rfl
@[go_sem] theorem tft151_6 : Abs.fty Try.prog 151 6 = 145 := by kernel_rfl
@[go_sem] theorem tpl151_6 : Abs.placesA Try.prog 151 6 = some (6, 1) := by kernel_rfl
@[go_sem] theorem tfo151_7 : Abs.foff Try.prog 151 7 = 7 := by kernel_rfl
@[go_sem] theorem tft151_7 : Abs.fty Try.prog 151 7 = 146 := by kernel_rfl
@[go_sem] theorem tpl151_7 : Abs.placesA Try.prog 151 7 = some (7, 1) := by kernel_rfl
@[go_sem] theorem tfo151_8 : Abs.foff Try.prog 151 8 = 8 := by kernel_rfl
@[go_sem] theorem tft151_8 : Abs.fty Try.prog 151 8 = 147 := by kernel_rfl
@[go_sem] theorem tpl151_8 : Abs.placesA Try.prog 151 8 = some (8, 1) := by kernel_rfl
@[go_sem] theorem tfo151_9 : Abs.foff Try.prog 151 9 = 9 := by kernel_rfl
@[go_sem] theorem tft151_9 : Abs.fty Try.prog 151 9 = 148 := by kernel_rfl
@[go_sem] theorem tpl151_9 : Abs.placesA Try.prog 151 9 = some (9, 1) := by kernel_rfl
@[go_sem] theorem tfo151_10 : Abs.foff Try.prog 151 10 = 10 := by kernel_rfl
@[go_sem] theorem tft151_10 : Abs.fty Try.prog 151 10 = 149 := by kernel_rfl
@[go_sem] theorem tpl151_10 : Abs.placesA Try.prog 151 10 = some (10, 1) := by kernel_rfl
@[go_sem] theorem tok152 : Abs.tok Try.prog 152 = true := by kernel_rfl
@[go_sem] theorem tagg152 : Abs.tagg Try.prog 152 = false := by kernel_rfl
@[go_sem] theorem tsize152 : Abs.tsize Try.prog 152 = 1 := by kernel_rfl
@[go_sem] theorem tzero152 : Abs.tzero Try.prog 152 = some [.t (.lit (.pointer none))] := by kernel_rfl
@[go_sem] theorem tbytes152 : Abs.tbytes Try.prog 152 = 8 := by kernel_rfl
end Go.Proofs.Ytpnmoecjhannnaa
