/- At every input the call answers true and leaves its arguments as they were; no conditions. -/
import Derived.Test.YtjmbhknhiakkpaaProg
import Derived.KernelRfl
import Derived.Test.YtjmbhknhiakkpaaMb
set_option linter.unusedSimpArgs false
set_option linter.unusedVariables false
namespace Go.Proofs.Ytjmbhknhiakkpaa
open Go Go.Abs
@[go_sem] theorem tok1 : Abs.tok Try.prog 1 = true := by kernel_rfl
@[go_sem] theorem tagg1 : Abs.tagg Try.prog 1 = false := by kernel_rfl
@[go_sem] theorem tsize1 : Abs.tsize Try.prog 1 = 1 := by kernel_rfl
@[go_sem] theorem tzero1 : Abs.tzero Try.prog 1 = some [.t (.lit .nilFunc)] := by kernel_rfl
@[go_sem] theorem tok2 : Abs.tok Try.prog 2 = true := by kernel_rfl
@[go_sem] theorem tagg2 : Abs.tagg Try.prog 2 = false := by kernel_rfl
@[go_sem] theorem tsize2 : Abs.tsize Try.prog 2 = 1 := by kernel_rfl
@[go_sem] theorem tzero2 : Abs.tzero Try.prog 2 = some [.t (.lit (.int .i64 0))] := by kernel_rfl
@[go_sem] theorem tbytes2 : Abs.tbytes Try.prog 2 = 8 := by kernel_rfl
@[go_sem] theorem tint2 : Abs.intD (Abs.tdesc Try.prog 2) = some .i64 := by kernel_rfl
@[go_sem] theorem tok3 : Abs.tok Try.prog 3 = true := by kernel_rfl
@[go_sem] theorem tagg3 : Abs.tagg Try.prog 3 = false := by kernel_rfl
@[go_sem] theorem tsize3 : Abs.tsize Try.prog 3 = 1 := by kernel_rfl
@[go_sem] theorem tzero3 : Abs.tzero Try.prog 3 = some [.t (.lit (.int .i64 0))] := by kernel_rfl
@[go_sem] theorem tbytes3 : Abs.tbytes Try.prog 3 = 8 := by kernel_rfl
@[go_sem] theorem tint3 : Abs.intD (Abs.tdesc Try.prog 3) = some .i64 := by kernel_rfl
@[go_sem] theorem tok4 : Abs.tok Try.prog 4 = true := by kernel_rfl
@[go_sem] theorem tagg4 : Abs.tagg Try.prog 4 = false := by kernel_rfl
@[go_sem] theorem tsize4 : Abs.tsize Try.prog 4 = 1 := by kernel_rfl
@[go_sem] theorem tzero4 : Abs.tzero Try.prog 4 = some [.t (.lit (.bool false))] := by kernel_rfl
@[go_sem] theorem tbytes4 : Abs.tbytes Try.prog 4 = 1 := by kernel_rfl
@[go_sem] theorem tbool4 : Abs.tdesc Try.prog 4 = .bool := by kernel_rfl
@[go_sem] theorem tok5 : Abs.tok Try.prog 5 = true := by kernel_rfl
@[go_sem] theorem tagg5 : Abs.tagg Try.prog 5 = false := by kernel_rfl
@[go_sem] theorem tsize5 : Abs.tsize Try.prog 5 = 1 := by kernel_rfl
@[go_sem] theorem tzero5 : Abs.tzero Try.prog 5 = some [.t (.lit (.int .u8 0))] := by kernel_rfl
@[go_sem] theorem tbytes5 : Abs.tbytes Try.prog 5 = 1 := by kernel_rfl
@[go_sem] theorem tint5 : Abs.intD (Abs.tdesc Try.prog 5) = some .u8 := by kernel_rfl
@[go_sem] theorem tok6 : Abs.tok Try.prog 6 = true := by kernel_rfl
@[go_sem] theorem tagg6 : Abs.tagg Try.prog 6 = false := by kernel_rfl
@[go_sem] theorem tsize6 : Abs.tsize Try.prog 6 = 1 := by kernel_rfl
@[go_sem] theorem tzero6 : Abs.tzero Try.prog 6 = some [.t (.lit (.int .u8 0))] := by kernel_rfl
@[go_sem] theorem tbytes6 : Abs.tbytes Try.prog 6 = 1 := by kernel_rfl
@[go_sem] theorem tint6 : Abs.intD (Abs.tdesc Try.prog 6) = some .u8 := by kernel_rfl
@[go_sem] theorem tok7 : Abs.tok Try.prog 7 = true := by kernel_rfl
@[go_sem] theorem tagg7 : Abs.tagg Try.prog 7 = true := by kernel_rfl
@[go_sem] theorem tsize7 : Abs.tsize Try.prog 7 = 4 := by kernel_rfl
@[go_sem] theorem tzero7 : Abs.tzero Try.prog 7 = some [.t (.lit (.int .i64 0)), .t (.lit (.int .i64 0)), .t (.lit (.bool false)), .t (.lit (.int .u8 0))] := by kernel_rfl
@[go_sem] theorem tbytes7 : Abs.tbytes Try.prog 7 = 24 := by kernel_rfl
@[go_sem] theorem tst7 : Abs.isStructD (Abs.tdesc Try.prog 7) = true := by kernel_rfl
@[go_sem] theorem tnf7 : Abs.nfields Try.prog 7 = 4 := by kernel_rfl
@[go_sem] theorem tpt7 : Abs.partsTok Try.prog 7 = true := by kernel_rfl
@[go_sem] theorem tfo7_0 : Abs.foff Try.prog 7 0 = 0 := by kernel_rfl
@[go_sem] theorem tft7_0 : Abs.fty Try.prog 7 0 = 2 := by kernel_rfl
@[go_sem] theorem tpl7_0 : Abs.placesA Try.prog 7 0 = some (0, 1) := by kernel_rfl
@[go_sem] theorem tfo7_1 : Abs.foff Try.prog 7 1 = 1 := by kernel_rfl
@[go_sem] theorem tft7_1 : Abs.fty Try.prog 7 1 = 3 := by kernel_rfl
@[go_sem] theorem tpl7_1 : Abs.placesA Try.prog 7 1 = some (1, 1) := by kernel_rfl
@[go_sem] theorem tfo7_2 : Abs.foff Try.prog 7 2 = 2 := by kernel_rfl
@[go_sem] theorem tft7_2 : Abs.fty Try.prog 7 2 = 4 := by kernel_rfl
@[go_sem] theorem tpl7_2 : Abs.placesA Try.prog 7 2 = some (2, 1) := by kernel_rfl
@[go_sem] theorem tfo7_3 : Abs.foff Try.prog 7 3 = 3 := by kernel_rfl
@[go_sem] theorem tft7_3 : Abs.fty Try.prog 7 3 = 6 := by kernel_rfl
@[go_sem] theorem tpl7_3 : Abs.placesA Try.prog 7 3 = some (3, 1) := by kernel_rfl
@[go_sem] theorem tok8 : Abs.tok Try.prog 8 = true := by kernel_rfl
@[go_sem] theorem tagg8 : Abs.tagg Try.prog 8 = true := by kernel_rfl
@[go_sem] theorem tsize8 : Abs.tsize Try.prog 8 = 4 := by kernel_rfl
@[go_sem] theorem tzero8 : Abs.tzero Try.prog 8 = some [.t (.lit (.int .i64 0)), .t (.lit (.int .i64 0)), .t (.lit (.bool false)), .t (.lit (.int .u8 0))] := by kernel_rfl
@[go_sem] theorem tbytes8 : Abs.tbytes Try.prog 8 = 24 := by kernel_rfl
@[go_sem] theorem tst8 : Abs.isStructD (Abs.tdesc Try.prog 8) = true := by kernel_rfl
@[go_sem] theorem tnf8 : Abs.nfields Try.prog 8 = 4 := by kernel_rfl
@[go_sem] theorem tpt8 : Abs.partsTok Try.prog 8 = true := by kernel_rfl
@[go_sem] theorem tfo8_0 : Abs.foff Try.prog 8 0 = 0 := by kernel_rfl
@[go_sem] theorem tft8_0 : Abs.fty Try.prog 8 0 = 2 := by kernel_rfl
@[go_sem] theorem tpl8_0 : Abs.placesA Try.prog 8 0 = some (0, 1) := by kernel_rfl
@[go_sem] theorem tfo8_1 : Abs.foff Try.prog 8 1 = 1 := by kernel_rfl
@[go_sem] theorem tft8_1 : Abs.fty Try.prog 8 1 = 3 := by kernel_rfl
@[go_sem] theorem tpl8_1 : Abs.placesA Try.prog 8 1 = some (1, 1) := by kernel_rfl
@[go_sem] theorem tfo8_2 : Abs.foff Try.prog 8 2 = 2 := by kernel_rfl
@[go_sem] theorem tft8_2 : Abs.fty Try.prog 8 2 = 4 := by kernel_rfl
@[go_sem] theorem tpl8_2 : Abs.placesA Try.prog 8 2 = some (2, 1) := by kernel_rfl
@[go_sem] theorem tfo8_3 : Abs.foff Try.prog 8 3 = 3 := by kernel_rfl
@[go_sem] theorem tft8_3 : Abs.fty Try.prog 8 3 = 6 := by kernel_rfl
@[go_sem] theorem tpl8_3 : Abs.placesA Try.prog 8 3 = some (3, 1) := by kernel_rfl
@[go_sem] theorem tok9 : Abs.tok Try.prog 9 = true := by kernel_rfl
@[go_sem] theorem tagg9 : Abs.tagg Try.prog 9 = false := by kernel_rfl
@[go_sem] theorem tsize9 : Abs.tsize Try.prog 9 = 1 := by kernel_rfl
@[go_sem] theorem tzero9 : Abs.tzero Try.prog 9 = some [.t (.lit (.string ⟨#[]⟩))] := by kernel_rfl
@[go_sem] theorem tbytes9 : Abs.tbytes Try.prog 9 = 16 := by kernel_rfl
@[go_sem] theorem tstr9 : Abs.tdesc Try.prog 9 = .string := by kernel_rfl
@[go_sem] theorem tok10 : Abs.tok Try.prog 10 = true := by kernel_rfl
@[go_sem] theorem tagg10 : Abs.tagg Try.prog 10 = false := by kernel_rfl
@[go_sem] theorem tsize10 : Abs.tsize Try.prog 10 = 1 := by kernel_rfl
@[go_sem] theorem tzero10 : Abs.tzero Try.prog 10 = some [.t (.lit (.string ⟨#[]⟩))] := by kernel_rfl
@[go_sem] theorem tbytes10 : Abs.tbytes Try.prog 10 = 16 := by kernel_rfl
@[go_sem] theorem tstr10 : Abs.tdesc Try.prog 10 = .string := by kernel_rfl
@[go_sem] theorem tok11 : Abs.tok Try.prog 11 = true := by kernel_rfl
@[go_sem] theorem tagg11 : Abs.tagg Try.prog 11 = false := by kernel_rfl
@[go_sem] theorem tsize11 : Abs.tsize Try.prog 11 = 1 := by kernel_rfl
@[go_sem] theorem tzero11 : Abs.tzero Try.prog 11 = some [.t (.lit (.string ⟨#[]⟩))] := by kernel_rfl
@[go_sem] theorem tbytes11 : Abs.tbytes Try.prog 11 = 16 := by kernel_rfl
@[go_sem] theorem tstr11 : Abs.tdesc Try.prog 11 = .string := by kernel_rfl
@[go_sem] theorem tok12 : Abs.tok Try.prog 12 = true := by kernel_rfl
@[go_sem] theorem tagg12 : Abs.tagg Try.prog 12 = false := by kernel_rfl
@[go_sem] theorem tsize12 : Abs.tsize Try.prog 12 = 1 := by kernel_rfl
@[go_sem] theorem tzero12 : Abs.tzero Try.prog 12 = some [.t (.lit (.int .u64 0))] := by kernel_rfl
@[go_sem] theorem tbytes12 : Abs.tbytes Try.prog 12 = 8 := by kernel_rfl
@[go_sem] theorem tint12 : Abs.intD (Abs.tdesc Try.prog 12) = some .u64 := by kernel_rfl
@[go_sem] theorem tok13 : Abs.tok Try.prog 13 = true := by kernel_rfl
@[go_sem] theorem tagg13 : Abs.tagg Try.prog 13 = true := by kernel_rfl
@[go_sem] theorem tsize13 : Abs.tsize Try.prog 13 = 2 := by kernel_rfl
@[go_sem] theorem tzero13 : Abs.tzero Try.prog 13 = some [.t (.lit (.string ⟨#[]⟩)), .t (.lit (.int .u64 0))] := by kernel_rfl
@[go_sem] theorem tbytes13 : Abs.tbytes Try.prog 13 = 24 := by kernel_rfl
@[go_sem] theorem tst13 : Abs.isStructD (Abs.tdesc Try.prog 13) = true := by kernel_rfl
@[go_sem] theorem tnf13 : Abs.nfields Try.prog 13 = 2 := by kernel_rfl
@[go_sem] theorem tpt13 : Abs.partsTok Try.prog 13 = true := by kernel_rfl
@[go_sem] theorem tfo13_0 : Abs.foff Try.prog 13 0 = 0 := by kernel_rfl
@[go_sem] theorem tft13_0 : Abs.fty Try.prog 13 0 = 9 := by kernel_rfl
@[go_sem] theorem tpl13_0 : Abs.placesA Try.prog 13 0 = some (0, 1) := by kernel_rfl
@[go_sem] theorem tfo13_1 : Abs.foff Try.prog 13 1 = 1 := by kernel_rfl
@[go_sem] theorem tft13_1 : Abs.fty Try.prog 13 1 = 12 := by kernel_rfl
@[go_sem] theorem tpl13_1 : Abs.placesA Try.prog 13 1 = some (1, 1) := by kernel_rfl
@[go_sem] theorem tok14 : Abs.tok Try.prog 14 = true := by kernel_rfl
@[go_sem] theorem tagg14 : Abs.tagg Try.prog 14 = true := by kernel_rfl
@[go_sem] theorem tsize14 : Abs.tsize Try.prog 14 = 2 := by kernel_rfl
@[go_sem] theorem tzero14 : Abs.tzero Try.prog 14 = some [.t (.lit (.string ⟨#[]⟩)), .t (.lit (.int .u64 0))] := by kernel_rfl
@[go_sem] theorem tbytes14 : Abs.tbytes Try.prog 14 = 24 := by kernel_rfl
@[go_sem] theorem tst14 : Abs.isStructD (Abs.tdesc Try.prog 14) = true := by kernel_rfl
@[go_sem] theorem tnf14 : Abs.nfields Try.prog 14 = 2 := by kernel_rfl
@[go_sem] theorem tpt14 : Abs.partsTok Try.prog 14 = true := by kernel_rfl
@[go_sem] theorem tfo14_0 : Abs.foff Try.prog 14 0 = 0 := by kernel_rfl
@[go_sem] theorem tft14_0 : Abs.fty Try.prog 14 0 = 9 := by kernel_rfl
@[go_sem] theorem tpl14_0 : Abs.placesA Try.prog 14 0 = some (0, 1) := by kernel_rfl
@[go_sem] theorem tfo14_1 : Abs.foff Try.prog 14 1 = 1 := by kernel_rfl
@[go_sem] theorem tft14_1 : Abs.fty Try.prog 14 1 = 12 := by kernel_rfl
@[go_sem] theorem tpl14_1 : Abs.placesA Try.prog 14 1 = some (1, 1) := by kernel_rfl
@[go_sem] theorem tok15 : Abs.tok Try.prog 15 = true := by kernel_rfl
@[go_sem] theorem tagg15 : Abs.tagg Try.prog 15 = false := by kernel_rfl
@[go_sem] theorem tsize15 : Abs.tsize Try.prog 15 = 1 := by kernel_rfl
@[go_sem] theorem tzero15 : Abs.tzero Try.prog 15 = some [.t (.lit (.pointer none))] := by kernel_rfl
@[go_sem] theorem tbytes15 : Abs.tbytes Try.prog 15 = 8 := by kernel_rfl
@[go_sem] theorem tok16 : Abs.tok Try.prog 16 = true := by kernel_rfl
@[go_sem] theorem tagg16 : Abs.tagg Try.prog 16 = false := by kernel_rfl
@[go_sem] theorem tsize16 : Abs.tsize Try.prog 16 = 1 := by kernel_rfl
@[go_sem] theorem tzero16 : Abs.tzero Try.prog 16 = some [.t (.lit (.pointer none))] := by kernel_rfl
@[go_sem] theorem tbytes16 : Abs.tbytes Try.prog 16 = 8 := by kernel_rfl
@[go_sem] theorem tok17 : Abs.tok Try.prog 17 = true := by kernel_rfl
@[go_sem] theorem tagg17 : Abs.tagg Try.prog 17 = false := by kernel_rfl
@[go_sem] theorem tsize17 : Abs.tsize Try.prog 17 = 1 := by kernel_rfl
@[go_sem] theorem tzero17 : Abs.tzero Try.prog 17 = some [.t (.lit (.pointer none))] := by kernel_rfl
@[go_sem] theorem tbytes17 : Abs.tbytes Try.prog 17 = 8 := by kernel_rfl
@[go_sem] theorem tok18 : Abs.tok Try.prog 18 = true := by kernel_rfl
@[go_sem] theorem tagg18 : Abs.tagg Try.prog 18 = true := by kernel_rfl
@[go_sem] theorem tsize18 : Abs.tsize Try.prog 18 = 1 := by kernel_rfl
@[go_sem] theorem tzero18 : Abs.tzero Try.prog 18 = some [.t (.lit (.pointer none))] := by kernel_rfl
@[go_sem] theorem tbytes18 : Abs.tbytes Try.prog 18 = 8 := by kernel_rfl
@[go_sem] theorem tst18 : Abs.isStructD (Abs.tdesc Try.prog 18) = true := by kernel_rfl
@[go_sem] theorem tnf18 : Abs.nfields Try.prog 18 = 1 := by kernel_rfl
@[go_sem] theorem tpt18 : Abs.partsTok Try.prog 18 = true := by kernel_rfl
@[go_sem] theorem tfo18_0 : Abs.foff Try.prog 18 0 = 0 := by kernel_rfl
@[go_sem] theorem tft18_0 : Abs.fty Try.prog 18 0 = 17 := by kernel_rfl
@[go_sem] theorem tpl18_0 : Abs.placesA Try.prog 18 0 = some (0, 1) := by kernel_rfl
@[go_sem] theorem tok19 : Abs.tok Try.prog 19 = true := by kernel_rfl
@[go_sem] theorem tagg19 : Abs.tagg Try.prog 19 = true := by kernel_rfl
@[go_sem] theorem tsize19 : Abs.tsize Try.prog 19 = 1 := by kernel_rfl
@[go_sem] theorem tzero19 : Abs.tzero Try.prog 19 = some [.t (.lit (.pointer none))] := by kernel_rfl
@[go_sem] theorem tbytes19 : Abs.tbytes Try.prog 19 = 8 := by kernel_rfl
@[go_sem] theorem tst19 : Abs.isStructD (Abs.tdesc Try.prog 19) = true := by kernel_rfl
@[go_sem] theorem tnf19 : Abs.nfields Try.prog 19 = 1 := by kernel_rfl
@[go_sem] theorem tpt19 : Abs.partsTok Try.prog 19 = true := by kernel_rfl
@[go_sem] theorem tfo19_0 : Abs.foff Try.prog 19 0 = 0 := by kernel_rfl
@[go_sem] theorem tft19_0 : Abs.fty Try.prog 19 0 = 17 := by kernel_rfl
@[go_sem] theorem tpl19_0 : Abs.placesA Try.prog 19 0 = some (0, 1) := by kernel_rfl
@[go_sem] theorem tok21 : Abs.tok Try.prog 21 = true := by kernel_rfl
@[go_sem] theorem tagg21 : Abs.tagg Try.prog 21 = false := by kernel_rfl
@[go_sem] theorem tsize21 : Abs.tsize Try.prog 21 = 1 := by kernel_rfl
@[go_sem] theorem tzero21 : Abs.tzero Try.prog 21 = some [.t (.lit (.int .i32 0))] := by kernel_rfl
@[go_sem] theorem tbytes21 : Abs.tbytes Try.prog 21 = 4 := by kernel_rfl
@[go_sem] theorem tint21 : Abs.intD (Abs.tdesc Try.prog 21) = some .i32 := by kernel_rfl
@[go_sem] theorem tok22 : Abs.tok Try.prog 22 = true := by kernel_rfl
@[go_sem] theorem tagg22 : Abs.tagg Try.prog 22 = false := by kernel_rfl
@[go_sem] theorem tsize22 : Abs.tsize Try.prog 22 = 1 := by kernel_rfl
@[go_sem] theorem tzero22 : Abs.tzero Try.prog 22 = some [.t (.seq (some true) [])] := by kernel_rfl
@[go_sem] theorem tbytes22 : Abs.tbytes Try.prog 22 = 24 := by kernel_rfl
@[go_sem] theorem tsl22 : Abs.isSliceD (Abs.tdesc Try.prog 22) = true := by kernel_rfl
@[go_sem] theorem telem22 : Abs.telem Try.prog 22 = 38 := by kernel_rfl
@[go_sem] theorem tok23 : Abs.tok Try.prog 23 = true := by kernel_rfl
@[go_sem] theorem tagg23 : Abs.tagg Try.prog 23 = false := by kernel_rfl
@[go_sem] theorem tsize23 : Abs.tsize Try.prog 23 = 1 := by kernel_rfl
@[go_sem] theorem tzero23 : Abs.tzero Try.prog 23 = some [.t (.lit .nilFunc)] := by kernel_rfl
@[go_sem] theorem tok24 : Abs.tok Try.prog 24 = true := by kernel_rfl
@[go_sem] theorem tagg24 : Abs.tagg Try.prog 24 = false := by kernel_rfl
@[go_sem] theorem tsize24 : Abs.tsize Try.prog 24 = 1 := by kernel_rfl
@[go_sem] theorem tzero24 : Abs.tzero Try.prog 24 = some [.t (.lit .nilFunc)] := by kernel_rfl
@[go_sem] theorem tok26 : Abs.tok Try.prog 26 = true := by kernel_rfl
@[go_sem] theorem tagg26 : Abs.tagg Try.prog 26 = false := by kernel_rfl
@[go_sem] theorem tsize26 : Abs.tsize Try.prog 26 = 1 := by kernel_rfl
@[go_sem] theorem tzero26 : Abs.tzero Try.prog 26 = some [.t (.lit .nilFunc)] := by kernel_rfl
@[go_sem] theorem tok27 : Abs.tok Try.prog 27 = true := by kernel_rfl
@[go_sem] theorem tagg27 : Abs.tagg Try.prog 27 = false := by kernel_rfl
@[go_sem] theorem tsize27 : Abs.tsize Try.prog 27 = 1 := by kernel_rfl
@[go_sem] theorem tzero27 : Abs.tzero Try.prog 27 = some [.t (.lit .nilFunc)] := by kernel_rfl
@[go_sem] theorem tok28 : Abs.tok Try.prog 28 = true := by kernel_rfl
@[go_sem] theorem tagg28 : Abs.tagg Try.prog 28 = false := by kernel_rfl
@[go_sem] theorem tsize28 : Abs.tsize Try.prog 28 = 1 := by kernel_rfl
@[go_sem] theorem tzero28 : Abs.tzero Try.prog 28 = some [.t (.lit .nilFunc)] := by kernel_rfl
@[go_sem] theorem tok29 : Abs.tok Try.prog 29 = true := by kernel_rfl
@[go_sem] theorem tagg29 : Abs.tagg Try.prog 29 = false := by kernel_rfl
@[go_sem] theorem tsize29 : Abs.tsize Try.prog 29 = 1 := by kernel_rfl
@[go_sem] theorem tzero29 : Abs.tzero Try.prog 29 = some [.t (.lit .nilFunc)] := by kernel_rfl
@[go_sem] theorem tok30 : Abs.tok Try.prog 30 = true := by kernel_rfl
@[go_sem] theorem tagg30 : Abs.tagg Try.prog 30 = false := by kernel_rfl
@[go_sem] theorem tsize30 : Abs.tsize Try.prog 30 = 1 := by kernel_rfl
@[go_sem] theorem tzero30 : Abs.tzero Try.prog 30 = some [.t (.lit .nilFunc)] := by kernel_rfl
@[go_sem] theorem tok31 : Abs.tok Try.prog 31 = true := by kernel_rfl
@[go_sem] theorem tagg31 : Abs.tagg Try.prog 31 = false := by kernel_rfl
@[go_sem] theorem tsize31 : Abs.tsize Try.prog 31 = 1 := by kernel_rfl
@[go_sem] theorem tzero31 : Abs.tzero Try.prog 31 = some [.t (.lit .nilFunc)] := by kernel_rfl
@[go_sem] theorem tok32 : Abs.tok Try.prog 32 = true := by kernel_rfl
@[go_sem] theorem tagg32 : Abs.tagg Try.prog 32 = false := by kernel_rfl
@[go_sem] theorem tsize32 : Abs.tsize Try.prog 32 = 1 := by kernel_rfl
@[go_sem] theorem tzero32 : Abs.tzero Try.prog 32 = some [.t (.lit (.int .i8 0))] := by kernel_rfl
@[go_sem] theorem tbytes32 : Abs.tbytes Try.prog 32 = 1 := by kernel_rfl
@[go_sem] theorem tint32 : Abs.intD (Abs.tdesc Try.prog 32) = some .i8 := by kernel_rfl
@[go_sem] theorem tok33 : Abs.tok Try.prog 33 = true := by kernel_rfl
@[go_sem] theorem tagg33 : Abs.tagg Try.prog 33 = false := by kernel_rfl
@[go_sem] theorem tsize33 : Abs.tsize Try.prog 33 = 1 := by kernel_rfl
@[go_sem] theorem tzero33 : Abs.tzero Try.prog 33 = some [.t (.lit .nilFunc)] := by kernel_rfl
@[go_sem] theorem tok34 : Abs.tok Try.prog 34 = true := by kernel_rfl
@[go_sem] theorem tagg34 : Abs.tagg Try.prog 34 = false := by kernel_rfl
@[go_sem] theorem tsize34 : Abs.tsize Try.prog 34 = 1 := by kernel_rfl
@[go_sem] theorem tzero34 : Abs.tzero Try.prog 34 = some [.t (.seq (some true) [])] := by kernel_rfl
@[go_sem] theorem tbytes34 : Abs.tbytes Try.prog 34 = 24 := by kernel_rfl
@[go_sem] theorem tsl34 : Abs.isSliceD (Abs.tdesc Try.prog 34) = true := by kernel_rfl
@[go_sem] theorem telem34 : Abs.telem Try.prog 34 = 80 := by kernel_rfl
@[go_sem] theorem tok35 : Abs.tok Try.prog 35 = true := by kernel_rfl
@[go_sem] theorem tagg35 : Abs.tagg Try.prog 35 = true := by kernel_rfl
@[go_sem] theorem tsize35 : Abs.tsize Try.prog 35 = 2 := by kernel_rfl
@[go_sem] theorem tzero35 : Abs.tzero Try.prog 35 = some [.t (.lit (.bool false)), .t (.seq (some true) [])] := by kernel_rfl
@[go_sem] theorem tbytes35 : Abs.tbytes Try.prog 35 = 32 := by kernel_rfl
@[go_sem] theorem tst35 : Abs.isStructD (Abs.tdesc Try.prog 35) = true := by kernel_rfl
@[go_sem] theorem tnf35 : Abs.nfields Try.prog 35 = 2 := by kernel_rfl
@[go_sem] theorem tpt35 : Abs.partsTok Try.prog 35 = true := by kernel_rfl
@[go_sem] theorem tfo35_0 : Abs.foff Try.prog 35 0 = 0 := by kernel_rfl
@[go_sem] theorem tft35_0 : Abs.fty Try.prog 35 0 = 4 := by kernel_rfl
@[go_sem] theorem tpl35_0 : Abs.placesA Try.prog 35 0 = some (0, 1) := by kernel_rfl
@[go_sem] theorem tfo35_1 : Abs.foff Try.prog 35 1 = 1 := by kernel_rfl
@[go_sem] theorem tft35_1 : Abs.fty Try.prog 35 1 = 34 := by kernel_rfl
@[go_sem] theorem tpl35_1 : Abs.placesA Try.prog 35 1 = some (1, 1) := by kernel_rfl
@[go_sem] theorem tok36 : Abs.tok Try.prog 36 = true := by kernel_rfl
@[go_sem] theorem tagg36 : Abs.tagg Try.prog 36 = true := by kernel_rfl
@[go_sem] theorem tsize36 : Abs.tsize Try.prog 36 = 2 := by kernel_rfl
@[go_sem] theorem tzero36 : Abs.tzero Try.prog 36 = some [.t (.lit (.bool false)), .t (.seq (some true) [])] := by kernel_rfl
@[go_sem] theorem tbytes36 : Abs.tbytes Try.prog 36 = 32 := by kernel_rfl
@[go_sem] theorem tst36 : Abs.isStructD (Abs.tdesc Try.prog 36) = true := by kernel_rfl
@[go_sem] theorem tnf36 : Abs.nfields Try.prog 36 = 2 := by kernel_rfl
@[go_sem] theorem tpt36 : Abs.partsTok Try.prog 36 = true := by kernel_rfl
@[go_sem] theorem tfo36_0 : Abs.foff Try.prog 36 0 = 0 := by kernel_rfl
@[go_sem] theorem tft36_0 : Abs.fty Try.prog 36 0 = 4 := by kernel_rfl
@[go_sem] theorem tpl36_0 : Abs.placesA Try.prog 36 0 = some (0, 1) := by kernel_rfl
@[go_sem] theorem tfo36_1 : Abs.foff Try.prog 36 1 = 1 := by kernel_rfl
@[go_sem] theorem tft36_1 : Abs.fty Try.prog 36 1 = 34 := by kernel_rfl
@[go_sem] theorem tpl36_1 : Abs.placesA Try.prog 36 1 = some (1, 1) := by kernel_rfl
@[go_sem] theorem tok37 : Abs.tok Try.prog 37 = true := by kernel_rfl
@[go_sem] theorem tagg37 : Abs.tagg Try.prog 37 = false := by kernel_rfl
@[go_sem] theorem tsize37 : Abs.tsize Try.prog 37 = 1 := by kernel_rfl
@[go_sem] theorem tzero37 : Abs.tzero Try.prog 37 = some [.t (.lit .nilFunc)] := by kernel_rfl
@[go_sem] theorem tok38 : Abs.tok Try.prog 38 = true := by kernel_rfl
@[go_sem] theorem tagg38 : Abs.tagg Try.prog 38 = false := by kernel_rfl
@[go_sem] theorem tsize38 : Abs.tsize Try.prog 38 = 1 := by kernel_rfl
@[go_sem] theorem tzero38 : Abs.tzero Try.prog 38 = some [.t (.seq (some true) [])] := by kernel_rfl
@[go_sem] theorem tbytes38 : Abs.tbytes Try.prog 38 = 24 := by kernel_rfl
@[go_sem] theorem tsl38 : Abs.isSliceD (Abs.tdesc Try.prog 38) = true := by kernel_rfl
@[go_sem] theorem telem38 : Abs.telem Try.prog 38 = 36 := by kernel_rfl
@[go_sem] theorem tok39 : Abs.tok Try.prog 39 = true := by kernel_rfl
@[go_sem] theorem tagg39 : Abs.tagg Try.prog 39 = false := by kernel_rfl
@[go_sem] theorem tsize39 : Abs.tsize Try.prog 39 = 1 := by kernel_rfl
@[go_sem] theorem tzero39 : Abs.tzero Try.prog 39 = some [.t (.lit .nilFunc)] := by kernel_rfl
@[go_sem] theorem tok40 : Abs.tok Try.prog 40 = true := by kernel_rfl
@[go_sem] theorem tagg40 : Abs.tagg Try.prog 40 = false := by kernel_rfl
@[go_sem] theorem tsize40 : Abs.tsize Try.prog 40 = 1 := by kernel_rfl
@[go_sem] theorem tzero40 : Abs.tzero Try.prog 40 = some [.t (.lit .nilFunc)] := by kernel_rfl
@[go_sem] theorem tok41 : Abs.tok Try.prog 41 = true := by kernel_rfl
@[go_sem] theorem tagg41 : Abs.tagg Try.prog 41 = false := by kernel_rfl
@[go_sem] theorem tsize41 : Abs.tsize Try.prog 41 = 1 := by kernel_rfl
@[go_sem] theorem tzero41 : Abs.tzero Try.prog 41 = some [.t (.lit .nilFunc)] := by kernel_rfl
@[go_sem] theorem tok42 : Abs.tok Try.prog 42 = true := by kernel_rfl
@[go_sem] theorem tagg42 : Abs.tagg Try.prog 42 = false := by kernel_rfl
@[go_sem] theorem tsize42 : Abs.tsize Try.prog 42 = 1 := by kernel_rfl
@[go_sem] theorem tzero42 : Abs.tzero Try.prog 42 = some [.t (.seq (some true) [])] := by kernel_rfl
@[go_sem] theorem tbytes42 : Abs.tbytes Try.prog 42 = 24 := by kernel_rfl
@[go_sem] theorem tsl42 : Abs.isSliceD (Abs.tdesc Try.prog 42) = true := by kernel_rfl
@[go_sem] theorem telem42 : Abs.telem Try.prog 42 = 32 := by kernel_rfl
@[go_sem] theorem tok43 : Abs.tok Try.prog 43 = true := by kernel_rfl
@[go_sem] theorem tagg43 : Abs.tagg Try.prog 43 = false := by kernel_rfl
@[go_sem] theorem tsize43 : Abs.tsize Try.prog 43 = 1 := by kernel_rfl
@[go_sem] theorem tzero43 : Abs.tzero Try.prog 43 = some [.t (.lit .nilFunc)] := by kernel_rfl
@[go_sem] theorem tok44 : Abs.tok Try.prog 44 = true := by kernel_rfl
@[go_sem] theorem tagg44 : Abs.tagg Try.prog 44 = false := by kernel_rfl
@[go_sem] theorem tsize44 : Abs.tsize Try.prog 44 = 1 := by kernel_rfl
@[go_sem] theorem tzero44 : Abs.tzero Try.prog 44 = some [.t (.seq (some true) [])] := by kernel_rfl
@[go_sem] theorem tbytes44 : Abs.tbytes Try.prog 44 = 24 := by kernel_rfl
@[go_sem] theorem tsl44 : Abs.isSliceD (Abs.tdesc Try.prog 44) = true := by kernel_rfl
@[go_sem] theorem telem44 : Abs.telem Try.prog 44 = 90 := by kernel_rfl
@[go_sem] theorem tok46 : Abs.tok Try.prog 46 = true := by kernel_rfl
@[go_sem] theorem tagg46 : Abs.tagg Try.prog 46 = false := by kernel_rfl
@[go_sem] theorem tsize46 : Abs.tsize Try.prog 46 = 1 := by kernel_rfl
@[go_sem] theorem tzero46 : Abs.tzero Try.prog 46 = some [.t (.lit .nilFunc)] := by kernel_rfl
@[go_sem] theorem tok47 : Abs.tok Try.prog 47 = true := by kernel_rfl
@[go_sem] theorem tagg47 : Abs.tagg Try.prog 47 = false := by kernel_rfl
@[go_sem] theorem tsize47 : Abs.tsize Try.prog 47 = 1 := by kernel_rfl
@[go_sem] theorem tzero47 : Abs.tzero Try.prog 47 = some [.t (.lit .nilFunc)] := by kernel_rfl
@[go_sem] theorem tok48 : Abs.tok Try.prog 48 = true := by kernel_rfl
@[go_sem] theorem tagg48 : Abs.tagg Try.prog 48 = false := by kernel_rfl
@[go_sem] theorem tsize48 : Abs.tsize Try.prog 48 = 1 := by kernel_rfl
@[go_sem] theorem tzero48 : Abs.tzero Try.prog 48 = some [.t (.seq (some true) [])] := by kernel_rfl
@[go_sem] theorem tbytes48 : Abs.tbytes Try.prog 48 = 24 := by kernel_rfl
@[go_sem] theorem tsl48 : Abs.isSliceD (Abs.tdesc Try.prog 48) = true := by kernel_rfl
@[go_sem] theorem telem48 : Abs.telem Try.prog 48 = 49 := by kernel_rfl
@[go_sem] theorem tok49 : Abs.tok Try.prog 49 = true := by kernel_rfl
@[go_sem] theorem tagg49 : Abs.tagg Try.prog 49 = false := by kernel_rfl
@[go_sem] theorem tsize49 : Abs.tsize Try.prog 49 = 1 := by kernel_rfl
@[go_sem] theorem tzero49 : Abs.tzero Try.prog 49 = some [.t (.lit (.int .i16 0))] := by kernel_rfl
@[go_sem] theorem tbytes49 : Abs.tbytes Try.prog 49 = 2 := by kernel_rfl
@[go_sem] theorem tint49 : Abs.intD (Abs.tdesc Try.prog 49) = some .i16 := by kernel_rfl
@[go_sem] theorem tok50 : Abs.tok Try.prog 50 = true := by kernel_rfl
@[go_sem] theorem tagg50 : Abs.tagg Try.prog 50 = false := by kernel_rfl
@[go_sem] theorem tsize50 : Abs.tsize Try.prog 50 = 1 := by kernel_rfl
@[go_sem] theorem tzero50 : Abs.tzero Try.prog 50 = some [.t (.lit .nilFunc)] := by kernel_rfl
@[go_sem] theorem tok52 : Abs.tok Try.prog 52 = true := by kernel_rfl
@[go_sem] theorem tagg52 : Abs.tagg Try.prog 52 = false := by kernel_rfl
@[go_sem] theorem tsize52 : Abs.tsize Try.prog 52 = 1 := by kernel_rfl
@[go_sem] theorem tzero52 : Abs.tzero Try.prog 52 = some [.t (.lit .nilFunc)] := by kernel_rfl
@[go_sem] theorem tok53 : Abs.tok Try.prog 53 = true := by kernel_rfl
@[go_sem] theorem tagg53 : Abs.tagg Try.prog 53 = false := by kernel_rfl
@[go_sem] theorem tsize53 : Abs.tsize Try.prog 53 = 1 := by kernel_rfl
@[go_sem] theorem tzero53 : Abs.tzero Try.prog 53 = some [.t (.lit .nilFunc)] := by kernel_rfl
@[go_sem] theorem tok54 : Abs.tok Try.prog 54 = true := by kernel_rfl
@[go_sem] theorem tagg54 : Abs.tagg Try.prog 54 = false := by kernel_rfl
@[go_sem] theorem tsize54 : Abs.tsize Try.prog 54 = 1 := by kernel_rfl
@[go_sem] theorem tzero54 : Abs.tzero Try.prog 54 = some [.t (.lit .nilFunc)] := by kernel_rfl
@[go_sem] theorem tok55 : Abs.tok Try.prog 55 = true := by kernel_rfl
@[go_sem] theorem tagg55 : Abs.tagg Try.prog 55 = false := by kernel_rfl
@[go_sem] theorem tsize55 : Abs.tsize Try.prog 55 = 1 := by kernel_rfl
@[go_sem] theorem tzero55 : Abs.tzero Try.prog 55 = some [.t (.lit .nilFunc)] := by kernel_rfl
@[go_sem] theorem tok56 : Abs.tok Try.prog 56 = true := by kernel_rfl
@[go_sem] theorem tagg56 : Abs.tagg Try.prog 56 = false := by kernel_rfl
@[go_sem] theorem tsize56 : Abs.tsize Try.prog 56 = 1 := by kernel_rfl
@[go_sem] theorem tzero56 : Abs.tzero Try.prog 56 = some [.t (.seq (some true) [])] := by kernel_rfl
@[go_sem] theorem tbytes56 : Abs.tbytes Try.prog 56 = 24 := by kernel_rfl
@[go_sem] theorem tsl56 : Abs.isSliceD (Abs.tdesc Try.prog 56) = true := by kernel_rfl
@[go_sem] theorem telem56 : Abs.telem Try.prog 56 = 5 := by kernel_rfl
@[go_sem] theorem tok57 : Abs.tok Try.prog 57 = true := by kernel_rfl
@[go_sem] theorem tagg57 : Abs.tagg Try.prog 57 = false := by kernel_rfl
@[go_sem] theorem tsize57 : Abs.tsize Try.prog 57 = 1 := by kernel_rfl
@[go_sem] theorem tzero57 : Abs.tzero Try.prog 57 = some [.t (.lit .nilFunc)] := by kernel_rfl
@[go_sem] theorem tok58 : Abs.tok Try.prog 58 = true := by kernel_rfl
@[go_sem] theorem tagg58 : Abs.tagg Try.prog 58 = false := by kernel_rfl
@[go_sem] theorem tsize58 : Abs.tsize Try.prog 58 = 1 := by kernel_rfl
@[go_sem] theorem tzero58 : Abs.tzero Try.prog 58 = some [.t (.lit (.pointer none))] := by kernel_rfl
@[go_sem] theorem tbytes58 : Abs.tbytes Try.prog 58 = 8 := by kernel_rfl
@[go_sem] theorem tok59 : Abs.tok Try.prog 59 = true := by kernel_rfl
@[go_sem] theorem tagg59 : Abs.tagg Try.prog 59 = false := by kernel_rfl
@[go_sem] theorem tsize59 : Abs.tsize Try.prog 59 = 1 := by kernel_rfl
@[go_sem] theorem tzero59 : Abs.tzero Try.prog 59 = some [.t (.seq (some true) [])] := by kernel_rfl
@[go_sem] theorem tbytes59 : Abs.tbytes Try.prog 59 = 24 := by kernel_rfl
@[go_sem] theorem tsl59 : Abs.isSliceD (Abs.tdesc Try.prog 59) = true := by kernel_rfl
@[go_sem] theorem telem59 : Abs.telem Try.prog 59 = 3 := by kernel_rfl
@[go_sem] theorem tok61 : Abs.tok Try.prog 61 = true := by kernel_rfl
@[go_sem] theorem tagg61 : Abs.tagg Try.prog 61 = false := by kernel_rfl
@[go_sem] theorem tsize61 : Abs.tsize Try.prog 61 = 1 := by kernel_rfl
@[go_sem] theorem tzero61 : Abs.tzero Try.prog 61 = some [.t (.lit .nilFunc)] := by kernel_rfl
@[go_sem] theorem tok62 : Abs.tok Try.prog 62 = true := by kernel_rfl
@[go_sem] theorem tagg62 : Abs.tagg Try.prog 62 = false := by kernel_rfl
@[go_sem] theorem tsize62 : Abs.tsize Try.prog 62 = 1 := by kernel_rfl
@[go_sem] theorem tzero62 : Abs.tzero Try.prog 62 = some [.t (.seq (some true) [])] := by kernel_rfl
@[go_sem] theorem tbytes62 : Abs.tbytes Try.prog 62 = 24 := by kernel_rfl
@[go_sem] theorem tsl62 : Abs.isSliceD (Abs.tdesc Try.prog 62) = true := by kernel_rfl
@[go_sem] theorem telem62 : Abs.telem Try.prog 62 = 38 := by kernel_rfl
@[go_sem] theorem tok63 : Abs.tok Try.prog 63 = true := by kernel_rfl
@[go_sem] theorem tagg63 : Abs.tagg Try.prog 63 = true := by kernel_rfl
@[go_sem] theorem tsize63 : Abs.tsize Try.prog 63 = 3 := by kernel_rfl
@[go_sem] theorem tzero63 : Abs.tzero Try.prog 63 = some [.t (.seq (some true) []), .t (.seq (some true) []), .t (.seq (some true) [])] := by kernel_rfl
@[go_sem] theorem tbytes63 : Abs.tbytes Try.prog 63 = 72 := by kernel_rfl
@[go_sem] theorem tst63 : Abs.isStructD (Abs.tdesc Try.prog 63) = true := by kernel_rfl
@[go_sem] theorem tnf63 : Abs.nfields Try.prog 63 = 3 := by kernel_rfl
@[go_sem] theorem tpt63 : Abs.partsTok Try.prog 63 = true := by kernel_rfl
@[go_sem] theorem tfo63_0 : Abs.foff Try.prog 63 0 = 0 := by kernel_rfl
@[go_sem] theorem tft63_0 : Abs.fty Try.prog 63 0 = 62 := by kernel_rfl
@[go_sem] theorem tpl63_0 : Abs.placesA Try.prog 63 0 = some (0, 1) := by kernel_rfl
@[go_sem] theorem tfo63_1 : Abs.foff Try.prog 63 1 = 1 := by kernel_rfl
@[go_sem] theorem tft63_1 : Abs.fty Try.prog 63 1 = 62 := by kernel_rfl
@[go_sem] theorem tpl63_1 : Abs.placesA Try.prog 63 1 = some (1, 1) := by kernel_rfl
@[go_sem] theorem tfo63_2 : Abs.foff Try.prog 63 2 = 2 := by kernel_rfl
@[go_sem] theorem tft63_2 : Abs.fty Try.prog 63 2 = 62 := by kernel_rfl
@[go_sem] theorem tpl63_2 : Abs.placesA Try.prog 63 2 = some (2, 1) := by kernel_rfl
@[go_sem] theorem tok64 : Abs.tok Try.prog 64 = true := by kernel_rfl
@[go_sem] theorem tagg64 : Abs.tagg Try.prog 64 = true := by kernel_rfl
@[go_sem] theorem tsize64 : Abs.tsize Try.prog 64 = 3 := by kernel_rfl
@[go_sem] theorem tzero64 : Abs.tzero Try.prog 64 = some [.t (.seq (some true) []), .t (.seq (some true) []), .t (.seq (some true) [])] := by kernel_rfl
@[go_sem] theorem tbytes64 : Abs.tbytes Try.prog 64 = 72 := by kernel_rfl
@[go_sem] theorem tst64 : Abs.isStructD (Abs.tdesc Try.prog 64) = true := by kernel_rfl
@[go_sem] theorem tnf64 : Abs.nfields Try.prog 64 = 3 := by kernel_rfl
@[go_sem] theorem tpt64 : Abs.partsTok Try.prog 64 = true := by kernel_rfl
@[go_sem] theorem tfo64_0 : Abs.foff Try.prog 64 0 = 0 := by kernel_rfl
@[go_sem] theorem tft64_0 : Abs.fty Try.prog 64 0 = 62 := by kernel_rfl
@[go_sem] theorem tpl64_0 : Abs.placesA Try.prog 64 0 = some (0, 1) := by kernel_rfl
@[go_sem] theorem tfo64_1 : Abs.foff Try.prog 64 1 = 1 := by kernel_rfl
@[go_sem] theorem tft64_1 : Abs.fty Try.prog 64 1 = 62 := by kernel_rfl
@[go_sem] theorem tpl64_1 : Abs.placesA Try.prog 64 1 = some (1, 1) := by kernel_rfl
@[go_sem] theorem tfo64_2 : Abs.foff Try.prog 64 2 = 2 := by kernel_rfl
@[go_sem] theorem tft64_2 : Abs.fty Try.prog 64 2 = 62 := by kernel_rfl
@[go_sem] theorem tpl64_2 : Abs.placesA Try.prog 64 2 = some (2, 1) := by kernel_rfl
@[go_sem] theorem tok65 : Abs.tok Try.prog 65 = true := by kernel_rfl
@[go_sem] theorem tagg65 : Abs.tagg Try.prog 65 = false := by kernel_rfl
@[go_sem] theorem tsize65 : Abs.tsize Try.prog 65 = 1 := by kernel_rfl
@[go_sem] theorem tzero65 : Abs.tzero Try.prog 65 = some [.t (.lit .nilFunc)] := by kernel_rfl
@[go_sem] theorem tok66 : Abs.tok Try.prog 66 = true := by kernel_rfl
@[go_sem] theorem tagg66 : Abs.tagg Try.prog 66 = false := by kernel_rfl
@[go_sem] theorem tsize66 : Abs.tsize Try.prog 66 = 1 := by kernel_rfl
@[go_sem] theorem tzero66 : Abs.tzero Try.prog 66 = some [.t (.lit .nilFunc)] := by kernel_rfl
@[go_sem] theorem tok67 : Abs.tok Try.prog 67 = true := by kernel_rfl
@[go_sem] theorem tagg67 : Abs.tagg Try.prog 67 = false := by kernel_rfl
@[go_sem] theorem tsize67 : Abs.tsize Try.prog 67 = 1 := by kernel_rfl
@[go_sem] theorem tzero67 : Abs.tzero Try.prog 67 = some [.t (.lit .nilFunc)] := by kernel_rfl
@[go_sem] theorem tok68 : Abs.tok Try.prog 68 = true := by kernel_rfl
@[go_sem] theorem tagg68 : Abs.tagg Try.prog 68 = false := by kernel_rfl
@[go_sem] theorem tsize68 : Abs.tsize Try.prog 68 = 1 := by kernel_rfl
@[go_sem] theorem tzero68 : Abs.tzero Try.prog 68 = some [.t (.lit .nilFunc)] := by kernel_rfl
@[go_sem] theorem tok69 : Abs.tok Try.prog 69 = true := by kernel_rfl
@[go_sem] theorem tagg69 : Abs.tagg Try.prog 69 = false := by kernel_rfl
@[go_sem] theorem tsize69 : Abs.tsize Try.prog 69 = 1 := by kernel_rfl
@[go_sem] theorem tzero69 : Abs.tzero Try.prog 69 = some [.t (.lit .nilFunc)] := by kernel_rfl
@[go_sem] theorem tok70 : Abs.tok Try.prog 70 = true := by kernel_rfl
@[go_sem] theorem tagg70 : Abs.tagg Try.prog 70 = false := by kernel_rfl
@[go_sem] theorem tsize70 : Abs.tsize Try.prog 70 = 1 := by kernel_rfl
@[go_sem] theorem tzero70 : Abs.tzero Try.prog 70 = some [.t (.lit .nilFunc)] := by kernel_rfl
@[go_sem] theorem tok71 : Abs.tok Try.prog 71 = true := by kernel_rfl
@[go_sem] theorem tagg71 : Abs.tagg Try.prog 71 = false := by kernel_rfl
@[go_sem] theorem tsize71 : Abs.tsize Try.prog 71 = 1 := by kernel_rfl
@[go_sem] theorem tzero71 : Abs.tzero Try.prog 71 = some [.t (.lit (.int .u64 0))] := by kernel_rfl
@[go_sem] theorem tbytes71 : Abs.tbytes Try.prog 71 = 8 := by kernel_rfl
@[go_sem] theorem tint71 : Abs.intD (Abs.tdesc Try.prog 71) = some .u64 := by kernel_rfl
@[go_sem] theorem tok72 : Abs.tok Try.prog 72 = true := by kernel_rfl
@[go_sem] theorem tagg72 : Abs.tagg Try.prog 72 = false := by kernel_rfl
@[go_sem] theorem tsize72 : Abs.tsize Try.prog 72 = 1 := by kernel_rfl
@[go_sem] theorem tzero72 : Abs.tzero Try.prog 72 = some [.t (.lit .nilFunc)] := by kernel_rfl
@[go_sem] theorem tok73 : Abs.tok Try.prog 73 = true := by kernel_rfl
@[go_sem] theorem tagg73 : Abs.tagg Try.prog 73 = false := by kernel_rfl
@[go_sem] theorem tsize73 : Abs.tsize Try.prog 73 = 1 := by kernel_rfl
@[go_sem] theorem tzero73 : Abs.tzero Try.prog 73 = some [.t (.lit .nilFunc)] := by kernel_rfl
@[go_sem] theorem tok74 : Abs.tok Try.prog 74 = true := by kernel_rfl
@[go_sem] theorem tagg74 : Abs.tagg Try.prog 74 = false := by kernel_rfl
@[go_sem] theorem tsize74 : Abs.tsize Try.prog 74 = 1 := by kernel_rfl
@[go_sem] theorem tzero74 : Abs.tzero Try.prog 74 = some [.t (.lit .nilFunc)] := by kernel_rfl
@[go_sem] theorem tok75 : Abs.tok Try.prog 75 = true := by kernel_rfl
@[go_sem] theorem tagg75 : Abs.tagg Try.prog 75 = false := by kernel_rfl
@[go_sem] theorem tsize75 : Abs.tsize Try.prog 75 = 1 := by kernel_rfl
@[go_sem] theorem tzero75 : Abs.tzero Try.prog 75 = some [.t (.lit .nilFunc)] := by kernel_rfl
@[go_sem] theorem tok77 : Abs.tok Try.prog 77 = true := by kernel_rfl
@[go_sem] theorem tagg77 : Abs.tagg Try.prog 77 = false := by kernel_rfl
@[go_sem] theorem tsize77 : Abs.tsize Try.prog 77 = 1 := by kernel_rfl
@[go_sem] theorem tzero77 : Abs.tzero Try.prog 77 = some [.t (.lit .nilFunc)] := by kernel_rfl
@[go_sem] theorem tok79 : Abs.tok Try.prog 79 = true := by kernel_rfl
@[go_sem] theorem tagg79 : Abs.tagg Try.prog 79 = false := by kernel_rfl
@[go_sem] theorem tsize79 : Abs.tsize Try.prog 79 = 1 := by kernel_rfl
@[go_sem] theorem tzero79 : Abs.tzero Try.prog 79 = some [.t (.lit .nilFunc)] := by kernel_rfl
@[go_sem] theorem tok80 : Abs.tok Try.prog 80 = true := by kernel_rfl
@[go_sem] theorem tagg80 : Abs.tagg Try.prog 80 = false := by kernel_rfl
@[go_sem] theorem tsize80 : Abs.tsize Try.prog 80 = 1 := by kernel_rfl
@[go_sem] theorem tzero80 : Abs.tzero Try.prog 80 = some [.t (.lit (.int .u32 0))] := by kernel_rfl
@[go_sem] theorem tbytes80 : Abs.tbytes Try.prog 80 = 4 := by kernel_rfl
@[go_sem] theorem tint80 : Abs.intD (Abs.tdesc Try.prog 80) = some .u32 := by kernel_rfl
@[go_sem] theorem tok81 : Abs.tok Try.prog 81 = true := by kernel_rfl
@[go_sem] theorem tagg81 : Abs.tagg Try.prog 81 = false := by kernel_rfl
@[go_sem] theorem tsize81 : Abs.tsize Try.prog 81 = 1 := by kernel_rfl
@[go_sem] theorem tzero81 : Abs.tzero Try.prog 81 = some [.t (.lit .nilFunc)] := by kernel_rfl
@[go_sem] theorem tok82 : Abs.tok Try.prog 82 = true := by kernel_rfl
@[go_sem] theorem tagg82 : Abs.tagg Try.prog 82 = false := by kernel_rfl
@[go_sem] theorem tsize82 : Abs.tsize Try.prog 82 = 1 := by kernel_rfl
@[go_sem] theorem tzero82 : Abs.tzero Try.prog 82 = some [.t (.lit .nilFunc)] := by kernel_rfl
@[go_sem] theorem tok83 : Abs.tok Try.prog 83 = true := by kernel_rfl
@[go_sem] theorem tagg83 : Abs.tagg Try.prog 83 = false := by kernel_rfl
@[go_sem] theorem tsize83 : Abs.tsize Try.prog 83 = 1 := by kernel_rfl
@[go_sem] theorem tzero83 : Abs.tzero Try.prog 83 = some [.t (.lit .nilFunc)] := by kernel_rfl
@[go_sem] theorem tok84 : Abs.tok Try.prog 84 = true := by kernel_rfl
@[go_sem] theorem tagg84 : Abs.tagg Try.prog 84 = false := by kernel_rfl
@[go_sem] theorem tsize84 : Abs.tsize Try.prog 84 = 1 := by kernel_rfl
@[go_sem] theorem tzero84 : Abs.tzero Try.prog 84 = some [.t (.lit .nilFunc)] := by kernel_rfl
@[go_sem] theorem tok85 : Abs.tok Try.prog 85 = true := by kernel_rfl
@[go_sem] theorem tagg85 : Abs.tagg Try.prog 85 = false := by kernel_rfl
@[go_sem] theorem tsize85 : Abs.tsize Try.prog 85 = 1 := by kernel_rfl
@[go_sem] theorem tzero85 : Abs.tzero Try.prog 85 = some [.t (.lit .nilFunc)] := by kernel_rfl
@[go_sem] theorem tok86 : Abs.tok Try.prog 86 = true := by kernel_rfl
@[go_sem] theorem tagg86 : Abs.tagg Try.prog 86 = false := by kernel_rfl
@[go_sem] theorem tsize86 : Abs.tsize Try.prog 86 = 1 := by kernel_rfl
@[go_sem] theorem tzero86 : Abs.tzero Try.prog 86 = some [.t (.lit .nilFunc)] := by kernel_rfl
@[go_sem] theorem tok87 : Abs.tok Try.prog 87 = true := by kernel_rfl
@[go_sem] theorem tagg87 : Abs.tagg Try.prog 87 = false := by kernel_rfl
@[go_sem] theorem tsize87 : Abs.tsize Try.prog 87 = 1 := by kernel_rfl
@[go_sem] theorem tzero87 : Abs.tzero Try.prog 87 = some [.t (.lit .nilFunc)] := by kernel_rfl
@[go_sem] theorem tok88 : Abs.tok Try.prog 88 = true := by kernel_rfl
@[go_sem] theorem tagg88 : Abs.tagg Try.prog 88 = false := by kernel_rfl
@[go_sem] theorem tsize88 : Abs.tsize Try.prog 88 = 1 := by kernel_rfl
@[go_sem] theorem tzero88 : Abs.tzero Try.prog 88 = some [.t (.lit .nilFunc)] := by kernel_rfl
@[go_sem] theorem tok89 : Abs.tok Try.prog 89 = true := by kernel_rfl
@[go_sem] theorem tagg89 : Abs.tagg Try.prog 89 = true := by kernel_rfl
@[go_sem] theorem tsize89 : Abs.tsize Try.prog 89 = 3 := by kernel_rfl
@[go_sem] theorem tzero89 : Abs.tzero Try.prog 89 = some [.t (.lit (.bool false)), .t (.seq (some true) []), .t (.seq (some true) [])] := by kernel_rfl
@[go_sem] theorem tbytes89 : Abs.tbytes Try.prog 89 = 56 := by kernel_rfl
@[go_sem] theorem tst89 : Abs.isStructD (Abs.tdesc Try.prog 89) = true := by kernel_rfl
@[go_sem] theorem tnf89 : Abs.nfields Try.prog 89 = 2 := by kernel_rfl
@[go_sem] theorem tpt89 : Abs.partsTok Try.prog 89 = true := by kernel_rfl
@[go_sem] theorem tfo89_0 : Abs.foff Try.prog 89 0 = 0 := by kernel_rfl
@[go_sem] theorem tft89_0 : Abs.fty Try.prog 89 0 = 36 := by kernel_rfl
@[go_sem] theorem tpl89_0 : Abs.placesA Try.prog 89 0 = some (0, 2) := by kernel_rfl
@[go_sem] theorem tfo89_1 : Abs.foff Try.prog 89 1 = 2 := by kernel_rfl
@[go_sem] theorem tft89_1 : Abs.fty Try.prog 89 1 = 34 := by kernel_rfl
@[go_sem] theorem tpl89_1 : Abs.placesA Try.prog 89 1 = some (2, 1) := by kernel_rfl
@[go_sem] theorem tok90 : Abs.tok Try.prog 90 = true := by kernel_rfl
@[go_sem] theorem tagg90 : Abs.tagg Try.prog 90 = true := by kernel_rfl
@[go_sem] theorem tsize90 : Abs.tsize Try.prog 90 = 3 := by kernel_rfl
@[go_sem] theorem tzero90 : Abs.tzero Try.prog 90 = some [.t (.lit (.bool false)), .t (.seq (some true) []), .t (.seq (some true) [])] := by kernel_rfl
@[go_sem] theorem tbytes90 : Abs.tbytes Try.prog 90 = 56 := by kernel_rfl
@[go_sem] theorem tst90 : Abs.isStructD (Abs.tdesc Try.prog 90) = true := by kernel_rfl
@[go_sem] theorem tnf90 : Abs.nfields Try.prog 90 = 2 := by kernel_rfl
@[go_sem] theorem tpt90 : Abs.partsTok Try.prog 90 = true := by kernel_rfl
@[go_sem] theorem tfo90_0 : Abs.foff Try.prog 90 0 = 0 := by kernel_rfl
@[go_sem] theorem tft90_0 : Abs.fty Try.prog 90 0 = 36 := by kernel_rfl
@[go_sem] theorem tpl90_0 : Abs.placesA Try.prog 90 0 = some (0, 2) := by kernel_rfl
@[go_sem] theorem tfo90_1 : Abs.foff Try.prog 90 1 = 2 := by kernel_rfl
@[go_sem] theorem tft90_1 : Abs.fty Try.prog 90 1 = 34 := by kernel_rfl
@[go_sem] theorem tpl90_1 : Abs.placesA Try.prog 90 1 = some (2, 1) := by kernel_rfl
@[go_sem] theorem tok91 : Abs.tok Try.prog 91 = true := by kernel_rfl
@[go_sem] theorem tagg91 : Abs.tagg Try.prog 91 = false := by kernel_rfl
@[go_sem] theorem tsize91 : Abs.tsize Try.prog 91 = 1 := by kernel_rfl
@[go_sem] theorem tzero91 : Abs.tzero Try.prog 91 = some [.t (.lit .nilFunc)] := by kernel_rfl
@[go_sem] theorem tok93 : Abs.tok Try.prog 93 = true := by kernel_rfl
@[go_sem] theorem tagg93 : Abs.tagg Try.prog 93 = false := by kernel_rfl
@[go_sem] theorem tsize93 : Abs.tsize Try.prog 93 = 1 := by kernel_rfl
@[go_sem] theorem tzero93 : Abs.tzero Try.prog 93 = some [.t (.lit .nilFunc)] := by kernel_rfl
@[go_sem] theorem tok94 : Abs.tok Try.prog 94 = true := by kernel_rfl
@[go_sem] theorem tagg94 : Abs.tagg Try.prog 94 = false := by kernel_rfl
@[go_sem] theorem tsize94 : Abs.tsize Try.prog 94 = 1 := by kernel_rfl
@[go_sem] theorem tzero94 : Abs.tzero Try.prog 94 = some [.t (.lit .nilFunc)] := by kernel_rfl
@[go_sem] theorem tok95 : Abs.tok Try.prog 95 = true := by kernel_rfl
@[go_sem] theorem tagg95 : Abs.tagg Try.prog 95 = false := by kernel_rfl
@[go_sem] theorem tsize95 : Abs.tsize Try.prog 95 = 1 := by kernel_rfl
@[go_sem] theorem tzero95 : Abs.tzero Try.prog 95 = some [.t (.lit .nilFunc)] := by kernel_rfl
@[go_sem] theorem tok96 : Abs.tok Try.prog 96 = true := by kernel_rfl
@[go_sem] theorem tagg96 : Abs.tagg Try.prog 96 = false := by kernel_rfl
@[go_sem] theorem tsize96 : Abs.tsize Try.prog 96 = 1 := by kernel_rfl
@[go_sem] theorem tzero96 : Abs.tzero Try.prog 96 = some [.t (.lit .nilFunc)] := by kernel_rfl
@[go_sem] theorem tok97 : Abs.tok Try.prog 97 = true := by kernel_rfl
@[go_sem] theorem tagg97 : Abs.tagg Try.prog 97 = false := by kernel_rfl
@[go_sem] theorem tsize97 : Abs.tsize Try.prog 97 = 1 := by kernel_rfl
@[go_sem] theorem tzero97 : Abs.tzero Try.prog 97 = some [.t (.lit .nilFunc)] := by kernel_rfl
@[go_sem] theorem tok98 : Abs.tok Try.prog 98 = true := by kernel_rfl
@[go_sem] theorem tagg98 : Abs.tagg Try.prog 98 = true := by kernel_rfl
@[go_sem] theorem tsize98 : Abs.tsize Try.prog 98 = 1 := by kernel_rfl
@[go_sem] theorem tzero98 : Abs.tzero Try.prog 98 = some [.t (.seq (some true) [])] := by kernel_rfl
@[go_sem] theorem tbytes98 : Abs.tbytes Try.prog 98 = 24 := by kernel_rfl
@[go_sem] theorem tst98 : Abs.isStructD (Abs.tdesc Try.prog 98) = true := by kernel_rfl
@[go_sem] theorem tnf98 : Abs.nfields Try.prog 98 = 1 := by kernel_rfl
@[go_sem] theorem tpt98 : Abs.partsTok Try.prog 98 = true := by kernel_rfl
@[go_sem] theorem tfo98_0 : Abs.foff Try.prog 98 0 = 0 := by kernel_rfl
@[go_sem] theorem tft98_0 : Abs.fty Try.prog 98 0 = 34 := by kernel_rfl
@[go_sem] theorem tpl98_0 : Abs.placesA Try.prog 98 0 = some (0, 1) := by kernel_rfl
@[go_sem] theorem tok99 : Abs.tok Try.prog 99 = true := by kernel_rfl
@[go_sem] theorem tagg99 : Abs.tagg Try.prog 99 = true := by kernel_rfl
@[go_sem] theorem tsize99 : Abs.tsize Try.prog 99 = 1 := by kernel_rfl
@[go_sem] theorem tzero99 : Abs.tzero Try.prog 99 = some [.t (.seq (some true) [])] := by kernel_rfl
@[go_sem] theorem tbytes99 : Abs.tbytes Try.prog 99 = 24 := by kernel_rfl
@[go_sem] theorem tst99 : Abs.isStructD (Abs.tdesc Try.prog 99) = true := by kernel_rfl
@[go_sem] theorem tnf99 : Abs.nfields Try.prog 99 = 1 := by kernel_rfl
@[go_sem] theorem tpt99 : Abs.partsTok Try.prog 99 = true := by kernel_rfl
@[go_sem] theorem tfo99_0 : Abs.foff Try.prog 99 0 = 0 := by kernel_rfl
@[go_sem] theorem tft99_0 : Abs.fty Try.prog 99 0 = 34 := by kernel_rfl
@[go_sem] theorem tpl99_0 : Abs.placesA Try.prog 99 0 = some (0, 1) := by kernel_rfl
@[go_sem] theorem tok100 : Abs.tok Try.prog 100 = true := by kernel_rfl
@[go_sem] theorem tagg100 : Abs.tagg Try.prog 100 = true := by kernel_rfl
@[go_sem] theorem tsize100 : Abs.tsize Try.prog 100 = 2 := by kernel_rfl
@[go_sem] theorem tzero100 : Abs.tzero Try.prog 100 = some [.t (.seq (some true) []), .t (.lit (.bool false))] := by kernel_rfl
@[go_sem] theorem tbytes100 : Abs.tbytes Try.prog 100 = 32 := by kernel_rfl
@[go_sem] theorem tst100 : Abs.isStructD (Abs.tdesc Try.prog 100) = true := by kernel_rfl
@[go_sem] theorem tnf100 : Abs.nfields Try.prog 100 = 2 := by kernel_rfl
@[go_sem] theorem tpt100 : Abs.partsTok Try.prog 100 = true := by kernel_rfl
@[go_sem] theorem tfo100_0 : Abs.foff Try.prog 100 0 = 0 := by kernel_rfl
@[go_sem] theorem tft100_0 : Abs.fty Try.prog 100 0 = 99 := by kernel_rfl
@[go_sem] theorem tpl100_0 : Abs.placesA Try.prog 100 0 = some (0, 1) := by kernel_rfl
@[go_sem] theorem tfo100_1 : Abs.foff Try.prog 100 1 = 1 := by kernel_rfl
@[go_sem] theorem tft100_1 : Abs.fty Try.prog 100 1 = 4 := by kernel_rfl
@[go_sem] theorem tpl100_1 : Abs.placesA Try.prog 100 1 = some (1, 1) := by kernel_rfl
@[go_sem] theorem tok101 : Abs.tok Try.prog 101 = true := by kernel_rfl
@[go_sem] theorem tagg101 : Abs.tagg Try.prog 101 = true := by kernel_rfl
@[go_sem] theorem tsize101 : Abs.tsize Try.prog 101 = 2 := by kernel_rfl
@[go_sem] theorem tzero101 : Abs.tzero Try.prog 101 = some [.t (.seq (some true) []), .t (.lit (.bool false))] := by kernel_rfl
@[go_sem] theorem tbytes101 : Abs.tbytes Try.prog 101 = 32 := by kernel_rfl
@[go_sem] theorem tst101 : Abs.isStructD (Abs.tdesc Try.prog 101) = true := by kernel_rfl
@[go_sem] theorem tnf101 : Abs.nfields Try.prog 101 = 2 := by kernel_rfl
@[go_sem] theorem tpt101 : Abs.partsTok Try.prog 101 = true := by kernel_rfl
@[go_sem] theorem tfo101_0 : Abs.foff Try.prog 101 0 = 0 := by kernel_rfl
@[go_sem] theorem tft101_0 : Abs.fty Try.prog 101 0 = 99 := by kernel_rfl
@[go_sem] theorem tpl101_0 : Abs.placesA Try.prog 101 0 = some (0, 1) := by kernel_rfl
@[go_sem] theorem tfo101_1 : Abs.foff Try.prog 101 1 = 1 := by kernel_rfl
@[go_sem] theorem tft101_1 : Abs.fty Try.prog 101 1 = 4 := by kernel_rfl
@[go_sem] theorem tpl101_1 : Abs.placesA Try.prog 101 1 = some (1, 1) := by kernel_rfl
@[go_sem] theorem tok102 : Abs.tok Try.prog 102 = true := by kernel_rfl
@[go_sem] theorem tagg102 : Abs.tagg Try.prog 102 = false := by kernel_rfl
@[go_sem] theorem tsize102 : Abs.tsize Try.prog 102 = 1 := by kernel_rfl
@[go_sem] theorem tzero102 : Abs.tzero Try.prog 102 = some [.t (.lit .nilFunc)] := by kernel_rfl
@[go_sem] theorem tok103 : Abs.tok Try.prog 103 = true := by kernel_rfl
@[go_sem] theorem tagg103 : Abs.tagg Try.prog 103 = false := by kernel_rfl
@[go_sem] theorem tsize103 : Abs.tsize Try.prog 103 = 1 := by kernel_rfl
@[go_sem] theorem tzero103 : Abs.tzero Try.prog 103 = some [.t (.lit .nilFunc)] := by kernel_rfl
@[go_sem] theorem tok104 : Abs.tok Try.prog 104 = true := by kernel_rfl
@[go_sem] theorem tagg104 : Abs.tagg Try.prog 104 = false := by kernel_rfl
@[go_sem] theorem tsize104 : Abs.tsize Try.prog 104 = 1 := by kernel_rfl
@[go_sem] theorem tzero104 : Abs.tzero Try.prog 104 = some [.t (.lit .nilFunc)] := by kernel_rfl
@[go_sem] theorem tok105 : Abs.tok Try.prog 105 = true := by kernel_rfl
@[go_sem] theorem tagg105 : Abs.tagg Try.prog 105 = false := by kernel_rfl
@[go_sem] theorem tsize105 : Abs.tsize Try.prog 105 = 1 := by kernel_rfl
@[go_sem] theorem tzero105 : Abs.tzero Try.prog 105 = some [.t (.seq (some true) [])] := by kernel_rfl
@[go_sem] theorem tbytes105 : Abs.tbytes Try.prog 105 = 24 := by kernel_rfl
@[go_sem] theorem tsl105 : Abs.isSliceD (Abs.tdesc Try.prog 105) = true := by kernel_rfl
@[go_sem] theorem telem105 : Abs.telem Try.prog 105 = 109 := by kernel_rfl
@[go_sem] theorem tok106 : Abs.tok Try.prog 106 = true := by kernel_rfl
@[go_sem] theorem tagg106 : Abs.tagg Try.prog 106 = true := by kernel_rfl
@[go_sem] theorem tsize106 : Abs.tsize Try.prog 106 = 3 := by kernel_rfl
@[go_sem] theorem tzero106 : Abs.tzero Try.prog 106 = some [.t (.lit (.bool false)), .t (.seq (some true) []), .t (.seq (some true) [])] := by kernel_rfl
@[go_sem] theorem tbytes106 : Abs.tbytes Try.prog 106 = 56 := by kernel_rfl
@[go_sem] theorem tst106 : Abs.isStructD (Abs.tdesc Try.prog 106) = true := by kernel_rfl
@[go_sem] theorem tnf106 : Abs.nfields Try.prog 106 = 2 := by kernel_rfl
@[go_sem] theorem tpt106 : Abs.partsTok Try.prog 106 = true := by kernel_rfl
@[go_sem] theorem tfo106_0 : Abs.foff Try.prog 106 0 = 0 := by kernel_rfl
@[go_sem] theorem tft106_0 : Abs.fty Try.prog 106 0 = 36 := by kernel_rfl
@[go_sem] theorem tpl106_0 : Abs.placesA Try.prog 106 0 = some (0, 2) := by kernel_rfl
@[go_sem] theorem tfo106_1 : Abs.foff Try.prog 106 1 = 2 := by kernel_rfl
@[go_sem] theorem tft106_1 : Abs.fty Try.prog 106 1 = 34 := by kernel_rfl
@[go_sem] theorem tpl106_1 : Abs.placesA Try.prog 106 1 = some (2, 1) := by kernel_rfl
@[go_sem] theorem tok107 : Abs.tok Try.prog 107 = true := by kernel_rfl
@[go_sem] theorem tagg107 : Abs.tagg Try.prog 107 = true := by kernel_rfl
@[go_sem] theorem tsize107 : Abs.tsize Try.prog 107 = 3 := by kernel_rfl
@[go_sem] theorem tzero107 : Abs.tzero Try.prog 107 = some [.t (.lit (.bool false)), .t (.seq (some true) []), .t (.seq (some true) [])] := by kernel_rfl
@[go_sem] theorem tbytes107 : Abs.tbytes Try.prog 107 = 56 := by kernel_rfl
@[go_sem] theorem tst107 : Abs.isStructD (Abs.tdesc Try.prog 107) = true := by kernel_rfl
@[go_sem] theorem tnf107 : Abs.nfields Try.prog 107 = 2 := by kernel_rfl
@[go_sem] theorem tpt107 : Abs.partsTok Try.prog 107 = true := by kernel_rfl
@[go_sem] theorem tfo107_0 : Abs.foff Try.prog 107 0 = 0 := by kernel_rfl
@[go_sem] theorem tft107_0 : Abs.fty Try.prog 107 0 = 36 := by kernel_rfl
@[go_sem] theorem tpl107_0 : Abs.placesA Try.prog 107 0 = some (0, 2) := by kernel_rfl
@[go_sem] theorem tfo107_1 : Abs.foff Try.prog 107 1 = 2 := by kernel_rfl
@[go_sem] theorem tft107_1 : Abs.fty Try.prog 107 1 = 34 := by kernel_rfl
@[go_sem] theorem tpl107_1 : Abs.placesA Try.prog 107 1 = some (2, 1) := by kernel_rfl
@[go_sem] theorem tok108 : Abs.tok Try.prog 108 = true := by kernel_rfl
@[go_sem] theorem tagg108 : Abs.tagg Try.prog 108 = true := by kernel_rfl
@[go_sem] theorem tsize108 : Abs.tsize Try.prog 108 = 3 := by kernel_rfl
@[go_sem] theorem tzero108 : Abs.tzero Try.prog 108 = some [.t (.lit (.bool false)), .t (.seq (some true) []), .t (.seq (some true) [])] := by kernel_rfl
@[go_sem] theorem tbytes108 : Abs.tbytes Try.prog 108 = 56 := by kernel_rfl
@[go_sem] theorem tst108 : Abs.isStructD (Abs.tdesc Try.prog 108) = true := by kernel_rfl
@[go_sem] theorem tnf108 : Abs.nfields Try.prog 108 = 1 := by kernel_rfl
@[go_sem] theorem tpt108 : Abs.partsTok Try.prog 108 = true := by kernel_rfl
@[go_sem] theorem tfo108_0 : Abs.foff Try.prog 108 0 = 0 := by kernel_rfl
@[go_sem] theorem tft108_0 : Abs.fty Try.prog 108 0 = 107 := by kernel_rfl
@[go_sem] theorem tpl108_0 : Abs.placesA Try.prog 108 0 = some (0, 3) := by kernel_rfl
@[go_sem] theorem tok109 : Abs.tok Try.prog 109 = true := by kernel_rfl
@[go_sem] theorem tagg109 : Abs.tagg Try.prog 109 = true := by kernel_rfl
@[go_sem] theorem tsize109 : Abs.tsize Try.prog 109 = 3 := by kernel_rfl
@[go_sem] theorem tzero109 : Abs.tzero Try.prog 109 = some [.t (.lit (.bool false)), .t (.seq (some true) []), .t (.seq (some true) [])] := by kernel_rfl
@[go_sem] theorem tbytes109 : Abs.tbytes Try.prog 109 = 56 := by kernel_rfl
@[go_sem] theorem tst109 : Abs.isStructD (Abs.tdesc Try.prog 109) = true := by kernel_rfl
@[go_sem] theorem tnf109 : Abs.nfields Try.prog 109 = 1 := by kernel_rfl
@[go_sem] theorem tpt109 : Abs.partsTok Try.prog 109 = true := by kernel_rfl
@[go_sem] theorem tfo109_0 : Abs.foff Try.prog 109 0 = 0 := by kernel_rfl
@[go_sem] theorem tft109_0 : Abs.fty Try.prog 109 0 = 107 := by kernel_rfl
@[go_sem] theorem tpl109_0 : Abs.placesA Try.prog 109 0 = some (0, 3) := by kernel_rfl
@[go_sem] theorem tok110 : Abs.tok Try.prog 110 = true := by kernel_rfl
@[go_sem] theorem tagg110 : Abs.tagg Try.prog 110 = false := by kernel_rfl
@[go_sem] theorem tsize110 : Abs.tsize Try.prog 110 = 1 := by kernel_rfl
@[go_sem] theorem tzero110 : Abs.tzero Try.prog 110 = some [.t (.lit .nilFunc)] := by kernel_rfl
@[go_sem] theorem tok111 : Abs.tok Try.prog 111 = true := by kernel_rfl
@[go_sem] theorem tagg111 : Abs.tagg Try.prog 111 = false := by kernel_rfl
@[go_sem] theorem tsize111 : Abs.tsize Try.prog 111 = 1 := by kernel_rfl
@[go_sem] theorem tzero111 : Abs.tzero Try.prog 111 = some [.t (.lit .nilFunc)] := by kernel_rfl
@[go_sem] theorem tok112 : Abs.tok Try.prog 112 = true := by kernel_rfl
@[go_sem] theorem tagg112 : Abs.tagg Try.prog 112 = false := by kernel_rfl
@[go_sem] theorem tsize112 : Abs.tsize Try.prog 112 = 1 := by kernel_rfl
@[go_sem] theorem tzero112 : Abs.tzero Try.prog 112 = some [.t (.lit .nilFunc)] := by kernel_rfl
@[go_sem] theorem tok113 : Abs.tok Try.prog 113 = true := by kernel_rfl
@[go_sem] theorem tagg113 : Abs.tagg Try.prog 113 = false := by kernel_rfl
@[go_sem] theorem tsize113 : Abs.tsize Try.prog 113 = 1 := by kernel_rfl
@[go_sem] theorem tzero113 : Abs.tzero Try.prog 113 = some [.t (.lit .nilFunc)] := by kernel_rfl
@[go_sem] theorem tok114 : Abs.tok Try.prog 114 = true := by kernel_rfl
@[go_sem] theorem tagg114 : Abs.tagg Try.prog 114 = false := by kernel_rfl
@[go_sem] theorem tsize114 : Abs.tsize Try.prog 114 = 1 := by kernel_rfl
@[go_sem] theorem tzero114 : Abs.tzero Try.prog 114 = some [.t (.lit .nilFunc)] := by kernel_rfl
@[go_sem] theorem tok115 : Abs.tok Try.prog 115 = true := by kernel_rfl
@[go_sem] theorem tagg115 : Abs.tagg Try.prog 115 = false := by kernel_rfl
@[go_sem] theorem tsize115 : Abs.tsize Try.prog 115 = 1 := by kernel_rfl
@[go_sem] theorem tzero115 : Abs.tzero Try.prog 115 = some [.t (.lit .nilFunc)] := by kernel_rfl
@[go_sem] theorem tok116 : Abs.tok Try.prog 116 = true := by kernel_rfl
@[go_sem] theorem tagg116 : Abs.tagg Try.prog 116 = false := by kernel_rfl
@[go_sem] theorem tsize116 : Abs.tsize Try.prog 116 = 1 := by kernel_rfl
@[go_sem] theorem tzero116 : Abs.tzero Try.prog 116 = some [.t (.lit .nilFunc)] := by kernel_rfl
@[go_sem] theorem tok118 : Abs.tok Try.prog 118 = true := by kernel_rfl
@[go_sem] theorem tagg118 : Abs.tagg Try.prog 118 = false := by kernel_rfl
@[go_sem] theorem tsize118 : Abs.tsize Try.prog 118 = 1 := by kernel_rfl
@[go_sem] theorem tzero118 : Abs.tzero Try.prog 118 = some [.t (.lit .nilFunc)] := by kernel_rfl
@[go_sem] theorem tok119 : Abs.tok Try.prog 119 = true := by kernel_rfl
@[go_sem] theorem tagg119 : Abs.tagg Try.prog 119 = true := by kernel_rfl
@[go_sem] theorem tsize119 : Abs.tsize Try.prog 119 = 2 := by kernel_rfl
@[go_sem] theorem tzero119 : Abs.tzero Try.prog 119 = some [.t (.seq (some true) []), .t (.seq (some true) [])] := by kernel_rfl
@[go_sem] theorem tbytes119 : Abs.tbytes Try.prog 119 = 48 := by kernel_rfl
@[go_sem] theorem tsl119 : Abs.isSliceD (Abs.tdesc Try.prog 119) = false := by kernel_rfl
@[go_sem] theorem tar119 : Abs.isArrayD (Abs.tdesc Try.prog 119) = true := by kernel_rfl
@[go_sem] theorem telem119 : Abs.telem Try.prog 119 = 62 := by kernel_rfl
@[go_sem] theorem tlen119 : Abs.arrLen (Abs.tdesc Try.prog 119) = 2 := by kernel_rfl
@[go_sem] theorem tpt119 : Abs.partsTok Try.prog 119 = true := by kernel_rfl
@[go_sem] theorem tpl119_0 : Abs.placesA Try.prog 119 0 = some (0, 1) := by kernel_rfl
@[go_sem] theorem tpl119_1 : Abs.placesA Try.prog 119 1 = some (1, 1) := by kernel_rfl
@[go_sem] theorem tok120 : Abs.tok Try.prog 120 = true := by kernel_rfl
@[go_sem] theorem tagg120 : Abs.tagg Try.prog 120 = false := by kernel_rfl
@[go_sem] theorem tsize120 : Abs.tsize Try.prog 120 = 1 := by kernel_rfl
@[go_sem] theorem tzero120 : Abs.tzero Try.prog 120 = some [.t (.lit .nilFunc)] := by kernel_rfl
@[go_sem] theorem tok121 : Abs.tok Try.prog 121 = true := by kernel_rfl
@[go_sem] theorem tagg121 : Abs.tagg Try.prog 121 = false := by kernel_rfl
@[go_sem] theorem tsize121 : Abs.tsize Try.prog 121 = 1 := by kernel_rfl
@[go_sem] theorem tzero121 : Abs.tzero Try.prog 121 = some [.t (.lit .nilFunc)] := by kernel_rfl
@[go_sem] theorem tok122 : Abs.tok Try.prog 122 = true := by kernel_rfl
@[go_sem] theorem tagg122 : Abs.tagg Try.prog 122 = false := by kernel_rfl
@[go_sem] theorem tsize122 : Abs.tsize Try.prog 122 = 1 := by kernel_rfl
@[go_sem] theorem tzero122 : Abs.tzero Try.prog 122 = some [.t (.lit .nilFunc)] := by kernel_rfl
@[go_sem] theorem tok123 : Abs.tok Try.prog 123 = true := by kernel_rfl
@[go_sem] theorem tagg123 : Abs.tagg Try.prog 123 = false := by kernel_rfl
@[go_sem] theorem tsize123 : Abs.tsize Try.prog 123 = 1 := by kernel_rfl
@[go_sem] theorem tzero123 : Abs.tzero Try.prog 123 = some [.t (.lit .nilFunc)] := by kernel_rfl
@[go_sem] theorem tok124 : Abs.tok Try.prog 124 = true := by kernel_rfl
@[go_sem] theorem tagg124 : Abs.tagg Try.prog 124 = false := by kernel_rfl
@[go_sem] theorem tsize124 : Abs.tsize Try.prog 124 = 1 := by kernel_rfl
@[go_sem] theorem tzero124 : Abs.tzero Try.prog 124 = some [.t (.lit .nilFunc)] := by kernel_rfl
@[go_sem] theorem tok125 : Abs.tok Try.prog 125 = true := by kernel_rfl
@[go_sem] theorem tagg125 : Abs.tagg Try.prog 125 = false := by kernel_rfl
@[go_sem] theorem tsize125 : Abs.tsize Try.prog 125 = 1 := by kernel_rfl
@[go_sem] theorem tzero125 : Abs.tzero Try.prog 125 = some [.t (.seq (some true) [])] := by kernel_rfl
@[go_sem] theorem tbytes125 : Abs.tbytes Try.prog 125 = 24 := by kernel_rfl
@[go_sem] theorem tsl125 : Abs.isSliceD (Abs.tdesc Try.prog 125) = true := by kernel_rfl
@[go_sem] theorem telem125 : Abs.telem Try.prog 125 = 34 := by kernel_rfl
@[go_sem] theorem tok126 : Abs.tok Try.prog 126 = true := by kernel_rfl
@[go_sem] theorem tagg126 : Abs.tagg Try.prog 126 = false := by kernel_rfl
@[go_sem] theorem tsize126 : Abs.tsize Try.prog 126 = 1 := by kernel_rfl
@[go_sem] theorem tzero126 : Abs.tzero Try.prog 126 = some [.t (.lit .nilFunc)] := by kernel_rfl
@[go_sem] theorem tok128 : Abs.tok Try.prog 128 = true := by kernel_rfl
@[go_sem] theorem tagg128 : Abs.tagg Try.prog 128 = false := by kernel_rfl
@[go_sem] theorem tsize128 : Abs.tsize Try.prog 128 = 1 := by kernel_rfl
@[go_sem] theorem tzero128 : Abs.tzero Try.prog 128 = some [.t (.lit .nilFunc)] := by kernel_rfl
@[go_sem] theorem tok129 : Abs.tok Try.prog 129 = true := by kernel_rfl
@[go_sem] theorem tagg129 : Abs.tagg Try.prog 129 = false := by kernel_rfl
@[go_sem] theorem tsize129 : Abs.tsize Try.prog 129 = 1 := by kernel_rfl
@[go_sem] theorem tzero129 : Abs.tzero Try.prog 129 = some [.t (.lit .nilFunc)] := by kernel_rfl
@[go_sem] theorem tok130 : Abs.tok Try.prog 130 = true := by kernel_rfl
@[go_sem] theorem tagg130 : Abs.tagg Try.prog 130 = false := by kernel_rfl
@[go_sem] theorem tsize130 : Abs.tsize Try.prog 130 = 1 := by kernel_rfl
@[go_sem] theorem tzero130 : Abs.tzero Try.prog 130 = some [.t (.lit .nilFunc)] := by kernel_rfl
@[go_sem] theorem tok131 : Abs.tok Try.prog 131 = true := by kernel_rfl
@[go_sem] theorem tagg131 : Abs.tagg Try.prog 131 = false := by kernel_rfl
@[go_sem] theorem tsize131 : Abs.tsize Try.prog 131 = 1 := by kernel_rfl
@[go_sem] theorem tzero131 : Abs.tzero Try.prog 131 = some [.t (.lit .nilFunc)] := by kernel_rfl
@[go_sem] theorem tok132 : Abs.tok Try.prog 132 = true := by kernel_rfl
@[go_sem] theorem tagg132 : Abs.tagg Try.prog 132 = false := by kernel_rfl
@[go_sem] theorem tsize132 : Abs.tsize Try.prog 132 = 1 := by kernel_rfl
@[go_sem] theorem tzero132 : Abs.tzero Try.prog 132 = some [.t (.lit .nilFunc)] := by kernel_rfl
@[go_sem] theorem tok133 : Abs.tok Try.prog 133 = true := by kernel_rfl
@[go_sem] theorem tagg133 : Abs.tagg Try.prog 133 = false := by kernel_rfl
@[go_sem] theorem tsize133 : Abs.tsize Try.prog 133 = 1 := by kernel_rfl
@[go_sem] theorem tzero133 : Abs.tzero Try.prog 133 = some [.t (.lit .nilFunc)] := by kernel_rfl
@[go_sem] theorem tok134 : Abs.tok Try.prog 134 = true := by kernel_rfl
@[go_sem] theorem tagg134 : Abs.tagg Try.prog 134 = false := by kernel_rfl
@[go_sem] theorem tsize134 : Abs.tsize Try.prog 134 = 1 := by kernel_rfl
@[go_sem] theorem tzero134 : Abs.tzero Try.prog 134 = some [.t (.lit .nilFunc)] := by kernel_rfl
@[go_sem] theorem tok135 : Abs.tok Try.prog 135 = true := by kernel_rfl
@[go_sem] theorem tagg135 : Abs.tagg Try.prog 135 = true := by kernel_rfl
@[go_sem] theorem tsize135 : Abs.tsize Try.prog 135 = 4 := by kernel_rfl
@[go_sem] theorem tzero135 : Abs.tzero Try.prog 135 = some [.t (.lit (.pointer none)), .t (.lit (.pointer none)), .t (.lit (.pointer none)), .t (.lit (.string ⟨#[]⟩))] := by kernel_rfl
@[go_sem] theorem tbytes135 : Abs.tbytes Try.prog 135 = 40 := by kernel_rfl
@[go_sem] theorem tst135 : Abs.isStructD (Abs.tdesc Try.prog 135) = true := by kernel_rfl
@[go_sem] theorem tnf135 : Abs.nfields Try.prog 135 = 4 := by kernel_rfl
@[go_sem] theorem tpt135 : Abs.partsTok Try.prog 135 = true := by kernel_rfl
@[go_sem] theorem tfo135_0 : Abs.foff Try.prog 135 0 = 0 := by kernel_rfl
@[go_sem] theorem tft135_0 : Abs.fty Try.prog 135 0 = 17 := by kernel_rfl
@[go_sem] theorem tpl135_0 : Abs.placesA Try.prog 135 0 = some (0, 1) := by kernel_rfl
@[go_sem] theorem tfo135_1 : Abs.foff Try.prog 135 1 = 1 := by kernel_rfl
@[go_sem] theorem tft135_1 : Abs.fty Try.prog 135 1 = 17 := by kernel_rfl
@[go_sem] theorem tpl135_1 : Abs.placesA Try.prog 135 1 = some (1, 1) := by kernel_rfl
@[go_sem] theorem tfo135_2 : Abs.foff Try.prog 135 2 = 2 := by kernel_rfl
@[go_sem] theorem tft135_2 : Abs.fty Try.prog 135 2 = 17 := by kernel_rfl
@[go_sem] theorem tpl135_2 : Abs.placesA Try.prog 135 2 = some (2, 1) := by kernel_rfl
@[go_sem] theorem tfo135_3 : Abs.foff Try.prog 135 3 = 3 := by kernel_rfl
@[go_sem] theorem tft135_3 : Abs.fty Try.prog 135 3 = 9 := by kernel_rfl
@[go_sem] theorem tpl135_3 : Abs.placesA Try.prog 135 3 = some (3, 1) := by kernel_rfl
@[go_sem] theorem tok136 : Abs.tok Try.prog 136 = true := by kernel_rfl
@[go_sem] theorem tagg136 : Abs.tagg Try.prog 136 = true := by kernel_rfl
@[go_sem] theorem tsize136 : Abs.tsize Try.prog 136 = 4 := by kernel_rfl
@[go_sem] theorem tzero136 : Abs.tzero Try.prog 136 = some [.t (.lit (.pointer none)), .t (.lit (.pointer none)), .t (.lit (.pointer none)), .t (.lit (.string ⟨#[]⟩))] := by kernel_rfl
@[go_sem] theorem tbytes136 : Abs.tbytes Try.prog 136 = 40 := by kernel_rfl
@[go_sem] theorem tst136 : Abs.isStructD (Abs.tdesc Try.prog 136) = true := by kernel_rfl
@[go_sem] theorem tnf136 : Abs.nfields Try.prog 136 = 4 := by kernel_rfl
@[go_sem] theorem tpt136 : Abs.partsTok Try.prog 136 = true := by kernel_rfl
@[go_sem] theorem tfo136_0 : Abs.foff Try.prog 136 0 = 0 := by kernel_rfl
@[go_sem] theorem tft136_0 : Abs.fty Try.prog 136 0 = 17 := by kernel_rfl
@[go_sem] theorem tpl136_0 : Abs.placesA Try.prog 136 0 = some (0, 1) := by kernel_rfl
@[go_sem] theorem tfo136_1 : Abs.foff Try.prog 136 1 = 1 := by kernel_rfl
@[go_sem] theorem tft136_1 : Abs.fty Try.prog 136 1 = 17 := by kernel_rfl
@[go_sem] theorem tpl136_1 : Abs.placesA Try.prog 136 1 = some (1, 1) := by kernel_rfl
@[go_sem] theorem tfo136_2 : Abs.foff Try.prog 136 2 = 2 := by kernel_rfl
@[go_sem] theorem tft136_2 : Abs.fty Try.prog 136 2 = 17 := by kernel_rfl
@[go_sem] theorem tpl136_2 : Abs.placesA Try.prog 136 2 = some (2, 1) := by kernel_rfl
@[go_sem] theorem tfo136_3 : Abs.foff Try.prog 136 3 = 3 := by kernel_rfl
@[go_sem] theorem tft136_3 : Abs.fty Try.prog 136 3 = 9 := by kernel_rfl
@[go_sem] theorem tpl136_3 : Abs.placesA Try.prog 136 3 = some (3, 1) := by kernel_rfl
@[go_sem] theorem tok137 : Abs.tok Try.prog 137 = true := by kernel_rfl
@[go_sem] theorem tagg137 : Abs.tagg Try.prog 137 = true := by kernel_rfl
@[go_sem] theorem tsize137 : Abs.tsize Try.prog 137 = 0 := by kernel_rfl
@[go_sem] theorem tzero137 : Abs.tzero Try.prog 137 = some [] := by kernel_rfl
@[go_sem] theorem tbytes137 : Abs.tbytes Try.prog 137 = 0 := by kernel_rfl
@[go_sem] theorem tsl137 : Abs.isSliceD (Abs.tdesc Try.prog 137) = false := by kernel_rfl
@[go_sem] theorem tar137 : Abs.isArrayD (Abs.tdesc Try.prog 137) = true := by kernel_rfl
@[go_sem] theorem telem137 : Abs.telem Try.prog 137 = 16 := by kernel_rfl
@[go_sem] theorem tlen137 : Abs.arrLen (Abs.tdesc Try.prog 137) = 0 := by kernel_rfl
@[go_sem] theorem tpt137 : Abs.partsTok Try.prog 137 = true := by kernel_rfl
@[go_sem] theorem tok138 : Abs.tok Try.prog 138 = true := by kernel_rfl
@[go_sem] theorem tagg138 : Abs.tagg Try.prog 138 = true := by kernel_rfl
@[go_sem] theorem tsize138 : Abs.tsize Try.prog 138 = 0 := by kernel_rfl
@[go_sem] theorem tzero138 : Abs.tzero Try.prog 138 = some [] := by kernel_rfl
@[go_sem] theorem tbytes138 : Abs.tbytes Try.prog 138 = 0 := by kernel_rfl
@[go_sem] theorem tst138 : Abs.isStructD (Abs.tdesc Try.prog 138) = true := by kernel_rfl
@[go_sem] theorem tnf138 : Abs.nfields Try.prog 138 = 1 := by kernel_rfl
@[go_sem] theorem tpt138 : Abs.partsTok Try.prog 138 = true := by kernel_rfl
@[go_sem] theorem tfo138_0 : Abs.foff Try.prog 138 0 = 0 := by kernel_rfl
@[go_sem] theorem tft138_0 : Abs.fty Try.prog 138 0 = 137 := by kernel_rfl
@[go_sem] theorem tpl138_0 : Abs.placesA Try.prog 138 0 = some (0, 0) := by kernel_rfl
@[go_sem] theorem tok139 : Abs.tok Try.prog 139 = true := by kernel_rfl
@[go_sem] theorem tagg139 : Abs.tagg Try.prog 139 = true := by kernel_rfl
@[go_sem] theorem tsize139 : Abs.tsize Try.prog 139 = 0 := by kernel_rfl
@[go_sem] theorem tzero139 : Abs.tzero Try.prog 139 = some [] := by kernel_rfl
@[go_sem] theorem tbytes139 : Abs.tbytes Try.prog 139 = 0 := by kernel_rfl
@[go_sem] theorem tst139 : Abs.isStructD (Abs.tdesc Try.prog 139) = true := by kernel_rfl
@[go_sem] theorem tnf139 : Abs.nfields Try.prog 139 = 1 := by kernel_rfl
@[go_sem] theorem tpt139 : Abs.partsTok Try.prog 139 = true := by kernel_rfl
@[go_sem] theorem tfo139_0 : Abs.foff Try.prog 139 0 = 0 := by kernel_rfl
@[go_sem] theorem tft139_0 : Abs.fty Try.prog 139 0 = 137 := by kernel_rfl
@[go_sem] theorem tpl139_0 : Abs.placesA Try.prog 139 0 = some (0, 0) := by kernel_rfl
@[go_sem] theorem tok140 : Abs.tok Try.prog 140 = true := by kernel_rfl
@[go_sem] theorem tagg140 : Abs.tagg Try.prog 140 = false := by kernel_rfl
@[go_sem] theorem tsize140 : Abs.tsize Try.prog 140 = 1 := by kernel_rfl
@[go_sem] theorem tzero140 : Abs.tzero Try.prog 140 = some [.t (.lit (.int .u8 0))] := by kernel_rfl
@[go_sem] theorem tbytes140 : Abs.tbytes Try.prog 140 = 1 := by kernel_rfl
@[go_sem] theorem tint140 : Abs.intD (Abs.tdesc Try.prog 140) = some .u8 := by kernel_rfl
@[go_sem] theorem tok141 : Abs.tok Try.prog 141 = true := by kernel_rfl
@[go_sem] theorem tagg141 : Abs.tagg Try.prog 141 = false := by kernel_rfl
@[go_sem] theorem tsize141 : Abs.tsize Try.prog 141 = 1 := by kernel_rfl
@[go_sem] theorem tzero141 : Abs.tzero Try.prog 141 = some [.t (.lit (.int .u8 0))] := by kernel_rfl
@[go_sem] theorem tbytes141 : Abs.tbytes Try.prog 141 = 1 := by kernel_rfl
@[go_sem] theorem tint141 : Abs.intD (Abs.tdesc Try.prog 141) = some .u8 := by kernel_rfl
@[go_sem] theorem tok142 : Abs.tok Try.prog 142 = true := by kernel_rfl
@[go_sem] theorem tagg142 : Abs.tagg Try.prog 142 = false := by kernel_rfl
@[go_sem] theorem tsize142 : Abs.tsize Try.prog 142 = 1 := by kernel_rfl
@[go_sem] theorem tzero142 : Abs.tzero Try.prog 142 = some [.t (.lit .nilFunc)] := by kernel_rfl
@[go_sem] theorem tok143 : Abs.tok Try.prog 143 = true := by kernel_rfl
@[go_sem] theorem tagg143 : Abs.tagg Try.prog 143 = false := by kernel_rfl
@[go_sem] theorem tsize143 : Abs.tsize Try.prog 143 = 1 := by kernel_rfl
@[go_sem] theorem tzero143 : Abs.tzero Try.prog 143 = some [.t (.lit (.pointer none))] := by kernel_rfl
@[go_sem] theorem tbytes143 : Abs.tbytes Try.prog 143 = 8 := by kernel_rfl
@[go_sem] theorem tok144 : Abs.tok Try.prog 144 = true := by kernel_rfl
@[go_sem] theorem tagg144 : Abs.tagg Try.prog 144 = false := by kernel_rfl
@[go_sem] theorem tsize144 : Abs.tsize Try.prog 144 = 1 := by kernel_rfl
@[go_sem] theorem tzero144 : Abs.tzero Try.prog 144 = some [.t (.lit (.int .i32 0))] := by kernel_rfl
@[go_sem] theorem tbytes144 : Abs.tbytes Try.prog 144 = 4 := by kernel_rfl
@[go_sem] theorem tint144 : Abs.intD (Abs.tdesc Try.prog 144) = some .i32 := by kernel_rfl
@[go_sem] theorem tok145 : Abs.tok Try.prog 145 = true := by kernel_rfl
@[go_sem] theorem tagg145 : Abs.tagg Try.prog 145 = false := by kernel_rfl
@[go_sem] theorem tsize145 : Abs.tsize Try.prog 145 = 1 := by kernel_rfl
@[go_sem] theorem tzero145 : Abs.tzero Try.prog 145 = some [.t (.lit (.int .i32 0))] := by kernel_rfl
@[go_sem] theorem tbytes145 : Abs.tbytes Try.prog 145 = 4 := by kernel_rfl
@[go_sem] theorem tint145 : Abs.intD (Abs.tdesc Try.prog 145) = some .i32 := by kernel_rfl
@[go_sem] theorem tok146 : Abs.tok Try.prog 146 = true := by kernel_rfl
@[go_sem] theorem tagg146 : Abs.tagg Try.prog 146 = true := by kernel_rfl
@[go_sem] theorem tsize146 : Abs.tsize Try.prog 146 = 11 := by kernel_rfl
@[go_sem] theorem tzero146 : Abs.tzero Try.prog 146 = some [.t (.lit (.int .u64 0)), .t (.lit (.int .u64 0)), .t (.lit (.int .u32 0)), .t (.lit (.int .u8 0)), .t (.lit (.int .u8 0)), .t (.lit (.int .u8 0)), .t (.lit (.int .u8 0)), .t (.lit .nilFunc), .t (.lit (.pointer none)), .t (.lit (.int .i32 0)), .t (.lit (.int .i32 0))] := by kernel_rfl
@[go_sem] theorem tbytes146 : Abs.tbytes Try.prog 146 = 48 := by kernel_rfl
@[go_sem] theorem tst146 : Abs.isStructD (Abs.tdesc Try.prog 146) = true := by kernel_rfl
@[go_sem] theorem tnf146 : Abs.nfields Try.prog 146 = 11 := by kernel_rfl
@[go_sem] theorem tpt146 : Abs.partsTok Try.prog 146 = true := by kernel_rfl
@[go_sem] theorem tfo146_0 : Abs.foff Try.prog 146 0 = 0 := by kernel_rfl
@[go_sem] theorem tft146_0 : Abs.fty Try.prog 146 0 = 12 := by kernel_rfl
@[go_sem] theorem tpl146_0 : Abs.placesA Try.prog 146 0 = some (0, 1) := by kernel_rfl
@[go_sem] theorem tfo146_1 : Abs.foff Try.prog 146 1 = 1 := by kernel_rfl
@[go_sem] theorem tft146_1 : Abs.fty Try.prog 146 1 = 12 := by kernel_rfl
@[go_sem] theorem tpl146_1 : Abs.placesA Try.prog 146 1 = some (1, 1) := by kernel_rfl
@[go_sem] theorem tfo146_2 : Abs.foff Try.prog 146 2 = 2 := by kernel_rfl
@[go_sem] theorem tft146_2 : Abs.fty Try.prog 146 2 = 80 := by kernel_rfl
@[go_sem] theorem tpl146_2 : Abs.placesA Try.prog 146 2 = some (2, 1) := by kernel_rfl
@[go_sem] theorem tfo146_3 : Abs.foff Try.prog 146 3 = 3 := by kernel_rfl
@[go_sem] theorem tft146_3 : Abs.fty Try.prog 146 3 = 140 := by kernel_rfl
@[go_sem] theorem tpl146_3 : Abs.placesA Try.prog 146 3 = some (3, 1) := by kernel_rfl
@[go_sem] theorem tfo146_4 : Abs.foff Try.prog 146 4 = 4 := by kernel_rfl
@[go_sem] theorem tft146_4 : Abs.fty Try.prog 146 4 = 5 := by kernel_rfl
@[go_sem] theorem tpl146_4 : Abs.placesA Try.prog 146 4 = some (4, 1) := by kernel_rfl
@[go_sem] theorem tfo146_5 : Abs.foff Try.prog 146 5 = 5 := by kernel_rfl
@[go_sem] theorem tft146_5 : Abs.fty Try.prog 146 5 = 5 := by kernel_rfl
@[go_sem] theorem tpl146_5 : Abs.placesA Try.prog 146 5 = some (5, 1) := by kernel_rfl
@[go_sem] theorem tfo146_6 : Abs.foff Try.prog 146 6 = 6 := by kernel_rfl
@[go_sem] theorem tft146_6 : Abs.fty Try.prog 146 6 = 141 := by kernel_rfl
@[go_sem] theorem tpl146_6 : Abs.placesA Try.prog 146 6 = some (6, 1) := by kernel_rfl
@[go_sem] theorem tfo146_7 : Abs.foff Try.prog 146 7 = 7 := by kernel_rfl
@[go_sem] theorem tft146_7 : Abs.fty Try.prog 146 7 = 142 := by kernel_rfl
@[go_sem] theorem tpl146_7 : Abs.placesA Try.prog 146 7 = some (7, 1) := by kernel_rfl
@[go_sem] theorem tfo146_8 : Abs.foff Try.prog 146 8 = 8 := by kernel_rfl
@[go_sem] theorem tft146_8 : Abs.fty Try.prog 146 8 = 143 := by kernel_rfl
@[go_sem] theorem tpl146_8 : Abs.placesA Try.prog 146 8 = some (8, 1) := by kernel_rfl
@[go_sem] theorem tfo146_9 : Abs.foff Try.prog 146 9 = 9 := by kernel_rfl
@[go_sem] theorem tft146_9 : Abs.fty Try.prog 146 9 = 144 := by kernel_rfl
@[go_sem] theorem tpl146_9 : Abs.placesA Try.prog 146 9 = some (9, 1) := by kernel_rfl
@[go_sem] theorem tfo146_10 : Abs.foff Try.prog 146 10 = 10 := by kernel_rfl
@[go_sem] theorem tft146_10 : Abs.fty Try.prog 146 10 = 145 := by kernel_rfl
@[go_sem] theorem tpl146_10 : Abs.placesA Try.prog 146 10 = some (10, 1) := by kernel_rfl
@[go_sem] theorem tok147 : Abs.tok Try.prog 147 = true := by kernel_rfl
@[go_sem] theorem tagg147 : Abs.tagg Try.prog 147 = true := by kernel_rfl
@[go_sem] theorem tsize147 : Abs.tsize Try.prog 147 = 11 := by kernel_rfl
@[go_sem] theorem tzero147 : Abs.tzero Try.prog 147 = some [.t (.lit (.int .u64 0)), .t (.lit (.int .u64 0)), .t (.lit (.int .u32 0)), .t (.lit (.int .u8 0)), .t (.lit (.int .u8 0)), .t (.lit (.int .u8 0)), .t (.lit (.int .u8 0)), .t (.lit .nilFunc), .t (.lit (.pointer none)), .t (.lit (.int .i32 0)), .t (.lit (.int .i32 0))] := by kernel_rfl
@[go_sem] theorem tbytes147 : Abs.tbytes Try.prog 147 = 48 := by kernel_rfl
@[go_sem] theorem tst147 : Abs.isStructD (Abs.tdesc Try.prog 147) = true := by kernel_rfl
@[go_sem] theorem tnf147 : Abs.nfields Try.prog 147 = 11 := by kernel_rfl
@[go_sem] theorem tpt147 : Abs.partsTok Try.prog 147 = true := by kernel_rfl
@[go_sem] theorem tfo147_0 : Abs.foff Try.prog 147 0 = 0 := by kernel_rfl
@[go_sem] theorem tft147_0 : Abs.fty Try.prog 147 0 = 12 := by kernel_rfl
@[go_sem] theorem tpl147_0 : Abs.placesA Try.prog 147 0 = some (0, 1) := by kernel_rfl
@[go_sem] theorem tfo147_1 : Abs.foff Try.prog 147 1 = 1 := by kernel_rfl
@[go_sem] theorem tft147_1 : Abs.fty Try.prog 147 1 = 12 := by kernel_rfl
@[go_sem] theorem tpl147_1 : Abs.placesA Try.prog 147 1 = some (1, 1) := by kernel_rfl
@[go_sem] theorem tfo147_2 : Abs.foff Try.prog 147 2 = 2 := by kernel_rfl
@[go_sem] theorem tft147_2 : Abs.fty Try.prog 147 2 = 80 := by kernel_rfl
@[go_sem] theorem tpl147_2 : Abs.placesA Try.prog 147 2 = some (2, 1) := by kernel_rfl
@[go_sem] theorem tfo147_3 : Abs.foff Try.prog 147 3 = 3 := by kernel_rfl
@[go_sem] theorem tft147_3 : Abs.fty Try.prog 147 3 = 140 := by kernel_rfl
@[go_sem] theorem tpl147_3 : Abs.placesA Try.prog 147 3 = some (3, 1) := by kernel_rfl
@[go_sem] theorem tfo147_4 : Abs.foff Try.prog 147 4 = 4 := by kernel_rfl
@[go_sem] theorem tft147_4 : Abs.fty Try.prog 147 4 = 5 := by kernel_rfl
@[go_sem] theorem tpl147_4 : Abs.placesA Try.prog 147 4 = some (4, 1) := by kernel_rfl
@[go_sem] theorem tfo147_5 : Abs.foff Try.prog 147 5 = 5 := by kernel_rfl
@[go_sem] theorem tft147_5 : Abs.fty Try.prog 147 5 = 5 := by kernel_rfl
@[go_sem] theorem tpl147_5 : Abs.placesA Try.prog 147 5 = some (5, 1) := by kernel_rfl
@[go_sem] theorem tfo147_6 : Abs.foff Try.prog 147 6 = 6 := by kernel_rfl
@[go_sem] theorem tft147_6 : Abs.fty Try.prog 147 6 = 141 := by kernel_rfl
@[go_sem] theorem tpl147_6 : Abs.placesA Try.prog 147 6 = some (6, 1) := by kernel_rfl
@[go_sem] theorem tfo147_7 : Abs.foff Try.prog 147 7 = 7 := by kernel_rfl
@[go_sem] theorem tft147_7 : Abs.fty Try.prog 147 7 = 142 := by kernel_rfl
@[go_sem] theorem tpl147_7 : Abs.placesA Try.prog 147 7 = some (7, 1) := by kernel_rfl
@[go_sem] theorem tfo147_8 : Abs.foff Try.prog 147 8 = 8 := by kernel_rfl
@[go_sem] theorem tft147_8 : Abs.fty Try.prog 147 8 = 143 := by kernel_rfl
@[go_sem] theorem tpl147_8 : Abs.placesA Try.prog 147 8 = some (8, 1) := by kernel_rfl
@[go_sem] theorem tfo147_9 : Abs.foff Try.prog 147 9 = 9 := by kernel_rfl
@[go_sem] theorem tft147_9 : Abs.fty Try.prog 147 9 = 144 := by kernel_rfl
@[go_sem] theorem tpl147_9 : Abs.placesA Try.prog 147 9 = some (9, 1) := by kernel_rfl
@[go_sem] theorem tfo147_10 : Abs.foff Try.prog 147 10 = 10 := by kernel_rfl
@[go_sem] theorem tft147_10 : Abs.fty Try.prog 147 10 = 145 := by kernel_rfl
@[go_sem] theorem tpl147_10 : Abs.placesA Try.prog 147 10 = some (10, 1) := by kernel_rfl
@[go_sem] theorem tok148 : Abs.tok Try.prog 148 = true := by kernel_rfl
@[go_sem] theorem tagg148 : Abs.tagg Try.prog 148 = false := by kernel_rfl
@[go_sem] theorem tsize148 : Abs.tsize Try.prog 148 = 1 := by kernel_rfl
@[go_sem] theorem tzero148 : Abs.tzero Try.prog 148 = some [.t (.lit (.pointer none))] := by kernel_rfl
@[go_sem] theorem tbytes148 : Abs.tbytes Try.prog 148 = 8 := by kernel_rfl
end Go.Proofs.Ytjmbhknhiakkpaa
