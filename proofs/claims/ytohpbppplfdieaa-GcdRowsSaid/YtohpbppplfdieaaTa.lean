/- At every input the call answers true and leaves its arguments as they were; no conditions. -/
import Derived.Test.YtohpbppplfdieaaProg
import Derived.KernelRfl
import Derived.Test.YtohpbppplfdieaaMb
set_option linter.unusedSimpArgs false
set_option linter.unusedVariables false
namespace Go.Proofs.Ytohpbppplfdieaa
open Go Go.Abs
@[go_sem] theorem tok1 : Abs.tok Try.prog 1 = true := by kernel_rfl
@[go_sem] theorem tagg1 : Abs.tagg Try.prog 1 = false := by kernel_rfl
@[go_sem] theorem tsize1 : Abs.tsize Try.prog 1 = 1 := by kernel_rfl
@[go_sem] theorem tzero1 : Abs.tzero Try.prog 1 = some [.t (.lit .nilFunc)] := by kernel_rfl
@[go_sem] theorem tok2 : Abs.tok Try.prog 2 = true := by kernel_rfl
@[go_sem] theorem tagg2 : Abs.tagg Try.prog 2 = false := by kernel_rfl
@[go_sem] theorem tsize2 : Abs.tsize Try.prog 2 = 1 := by kernel_rfl
@[go_sem] theorem tzero2 : Abs.tzero Try.prog 2 = some [.t (.lit (.int .i64 0))] := by kernel_rfl
@[go_sem] theorem tbytes2 : Abs.tbytes Try.prog 2 = 8 := by kernel_rfl
@[go_sem] theorem tint2 : Abs.intD (Abs.tdesc Try.prog 2) = some .i64 := by kernel_rfl
@[go_sem] theorem tok3 : Abs.tok Try.prog 3 = true := by kernel_rfl
@[go_sem] theorem tagg3 : Abs.tagg Try.prog 3 = false := by kernel_rfl
@[go_sem] theorem tsize3 : Abs.tsize Try.prog 3 = 1 := by kernel_rfl
@[go_sem] theorem tzero3 : Abs.tzero Try.prog 3 = some [.t (.lit (.int .i64 0))] := by kernel_rfl
@[go_sem] theorem tbytes3 : Abs.tbytes Try.prog 3 = 8 := by kernel_rfl
@[go_sem] theorem tint3 : Abs.intD (Abs.tdesc Try.prog 3) = some .i64 := by kernel_rfl
@[go_sem] theorem tok4 : Abs.tok Try.prog 4 = true := by kernel_rfl
@[go_sem] theorem tagg4 : Abs.tagg Try.prog 4 = false := by kernel_rfl
@[go_sem] theorem tsize4 : Abs.tsize Try.prog 4 = 1 := by kernel_rfl
@[go_sem] theorem tzero4 : Abs.tzero Try.prog 4 = some [.t (.lit (.bool false))] := by kernel_rfl
@[go_sem] theorem tbytes4 : Abs.tbytes Try.prog 4 = 1 := by kernel_rfl
@[go_sem] theorem tbool4 : Abs.tdesc Try.prog 4 = .bool := by kernel_rfl
@[go_sem] theorem tok5 : Abs.tok Try.prog 5 = true := by kernel_rfl
@[go_sem] theorem tagg5 : Abs.tagg Try.prog 5 = false := by kernel_rfl
@[go_sem] theorem tsize5 : Abs.tsize Try.prog 5 = 1 := by kernel_rfl
@[go_sem] theorem tzero5 : Abs.tzero Try.prog 5 = some [.t (.lit (.int .u8 0))] := by kernel_rfl
@[go_sem] theorem tbytes5 : Abs.tbytes Try.prog 5 = 1 := by kernel_rfl
@[go_sem] theorem tint5 : Abs.intD (Abs.tdesc Try.prog 5) = some .u8 := by kernel_rfl
@[go_sem] theorem tok6 : Abs.tok Try.prog 6 = true := by kernel_rfl
@[go_sem] theorem tagg6 : Abs.tagg Try.prog 6 = false := by kernel_rfl
@[go_sem] theorem tsize6 : Abs.tsize Try.prog 6 = 1 := by kernel_rfl
@[go_sem] theorem tzero6 : Abs.tzero Try.prog 6 = some [.t (.lit (.int .u8 0))] := by kernel_rfl
@[go_sem] theorem tbytes6 : Abs.tbytes Try.prog 6 = 1 := by kernel_rfl
@[go_sem] theorem tint6 : Abs.intD (Abs.tdesc Try.prog 6) = some .u8 := by kernel_rfl
@[go_sem] theorem tok7 : Abs.tok Try.prog 7 = true := by kernel_rfl
@[go_sem] theorem tagg7 : Abs.tagg Try.prog 7 = true := by kernel_rfl
@[go_sem] theorem tsize7 : Abs.tsize Try.prog 7 = 4 := by kernel_rfl
@[go_sem] theorem tzero7 : Abs.tzero Try.prog 7 = some [.t (.lit (.int .i64 0)), .t (.lit (.int .i64 0)), .t (.lit (.bool false)), .t (.lit (.int .u8 0))] := by kernel_rfl
@[go_sem] theorem tbytes7 : Abs.tbytes Try.prog 7 = 24 := by kernel_rfl
@[go_sem] theorem tst7 : Abs.isStructD (Abs.tdesc Try.prog 7) = true := by kernel_rfl
@[go_sem] theorem tnf7 : Abs.nfields Try.prog 7 = 4 := by kernel_rfl
@[go_sem] theorem tpt7 : Abs.partsTok Try.prog 7 = true := by kernel_rfl
@[go_sem] theorem tfo7_0 : Abs.foff Try.prog 7 0 = 0 := by kernel_rfl
@[go_sem] theorem tft7_0 : Abs.fty Try.prog 7 0 = 2 := by kernel_rfl
@[go_sem] theorem tpl7_0 : Abs.placesA Try.prog 7 0 = some (0, 1) := by kernel_rfl
@[go_sem] theorem tfo7_1 : Abs.foff Try.prog 7 1 = 1 := by kernel_rfl
@[go_sem] theorem tft7_1 : Abs.fty Try.prog 7 1 = 3 := by kernel_rfl
@[go_sem] theorem tpl7_1 : Abs.placesA Try.prog 7 1 = some (1, 1) := by kernel_rfl
@[go_sem] theorem tfo7_2 : Abs.foff Try.prog 7 2 = 2 := by kernel_rfl
@[go_sem] theorem tft7_2 : Abs.fty Try.prog 7 2 = 4 := by kernel_rfl
@[go_sem] theorem tpl7_2 : Abs.placesA Try.prog 7 2 = some (2, 1) := by kernel_rfl
@[go_sem] theorem tfo7_3 : Abs.foff Try.prog 7 3 = 3 := by kernel_rfl
@[go_sem] theorem tft7_3 : Abs.fty Try.prog 7 3 = 6 := by kernel_rfl
@[go_sem] theorem tpl7_3 : Abs.placesA Try.prog 7 3 = some (3, 1) := by kernel_rfl
@[go_sem] theorem tok8 : Abs.tok Try.prog 8 = true := by kernel_rfl
@[go_sem] theorem tagg8 : Abs.tagg Try.prog 8 = true := by kernel_rfl
@[go_sem] theorem tsize8 : Abs.tsize Try.prog 8 = 4 := by kernel_rfl
@[go_sem] theorem tzero8 : Abs.tzero Try.prog 8 = some [.t (.lit (.int .i64 0)), .t (.lit (.int .i64 0)), .t (.lit (.bool false)), .t (.lit (.int .u8 0))] := by kernel_rfl
@[go_sem] theorem tbytes8 : Abs.tbytes Try.prog 8 = 24 := by kernel_rfl
@[go_sem] theorem tst8 : Abs.isStructD (Abs.tdesc Try.prog 8) = true := by kernel_rfl
@[go_sem] theorem tnf8 : Abs.nfields Try.prog 8 = 4 := by kernel_rfl
@[go_sem] theorem tpt8 : Abs.partsTok Try.prog 8 = true := by kernel_rfl
@[go_sem] theorem tfo8_0 : Abs.foff Try.prog 8 0 = 0 := by kernel_rfl
@[go_sem] theorem tft8_0 : Abs.fty Try.prog 8 0 = 2 := by kernel_rfl
@[go_sem] theorem tpl8_0 : Abs.placesA Try.prog 8 0 = some (0, 1) := by kernel_rfl
@[go_sem] theorem tfo8_1 : Abs.foff Try.prog 8 1 = 1 := by kernel_rfl
@[go_sem] theorem tft8_1 : Abs.fty Try.prog 8 1 = 3 := by kernel_rfl
@[go_sem] theorem tpl8_1 : Abs.placesA Try.prog 8 1 = some (1, 1) := by kernel_rfl
@[go_sem] theorem tfo8_2 : Abs.foff Try.prog 8 2 = 2 := by kernel_rfl
@[go_sem] theorem tft8_2 : Abs.fty Try.prog 8 2 = 4 := by kernel_rfl
@[go_sem] theorem tpl8_2 : Abs.placesA Try.prog 8 2 = some (2, 1) := by kernel_rfl
@[go_sem] theorem tfo8_3 : Abs.foff Try.prog 8 3 = 3 := by kernel_rfl
@[go_sem] theorem tft8_3 : Abs.fty Try.prog 8 3 = 6 := by kernel_rfl
@[go_sem] theorem tpl8_3 : Abs.placesA Try.prog 8 3 = some (3, 1) := by kernel_rfl
@[go_sem] theorem tok9 : Abs.tok Try.prog 9 = true := by kernel_rfl
@[go_sem] theorem tagg9 : Abs.tagg Try.prog 9 = false := by kernel_rfl
@[go_sem] theorem tsize9 : Abs.tsize Try.prog 9 = 1 := by kernel_rfl
@[go_sem] theorem tzero9 : Abs.tzero Try.prog 9 = some [.t (.lit (.string ⟨#[]⟩))] := by kernel_rfl
@[go_sem] theorem tbytes9 : Abs.tbytes Try.prog 9 = 16 := by kernel_rfl
@[go_sem] theorem tstr9 : Abs.tdesc Try.prog 9 = .string := by kernel_rfl
@[go_sem] theorem tok10 : Abs.tok Try.prog 10 = true := by kernel_rfl
@[go_sem] theorem tagg10 : Abs.tagg Try.prog 10 = false := by kernel_rfl
@[go_sem] theorem tsize10 : Abs.tsize Try.prog 10 = 1 := by kernel_rfl
@[go_sem] theorem tzero10 : Abs.tzero Try.prog 10 = some [.t (.lit (.string ⟨#[]⟩))] := by kernel_rfl
@[go_sem] theorem tbytes10 : Abs.tbytes Try.prog 10 = 16 := by kernel_rfl
@[go_sem] theorem tstr10 : Abs.tdesc Try.prog 10 = .string := by kernel_rfl
@[go_sem] theorem tok11 : Abs.tok Try.prog 11 = true := by kernel_rfl
@[go_sem] theorem tagg11 : Abs.tagg Try.prog 11 = false := by kernel_rfl
@[go_sem] theorem tsize11 : Abs.tsize Try.prog 11 = 1 := by kernel_rfl
@[go_sem] theorem tzero11 : Abs.tzero Try.prog 11 = some [.t (.lit (.string ⟨#[]⟩))] := by kernel_rfl
@[go_sem] theorem tbytes11 : Abs.tbytes Try.prog 11 = 16 := by kernel_rfl
@[go_sem] theorem tstr11 : Abs.tdesc Try.prog 11 = .string := by kernel_rfl
@[go_sem] theorem tok12 : Abs.tok Try.prog 12 = true := by kernel_rfl
@[go_sem] theorem tagg12 : Abs.tagg Try.prog 12 = false := by kernel_rfl
@[go_sem] theorem tsize12 : Abs.tsize Try.prog 12 = 1 := by kernel_rfl
@[go_sem] theorem tzero12 : Abs.tzero Try.prog 12 = some [.t (.lit (.int .u64 0))] := by kernel_rfl
@[go_sem] theorem tbytes12 : Abs.tbytes Try.prog 12 = 8 := by kernel_rfl
@[go_sem] theorem tint12 : Abs.intD (Abs.tdesc Try.prog 12) = some .u64 := by kernel_rfl
@[go_sem] theorem tok13 : Abs.tok Try.prog 13 = true := by kernel_rfl
@[go_sem] theorem tagg13 : Abs.tagg Try.prog 13 = true := by kernel_rfl
@[go_sem] theorem tsize13 : Abs.tsize Try.prog 13 = 2 := by kernel_rfl
@[go_sem] theorem tzero13 : Abs.tzero Try.prog 13 = some [.t (.lit (.string ⟨#[]⟩)), .t (.lit (.int .u64 0))] := by kernel_rfl
@[go_sem] theorem tbytes13 : Abs.tbytes Try.prog 13 = 24 := by kernel_rfl
@[go_sem] theorem tst13 : Abs.isStructD (Abs.tdesc Try.prog 13) = true := by kernel_rfl
@[go_sem] theorem tnf13 : Abs.nfields Try.prog 13 = 2 := by kernel_rfl
@[go_sem] theorem tpt13 : Abs.partsTok Try.prog 13 = true := by kernel_rfl
@[go_sem] theorem tfo13_0 : Abs.foff Try.prog 13 0 = 0 := by kernel_rfl
@[go_sem] theorem tft13_0 : Abs.fty Try.prog 13 0 = 9 := by kernel_rfl
@[go_sem] theorem tpl13_0 : Abs.placesA Try.prog 13 0 = some (0, 1) := by kernel_rfl
@[go_sem] theorem tfo13_1 : Abs.foff Try.prog 13 1 = 1 := by kernel_rfl
@[go_sem] theorem tft13_1 : Abs.fty Try.prog 13 1 = 12 := by kernel_rfl
@[go_sem] theorem tpl13_1 : Abs.placesA Try.prog 13 1 = some (1, 1) := by kernel_rfl
@[go_sem] theorem tok14 : Abs.tok Try.prog 14 = true := by kernel_rfl
@[go_sem] theorem tagg14 : Abs.tagg Try.prog 14 = true := by kernel_rfl
@[go_sem] theorem tsize14 : Abs.tsize Try.prog 14 = 2 := by kernel_rfl
@[go_sem] theorem tzero14 : Abs.tzero Try.prog 14 = some [.t (.lit (.string ⟨#[]⟩)), .t (.lit (.int .u64 0))] := by kernel_rfl
@[go_sem] theorem tbytes14 : Abs.tbytes Try.prog 14 = 24 := by kernel_rfl
@[go_sem] theorem tst14 : Abs.isStructD (Abs.tdesc Try.prog 14) = true := by kernel_rfl
@[go_sem] theorem tnf14 : Abs.nfields Try.prog 14 = 2 := by kernel_rfl
@[go_sem] theorem tpt14 : Abs.partsTok Try.prog 14 = true := by kernel_rfl
@[go_sem] theorem tfo14_0 : Abs.foff Try.prog 14 0 = 0 := by kernel_rfl
@[go_sem] theorem tft14_0 : Abs.fty Try.prog 14 0 = 9 := by kernel_rfl
@[go_sem] theorem tpl14_0 : Abs.placesA Try.prog 14 0 = some (0, 1) := by kernel_rfl
@[go_sem] theorem tfo14_1 : Abs.foff Try.prog 14 1 = 1 := by kernel_rfl
@[go_sem] theorem tft14_1 : Abs.fty Try.prog 14 1 = 12 := by kernel_rfl
@[go_sem] theorem tpl14_1 : Abs.placesA Try.prog 14 1 = some (1, 1) := by kernel_rfl
@[go_sem] theorem tok15 : Abs.tok Try.prog 15 = true := by kernel_rfl
@[go_sem] theorem tagg15 : Abs.tagg Try.prog 15 = false := by kernel_rfl
@[go_sem] theorem tsize15 : Abs.tsize Try.prog 15 = 1 := by kernel_rfl
@[go_sem] theorem tzero15 : Abs.tzero Try.prog 15 = some [.t (.lit (.pointer none))] := by kernel_rfl
@[go_sem] theorem tbytes15 : Abs.tbytes Try.prog 15 = 8 := by kernel_rfl
@[go_sem] theorem tok16 : Abs.tok Try.prog 16 = true := by kernel_rfl
@[go_sem] theorem tagg16 : Abs.tagg Try.prog 16 = false := by kernel_rfl
@[go_sem] theorem tsize16 : Abs.tsize Try.prog 16 = 1 := by kernel_rfl
@[go_sem] theorem tzero16 : Abs.tzero Try.prog 16 = some [.t (.lit (.pointer none))] := by kernel_rfl
@[go_sem] theorem tbytes16 : Abs.tbytes Try.prog 16 = 8 := by kernel_rfl
@[go_sem] theorem tok17 : Abs.tok Try.prog 17 = true := by kernel_rfl
@[go_sem] theorem tagg17 : Abs.tagg Try.prog 17 = false := by kernel_rfl
@[go_sem] theorem tsize17 : Abs.tsize Try.prog 17 = 1 := by kernel_rfl
@[go_sem] theorem tzero17 : Abs.tzero Try.prog 17 = some [.t (.lit (.pointer none))] := by kernel_rfl
@[go_sem] theorem tbytes17 : Abs.tbytes Try.prog 17 = 8 := by kernel_rfl
@[go_sem] theorem tok18 : Abs.tok Try.prog 18 = true := by kernel_rfl
@[go_sem] theorem tagg18 : Abs.tagg Try.prog 18 = true := by kernel_rfl
@[go_sem] theorem tsize18 : Abs.tsize Try.prog 18 = 1 := by kernel_rfl
@[go_sem] theorem tzero18 : Abs.tzero Try.prog 18 = some [.t (.lit (.pointer none))] := by kernel_rfl
@[go_sem] theorem tbytes18 : Abs.tbytes Try.prog 18 = 8 := by kernel_rfl
@[go_sem] theorem tst18 : Abs.isStructD (Abs.tdesc Try.prog 18) = true := by kernel_rfl
@[go_sem] theorem tnf18 : Abs.nfields Try.prog 18 = 1 := by kernel_rfl
@[go_sem] theorem tpt18 : Abs.partsTok Try.prog 18 = true := by kernel_rfl
@[go_sem] theorem tfo18_0 : Abs.foff Try.prog 18 0 = 0 := by kernel_rfl
@[go_sem] theorem tft18_0 : Abs.fty Try.prog 18 0 = 17 := by kernel_rfl
@[go_sem] theorem tpl18_0 : Abs.placesA Try.prog 18 0 = some (0, 1) := by kernel_rfl
@[go_sem] theorem tok19 : Abs.tok Try.prog 19 = true := by kernel_rfl
@[go_sem] theorem tagg19 : Abs.tagg Try.prog 19 = true := by kernel_rfl
@[go_sem] theorem tsize19 : Abs.tsize Try.prog 19 = 1 := by kernel_rfl
@[go_sem] theorem tzero19 : Abs.tzero Try.prog 19 = some [.t (.lit (.pointer none))] := by kernel_rfl
@[go_sem] theorem tbytes19 : Abs.tbytes Try.prog 19 = 8 := by kernel_rfl
@[go_sem] theorem tst19 : Abs.isStructD (Abs.tdesc Try.prog 19) = true := by kernel_rfl
@[go_sem] theorem tnf19 : Abs.nfields Try.prog 19 = 1 := by kernel_rfl
@[go_sem] theorem tpt19 : Abs.partsTok Try.prog 19 = true := by kernel_rfl
@[go_sem] theorem tfo19_0 : Abs.foff Try.prog 19 0 = 0 := by kernel_rfl
@[go_sem] theorem tft19_0 : Abs.fty Try.prog 19 0 = 17 := by kernel_rfl
@[go_sem] theorem tpl19_0 : Abs.placesA Try.prog 19 0 = some (0, 1) := by kernel_rfl
@[go_sem] theorem tok21 : Abs.tok Try.prog 21 = true := by kernel_rfl
@[go_sem] theorem tagg21 : Abs.tagg Try.prog 21 = false := by kernel_rfl
@[go_sem] theorem tsize21 : Abs.tsize Try.prog 21 = 1 := by kernel_rfl
@[go_sem] theorem tzero21 : Abs.tzero Try.prog 21 = some [.t (.lit (.int .i32 0))] := by kernel_rfl
@[go_sem] theorem tbytes21 : Abs.tbytes Try.prog 21 = 4 := by kernel_rfl
@[go_sem] theorem tint21 : Abs.intD (Abs.tdesc Try.prog 21) = some .i32 := by kernel_rfl
@[go_sem] theorem tok22 : Abs.tok Try.prog 22 = true := by kernel_rfl
@[go_sem] theorem tagg22 : Abs.tagg Try.prog 22 = false := by kernel_rfl
@[go_sem] theorem tsize22 : Abs.tsize Try.prog 22 = 1 := by kernel_rfl
@[go_sem] theorem tzero22 : Abs.tzero Try.prog 22 = some [.t (.seq (some true) [])] := by kernel_rfl
@[go_sem] theorem tbytes22 : Abs.tbytes Try.prog 22 = 24 := by kernel_rfl
@[go_sem] theorem tsl22 : Abs.isSliceD (Abs.tdesc Try.prog 22) = true := by kernel_rfl
@[go_sem] theorem telem22 : Abs.telem Try.prog 22 = 64 := by kernel_rfl
@[go_sem] theorem tok23 : Abs.tok Try.prog 23 = true := by kernel_rfl
@[go_sem] theorem tagg23 : Abs.tagg Try.prog 23 = true := by kernel_rfl
@[go_sem] theorem tsize23 : Abs.tsize Try.prog 23 = 2 := by kernel_rfl
@[go_sem] theorem tzero23 : Abs.tzero Try.prog 23 = some [.t (.lit (.bool false)), .t (.seq (some true) [])] := by kernel_rfl
@[go_sem] theorem tbytes23 : Abs.tbytes Try.prog 23 = 32 := by kernel_rfl
@[go_sem] theorem tst23 : Abs.isStructD (Abs.tdesc Try.prog 23) = true := by kernel_rfl
@[go_sem] theorem tnf23 : Abs.nfields Try.prog 23 = 2 := by kernel_rfl
@[go_sem] theorem tpt23 : Abs.partsTok Try.prog 23 = true := by kernel_rfl
@[go_sem] theorem tfo23_0 : Abs.foff Try.prog 23 0 = 0 := by kernel_rfl
@[go_sem] theorem tft23_0 : Abs.fty Try.prog 23 0 = 4 := by kernel_rfl
@[go_sem] theorem tpl23_0 : Abs.placesA Try.prog 23 0 = some (0, 1) := by kernel_rfl
@[go_sem] theorem tfo23_1 : Abs.foff Try.prog 23 1 = 1 := by kernel_rfl
@[go_sem] theorem tft23_1 : Abs.fty Try.prog 23 1 = 22 := by kernel_rfl
@[go_sem] theorem tpl23_1 : Abs.placesA Try.prog 23 1 = some (1, 1) := by kernel_rfl
@[go_sem] theorem tok24 : Abs.tok Try.prog 24 = true := by kernel_rfl
@[go_sem] theorem tagg24 : Abs.tagg Try.prog 24 = true := by kernel_rfl
@[go_sem] theorem tsize24 : Abs.tsize Try.prog 24 = 2 := by kernel_rfl
@[go_sem] theorem tzero24 : Abs.tzero Try.prog 24 = some [.t (.lit (.bool false)), .t (.seq (some true) [])] := by kernel_rfl
@[go_sem] theorem tbytes24 : Abs.tbytes Try.prog 24 = 32 := by kernel_rfl
@[go_sem] theorem tst24 : Abs.isStructD (Abs.tdesc Try.prog 24) = true := by kernel_rfl
@[go_sem] theorem tnf24 : Abs.nfields Try.prog 24 = 2 := by kernel_rfl
@[go_sem] theorem tpt24 : Abs.partsTok Try.prog 24 = true := by kernel_rfl
@[go_sem] theorem tfo24_0 : Abs.foff Try.prog 24 0 = 0 := by kernel_rfl
@[go_sem] theorem tft24_0 : Abs.fty Try.prog 24 0 = 4 := by kernel_rfl
@[go_sem] theorem tpl24_0 : Abs.placesA Try.prog 24 0 = some (0, 1) := by kernel_rfl
@[go_sem] theorem tfo24_1 : Abs.foff Try.prog 24 1 = 1 := by kernel_rfl
@[go_sem] theorem tft24_1 : Abs.fty Try.prog 24 1 = 22 := by kernel_rfl
@[go_sem] theorem tpl24_1 : Abs.placesA Try.prog 24 1 = some (1, 1) := by kernel_rfl
@[go_sem] theorem tok25 : Abs.tok Try.prog 25 = true := by kernel_rfl
@[go_sem] theorem tagg25 : Abs.tagg Try.prog 25 = false := by kernel_rfl
@[go_sem] theorem tsize25 : Abs.tsize Try.prog 25 = 1 := by kernel_rfl
@[go_sem] theorem tzero25 : Abs.tzero Try.prog 25 = some [.t (.seq (some true) [])] := by kernel_rfl
@[go_sem] theorem tbytes25 : Abs.tbytes Try.prog 25 = 24 := by kernel_rfl
@[go_sem] theorem tsl25 : Abs.isSliceD (Abs.tdesc Try.prog 25) = true := by kernel_rfl
@[go_sem] theorem telem25 : Abs.telem Try.prog 25 = 24 := by kernel_rfl
@[go_sem] theorem tok26 : Abs.tok Try.prog 26 = true := by kernel_rfl
@[go_sem] theorem tagg26 : Abs.tagg Try.prog 26 = false := by kernel_rfl
@[go_sem] theorem tsize26 : Abs.tsize Try.prog 26 = 1 := by kernel_rfl
@[go_sem] theorem tzero26 : Abs.tzero Try.prog 26 = some [.t (.lit .nilFunc)] := by kernel_rfl
@[go_sem] theorem tok27 : Abs.tok Try.prog 27 = true := by kernel_rfl
@[go_sem] theorem tagg27 : Abs.tagg Try.prog 27 = false := by kernel_rfl
@[go_sem] theorem tsize27 : Abs.tsize Try.prog 27 = 1 := by kernel_rfl
@[go_sem] theorem tzero27 : Abs.tzero Try.prog 27 = some [.t (.lit .nilFunc)] := by kernel_rfl
@[go_sem] theorem tok28 : Abs.tok Try.prog 28 = true := by kernel_rfl
@[go_sem] theorem tagg28 : Abs.tagg Try.prog 28 = false := by kernel_rfl
@[go_sem] theorem tsize28 : Abs.tsize Try.prog 28 = 1 := by kernel_rfl
@[go_sem] theorem tzero28 : Abs.tzero Try.prog 28 = some [.t (.lit .nilFunc)] := by kernel_rfl
@[go_sem] theorem tok29 : Abs.tok Try.prog 29 = true := by kernel_rfl
@[go_sem] theorem tagg29 : Abs.tagg Try.prog 29 = false := by kernel_rfl
@[go_sem] theorem tsize29 : Abs.tsize Try.prog 29 = 1 := by kernel_rfl
@[go_sem] theorem tzero29 : Abs.tzero Try.prog 29 = some [.t (.lit .nilFunc)] := by kernel_rfl
@[go_sem] theorem tok30 : Abs.tok Try.prog 30 = true := by kernel_rfl
@[go_sem] theorem tagg30 : Abs.tagg Try.prog 30 = false := by kernel_rfl
@[go_sem] theorem tsize30 : Abs.tsize Try.prog 30 = 1 := by kernel_rfl
@[go_sem] theorem tzero30 : Abs.tzero Try.prog 30 = some [.t (.lit .nilFunc)] := by kernel_rfl
@[go_sem] theorem tok31 : Abs.tok Try.prog 31 = true := by kernel_rfl
@[go_sem] theorem tagg31 : Abs.tagg Try.prog 31 = false := by kernel_rfl
@[go_sem] theorem tsize31 : Abs.tsize Try.prog 31 = 1 := by kernel_rfl
@[go_sem] theorem tzero31 : Abs.tzero Try.prog 31 = some [.t (.lit .nilFunc)] := by kernel_rfl
@[go_sem] theorem tok33 : Abs.tok Try.prog 33 = true := by kernel_rfl
@[go_sem] theorem tagg33 : Abs.tagg Try.prog 33 = false := by kernel_rfl
@[go_sem] theorem tsize33 : Abs.tsize Try.prog 33 = 1 := by kernel_rfl
@[go_sem] theorem tzero33 : Abs.tzero Try.prog 33 = some [.t (.lit .nilFunc)] := by kernel_rfl
@[go_sem] theorem tok34 : Abs.tok Try.prog 34 = true := by kernel_rfl
@[go_sem] theorem tagg34 : Abs.tagg Try.prog 34 = false := by kernel_rfl
@[go_sem] theorem tsize34 : Abs.tsize Try.prog 34 = 1 := by kernel_rfl
@[go_sem] theorem tzero34 : Abs.tzero Try.prog 34 = some [.t (.lit .nilFunc)] := by kernel_rfl
@[go_sem] theorem tok35 : Abs.tok Try.prog 35 = true := by kernel_rfl
@[go_sem] theorem tagg35 : Abs.tagg Try.prog 35 = false := by kernel_rfl
@[go_sem] theorem tsize35 : Abs.tsize Try.prog 35 = 1 := by kernel_rfl
@[go_sem] theorem tzero35 : Abs.tzero Try.prog 35 = some [.t (.lit .nilFunc)] := by kernel_rfl
@[go_sem] theorem tok36 : Abs.tok Try.prog 36 = true := by kernel_rfl
@[go_sem] theorem tagg36 : Abs.tagg Try.prog 36 = false := by kernel_rfl
@[go_sem] theorem tsize36 : Abs.tsize Try.prog 36 = 1 := by kernel_rfl
@[go_sem] theorem tzero36 : Abs.tzero Try.prog 36 = some [.t (.lit .nilFunc)] := by kernel_rfl
@[go_sem] theorem tok37 : Abs.tok Try.prog 37 = true := by kernel_rfl
@[go_sem] theorem tagg37 : Abs.tagg Try.prog 37 = false := by kernel_rfl
@[go_sem] theorem tsize37 : Abs.tsize Try.prog 37 = 1 := by kernel_rfl
@[go_sem] theorem tzero37 : Abs.tzero Try.prog 37 = some [.t (.lit .nilFunc)] := by kernel_rfl
@[go_sem] theorem tok39 : Abs.tok Try.prog 39 = true := by kernel_rfl
@[go_sem] theorem tagg39 : Abs.tagg Try.prog 39 = false := by kernel_rfl
@[go_sem] theorem tsize39 : Abs.tsize Try.prog 39 = 1 := by kernel_rfl
@[go_sem] theorem tzero39 : Abs.tzero Try.prog 39 = some [.t (.lit .nilFunc)] := by kernel_rfl
@[go_sem] theorem tok40 : Abs.tok Try.prog 40 = true := by kernel_rfl
@[go_sem] theorem tagg40 : Abs.tagg Try.prog 40 = false := by kernel_rfl
@[go_sem] theorem tsize40 : Abs.tsize Try.prog 40 = 1 := by kernel_rfl
@[go_sem] theorem tzero40 : Abs.tzero Try.prog 40 = some [.t (.lit .nilFunc)] := by kernel_rfl
@[go_sem] theorem tok41 : Abs.tok Try.prog 41 = true := by kernel_rfl
@[go_sem] theorem tagg41 : Abs.tagg Try.prog 41 = false := by kernel_rfl
@[go_sem] theorem tsize41 : Abs.tsize Try.prog 41 = 1 := by kernel_rfl
@[go_sem] theorem tzero41 : Abs.tzero Try.prog 41 = some [.t (.lit (.int .i8 0))] := by kernel_rfl
@[go_sem] theorem tbytes41 : Abs.tbytes Try.prog 41 = 1 := by kernel_rfl
@[go_sem] theorem tint41 : Abs.intD (Abs.tdesc Try.prog 41) = some .i8 := by kernel_rfl
@[go_sem] theorem tok42 : Abs.tok Try.prog 42 = true := by kernel_rfl
@[go_sem] theorem tagg42 : Abs.tagg Try.prog 42 = false := by kernel_rfl
@[go_sem] theorem tsize42 : Abs.tsize Try.prog 42 = 1 := by kernel_rfl
@[go_sem] theorem tzero42 : Abs.tzero Try.prog 42 = some [.t (.lit .nilFunc)] := by kernel_rfl
@[go_sem] theorem tok43 : Abs.tok Try.prog 43 = true := by kernel_rfl
@[go_sem] theorem tagg43 : Abs.tagg Try.prog 43 = false := by kernel_rfl
@[go_sem] theorem tsize43 : Abs.tsize Try.prog 43 = 1 := by kernel_rfl
@[go_sem] theorem tzero43 : Abs.tzero Try.prog 43 = some [.t (.seq (some true) [])] := by kernel_rfl
@[go_sem] theorem tbytes43 : Abs.tbytes Try.prog 43 = 24 := by kernel_rfl
@[go_sem] theorem tsl43 : Abs.isSliceD (Abs.tdesc Try.prog 43) = true := by kernel_rfl
@[go_sem] theorem telem43 : Abs.telem Try.prog 43 = 21 := by kernel_rfl
@[go_sem] theorem tok44 : Abs.tok Try.prog 44 = true := by kernel_rfl
@[go_sem] theorem tagg44 : Abs.tagg Try.prog 44 = false := by kernel_rfl
@[go_sem] theorem tsize44 : Abs.tsize Try.prog 44 = 1 := by kernel_rfl
@[go_sem] theorem tzero44 : Abs.tzero Try.prog 44 = some [.t (.lit .nilFunc)] := by kernel_rfl
@[go_sem] theorem tok45 : Abs.tok Try.prog 45 = true := by kernel_rfl
@[go_sem] theorem tagg45 : Abs.tagg Try.prog 45 = false := by kernel_rfl
@[go_sem] theorem tsize45 : Abs.tsize Try.prog 45 = 1 := by kernel_rfl
@[go_sem] theorem tzero45 : Abs.tzero Try.prog 45 = some [.t (.lit .nilFunc)] := by kernel_rfl
@[go_sem] theorem tok47 : Abs.tok Try.prog 47 = true := by kernel_rfl
@[go_sem] theorem tagg47 : Abs.tagg Try.prog 47 = false := by kernel_rfl
@[go_sem] theorem tsize47 : Abs.tsize Try.prog 47 = 1 := by kernel_rfl
@[go_sem] theorem tzero47 : Abs.tzero Try.prog 47 = some [.t (.lit .nilFunc)] := by kernel_rfl
@[go_sem] theorem tok48 : Abs.tok Try.prog 48 = true := by kernel_rfl
@[go_sem] theorem tagg48 : Abs.tagg Try.prog 48 = false := by kernel_rfl
@[go_sem] theorem tsize48 : Abs.tsize Try.prog 48 = 1 := by kernel_rfl
@[go_sem] theorem tzero48 : Abs.tzero Try.prog 48 = some [.t (.lit .nilFunc)] := by kernel_rfl
@[go_sem] theorem tok49 : Abs.tok Try.prog 49 = true := by kernel_rfl
@[go_sem] theorem tagg49 : Abs.tagg Try.prog 49 = false := by kernel_rfl
@[go_sem] theorem tsize49 : Abs.tsize Try.prog 49 = 1 := by kernel_rfl
@[go_sem] theorem tzero49 : Abs.tzero Try.prog 49 = some [.t (.lit (.int .u16 0))] := by kernel_rfl
@[go_sem] theorem tbytes49 : Abs.tbytes Try.prog 49 = 2 := by kernel_rfl
@[go_sem] theorem tint49 : Abs.intD (Abs.tdesc Try.prog 49) = some .u16 := by kernel_rfl
@[go_sem] theorem tok50 : Abs.tok Try.prog 50 = true := by kernel_rfl
@[go_sem] theorem tagg50 : Abs.tagg Try.prog 50 = false := by kernel_rfl
@[go_sem] theorem tsize50 : Abs.tsize Try.prog 50 = 1 := by kernel_rfl
@[go_sem] theorem tzero50 : Abs.tzero Try.prog 50 = some [.t (.lit .nilFunc)] := by kernel_rfl
@[go_sem] theorem tok51 : Abs.tok Try.prog 51 = true := by kernel_rfl
@[go_sem] theorem tagg51 : Abs.tagg Try.prog 51 = false := by kernel_rfl
@[go_sem] theorem tsize51 : Abs.tsize Try.prog 51 = 1 := by kernel_rfl
@[go_sem] theorem tzero51 : Abs.tzero Try.prog 51 = some [.t (.lit .nilFunc)] := by kernel_rfl
@[go_sem] theorem tok52 : Abs.tok Try.prog 52 = true := by kernel_rfl
@[go_sem] theorem tagg52 : Abs.tagg Try.prog 52 = false := by kernel_rfl
@[go_sem] theorem tsize52 : Abs.tsize Try.prog 52 = 1 := by kernel_rfl
@[go_sem] theorem tzero52 : Abs.tzero Try.prog 52 = some [.t (.lit .nilFunc)] := by kernel_rfl
@[go_sem] theorem tok53 : Abs.tok Try.prog 53 = true := by kernel_rfl
@[go_sem] theorem tagg53 : Abs.tagg Try.prog 53 = false := by kernel_rfl
@[go_sem] theorem tsize53 : Abs.tsize Try.prog 53 = 1 := by kernel_rfl
@[go_sem] theorem tzero53 : Abs.tzero Try.prog 53 = some [.t (.lit .nilFunc)] := by kernel_rfl
@[go_sem] theorem tok55 : Abs.tok Try.prog 55 = true := by kernel_rfl
@[go_sem] theorem tagg55 : Abs.tagg Try.prog 55 = false := by kernel_rfl
@[go_sem] theorem tsize55 : Abs.tsize Try.prog 55 = 1 := by kernel_rfl
@[go_sem] theorem tzero55 : Abs.tzero Try.prog 55 = some [.t (.lit .nilFunc)] := by kernel_rfl
@[go_sem] theorem tok56 : Abs.tok Try.prog 56 = true := by kernel_rfl
@[go_sem] theorem tagg56 : Abs.tagg Try.prog 56 = false := by kernel_rfl
@[go_sem] theorem tsize56 : Abs.tsize Try.prog 56 = 1 := by kernel_rfl
@[go_sem] theorem tzero56 : Abs.tzero Try.prog 56 = some [.t (.lit .nilFunc)] := by kernel_rfl
@[go_sem] theorem tok57 : Abs.tok Try.prog 57 = true := by kernel_rfl
@[go_sem] theorem tagg57 : Abs.tagg Try.prog 57 = false := by kernel_rfl
@[go_sem] theorem tsize57 : Abs.tsize Try.prog 57 = 1 := by kernel_rfl
@[go_sem] theorem tzero57 : Abs.tzero Try.prog 57 = some [.t (.lit .nilFunc)] := by kernel_rfl
@[go_sem] theorem tok58 : Abs.tok Try.prog 58 = true := by kernel_rfl
@[go_sem] theorem tagg58 : Abs.tagg Try.prog 58 = false := by kernel_rfl
@[go_sem] theorem tsize58 : Abs.tsize Try.prog 58 = 1 := by kernel_rfl
@[go_sem] theorem tzero58 : Abs.tzero Try.prog 58 = some [.t (.lit .nilFunc)] := by kernel_rfl
@[go_sem] theorem tok59 : Abs.tok Try.prog 59 = true := by kernel_rfl
@[go_sem] theorem tagg59 : Abs.tagg Try.prog 59 = false := by kernel_rfl
@[go_sem] theorem tsize59 : Abs.tsize Try.prog 59 = 1 := by kernel_rfl
@[go_sem] theorem tzero59 : Abs.tzero Try.prog 59 = some [.t (.lit .nilFunc)] := by kernel_rfl
@[go_sem] theorem tok60 : Abs.tok Try.prog 60 = true := by kernel_rfl
@[go_sem] theorem tagg60 : Abs.tagg Try.prog 60 = false := by kernel_rfl
@[go_sem] theorem tsize60 : Abs.tsize Try.prog 60 = 1 := by kernel_rfl
@[go_sem] theorem tzero60 : Abs.tzero Try.prog 60 = some [.t (.lit .nilFunc)] := by kernel_rfl
@[go_sem] theorem tok61 : Abs.tok Try.prog 61 = true := by kernel_rfl
@[go_sem] theorem tagg61 : Abs.tagg Try.prog 61 = false := by kernel_rfl
@[go_sem] theorem tsize61 : Abs.tsize Try.prog 61 = 1 := by kernel_rfl
@[go_sem] theorem tzero61 : Abs.tzero Try.prog 61 = some [.t (.lit .nilFunc)] := by kernel_rfl
@[go_sem] theorem tok62 : Abs.tok Try.prog 62 = true := by kernel_rfl
@[go_sem] theorem tagg62 : Abs.tagg Try.prog 62 = false := by kernel_rfl
@[go_sem] theorem tsize62 : Abs.tsize Try.prog 62 = 1 := by kernel_rfl
@[go_sem] theorem tzero62 : Abs.tzero Try.prog 62 = some [.t (.lit .nilFunc)] := by kernel_rfl
@[go_sem] theorem tok63 : Abs.tok Try.prog 63 = true := by kernel_rfl
@[go_sem] theorem tagg63 : Abs.tagg Try.prog 63 = false := by kernel_rfl
@[go_sem] theorem tsize63 : Abs.tsize Try.prog 63 = 1 := by kernel_rfl
@[go_sem] theorem tzero63 : Abs.tzero Try.prog 63 = some [.t (.lit (.int .u64 0))] := by kernel_rfl
@[go_sem] theorem tbytes63 : Abs.tbytes Try.prog 63 = 8 := by kernel_rfl
@[go_sem] theorem tint63 : Abs.intD (Abs.tdesc Try.prog 63) = some .u64 := by kernel_rfl
@[go_sem] theorem tok64 : Abs.tok Try.prog 64 = true := by kernel_rfl
@[go_sem] theorem tagg64 : Abs.tagg Try.prog 64 = false := by kernel_rfl
@[go_sem] theorem tsize64 : Abs.tsize Try.prog 64 = 1 := by kernel_rfl
@[go_sem] theorem tzero64 : Abs.tzero Try.prog 64 = some [.t (.lit (.int .u32 0))] := by kernel_rfl
@[go_sem] theorem tbytes64 : Abs.tbytes Try.prog 64 = 4 := by kernel_rfl
@[go_sem] theorem tint64 : Abs.intD (Abs.tdesc Try.prog 64) = some .u32 := by kernel_rfl
@[go_sem] theorem tok65 : Abs.tok Try.prog 65 = true := by kernel_rfl
@[go_sem] theorem tagg65 : Abs.tagg Try.prog 65 = true := by kernel_rfl
@[go_sem] theorem tsize65 : Abs.tsize Try.prog 65 = 1 := by kernel_rfl
@[go_sem] theorem tzero65 : Abs.tzero Try.prog 65 = some [.t (.seq (some true) [])] := by kernel_rfl
@[go_sem] theorem tbytes65 : Abs.tbytes Try.prog 65 = 24 := by kernel_rfl
@[go_sem] theorem tst65 : Abs.isStructD (Abs.tdesc Try.prog 65) = true := by kernel_rfl
@[go_sem] theorem tnf65 : Abs.nfields Try.prog 65 = 1 := by kernel_rfl
@[go_sem] theorem tpt65 : Abs.partsTok Try.prog 65 = true := by kernel_rfl
@[go_sem] theorem tfo65_0 : Abs.foff Try.prog 65 0 = 0 := by kernel_rfl
@[go_sem] theorem tft65_0 : Abs.fty Try.prog 65 0 = 22 := by kernel_rfl
@[go_sem] theorem tpl65_0 : Abs.placesA Try.prog 65 0 = some (0, 1) := by kernel_rfl
@[go_sem] theorem tok66 : Abs.tok Try.prog 66 = true := by kernel_rfl
@[go_sem] theorem tagg66 : Abs.tagg Try.prog 66 = true := by kernel_rfl
@[go_sem] theorem tsize66 : Abs.tsize Try.prog 66 = 1 := by kernel_rfl
@[go_sem] theorem tzero66 : Abs.tzero Try.prog 66 = some [.t (.seq (some true) [])] := by kernel_rfl
@[go_sem] theorem tbytes66 : Abs.tbytes Try.prog 66 = 24 := by kernel_rfl
@[go_sem] theorem tst66 : Abs.isStructD (Abs.tdesc Try.prog 66) = true := by kernel_rfl
@[go_sem] theorem tnf66 : Abs.nfields Try.prog 66 = 1 := by kernel_rfl
@[go_sem] theorem tpt66 : Abs.partsTok Try.prog 66 = true := by kernel_rfl
@[go_sem] theorem tfo66_0 : Abs.foff Try.prog 66 0 = 0 := by kernel_rfl
@[go_sem] theorem tft66_0 : Abs.fty Try.prog 66 0 = 22 := by kernel_rfl
@[go_sem] theorem tpl66_0 : Abs.placesA Try.prog 66 0 = some (0, 1) := by kernel_rfl
@[go_sem] theorem tok67 : Abs.tok Try.prog 67 = true := by kernel_rfl
@[go_sem] theorem tagg67 : Abs.tagg Try.prog 67 = true := by kernel_rfl
@[go_sem] theorem tsize67 : Abs.tsize Try.prog 67 = 2 := by kernel_rfl
@[go_sem] theorem tzero67 : Abs.tzero Try.prog 67 = some [.t (.seq (some true) []), .t (.lit (.bool false))] := by kernel_rfl
@[go_sem] theorem tbytes67 : Abs.tbytes Try.prog 67 = 32 := by kernel_rfl
@[go_sem] theorem tst67 : Abs.isStructD (Abs.tdesc Try.prog 67) = true := by kernel_rfl
@[go_sem] theorem tnf67 : Abs.nfields Try.prog 67 = 2 := by kernel_rfl
@[go_sem] theorem tpt67 : Abs.partsTok Try.prog 67 = true := by kernel_rfl
@[go_sem] theorem tfo67_0 : Abs.foff Try.prog 67 0 = 0 := by kernel_rfl
@[go_sem] theorem tft67_0 : Abs.fty Try.prog 67 0 = 66 := by kernel_rfl
@[go_sem] theorem tpl67_0 : Abs.placesA Try.prog 67 0 = some (0, 1) := by kernel_rfl
@[go_sem] theorem tfo67_1 : Abs.foff Try.prog 67 1 = 1 := by kernel_rfl
@[go_sem] theorem tft67_1 : Abs.fty Try.prog 67 1 = 4 := by kernel_rfl
@[go_sem] theorem tpl67_1 : Abs.placesA Try.prog 67 1 = some (1, 1) := by kernel_rfl
@[go_sem] theorem tok68 : Abs.tok Try.prog 68 = true := by kernel_rfl
@[go_sem] theorem tagg68 : Abs.tagg Try.prog 68 = true := by kernel_rfl
@[go_sem] theorem tsize68 : Abs.tsize Try.prog 68 = 2 := by kernel_rfl
@[go_sem] theorem tzero68 : Abs.tzero Try.prog 68 = some [.t (.seq (some true) []), .t (.lit (.bool false))] := by kernel_rfl
@[go_sem] theorem tbytes68 : Abs.tbytes Try.prog 68 = 32 := by kernel_rfl
@[go_sem] theorem tst68 : Abs.isStructD (Abs.tdesc Try.prog 68) = true := by kernel_rfl
@[go_sem] theorem tnf68 : Abs.nfields Try.prog 68 = 2 := by kernel_rfl
@[go_sem] theorem tpt68 : Abs.partsTok Try.prog 68 = true := by kernel_rfl
@[go_sem] theorem tfo68_0 : Abs.foff Try.prog 68 0 = 0 := by kernel_rfl
@[go_sem] theorem tft68_0 : Abs.fty Try.prog 68 0 = 66 := by kernel_rfl
@[go_sem] theorem tpl68_0 : Abs.placesA Try.prog 68 0 = some (0, 1) := by kernel_rfl
@[go_sem] theorem tfo68_1 : Abs.foff Try.prog 68 1 = 1 := by kernel_rfl
@[go_sem] theorem tft68_1 : Abs.fty Try.prog 68 1 = 4 := by kernel_rfl
@[go_sem] theorem tpl68_1 : Abs.placesA Try.prog 68 1 = some (1, 1) := by kernel_rfl
@[go_sem] theorem tok69 : Abs.tok Try.prog 69 = true := by kernel_rfl
@[go_sem] theorem tagg69 : Abs.tagg Try.prog 69 = false := by kernel_rfl
@[go_sem] theorem tsize69 : Abs.tsize Try.prog 69 = 1 := by kernel_rfl
@[go_sem] theorem tzero69 : Abs.tzero Try.prog 69 = some [.t (.lit .nilFunc)] := by kernel_rfl
@[go_sem] theorem tok70 : Abs.tok Try.prog 70 = true := by kernel_rfl
@[go_sem] theorem tagg70 : Abs.tagg Try.prog 70 = false := by kernel_rfl
@[go_sem] theorem tsize70 : Abs.tsize Try.prog 70 = 1 := by kernel_rfl
@[go_sem] theorem tzero70 : Abs.tzero Try.prog 70 = some [.t (.lit .nilFunc)] := by kernel_rfl
@[go_sem] theorem tok71 : Abs.tok Try.prog 71 = true := by kernel_rfl
@[go_sem] theorem tagg71 : Abs.tagg Try.prog 71 = false := by kernel_rfl
@[go_sem] theorem tsize71 : Abs.tsize Try.prog 71 = 1 := by kernel_rfl
@[go_sem] theorem tzero71 : Abs.tzero Try.prog 71 = some [.t (.lit .nilFunc)] := by kernel_rfl
@[go_sem] theorem tok72 : Abs.tok Try.prog 72 = true := by kernel_rfl
@[go_sem] theorem tagg72 : Abs.tagg Try.prog 72 = false := by kernel_rfl
@[go_sem] theorem tsize72 : Abs.tsize Try.prog 72 = 1 := by kernel_rfl
@[go_sem] theorem tzero72 : Abs.tzero Try.prog 72 = some [.t (.lit .nilFunc)] := by kernel_rfl
@[go_sem] theorem tok73 : Abs.tok Try.prog 73 = true := by kernel_rfl
@[go_sem] theorem tagg73 : Abs.tagg Try.prog 73 = false := by kernel_rfl
@[go_sem] theorem tsize73 : Abs.tsize Try.prog 73 = 1 := by kernel_rfl
@[go_sem] theorem tzero73 : Abs.tzero Try.prog 73 = some [.t (.lit .nilFunc)] := by kernel_rfl
@[go_sem] theorem tok74 : Abs.tok Try.prog 74 = true := by kernel_rfl
@[go_sem] theorem tagg74 : Abs.tagg Try.prog 74 = false := by kernel_rfl
@[go_sem] theorem tsize74 : Abs.tsize Try.prog 74 = 1 := by kernel_rfl
@[go_sem] theorem tzero74 : Abs.tzero Try.prog 74 = some [.t (.lit .nilFunc)] := by kernel_rfl
@[go_sem] theorem tok75 : Abs.tok Try.prog 75 = true := by kernel_rfl
@[go_sem] theorem tagg75 : Abs.tagg Try.prog 75 = false := by kernel_rfl
@[go_sem] theorem tsize75 : Abs.tsize Try.prog 75 = 1 := by kernel_rfl
@[go_sem] theorem tzero75 : Abs.tzero Try.prog 75 = some [.t (.lit .nilFunc)] := by kernel_rfl
@[go_sem] theorem tok77 : Abs.tok Try.prog 77 = true := by kernel_rfl
@[go_sem] theorem tagg77 : Abs.tagg Try.prog 77 = false := by kernel_rfl
@[go_sem] theorem tsize77 : Abs.tsize Try.prog 77 = 1 := by kernel_rfl
@[go_sem] theorem tzero77 : Abs.tzero Try.prog 77 = some [.t (.lit .nilFunc)] := by kernel_rfl
@[go_sem] theorem tok78 : Abs.tok Try.prog 78 = true := by kernel_rfl
@[go_sem] theorem tagg78 : Abs.tagg Try.prog 78 = false := by kernel_rfl
@[go_sem] theorem tsize78 : Abs.tsize Try.prog 78 = 1 := by kernel_rfl
@[go_sem] theorem tzero78 : Abs.tzero Try.prog 78 = some [.t (.lit .nilFunc)] := by kernel_rfl
@[go_sem] theorem tok79 : Abs.tok Try.prog 79 = true := by kernel_rfl
@[go_sem] theorem tagg79 : Abs.tagg Try.prog 79 = false := by kernel_rfl
@[go_sem] theorem tsize79 : Abs.tsize Try.prog 79 = 1 := by kernel_rfl
@[go_sem] theorem tzero79 : Abs.tzero Try.prog 79 = some [.t (.lit .nilFunc)] := by kernel_rfl
@[go_sem] theorem tok80 : Abs.tok Try.prog 80 = true := by kernel_rfl
@[go_sem] theorem tagg80 : Abs.tagg Try.prog 80 = false := by kernel_rfl
@[go_sem] theorem tsize80 : Abs.tsize Try.prog 80 = 1 := by kernel_rfl
@[go_sem] theorem tzero80 : Abs.tzero Try.prog 80 = some [.t (.lit .nilFunc)] := by kernel_rfl
@[go_sem] theorem tok81 : Abs.tok Try.prog 81 = true := by kernel_rfl
@[go_sem] theorem tagg81 : Abs.tagg Try.prog 81 = false := by kernel_rfl
@[go_sem] theorem tsize81 : Abs.tsize Try.prog 81 = 1 := by kernel_rfl
@[go_sem] theorem tzero81 : Abs.tzero Try.prog 81 = some [.t (.lit .nilFunc)] := by kernel_rfl
@[go_sem] theorem tok82 : Abs.tok Try.prog 82 = true := by kernel_rfl
@[go_sem] theorem tagg82 : Abs.tagg Try.prog 82 = false := by kernel_rfl
@[go_sem] theorem tsize82 : Abs.tsize Try.prog 82 = 1 := by kernel_rfl
@[go_sem] theorem tzero82 : Abs.tzero Try.prog 82 = some [.t (.lit .nilFunc)] := by kernel_rfl
@[go_sem] theorem tok83 : Abs.tok Try.prog 83 = true := by kernel_rfl
@[go_sem] theorem tagg83 : Abs.tagg Try.prog 83 = false := by kernel_rfl
@[go_sem] theorem tsize83 : Abs.tsize Try.prog 83 = 1 := by kernel_rfl
@[go_sem] theorem tzero83 : Abs.tzero Try.prog 83 = some [.t (.lit .nilFunc)] := by kernel_rfl
@[go_sem] theorem tok84 : Abs.tok Try.prog 84 = true := by kernel_rfl
@[go_sem] theorem tagg84 : Abs.tagg Try.prog 84 = false := by kernel_rfl
@[go_sem] theorem tsize84 : Abs.tsize Try.prog 84 = 1 := by kernel_rfl
@[go_sem] theorem tzero84 : Abs.tzero Try.prog 84 = some [.t (.lit .nilFunc)] := by kernel_rfl
@[go_sem] theorem tok85 : Abs.tok Try.prog 85 = true := by kernel_rfl
@[go_sem] theorem tagg85 : Abs.tagg Try.prog 85 = false := by kernel_rfl
@[go_sem] theorem tsize85 : Abs.tsize Try.prog 85 = 1 := by kernel_rfl
@[go_sem] theorem tzero85 : Abs.tzero Try.prog 85 = some [.t (.seq (some true) [])] := by kernel_rfl
@[go_sem] theorem tbytes85 : Abs.tbytes Try.prog 85 = 24 := by kernel_rfl
@[go_sem] theorem tsl85 : Abs.isSliceD (Abs.tdesc Try.prog 85) = true := by kernel_rfl
@[go_sem] theorem telem85 : Abs.telem Try.prog 85 = 22 := by kernel_rfl
@[go_sem] theorem tok87 : Abs.tok Try.prog 87 = true := by kernel_rfl
@[go_sem] theorem tagg87 : Abs.tagg Try.prog 87 = false := by kernel_rfl
@[go_sem] theorem tsize87 : Abs.tsize Try.prog 87 = 1 := by kernel_rfl
@[go_sem] theorem tzero87 : Abs.tzero Try.prog 87 = some [.t (.lit .nilFunc)] := by kernel_rfl
@[go_sem] theorem tok88 : Abs.tok Try.prog 88 = true := by kernel_rfl
@[go_sem] theorem tagg88 : Abs.tagg Try.prog 88 = false := by kernel_rfl
@[go_sem] theorem tsize88 : Abs.tsize Try.prog 88 = 1 := by kernel_rfl
@[go_sem] theorem tzero88 : Abs.tzero Try.prog 88 = some [.t (.lit .nilFunc)] := by kernel_rfl
@[go_sem] theorem tok89 : Abs.tok Try.prog 89 = true := by kernel_rfl
@[go_sem] theorem tagg89 : Abs.tagg Try.prog 89 = false := by kernel_rfl
@[go_sem] theorem tsize89 : Abs.tsize Try.prog 89 = 1 := by kernel_rfl
@[go_sem] theorem tzero89 : Abs.tzero Try.prog 89 = some [.t (.lit .nilFunc)] := by kernel_rfl
@[go_sem] theorem tok90 : Abs.tok Try.prog 90 = true := by kernel_rfl
@[go_sem] theorem tagg90 : Abs.tagg Try.prog 90 = false := by kernel_rfl
@[go_sem] theorem tsize90 : Abs.tsize Try.prog 90 = 1 := by kernel_rfl
@[go_sem] theorem tzero90 : Abs.tzero Try.prog 90 = some [.t (.lit .nilFunc)] := by kernel_rfl
@[go_sem] theorem tok91 : Abs.tok Try.prog 91 = true := by kernel_rfl
@[go_sem] theorem tagg91 : Abs.tagg Try.prog 91 = false := by kernel_rfl
@[go_sem] theorem tsize91 : Abs.tsize Try.prog 91 = 1 := by kernel_rfl
@[go_sem] theorem tzero91 : Abs.tzero Try.prog 91 = some [.t (.lit .nilFunc)] := by kernel_rfl
@[go_sem] theorem tok92 : Abs.tok Try.prog 92 = true := by kernel_rfl
@[go_sem] theorem tagg92 : Abs.tagg Try.prog 92 = false := by kernel_rfl
@[go_sem] theorem tsize92 : Abs.tsize Try.prog 92 = 1 := by kernel_rfl
@[go_sem] theorem tzero92 : Abs.tzero Try.prog 92 = some [.t (.lit .nilFunc)] := by kernel_rfl
@[go_sem] theorem tok93 : Abs.tok Try.prog 93 = true := by kernel_rfl
@[go_sem] theorem tagg93 : Abs.tagg Try.prog 93 = false := by kernel_rfl
@[go_sem] theorem tsize93 : Abs.tsize Try.prog 93 = 1 := by kernel_rfl
@[go_sem] theorem tzero93 : Abs.tzero Try.prog 93 = some [.t (.lit .nilFunc)] := by kernel_rfl
@[go_sem] theorem tok94 : Abs.tok Try.prog 94 = true := by kernel_rfl
@[go_sem] theorem tagg94 : Abs.tagg Try.prog 94 = true := by kernel_rfl
@[go_sem] theorem tsize94 : Abs.tsize Try.prog 94 = 4 := by kernel_rfl
@[go_sem] theorem tzero94 : Abs.tzero Try.prog 94 = some [.t (.lit (.pointer none)), .t (.lit (.pointer none)), .t (.lit (.pointer none)), .t (.lit (.string ⟨#[]⟩))] := by kernel_rfl
@[go_sem] theorem tbytes94 : Abs.tbytes Try.prog 94 = 40 := by kernel_rfl
@[go_sem] theorem tst94 : Abs.isStructD (Abs.tdesc Try.prog 94) = true := by kernel_rfl
@[go_sem] theorem tnf94 : Abs.nfields Try.prog 94 = 4 := by kernel_rfl
@[go_sem] theorem tpt94 : Abs.partsTok Try.prog 94 = true := by kernel_rfl
@[go_sem] theorem tfo94_0 : Abs.foff Try.prog 94 0 = 0 := by kernel_rfl
@[go_sem] theorem tft94_0 : Abs.fty Try.prog 94 0 = 17 := by kernel_rfl
@[go_sem] theorem tpl94_0 : Abs.placesA Try.prog 94 0 = some (0, 1) := by kernel_rfl
@[go_sem] theorem tfo94_1 : Abs.foff Try.prog 94 1 = 1 := by kernel_rfl
@[go_sem] theorem tft94_1 : Abs.fty Try.prog 94 1 = 17 := by kernel_rfl
@[go_sem] theorem tpl94_1 : Abs.placesA Try.prog 94 1 = some (1, 1) := by kernel_rfl
@[go_sem] theorem tfo94_2 : Abs.foff Try.prog 94 2 = 2 := by kernel_rfl
@[go_sem] theorem tft94_2 : Abs.fty Try.prog 94 2 = 17 := by kernel_rfl
@[go_sem] theorem tpl94_2 : Abs.placesA Try.prog 94 2 = some (2, 1) := by kernel_rfl
@[go_sem] theorem tfo94_3 : Abs.foff Try.prog 94 3 = 3 := by kernel_rfl
@[go_sem] theorem tft94_3 : Abs.fty Try.prog 94 3 = 9 := by kernel_rfl
@[go_sem] theorem tpl94_3 : Abs.placesA Try.prog 94 3 = some (3, 1) := by kernel_rfl
@[go_sem] theorem tok95 : Abs.tok Try.prog 95 = true := by kernel_rfl
@[go_sem] theorem tagg95 : Abs.tagg Try.prog 95 = true := by kernel_rfl
@[go_sem] theorem tsize95 : Abs.tsize Try.prog 95 = 4 := by kernel_rfl
@[go_sem] theorem tzero95 : Abs.tzero Try.prog 95 = some [.t (.lit (.pointer none)), .t (.lit (.pointer none)), .t (.lit (.pointer none)), .t (.lit (.string ⟨#[]⟩))] := by kernel_rfl
@[go_sem] theorem tbytes95 : Abs.tbytes Try.prog 95 = 40 := by kernel_rfl
@[go_sem] theorem tst95 : Abs.isStructD (Abs.tdesc Try.prog 95) = true := by kernel_rfl
@[go_sem] theorem tnf95 : Abs.nfields Try.prog 95 = 4 := by kernel_rfl
@[go_sem] theorem tpt95 : Abs.partsTok Try.prog 95 = true := by kernel_rfl
@[go_sem] theorem tfo95_0 : Abs.foff Try.prog 95 0 = 0 := by kernel_rfl
@[go_sem] theorem tft95_0 : Abs.fty Try.prog 95 0 = 17 := by kernel_rfl
@[go_sem] theorem tpl95_0 : Abs.placesA Try.prog 95 0 = some (0, 1) := by kernel_rfl
@[go_sem] theorem tfo95_1 : Abs.foff Try.prog 95 1 = 1 := by kernel_rfl
@[go_sem] theorem tft95_1 : Abs.fty Try.prog 95 1 = 17 := by kernel_rfl
@[go_sem] theorem tpl95_1 : Abs.placesA Try.prog 95 1 = some (1, 1) := by kernel_rfl
@[go_sem] theorem tfo95_2 : Abs.foff Try.prog 95 2 = 2 := by kernel_rfl
@[go_sem] theorem tft95_2 : Abs.fty Try.prog 95 2 = 17 := by kernel_rfl
@[go_sem] theorem tpl95_2 : Abs.placesA Try.prog 95 2 = some (2, 1) := by kernel_rfl
@[go_sem] theorem tfo95_3 : Abs.foff Try.prog 95 3 = 3 := by kernel_rfl
@[go_sem] theorem tft95_3 : Abs.fty Try.prog 95 3 = 9 := by kernel_rfl
@[go_sem] theorem tpl95_3 : Abs.placesA Try.prog 95 3 = some (3, 1) := by kernel_rfl
@[go_sem] theorem tok96 : Abs.tok Try.prog 96 = true := by kernel_rfl
@[go_sem] theorem tagg96 : Abs.tagg Try.prog 96 = true := by kernel_rfl
@[go_sem] theorem tsize96 : Abs.tsize Try.prog 96 = 0 := by kernel_rfl
@[go_sem] theorem tzero96 : Abs.tzero Try.prog 96 = some [] := by kernel_rfl
@[go_sem] theorem tbytes96 : Abs.tbytes Try.prog 96 = 0 := by kernel_rfl
@[go_sem] theorem tsl96 : Abs.isSliceD (Abs.tdesc Try.prog 96) = false := by kernel_rfl
@[go_sem] theorem tar96 : Abs.isArrayD (Abs.tdesc Try.prog 96) = true := by kernel_rfl
@[go_sem] theorem telem96 : Abs.telem Try.prog 96 = 16 := by kernel_rfl
@[go_sem] theorem tlen96 : Abs.arrLen (Abs.tdesc Try.prog 96) = 0 := by kernel_rfl
@[go_sem] theorem tpt96 : Abs.partsTok Try.prog 96 = true := by kernel_rfl
@[go_sem] theorem tok97 : Abs.tok Try.prog 97 = true := by kernel_rfl
@[go_sem] theorem tagg97 : Abs.tagg Try.prog 97 = true := by kernel_rfl
@[go_sem] theorem tsize97 : Abs.tsize Try.prog 97 = 0 := by kernel_rfl
@[go_sem] theorem tzero97 : Abs.tzero Try.prog 97 = some [] := by kernel_rfl
@[go_sem] theorem tbytes97 : Abs.tbytes Try.prog 97 = 0 := by kernel_rfl
@[go_sem] theorem tst97 : Abs.isStructD (Abs.tdesc Try.prog 97) = true := by kernel_rfl
@[go_sem] theorem tnf97 : Abs.nfields Try.prog 97 = 1 := by kernel_rfl
@[go_sem] theorem tpt97 : Abs.partsTok Try.prog 97 = true := by kernel_rfl
@[go_sem] theorem tfo97_0 : Abs.foff Try.prog 97 0 = 0 := by kernel_rfl
@[go_sem] theorem tft97_0 : Abs.fty Try.prog 97 0 = 96 := by kernel_rfl
@[go_sem] theorem tpl97_0 : Abs.placesA Try.prog 97 0 = some (0, 0) := by kernel_rfl
@[go_sem] theorem tok98 : Abs.tok Try.prog 98 = true := by kernel_rfl
@[go_sem] theorem tagg98 : Abs.tagg Try.prog 98 = true := by kernel_rfl
@[go_sem] theorem tsize98 : Abs.tsize Try.prog 98 = 0 := by kernel_rfl
@[go_sem] theorem tzero98 : Abs.tzero Try.prog 98 = some [] := by kernel_rfl
@[go_sem] theorem tbytes98 : Abs.tbytes Try.prog 98 = 0 := by kernel_rfl
@[go_sem] theorem tst98 : Abs.isStructD (Abs.tdesc Try.prog 98) = true := by kernel_rfl
@[go_sem] theorem tnf98 : Abs.nfields Try.prog 98 = 1 := by kernel_rfl
@[go_sem] theorem tpt98 : Abs.partsTok Try.prog 98 = true := by kernel_rfl
@[go_sem] theorem tfo98_0 : Abs.foff Try.prog 98 0 = 0 := by kernel_rfl
@[go_sem] theorem tft98_0 : Abs.fty Try.prog 98 0 = 96 := by kernel_rfl
@[go_sem] theorem tpl98_0 : Abs.placesA Try.prog 98 0 = some (0, 0) := by kernel_rfl
@[go_sem] theorem tok99 : Abs.tok Try.prog 99 = true := by kernel_rfl
@[go_sem] theorem tagg99 : Abs.tagg Try.prog 99 = false := by kernel_rfl
@[go_sem] theorem tsize99 : Abs.tsize Try.prog 99 = 1 := by kernel_rfl
@[go_sem] theorem tzero99 : Abs.tzero Try.prog 99 = some [.t (.lit .nilFunc)] := by kernel_rfl
@[go_sem] theorem tok100 : Abs.tok Try.prog 100 = true := by kernel_rfl
@[go_sem] theorem tagg100 : Abs.tagg Try.prog 100 = false := by kernel_rfl
@[go_sem] theorem tsize100 : Abs.tsize Try.prog 100 = 1 := by kernel_rfl
@[go_sem] theorem tzero100 : Abs.tzero Try.prog 100 = some [.t (.lit (.int .u8 0))] := by kernel_rfl
@[go_sem] theorem tbytes100 : Abs.tbytes Try.prog 100 = 1 := by kernel_rfl
@[go_sem] theorem tint100 : Abs.intD (Abs.tdesc Try.prog 100) = some .u8 := by kernel_rfl
@[go_sem] theorem tok101 : Abs.tok Try.prog 101 = true := by kernel_rfl
@[go_sem] theorem tagg101 : Abs.tagg Try.prog 101 = false := by kernel_rfl
@[go_sem] theorem tsize101 : Abs.tsize Try.prog 101 = 1 := by kernel_rfl
@[go_sem] theorem tzero101 : Abs.tzero Try.prog 101 = some [.t (.lit (.int .u8 0))] := by kernel_rfl
@[go_sem] theorem tbytes101 : Abs.tbytes Try.prog 101 = 1 := by kernel_rfl
@[go_sem] theorem tint101 : Abs.intD (Abs.tdesc Try.prog 101) = some .u8 := by kernel_rfl
@[go_sem] theorem tok102 : Abs.tok Try.prog 102 = true := by kernel_rfl
@[go_sem] theorem tagg102 : Abs.tagg Try.prog 102 = false := by kernel_rfl
@[go_sem] theorem tsize102 : Abs.tsize Try.prog 102 = 1 := by kernel_rfl
@[go_sem] theorem tzero102 : Abs.tzero Try.prog 102 = some [.t (.lit .nilFunc)] := by kernel_rfl
@[go_sem] theorem tok103 : Abs.tok Try.prog 103 = true := by kernel_rfl
@[go_sem] theorem tagg103 : Abs.tagg Try.prog 103 = false := by kernel_rfl
@[go_sem] theorem tsize103 : Abs.tsize Try.prog 103 = 1 := by kernel_rfl
@[go_sem] theorem tzero103 : Abs.tzero Try.prog 103 = some [.t (.lit (.pointer none))] := by kernel_rfl
@[go_sem] theorem tbytes103 : Abs.tbytes Try.prog 103 = 8 := by kernel_rfl
@[go_sem] theorem tok104 : Abs.tok Try.prog 104 = true := by kernel_rfl
@[go_sem] theorem tagg104 : Abs.tagg Try.prog 104 = false := by kernel_rfl
@[go_sem] theorem tsize104 : Abs.tsize Try.prog 104 = 1 := by kernel_rfl
@[go_sem] theorem tzero104 : Abs.tzero Try.prog 104 = some [.t (.lit (.int .i32 0))] := by kernel_rfl
@[go_sem] theorem tbytes104 : Abs.tbytes Try.prog 104 = 4 := by kernel_rfl
@[go_sem] theorem tint104 : Abs.intD (Abs.tdesc Try.prog 104) = some .i32 := by kernel_rfl
@[go_sem] theorem tok105 : Abs.tok Try.prog 105 = true := by kernel_rfl
@[go_sem] theorem tagg105 : Abs.tagg Try.prog 105 = false := by kernel_rfl
@[go_sem] theorem tsize105 : Abs.tsize Try.prog 105 = 1 := by kernel_rfl
@[go_sem] theorem tzero105 : Abs.tzero Try.prog 105 = some [.t (.lit (.int .i32 0))] := by kernel_rfl
@[go_sem] theorem tbytes105 : Abs.tbytes Try.prog 105 = 4 := by kernel_rfl
@[go_sem] theorem tint105 : Abs.intD (Abs.tdesc Try.prog 105) = some .i32 := by kernel_rfl
@[go_sem] theorem tok106 : Abs.tok Try.prog 106 = true := by kernel_rfl
@[go_sem] theorem tagg106 : Abs.tagg Try.prog 106 = true := by kernel_rfl
@[go_sem] theorem tsize106 : Abs.tsize Try.prog 106 = 11 := by kernel_rfl
@[go_sem] theorem tzero106 : Abs.tzero Try.prog 106 = some [.t (.lit (.int .u64 0)), .t (.lit (.int .u64 0)), .t (.lit (.int .u32 0)), .t (.lit (.int .u8 0)), .t (.lit (.int .u8 0)), .t (.lit (.int .u8 0)), .t (.lit (.int .u8 0)), .t (.lit .nilFunc), .t (.lit (.pointer none)), .t (.lit (.int .i32 0)), .t (.lit (.int .i32 0))] := by kernel_rfl
@[go_sem] theorem tbytes106 : Abs.tbytes Try.prog 106 = 48 := by kernel_rfl
@[go_sem] theorem tst106 : Abs.isStructD (Abs.tdesc Try.prog 106) = true := by kernel_rfl
@[go_sem] theorem tnf106 : Abs.nfields Try.prog 106 = 11 := by kernel_rfl
@[go_sem] theorem tpt106 : Abs.partsTok Try.prog 106 = true := by kernel_rfl
@[go_sem] theorem tfo106_0 : Abs.foff Try.prog 106 0 = 0 := by kernel_rfl
@[go_sem] theorem tft106_0 : Abs.fty Try.prog 106 0 = 12 := by kernel_rfl
@[go_sem] theorem tpl106_0 : Abs.placesA Try.prog 106 0 = some (0, 1) := by kernel_rfl
@[go_sem] theorem tfo106_1 : Abs.foff Try.prog 106 1 = 1 := by kernel_rfl
@[go_sem] theorem tft106_1 : Abs.fty Try.prog 106 1 = 12 := by kernel_rfl
@[go_sem] theorem tpl106_1 : Abs.placesA Try.prog 106 1 = some (1, 1) := by kernel_rfl
@[go_sem] theorem tfo106_2 : Abs.foff Try.prog 106 2 = 2 := by kernel_rfl
@[go_sem] theorem tft106_2 : Abs.fty Try.prog 106 2 = 64 := by kernel_rfl
@[go_sem] theorem tpl106_2 : Abs.placesA Try.prog 106 2 = some (2, 1) := by kernel_rfl
@[go_sem] theorem tfo106_3 : Abs.foff Try.prog 106 3 = 3 := by kernel_rfl
@[go_sem] theorem tft106_3 : Abs.fty Try.prog 106 3 = 100 := by kernel_rfl
@[go_sem] theorem tpl106_3 : Abs.placesA Try.prog 106 3 = some (3, 1) := by kernel_rfl
@[go_sem] theorem tfo106_4 : Abs.foff Try.prog 106 4 = 4 := by kernel_rfl
@[go_sem] theorem tft106_4 : Abs.fty Try.prog 106 4 = 5 := by kernel_rfl
@[go_sem] theorem tpl106_4 : Abs.placesA Try.prog 106 4 = some (4, 1) := by kernel_rfl
@[go_sem] theorem tfo106_5 : Abs.foff Try.prog 106 5 = 5 := by kernel_rfl
@[go_sem] theorem tft106_5 : Abs.fty Try.prog 106 5 = 5 := by kernel_rfl
@[go_sem] theorem tpl106_5 : Abs.placesA Try.prog 106 5 = some (5, 1) := by kernel_rfl
@[go_sem] theorem tfo106_6 : Abs.foff Try.prog 106 6 = 6 := by kernel_rfl
@[go_sem] theorem tft106_6 : Abs.fty Try.prog 106 6 = 101 := by kernel_rfl
@[go_sem] theorem tpl106_6 : Abs.placesA Try.prog 106 6 = some (6, 1) := by kernel_rfl
@[go_sem] theorem tfo106_7 : Abs.foff Try.prog 106 7 = 7 := by kernel_rfl
@[go_sem] theorem tft106_7 : Abs.fty Try.prog 106 7 = 102 := by kernel_rfl
@[go_sem] theorem tpl106_7 : Abs.placesA Try.prog 106 7 = some (7, 1) := by kernel_rfl
@[go_sem] theorem tfo106_8 : Abs.foff Try.prog 106 8 = 8 := by kernel_rfl
@[go_sem] theorem tft106_8 : Abs.fty Try.prog 106 8 = 103 := by kernel_rfl
@[go_sem] theorem tpl106_8 : Abs.placesA Try.prog 106 8 = some (8, 1) := by kernel_rfl
@[go_sem] theorem tfo106_9 : Abs.foff Try.prog 106 9 = 9 := by kernel_rfl
@[go_sem] theorem tft106_9 : Abs.fty Try.prog 106 9 = 104 := by kernel_rfl
@[go_sem] theorem tpl106_9 : Abs.placesA Try.prog 106 9 = some (9, 1) := by kernel_rfl
@[go_sem] theorem tfo106_10 : Abs.foff Try.prog 106 10 = 10 := by kernel_rfl
@[go_sem] theorem tft106_10 : Abs.fty Try.prog 106 10 = 105 := by kernel_rfl
@[go_sem] theorem tpl106_10 : Abs.placesA Try.prog 106 10 = some (10, 1) := by kernel_rfl
@[go_sem] theorem tok107 : Abs.tok Try.prog 107 = true := by kernel_rfl
@[go_sem] theorem tagg107 : Abs.tagg Try.prog 107 = true := by kernel_rfl
@[go_sem] theorem tsize107 : Abs.tsize Try.prog 107 = 11 := by kernel_rfl
@[go_sem] theorem tzero107 : Abs.tzero Try.prog 107 = some [.t (.lit (.int .u64 0)), .t (.lit (.int .u64 0)), .t (.lit (.int .u32 0)), .t (.lit (.int .u8 0)), .t (.lit (.int .u8 0)), .t (.lit (.int .u8 0)), .t (.lit (.int .u8 0)), .t (.lit .nilFunc), .t (.lit (.pointer none)), .t (.lit (.int .i32 0)), .t (.lit (.int .i32 0))] := by kernel_rfl
@[go_sem] theorem tbytes107 : Abs.tbytes Try.prog 107 = 48 := by kernel_rfl
@[go_sem] theorem tst107 : Abs.isStructD (Abs.tdesc Try.prog 107) = true := by kernel_rfl
@[go_sem] theorem tnf107 : Abs.nfields Try.prog 107 = 11 := by kernel_rfl
@[go_sem] theorem tpt107 : Abs.partsTok Try.prog 107 = true := by kernel_rfl
@[go_sem] theorem tfo107_0 : Abs.foff Try.prog 107 0 = 0 := by kernel_rfl
@[go_sem] theorem tft107_0 : Abs.fty Try.prog 107 0 = 12 := by kernel_rfl
@[go_sem] theorem tpl107_0 : Abs.placesA Try.prog 107 0 = some (0, 1) := by kernel_rfl
@[go_sem] theorem tfo107_1 : Abs.foff Try.prog 107 1 = 1 := by kernel_rfl
@[go_sem] theorem tft107_1 : Abs.fty Try.prog 107 1 = 12 := by kernel_rfl
@[go_sem] theorem tpl107_1 : Abs.placesA Try.prog 107 1 = some (1, 1) := by kernel_rfl
@[go_sem] theorem tfo107_2 : Abs.foff Try.prog 107 2 = 2 := by kernel_rfl
@[go_sem] theorem tft107_2 : Abs.fty Try.prog 107 2 = 64 := by kernel_rfl
@[go_sem] theorem tpl107_2 : Abs.placesA Try.prog 107 2 = some (2, 1) := by kernel_rfl
@[go_sem] theorem tfo107_3 : Abs.foff Try.prog 107 3 = 3 := by kernel_rfl
@[go_sem] theorem tft107_3 : Abs.fty Try.prog 107 3 = 100 := by kernel_rfl
@[go_sem] theorem tpl107_3 : Abs.placesA Try.prog 107 3 = some (3, 1) := by kernel_rfl
@[go_sem] theorem tfo107_4 : Abs.foff Try.prog 107 4 = 4 := by kernel_rfl
@[go_sem] theorem tft107_4 : Abs.fty Try.prog 107 4 = 5 := by kernel_rfl
@[go_sem] theorem tpl107_4 : Abs.placesA Try.prog 107 4 = some (4, 1) := by kernel_rfl
@[go_sem] theorem tfo107_5 : Abs.foff Try.prog 107 5 = 5 := by kernel_rfl
@[go_sem] theorem tft107_5 : Abs.fty Try.prog 107 5 = 5 := by kernel_rfl
@[go_sem] theorem tpl107_5 : Abs.placesA Try.prog 107 5 = some (5, 1) := by kernel_rfl
@[go_sem] theorem tfo107_6 : Abs.foff Try.prog 107 6 = 6 := by kernel_rfl
@[go_sem] theorem tft107_6 : Abs.fty Try.prog 107 6 = 101 := by kernel_rfl
@[go_sem] theorem tpl107_6 : Abs.placesA Try.prog 107 6 = some (6, 1) := by kernel_rfl
@[go_sem] theorem tfo107_7 : Abs.foff Try.prog 107 7 = 7 := by kernel_rfl
@[go_sem] theorem tft107_7 : Abs.fty Try.prog 107 7 = 102 := by kernel_rfl
@[go_sem] theorem tpl107_7 : Abs.placesA Try.prog 107 7 = some (7, 1) := by kernel_rfl
@[go_sem] theorem tfo107_8 : Abs.foff Try.prog 107 8 = 8 := by kernel_rfl
@[go_sem] theorem tft107_8 : Abs.fty Try.prog 107 8 = 103 := by kernel_rfl
@[go_sem] theorem tpl107_8 : Abs.placesA Try.prog 107 8 = some (8, 1) := by kernel_rfl
@[go_sem] theorem tfo107_9 : Abs.foff Try.prog 107 9 = 9 := by kernel_rfl
@[go_sem] theorem tft107_9 : Abs.fty Try.prog 107 9 = 104 := by kernel_rfl
@[go_sem] theorem tpl107_9 : Abs.placesA Try.prog 107 9 = some (9, 1) := by kernel_rfl
@[go_sem] theorem tfo107_10 : Abs.foff Try.prog 107 10 = 10 := by kernel_rfl
@[go_sem] theorem tft107_10 : Abs.fty Try.prog 107 10 = 105 := by kernel_rfl
@[go_sem] theorem tpl107_10 : Abs.placesA Try.prog 107 10 = some (10, 1) := by kernel_rfl
@[go_sem] theorem tok108 : Abs.tok Try.prog 108 = true := by kernel_rfl
@[go_sem] theorem tagg108 : Abs.tagg Try.prog 108 = false := by kernel_rfl
@[go_sem] theorem tsize108 : Abs.tsize Try.prog 108 = 1 := by kernel_rfl
@[go_sem] theorem tzero108 : Abs.tzero Try.prog 108 = some [.t (.lit (.pointer none))] := by kernel_rfl
@[go_sem] theorem tbytes108 : Abs.tbytes Try.prog 108 = 8 := by kernel_rfl
end Go.Proofs.Ytohpbppplfdieaa
