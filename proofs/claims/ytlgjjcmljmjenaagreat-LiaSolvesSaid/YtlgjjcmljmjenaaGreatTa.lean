/- At every input the call answers true and leaves its arguments as they were; no conditions. -/
import Derived.Test.YtlgjjcmljmjenaaGreatProg
import Derived.KernelRfl
import Derived.Test.YtlgjjcmljmjenaaGreatAc
set_option linter.unusedSimpArgs false
set_option linter.unusedVariables false
set_option maxRecDepth 100000
namespace Go.Proofs.YtlgjjcmljmjenaaGreat
open Go Go.Abs Go.Proofs.Tryz
@[go_sem] theorem tok2:Abs.tok prog 2=true:=by kernel_rfl
@[go_sem] theorem tagg2:Abs.tagg prog 2=false:=by kernel_rfl
@[go_sem] theorem tsize2:Abs.tsize prog 2=1:=by kernel_rfl
@[go_sem] theorem tzero2:Abs.tzero prog 2=some [.t (.lit (.int .i64 0))]:=by kernel_rfl
@[go_sem] theorem tbytes2:Abs.tbytes prog 2=8:=by kernel_rfl
@[go_sem] theorem tint2:Abs.intD (Abs.tdesc prog 2)=some .i64:=by kernel_rfl
@[go_sem] theorem tok3:Abs.tok prog 3=true:=by kernel_rfl
@[go_sem] theorem tagg3:Abs.tagg prog 3=false:=by kernel_rfl
@[go_sem] theorem tsize3:Abs.tsize prog 3=1:=by kernel_rfl
@[go_sem] theorem tzero3:Abs.tzero prog 3=some [.t (.lit (.int .i64 0))]:=by kernel_rfl
@[go_sem] theorem tbytes3:Abs.tbytes prog 3=8:=by kernel_rfl
@[go_sem] theorem tint3:Abs.intD (Abs.tdesc prog 3)=some .i64:=by kernel_rfl
@[go_sem] theorem tok4:Abs.tok prog 4=true:=by kernel_rfl
@[go_sem] theorem tagg4:Abs.tagg prog 4=false:=by kernel_rfl
@[go_sem] theorem tsize4:Abs.tsize prog 4=1:=by kernel_rfl
@[go_sem] theorem tzero4:Abs.tzero prog 4=some [.t (.lit (.bool false))]:=by kernel_rfl
@[go_sem] theorem tbytes4:Abs.tbytes prog 4=1:=by kernel_rfl
@[go_sem] theorem tbool4:Abs.tdesc prog 4 = .bool:=by kernel_rfl
@[go_sem] theorem tok5:Abs.tok prog 5=true:=by kernel_rfl
@[go_sem] theorem tagg5:Abs.tagg prog 5=false:=by kernel_rfl
@[go_sem] theorem tsize5:Abs.tsize prog 5=1:=by kernel_rfl
@[go_sem] theorem tzero5:Abs.tzero prog 5=some [.t (.lit (.int .u8 0))]:=by kernel_rfl
@[go_sem] theorem tbytes5:Abs.tbytes prog 5=1:=by kernel_rfl
@[go_sem] theorem tint5:Abs.intD (Abs.tdesc prog 5)=some .u8:=by kernel_rfl
@[go_sem] theorem tok22:Abs.tok prog 22=true:=by kernel_rfl
@[go_sem] theorem tagg22:Abs.tagg prog 22=false:=by kernel_rfl
@[go_sem] theorem tsize22:Abs.tsize prog 22=1:=by kernel_rfl
@[go_sem] theorem tzero22:Abs.tzero prog 22=some [.t (.seq (some true) [])]:=by kernel_rfl
@[go_sem] theorem tbytes22:Abs.tbytes prog 22=24:=by kernel_rfl
@[go_sem] theorem tsl22:Abs.isSliceD (Abs.tdesc prog 22)=true:=by kernel_rfl
@[go_sem] theorem telem22:Abs.telem prog 22=32:=by kernel_rfl
@[go_sem] theorem tok23:Abs.tok prog 23=true:=by kernel_rfl
@[go_sem] theorem tagg23:Abs.tagg prog 23=false:=by kernel_rfl
@[go_sem] theorem tsize23:Abs.tsize prog 23=1:=by kernel_rfl
@[go_sem] theorem tzero23:Abs.tzero prog 23=some [.t (.seq (some true) [])]:=by kernel_rfl
@[go_sem] theorem tbytes23:Abs.tbytes prog 23=24:=by kernel_rfl
@[go_sem] theorem tsl23:Abs.isSliceD (Abs.tdesc prog 23)=true:=by kernel_rfl
@[go_sem] theorem telem23:Abs.telem prog 23=30:=by kernel_rfl
@[go_sem] theorem tok26:Abs.tok prog 26=true:=by kernel_rfl
@[go_sem] theorem tagg26:Abs.tagg prog 26=false:=by kernel_rfl
@[go_sem] theorem tsize26:Abs.tsize prog 26=1:=by kernel_rfl
@[go_sem] theorem tzero26:Abs.tzero prog 26=some [.t (.lit .nilFunc)]:=by kernel_rfl
@[go_sem] theorem tok27:Abs.tok prog 27=true:=by kernel_rfl
@[go_sem] theorem tagg27:Abs.tagg prog 27=false:=by kernel_rfl
@[go_sem] theorem tsize27:Abs.tsize prog 27=1:=by kernel_rfl
@[go_sem] theorem tzero27:Abs.tzero prog 27=some [.t (.seq (some true) [])]:=by kernel_rfl
@[go_sem] theorem tbytes27:Abs.tbytes prog 27=24:=by kernel_rfl
@[go_sem] theorem tsl27:Abs.isSliceD (Abs.tdesc prog 27)=true:=by kernel_rfl
@[go_sem] theorem telem27:Abs.telem prog 27=34:=by kernel_rfl
@[go_sem] theorem tok28:Abs.tok prog 28=true:=by kernel_rfl
@[go_sem] theorem tagg28:Abs.tagg prog 28=false:=by kernel_rfl
@[go_sem] theorem tsize28:Abs.tsize prog 28=1:=by kernel_rfl
@[go_sem] theorem tzero28:Abs.tzero prog 28=some [.t (.seq (some true) [])]:=by kernel_rfl
@[go_sem] theorem tbytes28:Abs.tbytes prog 28=24:=by kernel_rfl
@[go_sem] theorem tsl28:Abs.isSliceD (Abs.tdesc prog 28)=true:=by kernel_rfl
@[go_sem] theorem telem28:Abs.telem prog 28=89:=by kernel_rfl
@[go_sem] theorem tok30:Abs.tok prog 30=true:=by kernel_rfl
@[go_sem] theorem tagg30:Abs.tagg prog 30=true:=by kernel_rfl
@[go_sem] theorem tsize30:Abs.tsize prog 30=2:=by kernel_rfl
@[go_sem] theorem tzero30:Abs.tzero prog 30=some [.t (.lit (.bool false)),.t (.seq (some true) [])]:=by kernel_rfl
@[go_sem] theorem tbytes30:Abs.tbytes prog 30=32:=by kernel_rfl
@[go_sem] theorem tst30:Abs.isStructD (Abs.tdesc prog 30)=true:=by kernel_rfl
@[go_sem] theorem tnf30:Abs.nfields prog 30=2:=by kernel_rfl
@[go_sem] theorem tpt30:Abs.partsTok prog 30=true:=by kernel_rfl
@[go_sem] theorem tfo30_0:Abs.foff prog 30 0=0:=by kernel_rfl
@[go_sem] theorem tft30_0:Abs.fty prog 30 0=4:=by kernel_rfl
@[go_sem] theorem tpl30_0:Abs.placesA prog 30 0=some (0,1):=by kernel_rfl
@[go_sem] theorem tfo30_1:Abs.foff prog 30 1=1:=by kernel_rfl
@[go_sem] theorem tft30_1:Abs.fty prog 30 1=28:=by kernel_rfl
@[go_sem] theorem tpl30_1:Abs.placesA prog 30 1=some (1,1):=by kernel_rfl
@[go_sem] theorem tok32:Abs.tok prog 32=true:=by kernel_rfl
@[go_sem] theorem tagg32:Abs.tagg prog 32=true:=by kernel_rfl
@[go_sem] theorem tsize32:Abs.tsize prog 32=3:=by kernel_rfl
@[go_sem] theorem tzero32:Abs.tzero prog 32=some [.t (.seq (some true) []),.t (.lit (.bool false)),.t (.seq (some true) [])]:=by kernel_rfl
@[go_sem] theorem tbytes32:Abs.tbytes prog 32=56:=by kernel_rfl
@[go_sem] theorem tst32:Abs.isStructD (Abs.tdesc prog 32)=true:=by kernel_rfl
@[go_sem] theorem tnf32:Abs.nfields prog 32=2:=by kernel_rfl
@[go_sem] theorem tpt32:Abs.partsTok prog 32=true:=by kernel_rfl
@[go_sem] theorem tfo32_0:Abs.foff prog 32 0=0:=by kernel_rfl
@[go_sem] theorem tft32_0:Abs.fty prog 32 0=27:=by kernel_rfl
@[go_sem] theorem tpl32_0:Abs.placesA prog 32 0=some (0,1):=by kernel_rfl
@[go_sem] theorem tfo32_1:Abs.foff prog 32 1=1:=by kernel_rfl
@[go_sem] theorem tft32_1:Abs.fty prog 32 1=30:=by kernel_rfl
@[go_sem] theorem tpl32_1:Abs.placesA prog 32 1=some (1,2):=by kernel_rfl
@[go_sem] theorem tok34:Abs.tok prog 34=true:=by kernel_rfl
@[go_sem] theorem tagg34:Abs.tagg prog 34=true:=by kernel_rfl
@[go_sem] theorem tsize34:Abs.tsize prog 34=3:=by kernel_rfl
@[go_sem] theorem tzero34:Abs.tzero prog 34=some [.t (.lit (.int .i64 0)),.t (.lit (.bool false)),.t (.seq (some true) [])]:=by kernel_rfl
@[go_sem] theorem tbytes34:Abs.tbytes prog 34=40:=by kernel_rfl
@[go_sem] theorem tst34:Abs.isStructD (Abs.tdesc prog 34)=true:=by kernel_rfl
@[go_sem] theorem tnf34:Abs.nfields prog 34=2:=by kernel_rfl
@[go_sem] theorem tpt34:Abs.partsTok prog 34=true:=by kernel_rfl
@[go_sem] theorem tfo34_0:Abs.foff prog 34 0=0:=by kernel_rfl
@[go_sem] theorem tft34_0:Abs.fty prog 34 0=3:=by kernel_rfl
@[go_sem] theorem tpl34_0:Abs.placesA prog 34 0=some (0,1):=by kernel_rfl
@[go_sem] theorem tfo34_1:Abs.foff prog 34 1=1:=by kernel_rfl
@[go_sem] theorem tft34_1:Abs.fty prog 34 1=30:=by kernel_rfl
@[go_sem] theorem tpl34_1:Abs.placesA prog 34 1=some (1,2):=by kernel_rfl
@[go_sem] theorem tok35:Abs.tok prog 35=true:=by kernel_rfl
@[go_sem] theorem tagg35:Abs.tagg prog 35=false:=by kernel_rfl
@[go_sem] theorem tsize35:Abs.tsize prog 35=1:=by kernel_rfl
@[go_sem] theorem tzero35:Abs.tzero prog 35=some [.t (.lit (.int .i64 0))]:=by kernel_rfl
@[go_sem] theorem tbytes35:Abs.tbytes prog 35=8:=by kernel_rfl
@[go_sem] theorem tint35:Abs.intD (Abs.tdesc prog 35)=some .i64:=by kernel_rfl
@[go_sem] theorem tok41:Abs.tok prog 41=true:=by kernel_rfl
@[go_sem] theorem tagg41:Abs.tagg prog 41=false:=by kernel_rfl
@[go_sem] theorem tsize41:Abs.tsize prog 41=1:=by kernel_rfl
@[go_sem] theorem tzero41:Abs.tzero prog 41=some [.t (.seq (some true) [])]:=by kernel_rfl
@[go_sem] theorem tbytes41:Abs.tbytes prog 41=24:=by kernel_rfl
@[go_sem] theorem tsl41:Abs.isSliceD (Abs.tdesc prog 41)=true:=by kernel_rfl
@[go_sem] theorem telem41:Abs.telem prog 41=3:=by kernel_rfl
@[go_sem] theorem tok69:Abs.tok prog 69=true:=by kernel_rfl
@[go_sem] theorem tagg69:Abs.tagg prog 69=true:=by kernel_rfl
@[go_sem] theorem tsize69:Abs.tsize prog 69=2:=by kernel_rfl
@[go_sem] theorem tzero69:Abs.tzero prog 69=some [.t (.seq (some true) []),.t (.lit (.int .i64 0))]:=by kernel_rfl
@[go_sem] theorem tbytes69:Abs.tbytes prog 69=32:=by kernel_rfl
@[go_sem] theorem tst69:Abs.isStructD (Abs.tdesc prog 69)=true:=by kernel_rfl
@[go_sem] theorem tnf69:Abs.nfields prog 69=2:=by kernel_rfl
@[go_sem] theorem tpt69:Abs.partsTok prog 69=true:=by kernel_rfl
@[go_sem] theorem tfo69_0:Abs.foff prog 69 0=0:=by kernel_rfl
@[go_sem] theorem tft69_0:Abs.fty prog 69 0=22:=by kernel_rfl
@[go_sem] theorem tpl69_0:Abs.placesA prog 69 0=some (0,1):=by kernel_rfl
@[go_sem] theorem tfo69_1:Abs.foff prog 69 1=1:=by kernel_rfl
@[go_sem] theorem tft69_1:Abs.fty prog 69 1=3:=by kernel_rfl
@[go_sem] theorem tpl69_1:Abs.placesA prog 69 1=some (1,1):=by kernel_rfl
@[go_sem] theorem tok73:Abs.tok prog 73=true:=by kernel_rfl
@[go_sem] theorem tagg73:Abs.tagg prog 73=false:=by kernel_rfl
@[go_sem] theorem tsize73:Abs.tsize prog 73=1:=by kernel_rfl
@[go_sem] theorem tzero73:Abs.tzero prog 73=some [.t (.seq (some true) [])]:=by kernel_rfl
@[go_sem] theorem tbytes73:Abs.tbytes prog 73=24:=by kernel_rfl
@[go_sem] theorem tsl73:Abs.isSliceD (Abs.tdesc prog 73)=true:=by kernel_rfl
@[go_sem] theorem telem73:Abs.telem prog 73=77:=by kernel_rfl
@[go_sem] theorem tok77:Abs.tok prog 77=true:=by kernel_rfl
@[go_sem] theorem tagg77:Abs.tagg prog 77=true:=by kernel_rfl
@[go_sem] theorem tsize77:Abs.tsize prog 77=3:=by kernel_rfl
@[go_sem] theorem tzero77:Abs.tzero prog 77=some [.t (.lit (.bool false)),.t (.seq (some true) []),.t (.seq (some true) [])]:=by kernel_rfl
@[go_sem] theorem tbytes77:Abs.tbytes prog 77=56:=by kernel_rfl
@[go_sem] theorem tst77:Abs.isStructD (Abs.tdesc prog 77)=true:=by kernel_rfl
@[go_sem] theorem tnf77:Abs.nfields prog 77=2:=by kernel_rfl
@[go_sem] theorem tpt77:Abs.partsTok prog 77=true:=by kernel_rfl
@[go_sem] theorem tfo77_0:Abs.foff prog 77 0=0:=by kernel_rfl
@[go_sem] theorem tft77_0:Abs.fty prog 77 0=30:=by kernel_rfl
@[go_sem] theorem tpl77_0:Abs.placesA prog 77 0=some (0,2):=by kernel_rfl
@[go_sem] theorem tfo77_1:Abs.foff prog 77 1=2:=by kernel_rfl
@[go_sem] theorem tft77_1:Abs.fty prog 77 1=28:=by kernel_rfl
@[go_sem] theorem tpl77_1:Abs.placesA prog 77 1=some (2,1):=by kernel_rfl
@[go_sem] theorem tok87:Abs.tok prog 87=true:=by kernel_rfl
@[go_sem] theorem tagg87:Abs.tagg prog 87=false:=by kernel_rfl
@[go_sem] theorem tsize87:Abs.tsize prog 87=1:=by kernel_rfl
@[go_sem] theorem tzero87:Abs.tzero prog 87=some [.t (.lit (.int .u64 0))]:=by kernel_rfl
@[go_sem] theorem tbytes87:Abs.tbytes prog 87=8:=by kernel_rfl
@[go_sem] theorem tint87:Abs.intD (Abs.tdesc prog 87)=some .u64:=by kernel_rfl
@[go_sem] theorem tok89:Abs.tok prog 89=true:=by kernel_rfl
@[go_sem] theorem tagg89:Abs.tagg prog 89=false:=by kernel_rfl
@[go_sem] theorem tsize89:Abs.tsize prog 89=1:=by kernel_rfl
@[go_sem] theorem tzero89:Abs.tzero prog 89=some [.t (.lit (.int .u32 0))]:=by kernel_rfl
@[go_sem] theorem tbytes89:Abs.tbytes prog 89=4:=by kernel_rfl
@[go_sem] theorem tint89:Abs.intD (Abs.tdesc prog 89)=some .u32:=by kernel_rfl
@[go_sem] theorem tok93:Abs.tok prog 93=true:=by kernel_rfl
@[go_sem] theorem tagg93:Abs.tagg prog 93=true:=by kernel_rfl
@[go_sem] theorem tsize93:Abs.tsize prog 93=3:=by kernel_rfl
@[go_sem] theorem tzero93:Abs.tzero prog 93=some [.t (.seq (some true) []),.t (.lit (.int .i64 0)),.t (.seq (some true) [])]:=by kernel_rfl
@[go_sem] theorem tbytes93:Abs.tbytes prog 93=56:=by kernel_rfl
@[go_sem] theorem tst93:Abs.isStructD (Abs.tdesc prog 93)=true:=by kernel_rfl
@[go_sem] theorem tnf93:Abs.nfields prog 93=2:=by kernel_rfl
@[go_sem] theorem tpt93:Abs.partsTok prog 93=true:=by kernel_rfl
@[go_sem] theorem tfo93_0:Abs.foff prog 93 0=0:=by kernel_rfl
@[go_sem] theorem tft93_0:Abs.fty prog 93 0=69:=by kernel_rfl
@[go_sem] theorem tpl93_0:Abs.placesA prog 93 0=some (0,2):=by kernel_rfl
@[go_sem] theorem tfo93_1:Abs.foff prog 93 1=2:=by kernel_rfl
@[go_sem] theorem tft93_1:Abs.fty prog 93 1=22:=by kernel_rfl
@[go_sem] theorem tpl93_1:Abs.placesA prog 93 1=some (2,1):=by kernel_rfl
@[go_sem] theorem tok97:Abs.tok prog 97=true:=by kernel_rfl
@[go_sem] theorem tagg97:Abs.tagg prog 97=false:=by kernel_rfl
@[go_sem] theorem tsize97:Abs.tsize prog 97=1:=by kernel_rfl
@[go_sem] theorem tzero97:Abs.tzero prog 97=some [.t (.lit (.pointer none))]:=by kernel_rfl
@[go_sem] theorem tbytes97:Abs.tbytes prog 97=8:=by kernel_rfl
@[go_sem] theorem tok99:Abs.tok prog 99=true:=by kernel_rfl
@[go_sem] theorem tagg99:Abs.tagg prog 99=false:=by kernel_rfl
@[go_sem] theorem tsize99:Abs.tsize prog 99=1:=by kernel_rfl
@[go_sem] theorem tzero99:Abs.tzero prog 99=some [.t (.lit (.pointer none))]:=by kernel_rfl
@[go_sem] theorem tbytes99:Abs.tbytes prog 99=8:=by kernel_rfl
@[go_sem] theorem tok103:Abs.tok prog 103=true:=by kernel_rfl
@[go_sem] theorem tagg103:Abs.tagg prog 103=false:=by kernel_rfl
@[go_sem] theorem tsize103:Abs.tsize prog 103=1:=by kernel_rfl
@[go_sem] theorem tzero103:Abs.tzero prog 103=some [.t (.seq (some true) [])]:=by kernel_rfl
@[go_sem] theorem tbytes103:Abs.tbytes prog 103=24:=by kernel_rfl
@[go_sem] theorem tsl103:Abs.isSliceD (Abs.tdesc prog 103)=true:=by kernel_rfl
@[go_sem] theorem telem103:Abs.telem prog 103=145:=by kernel_rfl
@[go_sem] theorem tok104:Abs.tok prog 104=true:=by kernel_rfl
@[go_sem] theorem tagg104:Abs.tagg prog 104=false:=by kernel_rfl
@[go_sem] theorem tsize104:Abs.tsize prog 104=1:=by kernel_rfl
@[go_sem] theorem tzero104:Abs.tzero prog 104=some [.t (.seq (some true) [])]:=by kernel_rfl
@[go_sem] theorem tbytes104:Abs.tbytes prog 104=24:=by kernel_rfl
@[go_sem] theorem tsl104:Abs.isSliceD (Abs.tdesc prog 104)=true:=by kernel_rfl
@[go_sem] theorem telem104:Abs.telem prog 104=103:=by kernel_rfl
@[go_sem] theorem tok106:Abs.tok prog 106=true:=by kernel_rfl
@[go_sem] theorem tagg106:Abs.tagg prog 106=true:=by kernel_rfl
@[go_sem] theorem tsize106:Abs.tsize prog 106=3:=by kernel_rfl
@[go_sem] theorem tzero106:Abs.tzero prog 106=some [.t (.seq (some true) []),.t (.seq (some true) []),.t (.seq (some true) [])]:=by kernel_rfl
@[go_sem] theorem tbytes106:Abs.tbytes prog 106=72:=by kernel_rfl
@[go_sem] theorem tst106:Abs.isStructD (Abs.tdesc prog 106)=true:=by kernel_rfl
@[go_sem] theorem tnf106:Abs.nfields prog 106=3:=by kernel_rfl
@[go_sem] theorem tpt106:Abs.partsTok prog 106=true:=by kernel_rfl
@[go_sem] theorem tfo106_0:Abs.foff prog 106 0=0:=by kernel_rfl
@[go_sem] theorem tft106_0:Abs.fty prog 106 0=41:=by kernel_rfl
@[go_sem] theorem tpl106_0:Abs.placesA prog 106 0=some (0,1):=by kernel_rfl
@[go_sem] theorem tfo106_1:Abs.foff prog 106 1=1:=by kernel_rfl
@[go_sem] theorem tft106_1:Abs.fty prog 106 1=41:=by kernel_rfl
@[go_sem] theorem tpl106_1:Abs.placesA prog 106 1=some (1,1):=by kernel_rfl
@[go_sem] theorem tfo106_2:Abs.foff prog 106 2=2:=by kernel_rfl
@[go_sem] theorem tft106_2:Abs.fty prog 106 2=104:=by kernel_rfl
@[go_sem] theorem tpl106_2:Abs.placesA prog 106 2=some (2,1):=by kernel_rfl
@[go_sem] theorem tok108:Abs.tok prog 108=true:=by kernel_rfl
@[go_sem] theorem tagg108:Abs.tagg prog 108=true:=by kernel_rfl
@[go_sem] theorem tsize108:Abs.tsize prog 108=6:=by kernel_rfl
@[go_sem] theorem tzero108:Abs.tzero prog 108=some [.t (.seq (some true) []),.t (.seq (some true) []),.t (.seq (some true) []),.t (.lit (.int .i64 0)),.t (.seq (some true) []),.t (.seq (some true) [])]:=by kernel_rfl
@[go_sem] theorem tbytes108:Abs.tbytes prog 108=128:=by kernel_rfl
@[go_sem] theorem tst108:Abs.isStructD (Abs.tdesc prog 108)=true:=by kernel_rfl
@[go_sem] theorem tnf108:Abs.nfields prog 108=4:=by kernel_rfl
@[go_sem] theorem tpt108:Abs.partsTok prog 108=true:=by kernel_rfl
@[go_sem] theorem tfo108_0:Abs.foff prog 108 0=0:=by kernel_rfl
@[go_sem] theorem tft108_0:Abs.fty prog 108 0=106:=by kernel_rfl
@[go_sem] theorem tpl108_0:Abs.placesA prog 108 0=some (0,3):=by kernel_rfl
@[go_sem] theorem tfo108_1:Abs.foff prog 108 1=3:=by kernel_rfl
@[go_sem] theorem tft108_1:Abs.fty prog 108 1=3:=by kernel_rfl
@[go_sem] theorem tpl108_1:Abs.placesA prog 108 1=some (3,1):=by kernel_rfl
@[go_sem] theorem tfo108_2:Abs.foff prog 108 2=4:=by kernel_rfl
@[go_sem] theorem tft108_2:Abs.fty prog 108 2=103:=by kernel_rfl
@[go_sem] theorem tpl108_2:Abs.placesA prog 108 2=some (4,1):=by kernel_rfl
@[go_sem] theorem tfo108_3:Abs.foff prog 108 3=5:=by kernel_rfl
@[go_sem] theorem tft108_3:Abs.fty prog 108 3=103:=by kernel_rfl
@[go_sem] theorem tpl108_3:Abs.placesA prog 108 3=some (5,1):=by kernel_rfl
@[go_sem] theorem tok113:Abs.tok prog 113=true:=by kernel_rfl
@[go_sem] theorem tagg113:Abs.tagg prog 113=true:=by kernel_rfl
@[go_sem] theorem tsize113:Abs.tsize prog 113=1:=by kernel_rfl
@[go_sem] theorem tzero113:Abs.tzero prog 113=some [.t (.seq (some true) [])]:=by kernel_rfl
@[go_sem] theorem tbytes113:Abs.tbytes prog 113=24:=by kernel_rfl
@[go_sem] theorem tst113:Abs.isStructD (Abs.tdesc prog 113)=true:=by kernel_rfl
@[go_sem] theorem tnf113:Abs.nfields prog 113=1:=by kernel_rfl
@[go_sem] theorem tpt113:Abs.partsTok prog 113=true:=by kernel_rfl
@[go_sem] theorem tfo113_0:Abs.foff prog 113 0=0:=by kernel_rfl
@[go_sem] theorem tft113_0:Abs.fty prog 113 0=28:=by kernel_rfl
@[go_sem] theorem tpl113_0:Abs.placesA prog 113 0=some (0,1):=by kernel_rfl
@[go_sem] theorem tok115:Abs.tok prog 115=true:=by kernel_rfl
@[go_sem] theorem tagg115:Abs.tagg prog 115=true:=by kernel_rfl
@[go_sem] theorem tsize115:Abs.tsize prog 115=2:=by kernel_rfl
@[go_sem] theorem tzero115:Abs.tzero prog 115=some [.t (.seq (some true) []),.t (.lit (.bool false))]:=by kernel_rfl
@[go_sem] theorem tbytes115:Abs.tbytes prog 115=32:=by kernel_rfl
@[go_sem] theorem tst115:Abs.isStructD (Abs.tdesc prog 115)=true:=by kernel_rfl
@[go_sem] theorem tnf115:Abs.nfields prog 115=2:=by kernel_rfl
@[go_sem] theorem tpt115:Abs.partsTok prog 115=true:=by kernel_rfl
@[go_sem] theorem tfo115_0:Abs.foff prog 115 0=0:=by kernel_rfl
@[go_sem] theorem tft115_0:Abs.fty prog 115 0=113:=by kernel_rfl
@[go_sem] theorem tpl115_0:Abs.placesA prog 115 0=some (0,1):=by kernel_rfl
@[go_sem] theorem tfo115_1:Abs.foff prog 115 1=1:=by kernel_rfl
@[go_sem] theorem tft115_1:Abs.fty prog 115 1=4:=by kernel_rfl
@[go_sem] theorem tpl115_1:Abs.placesA prog 115 1=some (1,1):=by kernel_rfl
@[go_sem] theorem tok127:Abs.tok prog 127=true:=by kernel_rfl
@[go_sem] theorem tagg127:Abs.tagg prog 127=false:=by kernel_rfl
@[go_sem] theorem tsize127:Abs.tsize prog 127=1:=by kernel_rfl
@[go_sem] theorem tzero127:Abs.tzero prog 127=some [.t (.seq (some true) [])]:=by kernel_rfl
@[go_sem] theorem tbytes127:Abs.tbytes prog 127=24:=by kernel_rfl
@[go_sem] theorem tsl127:Abs.isSliceD (Abs.tdesc prog 127)=true:=by kernel_rfl
@[go_sem] theorem telem127:Abs.telem prog 127=23:=by kernel_rfl
@[go_sem] theorem tok131:Abs.tok prog 131=true:=by kernel_rfl
@[go_sem] theorem tagg131:Abs.tagg prog 131=false:=by kernel_rfl
@[go_sem] theorem tsize131:Abs.tsize prog 131=1:=by kernel_rfl
@[go_sem] theorem tzero131:Abs.tzero prog 131=some [.t (.lit .nilFunc)]:=by kernel_rfl
@[go_sem] theorem tok136:Abs.tok prog 136=true:=by kernel_rfl
@[go_sem] theorem tagg136:Abs.tagg prog 136=true:=by kernel_rfl
@[go_sem] theorem tsize136:Abs.tsize prog 136=3:=by kernel_rfl
@[go_sem] theorem tzero136:Abs.tzero prog 136=some [.t (.seq (some true) []),.t (.seq (some true) []),.t (.seq (some true) [])]:=by kernel_rfl
@[go_sem] theorem tbytes136:Abs.tbytes prog 136=72:=by kernel_rfl
@[go_sem] theorem tst136:Abs.isStructD (Abs.tdesc prog 136)=true:=by kernel_rfl
@[go_sem] theorem tnf136:Abs.nfields prog 136=3:=by kernel_rfl
@[go_sem] theorem tpt136:Abs.partsTok prog 136=true:=by kernel_rfl
@[go_sem] theorem tfo136_0:Abs.foff prog 136 0=0:=by kernel_rfl
@[go_sem] theorem tft136_0:Abs.fty prog 136 0=22:=by kernel_rfl
@[go_sem] theorem tpl136_0:Abs.placesA prog 136 0=some (0,1):=by kernel_rfl
@[go_sem] theorem tfo136_1:Abs.foff prog 136 1=1:=by kernel_rfl
@[go_sem] theorem tft136_1:Abs.fty prog 136 1=22:=by kernel_rfl
@[go_sem] theorem tpl136_1:Abs.placesA prog 136 1=some (1,1):=by kernel_rfl
@[go_sem] theorem tfo136_2:Abs.foff prog 136 2=2:=by kernel_rfl
@[go_sem] theorem tft136_2:Abs.fty prog 136 2=22:=by kernel_rfl
@[go_sem] theorem tpl136_2:Abs.placesA prog 136 2=some (2,1):=by kernel_rfl
@[go_sem] theorem tok143:Abs.tok prog 143=true:=by kernel_rfl
@[go_sem] theorem tagg143:Abs.tagg prog 143=true:=by kernel_rfl
@[go_sem] theorem tsize143:Abs.tsize prog 143=3:=by kernel_rfl
@[go_sem] theorem tzero143:Abs.tzero prog 143=some [.t (.lit (.bool false)),.t (.seq (some true) []),.t (.seq (some true) [])]:=by kernel_rfl
@[go_sem] theorem tbytes143:Abs.tbytes prog 143=56:=by kernel_rfl
@[go_sem] theorem tst143:Abs.isStructD (Abs.tdesc prog 143)=true:=by kernel_rfl
@[go_sem] theorem tnf143:Abs.nfields prog 143=2:=by kernel_rfl
@[go_sem] theorem tpt143:Abs.partsTok prog 143=true:=by kernel_rfl
@[go_sem] theorem tfo143_0:Abs.foff prog 143 0=0:=by kernel_rfl
@[go_sem] theorem tft143_0:Abs.fty prog 143 0=30:=by kernel_rfl
@[go_sem] theorem tpl143_0:Abs.placesA prog 143 0=some (0,2):=by kernel_rfl
@[go_sem] theorem tfo143_1:Abs.foff prog 143 1=2:=by kernel_rfl
@[go_sem] theorem tft143_1:Abs.fty prog 143 1=28:=by kernel_rfl
@[go_sem] theorem tpl143_1:Abs.placesA prog 143 1=some (2,1):=by kernel_rfl
@[go_sem] theorem tok145:Abs.tok prog 145=true:=by kernel_rfl
@[go_sem] theorem tagg145:Abs.tagg prog 145=true:=by kernel_rfl
@[go_sem] theorem tsize145:Abs.tsize prog 145=3:=by kernel_rfl
@[go_sem] theorem tzero145:Abs.tzero prog 145=some [.t (.lit (.bool false)),.t (.seq (some true) []),.t (.seq (some true) [])]:=by kernel_rfl
@[go_sem] theorem tbytes145:Abs.tbytes prog 145=56:=by kernel_rfl
@[go_sem] theorem tst145:Abs.isStructD (Abs.tdesc prog 145)=true:=by kernel_rfl
@[go_sem] theorem tnf145:Abs.nfields prog 145=1:=by kernel_rfl
@[go_sem] theorem tpt145:Abs.partsTok prog 145=true:=by kernel_rfl
@[go_sem] theorem tfo145_0:Abs.foff prog 145 0=0:=by kernel_rfl
@[go_sem] theorem tft145_0:Abs.fty prog 145 0=143:=by kernel_rfl
@[go_sem] theorem tpl145_0:Abs.placesA prog 145 0=some (0,3):=by kernel_rfl
@[go_sem] theorem tok152:Abs.tok prog 152=true:=by kernel_rfl
@[go_sem] theorem tagg152:Abs.tagg prog 152=true:=by kernel_rfl
@[go_sem] theorem tsize152:Abs.tsize prog 152=3:=by kernel_rfl
@[go_sem] theorem tzero152:Abs.tzero prog 152=some [.t (.seq (some true) []),.t (.lit (.bool false)),.t (.seq (some true) [])]:=by kernel_rfl
@[go_sem] theorem tbytes152:Abs.tbytes prog 152=56:=by kernel_rfl
@[go_sem] theorem tst152:Abs.isStructD (Abs.tdesc prog 152)=true:=by kernel_rfl
@[go_sem] theorem tnf152:Abs.nfields prog 152=1:=by kernel_rfl
@[go_sem] theorem tpt152:Abs.partsTok prog 152=true:=by kernel_rfl
@[go_sem] theorem tfo152_0:Abs.foff prog 152 0=0:=by kernel_rfl
@[go_sem] theorem tft152_0:Abs.fty prog 152 0=32:=by kernel_rfl
@[go_sem] theorem tpl152_0:Abs.placesA prog 152 0=some (0,3):=by kernel_rfl
@[go_sem] theorem tok154:Abs.tok prog 154=true:=by kernel_rfl
@[go_sem] theorem tagg154:Abs.tagg prog 154=true:=by kernel_rfl
@[go_sem] theorem tsize154:Abs.tsize prog 154=3:=by kernel_rfl
@[go_sem] theorem tzero154:Abs.tzero prog 154=some [.t (.seq (some true) []),.t (.lit (.bool false)),.t (.seq (some true) [])]:=by kernel_rfl
@[go_sem] theorem tbytes154:Abs.tbytes prog 154=56:=by kernel_rfl
@[go_sem] theorem tst154:Abs.isStructD (Abs.tdesc prog 154)=true:=by kernel_rfl
@[go_sem] theorem tnf154:Abs.nfields prog 154=1:=by kernel_rfl
@[go_sem] theorem tpt154:Abs.partsTok prog 154=true:=by kernel_rfl
@[go_sem] theorem tfo154_0:Abs.foff prog 154 0=0:=by kernel_rfl
@[go_sem] theorem tft154_0:Abs.fty prog 154 0=152:=by kernel_rfl
@[go_sem] theorem tpl154_0:Abs.placesA prog 154 0=some (0,3):=by kernel_rfl
@[go_sem] theorem tok157:Abs.tok prog 157=true:=by kernel_rfl
@[go_sem] theorem tagg157:Abs.tagg prog 157=false:=by kernel_rfl
@[go_sem] theorem tsize157:Abs.tsize prog 157=1:=by kernel_rfl
@[go_sem] theorem tzero157:Abs.tzero prog 157=some [.t (.lit .nilFunc)]:=by kernel_rfl
@[go_sem] theorem tok161:Abs.tok prog 161=true:=by kernel_rfl
@[go_sem] theorem tagg161:Abs.tagg prog 161=false:=by kernel_rfl
@[go_sem] theorem tsize161:Abs.tsize prog 161=1:=by kernel_rfl
@[go_sem] theorem tzero161:Abs.tzero prog 161=some [.t (.lit (.pointer none))]:=by kernel_rfl
@[go_sem] theorem tbytes161:Abs.tbytes prog 161=8:=by kernel_rfl
@[go_sem] theorem tok164:Abs.tok prog 164=true:=by kernel_rfl
@[go_sem] theorem tagg164:Abs.tagg prog 164=false:=by kernel_rfl
@[go_sem] theorem tsize164:Abs.tsize prog 164=1:=by kernel_rfl
@[go_sem] theorem tzero164:Abs.tzero prog 164=some [.t (.seq (some true) [])]:=by kernel_rfl
@[go_sem] theorem tbytes164:Abs.tbytes prog 164=24:=by kernel_rfl
@[go_sem] theorem tsl164:Abs.isSliceD (Abs.tdesc prog 164)=true:=by kernel_rfl
@[go_sem] theorem telem164:Abs.telem prog 164=23:=by kernel_rfl
@[go_sem] theorem tok166:Abs.tok prog 166=true:=by kernel_rfl
@[go_sem] theorem tagg166:Abs.tagg prog 166=true:=by kernel_rfl
@[go_sem] theorem tsize166:Abs.tsize prog 166=3:=by kernel_rfl
@[go_sem] theorem tzero166:Abs.tzero prog 166=some [.t (.seq (some true) []),.t (.seq (some true) []),.t (.seq (some true) [])]:=by kernel_rfl
@[go_sem] theorem tbytes166:Abs.tbytes prog 166=72:=by kernel_rfl
@[go_sem] theorem tst166:Abs.isStructD (Abs.tdesc prog 166)=true:=by kernel_rfl
@[go_sem] theorem tnf166:Abs.nfields prog 166=3:=by kernel_rfl
@[go_sem] theorem tpt166:Abs.partsTok prog 166=true:=by kernel_rfl
@[go_sem] theorem tfo166_0:Abs.foff prog 166 0=0:=by kernel_rfl
@[go_sem] theorem tft166_0:Abs.fty prog 166 0=164:=by kernel_rfl
@[go_sem] theorem tpl166_0:Abs.placesA prog 166 0=some (0,1):=by kernel_rfl
@[go_sem] theorem tfo166_1:Abs.foff prog 166 1=1:=by kernel_rfl
@[go_sem] theorem tft166_1:Abs.fty prog 166 1=164:=by kernel_rfl
@[go_sem] theorem tpl166_1:Abs.placesA prog 166 1=some (1,1):=by kernel_rfl
@[go_sem] theorem tfo166_2:Abs.foff prog 166 2=2:=by kernel_rfl
@[go_sem] theorem tft166_2:Abs.fty prog 166 2=164:=by kernel_rfl
@[go_sem] theorem tpl166_2:Abs.placesA prog 166 2=some (2,1):=by kernel_rfl
@[go_sem] theorem tok168:Abs.tok prog 168=true:=by kernel_rfl
@[go_sem] theorem tagg168:Abs.tagg prog 168=false:=by kernel_rfl
@[go_sem] theorem tsize168:Abs.tsize prog 168=1:=by kernel_rfl
@[go_sem] theorem tzero168:Abs.tzero prog 168=some [.t (.lit .nilFunc)]:=by kernel_rfl
@[go_sem] theorem tok174:Abs.tok prog 174=true:=by kernel_rfl
@[go_sem] theorem tagg174:Abs.tagg prog 174=true:=by kernel_rfl
@[go_sem] theorem tsize174:Abs.tsize prog 174=3:=by kernel_rfl
@[go_sem] theorem tzero174:Abs.tzero prog 174=some [.t (.seq (some true) []),.t (.lit (.bool false)),.t (.seq (some true) [])]:=by kernel_rfl
@[go_sem] theorem tbytes174:Abs.tbytes prog 174=56:=by kernel_rfl
@[go_sem] theorem tst174:Abs.isStructD (Abs.tdesc prog 174)=true:=by kernel_rfl
@[go_sem] theorem tnf174:Abs.nfields prog 174=1:=by kernel_rfl
@[go_sem] theorem tpt174:Abs.partsTok prog 174=true:=by kernel_rfl
@[go_sem] theorem tfo174_0:Abs.foff prog 174 0=0:=by kernel_rfl
@[go_sem] theorem tft174_0:Abs.fty prog 174 0=32:=by kernel_rfl
@[go_sem] theorem tpl174_0:Abs.placesA prog 174 0=some (0,3):=by kernel_rfl
@[go_sem] theorem tok176:Abs.tok prog 176=true:=by kernel_rfl
@[go_sem] theorem tagg176:Abs.tagg prog 176=true:=by kernel_rfl
@[go_sem] theorem tsize176:Abs.tsize prog 176=3:=by kernel_rfl
@[go_sem] theorem tzero176:Abs.tzero prog 176=some [.t (.seq (some true) []),.t (.lit (.bool false)),.t (.seq (some true) [])]:=by kernel_rfl
@[go_sem] theorem tbytes176:Abs.tbytes prog 176=56:=by kernel_rfl
@[go_sem] theorem tst176:Abs.isStructD (Abs.tdesc prog 176)=true:=by kernel_rfl
@[go_sem] theorem tnf176:Abs.nfields prog 176=1:=by kernel_rfl
@[go_sem] theorem tpt176:Abs.partsTok prog 176=true:=by kernel_rfl
@[go_sem] theorem tfo176_0:Abs.foff prog 176 0=0:=by kernel_rfl
@[go_sem] theorem tft176_0:Abs.fty prog 176 0=174:=by kernel_rfl
@[go_sem] theorem tpl176_0:Abs.placesA prog 176 0=some (0,3):=by kernel_rfl
@[go_sem] theorem tok184:Abs.tok prog 184=true:=by kernel_rfl
@[go_sem] theorem tagg184:Abs.tagg prog 184=false:=by kernel_rfl
@[go_sem] theorem tsize184:Abs.tsize prog 184=1:=by kernel_rfl
@[go_sem] theorem tzero184:Abs.tzero prog 184=some [.t (.lit (.pointer none))]:=by kernel_rfl
@[go_sem] theorem tbytes184:Abs.tbytes prog 184=8:=by kernel_rfl
@[go_sem] theorem tok194:Abs.tok prog 194=true:=by kernel_rfl
@[go_sem] theorem tagg194:Abs.tagg prog 194=false:=by kernel_rfl
@[go_sem] theorem tsize194:Abs.tsize prog 194=1:=by kernel_rfl
@[go_sem] theorem tzero194:Abs.tzero prog 194=some [.t (.lit (.pointer none))]:=by kernel_rfl
@[go_sem] theorem tbytes194:Abs.tbytes prog 194=8:=by kernel_rfl
@[go_sem] theorem tok195:Abs.tok prog 195=true:=by kernel_rfl
@[go_sem] theorem tagg195:Abs.tagg prog 195=false:=by kernel_rfl
@[go_sem] theorem tsize195:Abs.tsize prog 195=1:=by kernel_rfl
@[go_sem] theorem tzero195:Abs.tzero prog 195=some [.t (.lit (.pointer none))]:=by kernel_rfl
@[go_sem] theorem tbytes195:Abs.tbytes prog 195=8:=by kernel_rfl
@[go_sem] theorem tok198:Abs.tok prog 198=true:=by kernel_rfl
@[go_sem] theorem tagg198:Abs.tagg prog 198=false:=by kernel_rfl
@[go_sem] theorem tsize198:Abs.tsize prog 198=1:=by kernel_rfl
@[go_sem] theorem tzero198:Abs.tzero prog 198=some [.t (.seq (some true) [])]:=by kernel_rfl
@[go_sem] theorem tbytes198:Abs.tbytes prog 198=24:=by kernel_rfl
@[go_sem] theorem tsl198:Abs.isSliceD (Abs.tdesc prog 198)=true:=by kernel_rfl
@[go_sem] theorem telem198:Abs.telem prog 198=28:=by kernel_rfl
@[go_sem] theorem tok206:Abs.tok prog 206=true:=by kernel_rfl
@[go_sem] theorem tagg206:Abs.tagg prog 206=true:=by kernel_rfl
@[go_sem] theorem tsize206:Abs.tsize prog 206=2:=by kernel_rfl
@[go_sem] theorem tzero206:Abs.tzero prog 206=some [.t (.seq (some true) []),.t (.seq (some true) [])]:=by kernel_rfl
@[go_sem] theorem tbytes206:Abs.tbytes prog 206=48:=by kernel_rfl
@[go_sem] theorem tsl206:Abs.isSliceD (Abs.tdesc prog 206)=false:=by kernel_rfl
@[go_sem] theorem tar206:Abs.isArrayD (Abs.tdesc prog 206)=true:=by kernel_rfl
@[go_sem] theorem telem206:Abs.telem prog 206=164:=by kernel_rfl
@[go_sem] theorem tlen206:Abs.arrLen (Abs.tdesc prog 206)=2:=by kernel_rfl
@[go_sem] theorem tpt206:Abs.partsTok prog 206=true:=by kernel_rfl
@[go_sem] theorem tpl206_0:Abs.placesA prog 206 0=some (0,1):=by kernel_rfl
@[go_sem] theorem tpl206_1:Abs.placesA prog 206 1=some (1,1):=by kernel_rfl
end Go.Proofs.YtlgjjcmljmjenaaGreat
