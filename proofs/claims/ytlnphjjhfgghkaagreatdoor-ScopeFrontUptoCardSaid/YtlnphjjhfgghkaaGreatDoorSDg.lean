/-
  Ftb Lib As Ej Ei Es Typ Tt Nz Trb Ftc Trc Ftd Trd Fte Tre Ftf AsL Trf Trg Trh Rel Sm Fth Tua: put together.
-/
import Derived.Test.YtlnphjjhfgghkaaGreatDoorSDe
import Derived.Test.YtlnphjjhfgghkaaGreatDoorSDf
import Derived.Shelf.Strings.Search1
import Derived.Shelf.Strings.Search2
import Derived.Shelf.Strings.Search3
import Derived.Shelf.Strings.Cut
import Derived.Shelf.LaysM
import Derived.Shelf.Strings.Shaped
import Derived.Test.YtlnphjjhfgghkaaGreatDoorProg
import Derived.WalkKit
import Derived.LaidEql
import Derived.Stop.Asserts
import Derived.RowKitTokens
import Derived.Lib.IndexMore
import Derived.Test.YtlnphjjhfgghkaaGreatDoorSDd
set_option linter.unusedSimpArgs false
set_option linter.unusedVariables false
namespace Go.Proofs.YtlnphjjhfgghkaaGreatDoor
open Go Go.Lg
set_option maxRecDepth 100000
noncomputable def tb0:Tq Fx:=(tbPut 27 (fxOf 52 lct27 [LRV.tmp 4]) (tbPut 26 (fxOf 99 lct26 []) (tbPut 25 (fxOf 14 lct25 [LRV.tmp 4]) (tbPut 24 (fxOf 39 lct24 [LRV.tmp 6]) (tbPut 22 (fxOf 116 lct22 [LRV.cell 2 true 2,LRV.tmp 3,LRV.tmp 4,LRV.tmp 5]) (tbPut 20 (fxOf 23 lct20 [LRV.cell 4 true 10,LRV.tmp 5]) (tbPut 19 (fxOf 15 lct19 [LRV.tmp 8]) (tbPut 18 (fxOf 23 lct18 [LRV.cell 4 true 5,LRV.tmp 5]) (tbPut 15 (fxOf 99 lct15 [LRV.tmp 6]) (tbPut 13 (fxOf 22 lct13 [LRV.tmp 6]) (tbPut 11 (fxOf 88 lct11 [LRV.tmp 6,LRV.tmp 7]) (tbPut 9 (fxOf 67 lct9 [LRV.tmp 0]) Tq.nil))))))))))))
theorem tb0_ok:TbOk Tryz.prog tb0:=(tb_put (tb_put (tb_put (tb_put (tb_put (tb_put (tb_put (tb_put (tb_put (tb_put (tb_put (tb_put tb_nil (by kernel_rfl) (fx_fn fdt9 (by kernel_rfl))) (by kernel_rfl) (fx_fn fdt11 (by kernel_rfl))) (by kernel_rfl) (fx_fn fdt13 (by kernel_rfl))) (by kernel_rfl) (fx_fn fdt15 (by kernel_rfl))) (by kernel_rfl) (fx_fn fdt18 (by kernel_rfl))) (by kernel_rfl) (fx_fn fdt19 (by kernel_rfl))) (by kernel_rfl) (fx_fn fdt20 (by kernel_rfl))) (by kernel_rfl) (fx_fn fdt22 (by kernel_rfl))) (by kernel_rfl) (fx_fn fdt24 (by kernel_rfl))) (by kernel_rfl) (fx_fn fdt25 (by kernel_rfl))) (by kernel_rfl) (fx_fn fdt26 (by kernel_rfl))) (by kernel_rfl) (fx_fn fdt27 (by kernel_rfl)))
noncomputable def tb1:Tq Fx:=(tbPut 46 (fxOf 71 lct46 [LRV.cell 6 true 10]) (tbPut 45 (fxOf 57 lct45 [LRV.cell 6 true 5]) (tbPut 44 (fxOf 22 lct44 [LRV.tmp 4]) (tbPut 43 (fxOf 27 lct43 []) (tbPut 42 (fxOf 18 lct42 [LRV.tmp 4]) (tbPut 41 (fxOf 113 lct41 [LRV.tmp 2,LRV.tmp 3,LRV.tmp 4]) (tbPut 38 (fxOf 82 lct38 [LRV.tmp 8]) (tbPut 35 (fxOf 57 lct35 [LRV.tmp 2,LRV.tmp 3]) (tbPut 31 (fxOf 10 lct31 [LRV.tmp 2]) (tbPut 30 (fxOf 38 lct30 [LRV.cell 2 true 10]) (tbPut 29 (fxOf 114 lct29 [LRV.tmp 4]) (tbPut 28 (fxOf 12 lct28 [LRV.cell 2 true 5]) tb0))))))))))))
theorem tb1_ok:TbOk Tryz.prog tb1:=(tb_put (tb_put (tb_put (tb_put (tb_put (tb_put (tb_put (tb_put (tb_put (tb_put (tb_put (tb_put tb0_ok (by kernel_rfl) (fx_fn fdt28 (by kernel_rfl))) (by kernel_rfl) (fx_fn fdt29 (by kernel_rfl))) (by kernel_rfl) (fx_fn fdt30 (by kernel_rfl))) (by kernel_rfl) (fx_fn fdt31 (by kernel_rfl))) (by kernel_rfl) (fx_fn fdt35 (by kernel_rfl))) (by kernel_rfl) (fx_fn fdt38 (by kernel_rfl))) (by kernel_rfl) (fx_fn fdt41 (by kernel_rfl))) (by kernel_rfl) (fx_fn fdt42 (by kernel_rfl))) (by kernel_rfl) (fx_fn fdt43 (by kernel_rfl))) (by kernel_rfl) (fx_fn fdt44 (by kernel_rfl))) (by kernel_rfl) (fx_fn fdt45 (by kernel_rfl))) (by kernel_rfl) (fx_fn fdt46 (by kernel_rfl)))
noncomputable def tb2:Tq Fx:=(tbPut 58 (fxOf 8 lct58 [LRV.tmp 4]) (tbPut 57 (fxOf 35 lct57 [LRV.tmp 10]) (tbPut 56 (fxOf 9 lct56 [LRV.tmp 3]) (tbPut 55 (fxOf 9 lct55 [LRV.tmp 4]) (tbPut 54 (fxOf 18 lct54 [LRV.tmp 2]) (tbPut 53 (fxOf 32 lct53 [LRV.cell 4 true 4]) (tbPut 52 (fxOf 21 lct52 []) (tbPut 51 (fxOf 37 lct51 [LRV.tmp 2]) (tbPut 50 (fxOf 27 lct50 [LRV.tmp 2]) (tbPut 49 (fxOf 9 lct49 [LRV.tmp 3]) (tbPut 48 (fxOf 9 lct48 [LRV.tmp 4]) (tbPut 47 (fxOf 56 lct47 [LRV.tmp 2]) tb1))))))))))))
theorem tb2_ok:TbOk Tryz.prog tb2:=(tb_put (tb_put (tb_put (tb_put (tb_put (tb_put (tb_put (tb_put (tb_put (tb_put (tb_put (tb_put tb1_ok (by kernel_rfl) (fx_fn fdt47 (by kernel_rfl))) (by kernel_rfl) (fx_fn fdt48 (by kernel_rfl))) (by kernel_rfl) (fx_fn fdt49 (by kernel_rfl))) (by kernel_rfl) (fx_fn fdt50 (by kernel_rfl))) (by kernel_rfl) (fx_fn fdt51 (by kernel_rfl))) (by kernel_rfl) (fx_fn fdt52 (by kernel_rfl))) (by kernel_rfl) (fx_fn fdt53 (by kernel_rfl))) (by kernel_rfl) (fx_fn fdt54 (by kernel_rfl))) (by kernel_rfl) (fx_fn fdt55 (by kernel_rfl))) (by kernel_rfl) (fx_fn fdt56 (by kernel_rfl))) (by kernel_rfl) (fx_fn fdt57 (by kernel_rfl))) (by kernel_rfl) (fx_fn fdt58 (by kernel_rfl)))
noncomputable def tb3:Tq Fx:=(tbPut 75 (fxOf 21 lct75 [LRV.tmp 2]) (tbPut 74 (fxOf 53 lct74 [LRV.tmp 4]) (tbPut 68 (fxOf 18 lct68 [LRV.tmp 2]) (tbPut 67 (fxOf 23 lct67 [LRV.tmp 2]) (tbPut 66 (fxOf 42 lct66 [LRV.tmp 2]) (tbPut 65 (fxOf 26 lct65 [LRV.cell 2 true 4]) (tbPut 64 (fxOf 9 lct64 [LRV.tmp 3]) (tbPut 63 (fxOf 10 lct63 [LRV.tmp 5]) (tbPut 62 (fxOf 9 lct62 [LRV.tmp 4]) (tbPut 61 (fxOf 9 lct61 [LRV.tmp 4]) (tbPut 60 (fxOf 22 lct60 [LRV.tmp 2]) (tbPut 59 (fxOf 5 lct59 [LRV.tmp 2]) tb2))))))))))))
theorem tb3_ok:TbOk Tryz.prog tb3:=(tb_put (tb_put (tb_put (tb_put (tb_put (tb_put (tb_put (tb_put (tb_put (tb_put (tb_put (tb_put tb2_ok (by kernel_rfl) (fx_fn fdt59 (by kernel_rfl))) (by kernel_rfl) (fx_fn fdt60 (by kernel_rfl))) (by kernel_rfl) (fx_fn fdt61 (by kernel_rfl))) (by kernel_rfl) (fx_fn fdt62 (by kernel_rfl))) (by kernel_rfl) (fx_fn fdt63 (by kernel_rfl))) (by kernel_rfl) (fx_fn fdt64 (by kernel_rfl))) (by kernel_rfl) (fx_fn fdt65 (by kernel_rfl))) (by kernel_rfl) (fx_fn fdt66 (by kernel_rfl))) (by kernel_rfl) (fx_fn fdt67 (by kernel_rfl))) (by kernel_rfl) (fx_fn fdt68 (by kernel_rfl))) (by kernel_rfl) (fx_fn fdt74 (by kernel_rfl))) (by kernel_rfl) (fx_fn fdt75 (by kernel_rfl)))
noncomputable def tb4:Tq Fx:=(tbPut 87 (fxOf 44 lct87 [LRV.tmp 4]) (tbPut 86 (fxOf 52 lct86 [LRV.tmp 2]) (tbPut 85 (fxOf 53 lct85 [LRV.cell 4 true 4]) (tbPut 84 (fxOf 15 lct84 []) (tbPut 83 (fxOf 29 lct83 []) (tbPut 82 (fxOf 27 lct82 [LRV.tmp 2]) (tbPut 81 (fxOf 42 lct81 [LRV.tmp 4]) (tbPut 80 (fxOf 30 lct80 [LRV.tmp 4]) (tbPut 79 (fxOf 46 lct79 [LRV.tmp 4]) (tbPut 78 (fxOf 44 lct78 [LRV.tmp 2]) (tbPut 77 (fxOf 9 lct77 [LRV.tmp 2]) (tbPut 76 (fxOf 24 lct76 [LRV.tmp 4]) tb3))))))))))))
theorem tb4_ok:TbOk Tryz.prog tb4:=(tb_put (tb_put (tb_put (tb_put (tb_put (tb_put (tb_put (tb_put (tb_put (tb_put (tb_put (tb_put tb3_ok (by kernel_rfl) (fx_fn fdt76 (by kernel_rfl))) (by kernel_rfl) (fx_fn fdt77 (by kernel_rfl))) (by kernel_rfl) (fx_fn fdt78 (by kernel_rfl))) (by kernel_rfl) (fx_fn fdt79 (by kernel_rfl))) (by kernel_rfl) (fx_fn fdt80 (by kernel_rfl))) (by kernel_rfl) (fx_fn fdt81 (by kernel_rfl))) (by kernel_rfl) (fx_fn fdt82 (by kernel_rfl))) (by kernel_rfl) (fx_fn fdt83 (by kernel_rfl))) (by kernel_rfl) (fx_fn fdt84 (by kernel_rfl))) (by kernel_rfl) (fx_fn fdt85 (by kernel_rfl))) (by kernel_rfl) (fx_fn fdt86 (by kernel_rfl))) (by kernel_rfl) (fx_fn fdt87 (by kernel_rfl)))
noncomputable def tb5:Tq Fx:=(tbPut 100 (fxOf 8 lct100 [LRV.tmp 3]) (tbPut 99 (fxOf 9 lct99 [LRV.tmp 4]) (tbPut 98 (fxOf 19 lct98 [LRV.tmp 4]) (tbPut 97 (fxOf 29 lct97 [LRV.tmp 4]) (tbPut 96 (fxOf 43 lct96 [LRV.tmp 4]) (tbPut 94 (fxOf 19 lct94 [LRV.tmp 4]) (tbPut 93 (fxOf 66 lct93 [LRV.tmp 2]) (tbPut 92 (fxOf 16 lct92 [LRV.tmp 2]) (tbPut 91 (fxOf 22 lct91 [LRV.tmp 2]) (tbPut 90 (fxOf 18 lct90 [LRV.tmp 4]) (tbPut 89 (fxOf 20 lct89 [LRV.tmp 2]) (tbPut 88 (fxOf 19 lct88 [LRV.tmp 4]) tb4))))))))))))
theorem tb5_ok:TbOk Tryz.prog tb5:=(tb_put (tb_put (tb_put (tb_put (tb_put (tb_put (tb_put (tb_put (tb_put (tb_put (tb_put (tb_put tb4_ok (by kernel_rfl) (fx_fn fdt88 (by kernel_rfl))) (by kernel_rfl) (fx_fn fdt89 (by kernel_rfl))) (by kernel_rfl) (fx_fn fdt90 (by kernel_rfl))) (by kernel_rfl) (fx_fn fdt91 (by kernel_rfl))) (by kernel_rfl) (fx_fn fdt92 (by kernel_rfl))) (by kernel_rfl) (fx_fn fdt93 (by kernel_rfl))) (by kernel_rfl) (fx_fn fdt94 (by kernel_rfl))) (by kernel_rfl) (fx_fn fdt96 (by kernel_rfl))) (by kernel_rfl) (fx_fn fdt97 (by kernel_rfl))) (by kernel_rfl) (fx_fn fdt98 (by kernel_rfl))) (by kernel_rfl) (fx_fn fdt99 (by kernel_rfl))) (by kernel_rfl) (fx_fn fdt100 (by kernel_rfl)))
noncomputable def tb6:Tq Fx:=(tbPut 118 (fxOf 62 lct118 [LRV.tmp 4]) (tbPut 117 (fxOf 18 lct117 [LRV.tmp 2]) (tbPut 116 (fxOf 9 lct116 [LRV.tmp 2]) (tbPut 115 (fxOf 35 lct115 [LRV.tmp 4]) (tbPut 114 (fxOf 18 lct114 [LRV.tmp 2]) (tbPut 113 (fxOf 13 lct113 [LRV.tmp 2]) (tbPut 112 (fxOf 189 lct112 [LRV.cell 4 true 32]) (tbPut 111 (fxOf 14 lct111 [LRV.tmp 2]) (tbPut 110 (fxOf 15 lct110 []) (tbPut 103 (fxOf 8 lct103 [LRV.cell 2 true 4]) (tbPut 102 (fxOf 38 lct102 [LRV.cell 2 true 15]) (tbPut 101 (fxOf 8 lct101 [LRV.cell 2 true 2]) tb5))))))))))))
theorem tb6_ok:TbOk Tryz.prog tb6:=(tb_put (tb_put (tb_put (tb_put (tb_put (tb_put (tb_put (tb_put (tb_put (tb_put (tb_put (tb_put tb5_ok (by kernel_rfl) (fx_fn fdt101 (by kernel_rfl))) (by kernel_rfl) (fx_fn fdt102 (by kernel_rfl))) (by kernel_rfl) (fx_fn fdt103 (by kernel_rfl))) (by kernel_rfl) (fx_fn fdt110 (by kernel_rfl))) (by kernel_rfl) (fx_fn fdt111 (by kernel_rfl))) (by kernel_rfl) (fx_fn fdt112 (by kernel_rfl))) (by kernel_rfl) (fx_fn fdt113 (by kernel_rfl))) (by kernel_rfl) (fx_fn fdt114 (by kernel_rfl))) (by kernel_rfl) (fx_fn fdt115 (by kernel_rfl))) (by kernel_rfl) (fx_fn fdt116 (by kernel_rfl))) (by kernel_rfl) (fx_fn fdt117 (by kernel_rfl))) (by kernel_rfl) (fx_fn fdt118 (by kernel_rfl)))
noncomputable def tb7:Tq Fx:=(tbPut 143 (fxOf 22 lct143 [LRV.tmp 2]) (tbPut 142 (fxOf 30 lct142 [LRV.cell 4 true 2]) (tbPut 141 (fxOf 33 lct141 [LRV.tmp 2]) (tbPut 140 (fxOf 7 lct140 [LRV.cell 2 true 2]) (tbPut 139 (fxOf 42 lct139 [LRV.cell 2 true 4]) (tbPut 138 (fxOf 138 lct138 [LRV.cell 2 true 15]) (tbPut 129 (fxOf 19 lct129 [LRV.tmp 4]) (tbPut 128 (fxOf 8 lct128 [LRV.tmp 3]) (tbPut 127 (fxOf 9 lct127 [LRV.tmp 4]) (tbPut 125 (fxOf 22 lct125 [LRV.tmp 2]) (tbPut 120 (fxOf 25 lct120 [LRV.tmp 2]) (tbPut 119 (fxOf 20 lct119 [LRV.tmp 4]) tb6))))))))))))
theorem tb7_ok:TbOk Tryz.prog tb7:=(tb_put (tb_put (tb_put (tb_put (tb_put (tb_put (tb_put (tb_put (tb_put (tb_put (tb_put (tb_put tb6_ok (by kernel_rfl) (fx_fn fdt119 (by kernel_rfl))) (by kernel_rfl) (fx_fn fdt120 (by kernel_rfl))) (by kernel_rfl) (fx_fn fdt125 (by kernel_rfl))) (by kernel_rfl) (fx_fn fdt127 (by kernel_rfl))) (by kernel_rfl) (fx_fn fdt128 (by kernel_rfl))) (by kernel_rfl) (fx_fn fdt129 (by kernel_rfl))) (by kernel_rfl) (fx_fn fdt138 (by kernel_rfl))) (by kernel_rfl) (fx_fn fdt139 (by kernel_rfl))) (by kernel_rfl) (fx_fn fdt140 (by kernel_rfl))) (by kernel_rfl) (fx_fn fdt141 (by kernel_rfl))) (by kernel_rfl) (fx_fn fdt142 (by kernel_rfl))) (by kernel_rfl) (fx_fn fdt143 (by kernel_rfl)))
noncomputable def tb8:Tq Fx:=(tbPut 168 (fxOf 17 lct168 [LRV.tmp 4]) (tbPut 167 (fxOf 59 lct167 [LRV.tmp 4]) (tbPut 166 (fxOf 11 lct166 [LRV.tmp 2]) (tbPut 162 (fxOf 22 lct162 [LRV.cell 4 true 32]) (tbPut 161 (fxOf 80 lct161 [LRV.tmp 4]) (tbPut 160 (fxOf 46 lct160 [LRV.tmp 2]) (tbPut 159 (fxOf 95 lct159 [LRV.tmp 2]) (tbPut 158 (fxOf 29 lct158 [LRV.tmp 2]) (tbPut 157 (fxOf 15 lct157 [LRV.tmp 2]) (tbPut 155 (fxOf 52 lct155 [LRV.cell 4 true 15]) (tbPut 149 (fxOf 19 lct149 [LRV.tmp 4]) (tbPut 144 (fxOf 113 lct144 [LRV.tmp 4]) tb7))))))))))))
theorem tb8_ok:TbOk Tryz.prog tb8:=(tb_put (tb_put (tb_put (tb_put (tb_put (tb_put (tb_put (tb_put (tb_put (tb_put (tb_put (tb_put tb7_ok (by kernel_rfl) (fx_fn fdt144 (by kernel_rfl))) (by kernel_rfl) (fx_fn fdt149 (by kernel_rfl))) (by kernel_rfl) (fx_fn fdt155 (by kernel_rfl))) (by kernel_rfl) (fx_fn fdt157 (by kernel_rfl))) (by kernel_rfl) (fx_fn fdt158 (by kernel_rfl))) (by kernel_rfl) (fx_fn fdt159 (by kernel_rfl))) (by kernel_rfl) (fx_fn fdt160 (by kernel_rfl))) (by kernel_rfl) (fx_fn fdt161 (by kernel_rfl))) (by kernel_rfl) (fx_fn fdt162 (by kernel_rfl))) (by kernel_rfl) (fx_fn fdt166 (by kernel_rfl))) (by kernel_rfl) (fx_fn fdt167 (by kernel_rfl))) (by kernel_rfl) (fx_fn fdt168 (by kernel_rfl)))
noncomputable def tb9:Tq Fx:=(tbPut 186 (fxOf 32 lct186 [LRV.tmp 6]) (tbPut 185 (fxOf 32 lct185 [LRV.tmp 6]) (tbPut 184 (fxOf 19 lct184 [LRV.tmp 4]) (tbPut 181 (fxOf 32 lct181 [LRV.tmp 6]) (tbPut 180 (fxOf 11 lct180 [LRV.tmp 6]) (tbPut 179 (fxOf 11 lct179 [LRV.tmp 6]) (tbPut 178 (fxOf 26 lct178 [LRV.tmp 4]) (tbPut 177 (fxOf 6 lct177 [LRV.tmp 2]) (tbPut 176 (fxOf 9 lct176 [LRV.tmp 4]) (tbPut 171 (fxOf 11 lct171 [LRV.tmp 6]) (tbPut 170 (fxOf 24 lct170 [LRV.tmp 4]) (tbPut 169 (fxOf 31 lct169 [LRV.tmp 4]) tb8))))))))))))
theorem tb9_ok:TbOk Tryz.prog tb9:=(tb_put (tb_put (tb_put (tb_put (tb_put (tb_put (tb_put (tb_put (tb_put (tb_put (tb_put (tb_put tb8_ok (by kernel_rfl) (fx_fn fdt169 (by kernel_rfl))) (by kernel_rfl) (fx_fn fdt170 (by kernel_rfl))) (by kernel_rfl) (fx_fn fdt171 (by kernel_rfl))) (by kernel_rfl) (fx_fn fdt176 (by kernel_rfl))) (by kernel_rfl) (fx_fn fdt177 (by kernel_rfl))) (by kernel_rfl) (fx_fn fdt178 (by kernel_rfl))) (by kernel_rfl) (fx_fn fdt179 (by kernel_rfl))) (by kernel_rfl) (fx_fn fdt180 (by kernel_rfl))) (by kernel_rfl) (fx_fn fdt181 (by kernel_rfl))) (by kernel_rfl) (fx_fn fdt184 (by kernel_rfl))) (by kernel_rfl) (fx_fn fdt185 (by kernel_rfl))) (by kernel_rfl) (fx_fn fdt186 (by kernel_rfl)))
noncomputable def tbAll:Tq Fx:=tb9
theorem tbAll_ok:TbOk Tryz.prog tbAll:=tb9_ok
end Go.Proofs.YtlnphjjhfgghkaaGreatDoor

namespace Go.Proofs
open Go.Shelf
def Tryz.lays144_ren:Go.Shelf.Ren:=⟨fun|144=>126|143=>148|219=>163|217=>172|225=>173|224=>174|267=>175|266=>182|314=>183|n=>n,fun|9=>9|4=>4|3=>3|5=>5|46=>223|146=>228|51=>227|n=>n,fun|1=>1|n=>n⟩
theorem Tryz.lays144:Go.Proofs.Lays.n144 Tryz.prog Tryz.lays144_ren:={
  mixed:=by kernel_rfl
  f143:=Tryz.func148.trans (congrArg some (by kernel_rfl))
  f144:=Tryz.func126.trans (congrArg some (by kernel_rfl))
  f217:=Tryz.func172.trans (congrArg some (by kernel_rfl))
  f219:=Tryz.func163.trans (congrArg some (by kernel_rfl))
  f224:=Tryz.func174.trans (congrArg some (by kernel_rfl))
  f225:=Tryz.func173.trans (congrArg some (by kernel_rfl))
  f266:=Tryz.func182.trans (congrArg some (by kernel_rfl))
  f267:=Tryz.func175.trans (congrArg some (by kernel_rfl))
  f314:=Tryz.func183.trans (congrArg some (by kernel_rfl))
  t3:=Tryz.underlying3
  a3:=Tryz.isAgg3
  z3:=Tryz.sizeOf3
  v3:=Tryz.zeroValue3
  t4:=Tryz.underlying4
  a4:=Tryz.isAgg4
  z4:=Tryz.sizeOf4
  v4:=Tryz.zeroValue4
  t5:=Tryz.underlying5
  a5:=Tryz.isAgg5
  z5:=Tryz.sizeOf5
  v5:=Tryz.zeroValue5
  t9:=Tryz.underlying9
  a9:=Tryz.isAgg9
  z9:=Tryz.sizeOf9
  v9:=Tryz.zeroValue9
  t46:=Tryz.underlying223
  a46:=Tryz.isAgg223
  z46:=Tryz.sizeOf223
  v46:=Tryz.zeroValue223
  t51:=Tryz.underlying227
  a51:=Tryz.isAgg227
  z51:=Tryz.sizeOf227
  v51:=Tryz.zeroValue227
  t146:=Tryz.underlying228
  a146:=Tryz.isAgg228
  z146:=Tryz.sizeOf228
  v146:=Tryz.zeroValue228
  g1:=by kernel_rfl }
open Go.RowKit Go.Lib in
theorem Tryz.strings_Contains (s sub:ByteArray) (m:Int) (w:World) (hs:s.size<4294967281) (hm:w.cell? ⟨1,0,none⟩=some (.int .i64 m)) :
    Calls Tryz.prog 126 #[.string s,.string sub] w fun e w'=>e = .returned (.bool (Lib.contains s.data.toList sub.data.toList))∧w' = w:=Any.strings_Contains Tryz.lays144 s sub m w hs hm
def Tryz.lays145_ren:Go.Shelf.Ren:=⟨fun|145=>156|220=>165|219=>163|217=>172|225=>173|224=>174|267=>175|266=>182|314=>183|n=>n,fun|9=>9|4=>4|59=>214|3=>3|5=>5|46=>223|146=>228|51=>227|n=>n,fun|1=>1|n=>n⟩
theorem Tryz.lays145:Go.Proofs.Lays.n145 Tryz.prog Tryz.lays145_ren:={
  mixed:=by kernel_rfl
  f145:=Tryz.func156.trans (congrArg some (by kernel_rfl))
  f217:=Tryz.func172.trans (congrArg some (by kernel_rfl))
  f219:=Tryz.func163.trans (congrArg some (by kernel_rfl))
  f220:=Tryz.func165.trans (congrArg some (by kernel_rfl))
  f224:=Tryz.func174.trans (congrArg some (by kernel_rfl))
  f225:=Tryz.func173.trans (congrArg some (by kernel_rfl))
  f266:=Tryz.func182.trans (congrArg some (by kernel_rfl))
  f267:=Tryz.func175.trans (congrArg some (by kernel_rfl))
  f314:=Tryz.func183.trans (congrArg some (by kernel_rfl))
  t3:=Tryz.underlying3
  a3:=Tryz.isAgg3
  z3:=Tryz.sizeOf3
  v3:=Tryz.zeroValue3
  t4:=Tryz.underlying4
  a4:=Tryz.isAgg4
  z4:=Tryz.sizeOf4
  v4:=Tryz.zeroValue4
  t5:=Tryz.underlying5
  a5:=Tryz.isAgg5
  z5:=Tryz.sizeOf5
  v5:=Tryz.zeroValue5
  t9:=Tryz.underlying9
  a9:=Tryz.isAgg9
  z9:=Tryz.sizeOf9
  v9:=Tryz.zeroValue9
  t46:=Tryz.underlying223
  a46:=Tryz.isAgg223
  z46:=Tryz.sizeOf223
  v46:=Tryz.zeroValue223
  t51:=Tryz.underlying227
  a51:=Tryz.isAgg227
  z51:=Tryz.sizeOf227
  v51:=Tryz.zeroValue227
  t59:=Tryz.underlying214
  a59:=Tryz.isAgg214
  z59:=Tryz.sizeOf214
  v59:=Tryz.zeroValue214
  t146:=Tryz.underlying228
  a146:=Tryz.isAgg228
  z146:=Tryz.sizeOf228
  v146:=Tryz.zeroValue228
  g1:=by kernel_rfl }
open Go.RowKit Go.Lib in
theorem Tryz.strings_Cut (s sep:ByteArray) (m:Int) (w:World) (hs:s.size<4294967281) (hm:w.cell? ⟨1,0,none⟩=some (.int .i64 m)) :
    Calls Tryz.prog 156 #[.string s,.string sep] w fun e w'=>e = .returned (.tuple #[.string ⟨(Lib.cut s.data.toList sep.data.toList).1.toArray⟩,.string ⟨(Lib.cut s.data.toList sep.data.toList).2.1.toArray⟩,.bool (Lib.cut s.data.toList sep.data.toList).2.2])∧∃ n,w' = w.drewN n:=Any.strings_Cut Tryz.lays145 s sep m w hs hm
def Tryz.laysM144_ren:Go.Shelf.Ren:=⟨fun|144=>126|143=>148|219=>163|217=>172|225=>173|224=>174|267=>175|266=>182|314=>183|n=>n,fun|9=>9|4=>4|3=>3|5=>5|46=>223|146=>228|51=>227|n=>n,fun|1=>1|n=>n⟩
theorem Tryz.laysM144:Go.Proofs.LaysM.n144 Tryz.prog Tryz.laysM144_ren:={
  mixed:=by kernel_rfl
  f143:=Tryz.func148.trans (congrArg some (by kernel_rfl))
  f144:=Tryz.func126.trans (congrArg some (by kernel_rfl))
  f217:=Tryz.func172.trans (congrArg some (by kernel_rfl))
  f219:=Tryz.func163.trans (congrArg some (by kernel_rfl))
  f224:=Tryz.func174.trans (congrArg some (by kernel_rfl))
  f225:=Tryz.func173.trans (congrArg some (by kernel_rfl))
  f266:=Tryz.func182.trans (congrArg some (by kernel_rfl))
  f267:=Tryz.func175.trans (congrArg some (by kernel_rfl))
  f314:=Tryz.func183.trans (congrArg some (by kernel_rfl))
  t3:=Tryz.underlying3
  a3:=Tryz.isAgg3
  z3:=Tryz.sizeOf3
  v3:=Tryz.zeroValue3
  t4:=Tryz.underlying4
  a4:=Tryz.isAgg4
  z4:=Tryz.sizeOf4
  v4:=Tryz.zeroValue4
  t5:=Tryz.underlying5
  a5:=Tryz.isAgg5
  z5:=Tryz.sizeOf5
  v5:=Tryz.zeroValue5
  t9:=Tryz.underlying9
  a9:=Tryz.isAgg9
  z9:=Tryz.sizeOf9
  v9:=Tryz.zeroValue9
  t46:=Tryz.underlying223
  a46:=Tryz.isAgg223
  z46:=Tryz.sizeOf223
  v46:=Tryz.zeroValue223
  t51:=Tryz.underlying227
  a51:=Tryz.isAgg227
  z51:=Tryz.sizeOf227
  v51:=Tryz.zeroValue227
  t146:=Tryz.underlying228
  a146:=Tryz.isAgg228
  z146:=Tryz.sizeOf228
  v146:=Tryz.zeroValue228
  g1:=by kernel_rfl
  i3:=by kernel_rfl
  i4:=by kernel_rfl
  i5:=by kernel_rfl
  i9:=by kernel_rfl
  i46:=by kernel_rfl
  i51:=by kernel_rfl
  i146:=by kernel_rfl
  m1:=by kernel_rfl
  s1_3:=fun w h=>Go.Proofs.cell_of_shapedOpen_int (zero:=#[.int .i64 0]) (t:=3) h (of_decide_eq_true (by kernel_rfl)) (by kernel_rfl) rfl (by kernel_rfl) (by kernel_rfl) Tryz.underlying3 }
end Go.Proofs

namespace Go.Proofs.YtlnphjjhfgghkaaGreatDoor
open Go Go.Lg Go.RowKit Go.Extern.Stop Go.Stop Go.Extern
theorem as_nil (t:Value) (w:World) :
    Calls Tryz.prog 95 #[.nilIface,t] w fun e w'=>e = .returned (.bool false)∧w' = w:=by
  go_enter Tryz.func95,Tryz.ntmps95
  go_wp2
  go_ret
  exact ⟨rfl,rfl⟩
theorem As.valueOf27 (t:Addr) (w:World):(ReflectliteValue.unpack (.iface 153 (.pointer (some t)))).run Tryz.prog w
    = .ok (.agg #[.pointer (some ⟨2,153,none⟩),.pointer (some ⟨w.heap.size,0,none⟩),.int .u64 150]) (w.alloc (.cells #[.pointer (some t)] 153)):=by kernel_rfl
theorem As.type27 (a:Addr) (w:World):(ReflectliteValue.methodAny (ReflectliteValue.valueError "reflectlite.Value.Type" 0) (fun t _ _ _=>ReflectliteType.toType t) #[.agg #[.pointer (some ⟨2,153,none⟩),.pointer (some a),.int .u64 150]]).run Tryz.prog w
    = .ok (.iface 194 (.agg #[.pointer (some ⟨2,153,none⟩)])) w:=by kernel_rfl
theorem As.methodKind (h:Value) (w:World):(Go.method 359 194 (.agg #[h]) "Kind").run Tryz.prog w = .ok (201,h) w:=by kernel_rfl
theorem As.kind27 (w:World):((ReflectliteType.abiMethod fun t=>(fun a:Nat=>Value.int IntKind.u8 (a:Int)) <$> Rtype.kind t) #[.pointer (some ⟨2,153,none⟩)]).run Tryz.prog w = .ok (.int .u8 22) w:=by kernel_rfl
theorem As.kind25 (w:World):((ReflectliteType.abiMethod fun t=>(fun a:Nat=>Value.int IntKind.u8 (a:Int)) <$> Rtype.kind t) #[.pointer (some ⟨2,92,none⟩)]).run Tryz.prog w = .ok (.int .u8 22) w:=by kernel_rfl
theorem rlm (z:Sem Value) (f:TypeId→Addr→Nat→Nat→Sem Value) (v:Value) :
    ReflectliteValue.method z f #[v]=(do match ← ReflectliteValue.parts v with|none=>z|some (t,a,fl)=>f t a fl (fl % 32)):=rfl
theorem As.parts27 (a:Addr) (w:World):(ReflectliteValue.parts (.agg #[.pointer (some ⟨2,153,none⟩),.pointer (some a),.int .u64 150])).run Tryz.prog w = .ok (some (153,a,150)) w:=by kernel_rfl
theorem As.isNil27 (a p:Addr) (W:World) (ha:W.cell? a=some (.pointer (some p))) :
    (ReflectliteValue.method (ReflectliteValue.valueError "reflectlite.Value.IsNil" 0) ReflectliteValue.isNil #[.agg #[.pointer (some ⟨2,153,none⟩),.pointer (some a),.int .u64 150]]).run Tryz.prog W = .ok (.bool false) W:=by
  rw [rlm]
  simp only [Sem.run_bind,As.parts27,Result.andThen]
  simp [ReflectliteValue.isNil,loadVar,isAgg,underlying,Tryz.underlying153,ha,Result.andThen]
theorem As.methodElem (h:Value) (w:World):(Go.method 359 194 (.agg #[h]) "Elem").run Tryz.prog w = .ok (213,.agg #[h]) w:=by kernel_rfl
theorem As.methodImplements (h:Value) (w:World):(Go.method 359 194 (.agg #[h]) "Implements").run Tryz.prog w = .ok (214,.agg #[h]) w:=by kernel_rfl
theorem As.methodAssignableTo (h:Value) (w:World):(Go.method 359 194 (.agg #[h]) "AssignableTo").run Tryz.prog w = .ok (211,.agg #[h]) w:=by kernel_rfl
theorem As.elem27 (w:World):(ReflectliteType.method ReflectliteType.elem #[.agg #[.pointer (some ⟨2,153,none⟩)]]).run Tryz.prog w = .ok (.iface 194 (.agg #[.pointer (some ⟨2,92,none⟩)])) w:=by kernel_rfl
theorem As.implements25 (w:World):(ReflectliteType.relation "Implements" ReflectliteType.implements_ #[.agg #[.pointer (some ⟨2,92,none⟩)],.iface 194 (.agg #[.pointer (some ⟨2,33,none⟩)])]).run Tryz.prog w = .ok (.bool true) w:=by kernel_rfl
theorem As.typeOf25 (v:Value) (w:World):(ReflectliteType.typeOf #[.iface 92 v]).run Tryz.prog w = .ok (.iface 194 (.agg #[.pointer (some ⟨2,92,none⟩)])) w:=by kernel_rfl
theorem As.assignable25 (w:World):(ReflectliteType.relation "AssignableTo" ReflectliteType.assignableTo #[.agg #[.pointer (some ⟨2,92,none⟩)],.iface 194 (.agg #[.pointer (some ⟨2,92,none⟩)])]).run Tryz.prog w = .ok (.bool true) w:=by kernel_rfl
theorem As.valueOf25 (e:Addr) (w:World):(ReflectliteValue.unpack (.iface 92 (.pointer (some e)))).run Tryz.prog w
    = .ok (.agg #[.pointer (some ⟨2,92,none⟩),.pointer (some ⟨w.heap.size,0,none⟩),.int .u64 150]) (w.alloc (.cells #[.pointer (some e)] 92)):=by kernel_rfl
theorem As.elemOf27 (w:World):(Rtype.elem? 153).run Tryz.prog w = .ok (some 92) w:=by kernel_rfl
theorem As.mk25 (p:Addr) (w:World):(ReflectliteValue.mk 92 p ReflectliteValue.flagAddr).run Tryz.prog w = .ok (.agg #[.pointer (some ⟨2,92,none⟩),.pointer (some p),.int .u64 406]) w:=by kernel_rfl
theorem As.elemV27 (a p:Addr) (W:World) (ha:W.cell? a=some (.pointer (some p))) :
    (ReflectliteValue.method (ReflectliteValue.valueError "reflectlite.Value.Elem" 0) ReflectliteValue.elem #[.agg #[.pointer (some ⟨2,153,none⟩),.pointer (some a),.int .u64 150]]).run Tryz.prog W
      = .ok (.agg #[.pointer (some ⟨2,92,none⟩),.pointer (some p),.int .u64 406]) W:=by
  rw [rlm]
  simp only [Sem.run_bind,As.parts27,Result.andThen]
  simp [ReflectliteValue.elem,loadVar,isAgg,underlying,Tryz.underlying153,ha,Result.andThen,As.elemOf27,As.mk25]
theorem rls (v x:Value):ReflectliteValue.set #[v,x]=(do
    let (some (dst,a,fl),some (src,b,_)):=(← ReflectliteValue.parts v,← ReflectliteValue.parts x)
      | unsupported (.noEntry "extern/(internal/reflectlite.Value).Set.zeroValue")
    if fl / ReflectliteValue.flagAddr % 2 == 0 then unsupported (.noEntry "extern/(internal/reflectlite.Value).Set.unaddressable")
    let val ← loadVar src b
    if ← Rtype.directlyAssignable dst src then storeVar dst a val
    else if ← Rtype.implements dst src then
      if (← Rtype.kind src) == 20 then
        match val with
        | .nilIface=>unsupported (.noEntry "extern/reflectlite: a nil value of one interface type handed on as a value of another")
        | _=>storeVar dst a val
      else storeVar dst a (.iface src val)
    else panicString ("reflectlite.Set: value of type " ++ (← Rtype.spelt src) ++ " is not assignable to type " ++ (← Rtype.spelt dst))
    pure (.tuple #[])):=rfl
theorem As.parts25a (a:Addr) (w:World):(ReflectliteValue.parts (.agg #[.pointer (some ⟨2,92,none⟩),.pointer (some a),.int .u64 406])).run Tryz.prog w = .ok (some (92,a,406)) w:=by kernel_rfl
theorem As.parts25 (a:Addr) (w:World):(ReflectliteValue.parts (.agg #[.pointer (some ⟨2,92,none⟩),.pointer (some a),.int .u64 150])).run Tryz.prog w = .ok (some (92,a,150)) w:=by kernel_rfl
theorem As.direct25 (w:World):(Rtype.directlyAssignable 92 92).run Tryz.prog w = .ok true w:=by kernel_rfl
theorem As.set25 (ta b e:Addr) (old:Value) (W:World) (hb:W.cell? b=some (.pointer (some e))) (ht:W.cell? ta=some old) (hf:W.frozen? ta=false) :
    (ReflectliteValue.set #[.agg #[.pointer (some ⟨2,92,none⟩),.pointer (some ta),.int .u64 406],.agg #[.pointer (some ⟨2,92,none⟩),.pointer (some b),.int .u64 150]]).run Tryz.prog W
      = .ok (.tuple #[]) (W.setCell ta (.pointer (some e))):=by
  rw [rls]
  simp only [Sem.run_bind,As.parts25a,As.parts25,Result.andThen]
  simp [ReflectliteValue.flagAddr,loadVar,isAgg,underlying,Tryz.underlying92,hb,Result.andThen,As.direct25,storeVar,Value.cells,storeCells,Addr.add]
  rw [run_store Tryz.prog W ta _ _ (by rfl)]
  simp [ht,hf]
set_option maxRecDepth 100000 in
set_option maxHeartbeats 4000000 in
theorem as_hit (e t:Addr) (old:Value) (w:World) (hg:w.cell? ⟨0,0,none⟩=some (.iface 194 (.agg #[.pointer (some ⟨2,33,none⟩)]))) (ht0:w.cell? t=some old) (hf0:w.frozen? t=false) :
    Calls Tryz.prog 95 #[.iface 92 (.pointer (some e)),.iface 153 (.pointer (some t))] w fun ev w'=>ev = .returned (.bool true)∧w' = ((((w.alloc (.cells #[.pointer (some t)] 153)).alloc (.cells #[.pointer (some ⟨2,153,none⟩),.pointer (some ⟨w.heap.size,0,none⟩),.int .u64 150] 171)).alloc (.cells #[.pointer (some ⟨2,153,none⟩),.pointer (some ⟨w.heap.size,0,none⟩),.int .u64 150] 171)).alloc (.cells #[.pointer (some e)] 92)).setCell t (.pointer (some e)):=by
  have h6:=@run_callFunc_extern Tryz.prog 121 _ (fun args=>ReflectliteValue.unpack (args.getD 0 (.tuple #[]))) Tryz.func121 (by kernel_rfl) (by kernel_rfl) (by kernel_rfl) (by kernel_rfl)
  have h7:=@run_callFunc_extern Tryz.prog 122 _ (ReflectliteValue.methodAny (ReflectliteValue.valueError "reflectlite.Value.Type" 0) (fun t _ _ _=>ReflectliteType.toType t)) Tryz.func122 (by kernel_rfl) (by kernel_rfl) (by kernel_rfl) (by kernel_rfl)
  have h8:=@run_callFunc_extern Tryz.prog 123 _ (ReflectliteValue.method (ReflectliteValue.valueError "reflectlite.Value.IsNil" 0) ReflectliteValue.isNil) Tryz.func123 (by kernel_rfl) (by kernel_rfl) (by kernel_rfl) (by kernel_rfl)
  have h27:=@run_callFunc_extern Tryz.prog 201 _ (ReflectliteType.abiMethod fun t=>do pure (.int .u8 (← Rtype.kind t))) Tryz.func201 (by kernel_rfl) (by kernel_rfl) (by kernel_rfl) (by kernel_rfl)
  have h37:=@run_callFunc_extern Tryz.prog 213 _ (ReflectliteType.method ReflectliteType.elem) Tryz.func213 (by kernel_rfl) (by kernel_rfl) (by kernel_rfl) (by kernel_rfl)
  have h38:=@run_callFunc_extern Tryz.prog 214 _ (ReflectliteType.relation "Implements" ReflectliteType.implements_) Tryz.func214 (by kernel_rfl) (by kernel_rfl) (by kernel_rfl) (by kernel_rfl)
  have h10:=@run_callFunc_extern Tryz.prog 145 _ ReflectliteType.typeOf Tryz.func145 (by kernel_rfl) (by kernel_rfl) (by kernel_rfl) (by kernel_rfl)
  have h35:=@run_callFunc_extern Tryz.prog 211 _ (ReflectliteType.relation "AssignableTo" ReflectliteType.assignableTo) Tryz.func211 (by kernel_rfl) (by kernel_rfl) (by kernel_rfl) (by kernel_rfl)
  have h11:=@run_callFunc_extern Tryz.prog 146 _ (ReflectliteValue.method (ReflectliteValue.valueError "reflectlite.Value.Elem" 0) ReflectliteValue.elem) Tryz.func146 (by kernel_rfl) (by kernel_rfl) (by kernel_rfl) (by kernel_rfl)
  have h12:=@run_callFunc_extern Tryz.prog 147 _ ReflectliteValue.set Tryz.func147 (by kernel_rfl) (by kernel_rfl) (by kernel_rfl) (by kernel_rfl)
  have tO:=As.typeOf25
  have mA:=As.methodAssignableTo
  have a25:=As.assignable25
  have v25:=As.valueOf25
  have f6:=As.valueOf27
  have f7:=As.type27
  have mK:=As.methodKind
  have mE:=As.methodElem
  have mI:=As.methodImplements
  have k27:=As.kind27
  have k25:=As.kind25
  have e27:=As.elem27
  have i25:=As.implements25
  have n8:=As.isNil27 ⟨w.heap.size,0,none⟩ t ((w.alloc (.cells #[.pointer (some t)] 153)).alloc (.cells #[.pointer (some ⟨2,153,none⟩),.pointer (some ⟨w.heap.size,0,none⟩),.int .u64 150] 171)) (by simp)
  have hlt:0<w.heap.size:=by
    rcases Nat.eq_zero_or_pos w.heap.size with h0|h
    · simp [World.cell?,h0] at hg
    · exact h
  have hg2:((w.alloc (.cells #[.pointer (some t)] 153)).alloc (.cells #[.pointer (some ⟨2,153,none⟩),.pointer (some ⟨w.heap.size,0,none⟩),.int .u64 150] 171)).cell? ⟨0,0,none⟩=some (.iface 194 (.agg #[.pointer (some ⟨2,33,none⟩)])):=by
    rw [World.cell?_alloc_lt _ _ ⟨0,0,none⟩ (by simp),World.cell?_alloc_lt _ _ ⟨0,0,none⟩ hlt];exact hg
  have htl:t.block<w.heap.size:=by
    rcases Nat.lt_or_ge t.block w.heap.size with h|h
    · exact h
    · simp [World.cell?,Array.getElem?_eq_none h] at ht0
  have el:=As.elemV27 ⟨w.heap.size,0,none⟩ t (((w.alloc (.cells #[.pointer (some t)] 153)).alloc (.cells #[.pointer (some ⟨2,153,none⟩),.pointer (some ⟨w.heap.size,0,none⟩),.int .u64 150] 171)).alloc (.cells #[.pointer (some ⟨2,153,none⟩),.pointer (some ⟨w.heap.size,0,none⟩),.int .u64 150] 171)) (by rw [World.cell?_alloc_lt _ _ ⟨w.heap.size,0,none⟩ (by simp;omega)];simp)
  have st:=As.set25 t ⟨w.heap.size+1+1+1,0,none⟩ e old ((((w.alloc (.cells #[.pointer (some t)] 153)).alloc (.cells #[.pointer (some ⟨2,153,none⟩),.pointer (some ⟨w.heap.size,0,none⟩),.int .u64 150] 171)).alloc (.cells #[.pointer (some ⟨2,153,none⟩),.pointer (some ⟨w.heap.size,0,none⟩),.int .u64 150] 171)).alloc (.cells #[.pointer (some e)] 92))
    (by rw [World.cell?_alloc_at _ _ _ _ (by simp)];rfl)
    (by rw [World.cell?_alloc_lt _ _ t (by simp;omega),World.cell?_alloc_lt _ _ t (by simp;omega),World.cell?_alloc_lt _ _ t (by simp;omega),World.cell?_alloc_lt _ _ t htl];exact ht0)
    (by rw [World.frozen?_alloc_old _ _ t (by simp;omega),World.frozen?_alloc_old _ _ t (by simp;omega),World.frozen?_alloc_old _ _ t (by simp;omega),World.frozen?_alloc_old _ _ t (Nat.ne_of_lt htl)];exact hf0)
  go_enter Tryz.func95,Tryz.ntmps95
  go_wp2
  refine wp_loop_rounds 1 ?_
  rw [rounds_succ]
  go_wp2
  go_ret
  exact ⟨rfl,rfl⟩
end Go.Proofs.YtlnphjjhfgghkaaGreatDoor

namespace Go.Lg
open Go Go.RowKit
section
variable {P:Program} {E:Env} {g:Gh} {σ:St} {a:Act} {w:World}
theorem two_args {vs:Array Value} {x y:V} (hsz:vs.size=[x,y].length) (h:∀ (j:Nat) (u:Value) (c:V),vs[j]? = some u→([x,y]:List V)[j]? = some c→Rep g w u c):∃ u v,vs = #[u,v]∧Rep g w u x∧Rep g w v y:=by
  have hsz:vs.size=2:=hsz
  refine ⟨vs[0],vs[1],?_,h 0 _ _ (Array.getElem?_eq_getElem (by omega)) rfl,h 1 _ _ (Array.getElem?_eq_getElem (by omega)) rfl⟩
  apply Array.ext
  · simpa using hsz
  · intro i h1 h2
    have:i=0∨i=1:=by omega
    rcases this with rfl|rfl<;>rfl
noncomputable def shortS (l:List UInt8):Bool:=Nat.blt (lenA l 0) 4294967281
theorem shortS_ok {l:List UInt8} (h:shortS l=true):(ByteArray.mk ⟨l⟩).size<4294967281:=by
  unfold shortS at h
  rw [nblt,lenA_eq,decide_eq_true_eq] at h
  exact h
noncomputable def xCon (args:List V) (h:Hq):Rc:=match args with
  | [x,y]=>S6.rec (motive:=fun _=>Rc) (.err 20) (fun l=>S6.rec (motive:=fun _=>Rc) (.err 20) (fun m=>Bool.rec (motive:=fun _=>Rc) (.err 20) (Bool.rec (motive:=fun _=>Rc) (.ok (.bool false) h) (.ok (.bool true) h) (Lib.contains l m)) (shortS l)) (asS y)) (asS x)
  | _=>.err 20
noncomputable def xCut (args:List V) (h:Hq):Rc:=match args with
  | [x,y]=>S6.rec (motive:=fun _=>Rc) (.err 21) (fun l=>S6.rec (motive:=fun _=>Rc) (.err 21) (fun m=>Bool.rec (motive:=fun _=>Rc) (.err 21) (.ok (.tup [.str ⟨(Lib.cut l m).1.toArray⟩,.str ⟨(Lib.cut l m).2.1.toArray⟩,.bool (Lib.cut l m).2.2]) h) (shortS l)) (asS y)) (asS x)
  | _=>.err 21
theorem rBool {b:Bool} {x:Rc} {n:Nat} {v:V} {h:Hq} (e:Bool.rec (motive:=fun _=>Rc) (.err n) x b = .ok v h):b=true∧x = .ok v h:=fBool e
theorem strs_of {x y:V} {l m:List UInt8} {u v:Value} (hx:asS x = .ok l) (hy:asS y = .ok m) (hu:Rep g w u x) (hv:Rep g w v y):u = .string ⟨⟨l⟩⟩∧v = .string ⟨⟨m⟩⟩:=by
  rw [asS_ok hx] at hu
  rw [asS_ok hy] at hv
  exact ⟨hu.str_inv,hv.str_inv⟩
theorem fx_con {f:FuncId} (hen:entersOk P f=true) (hc:∀ (s sub:ByteArray) (w:World),GOk P w→s.size<4294967281→Calls P f #[.string s,.string sub] w fun e w'=>e = .returned (.bool (Lib.contains s.data.toList sub.data.toList))∧w' = w):FxOk P f (.ext xCon):=by
  intro args h v h' e tm
  match args,e with
  | [x,y],e =>
    have e:S6.rec (motive:=fun _=>Rc) (.err 20) (fun l=>S6.rec (motive:=fun _=>Rc) (.err 20) (fun m=>Bool.rec (motive:=fun _=>Rc) (.err 20) (Bool.rec (motive:=fun _=>Rc) (.ok (.bool false) h) (.ok (.bool true) h) (Lib.contains l m)) (shortS l)) (asS y)) (asS x) = .ok v h':=e
    cases hx:asS x with
    | no=>rw [hx] at e;cases e
    | ok l =>
      cases hy:asS y with
      | no=>rw [hx,hy] at e;cases e
      | ok m =>
        rw [hx,hy] at e
        obtain ⟨hs,e⟩:=rBool e
        have e:v = .bool (Lib.contains l m)∧h' = h:=by
          cases hb:Lib.contains l m with
          | false=>rw [hb] at e;cases e;exact ⟨rfl,rfl⟩
          | true=>rw [hb] at e;cases e;exact ⟨rfl,rfl⟩
        obtain ⟨rfl,rfl⟩:=e
        refine ⟨hen,fun E hE g a w vs hsim hsz hrep=>?_⟩
        obtain ⟨u1,u2,rfl,r1,r2⟩:=two_args hsz hrep
        obtain ⟨rfl,rfl⟩:=strs_of hx hy r1 r2
        refine (hc _ _ w (EOk.gok hsim) (shortS_ok hs)).mono ?_
        rintro e w' ⟨rfl,rfl⟩
        exact ⟨_,_,_,g,rfl,hsim,.imm _ _ (.bool _),rfl,rfl⟩
theorem fx_cut {f:FuncId} (hen:entersOk P f=true) (hc:∀ (s sep:ByteArray) (w:World),GOk P w→s.size<4294967281→Calls P f #[.string s,.string sep] w fun e w'=>e = .returned (.tuple #[.string ⟨(Lib.cut s.data.toList sep.data.toList).1.toArray⟩,.string ⟨(Lib.cut s.data.toList sep.data.toList).2.1.toArray⟩,.bool (Lib.cut s.data.toList sep.data.toList).2.2])∧∃ n,w' = w.drewN n):FxOk P f (.ext xCut):=by
  intro args h v h' e tm
  match args,e with
  | [x,y],e =>
    have e:S6.rec (motive:=fun _=>Rc) (.err 21) (fun l=>S6.rec (motive:=fun _=>Rc) (.err 21) (fun m=>Bool.rec (motive:=fun _=>Rc) (.err 21) (.ok (.tup [.str ⟨(Lib.cut l m).1.toArray⟩,.str ⟨(Lib.cut l m).2.1.toArray⟩,.bool (Lib.cut l m).2.2]) h) (shortS l)) (asS y)) (asS x) = .ok v h':=e
    cases hx:asS x with
    | no=>rw [hx] at e;cases e
    | ok l =>
      cases hy:asS y with
      | no=>rw [hx,hy] at e;cases e
      | ok m =>
        rw [hx,hy] at e
        obtain ⟨hs,e⟩:=rBool e
        cases e
        refine ⟨hen,fun E hE g a w vs hsim hsz hrep=>?_⟩
        obtain ⟨u1,u2,rfl,r1,r2⟩:=two_args hsz hrep
        obtain ⟨rfl,rfl⟩:=strs_of hx hy r1 r2
        refine (hc _ _ w (EOk.gok hsim) (shortS_ok hs)).mono ?_
        rintro e w' ⟨rfl,n,rfl⟩
        have hb:BelowD w.heap.size w (w.drewN n):=⟨⟨rfl,rfl,rfl,Nat.le_refl _,fun _ _=>rfl⟩,Nat.le_add_right _ _⟩
        refine ⟨_,_,_,g,rfl,hsim.grow_same hb,.imm _ _ (.tup _ _ rfl fun j u c hu hcj=>?_),rfl,rfl⟩
        match j,hu,hcj with
        | 0,hu,hcj=>simp at hu hcj;subst hu hcj;exact .str _
        | 1,hu,hcj=>simp at hu hcj;subst hu hcj;exact .str _
        | 2,hu,hcj=>simp at hu hcj;subst hu hcj;exact .bool _
        | j+3,hu,_=>simp at hu
noncomputable def xAs (tF tPF:TypeId) (args:List V) (h:Hq):Rc:=match args with
  | [x,y]=>C6.rec (motive:=fun _=>Rc) (.err 22) (.ok (.bool false) h) (fun t p=>Bool.rec (motive:=fun _=>Rc) (.err 22) (P6.rec (motive:=fun _=>Rc) (.err 22) (fun _ _=>C6.rec (motive:=fun _=>Rc) (.err 22) (.err 22) (fun t' q=>Bool.rec (motive:=fun _=>Rc) (.err 22) (Option.rec (motive:=fun _=>Rc) (.err 22) (fun h'=>.ok (.bool true) h') (qStore 1 h q p)) (Nat.beq t' tPF)) (asC y)) (fun _ _ _=>C6.rec (motive:=fun _=>Rc) (.err 22) (.err 22) (fun t' q=>Bool.rec (motive:=fun _=>Rc) (.err 22) (Option.rec (motive:=fun _=>Rc) (.err 22) (fun h'=>.ok (.bool true) h') (qStore 1 h q p)) (Nat.beq t' tPF)) (asC y)) (asP p)) (Nat.beq t tF)) (asC x)
  | _=>.err 22
theorem ptr_of {v:Value} {p:V} (h:Rep g w v p) (hp:(∃ cs off,asP p = .ip cs off)∨∃ k n off,asP p = .mp k n off):∃ e,v = .pointer (some e):=by
  rcases hp with ⟨cs,off,hp⟩|⟨k,n,off,hp⟩
  · rw [asP_ip hp] at h
    obtain ⟨b,o,us,T,fz,rfl,_⟩:=h.ip_inv
    exact ⟨_,rfl⟩
  · rw [asP_mp hp] at h
    obtain ⟨b,cap,_,rfl⟩:=h.mp_inv
    exact ⟨_,rfl⟩
theorem fx_as {f:FuncId} {tF tPF:TypeId} (hen:entersOk P f=true) (hsz1:szT P tF=some 1) (hnil:∀ (t:Value) (w:World),Calls P f #[.nilIface,t] w fun e w'=>e = .returned (.bool false)∧w' = w)
    (hhit:∀ (e t:Addr) (old:Value) (w:World),GOk P w→w.cell? t=some old→w.frozen? t=false→Calls P f #[.iface tF (.pointer (some e)),.iface tPF (.pointer (some t))] w fun ev w'=>ev = .returned (.bool true)∧∃ o1 o2 o3 o4,w' = ((((w.alloc o1).alloc o2).alloc o3).alloc o4).setCell t (.pointer (some e))) :
    FxOk P f (.ext (xAs tF tPF)):=by
  intro args h v h' e tm
  match args,e with
  | [x,y],e =>
    have e:C6.rec (motive:=fun _=>Rc) (.err 22) (.ok (.bool false) h) (fun t p=>Bool.rec (motive:=fun _=>Rc) (.err 22) (P6.rec (motive:=fun _=>Rc) (.err 22) (fun _ _=>C6.rec (motive:=fun _=>Rc) (.err 22) (.err 22) (fun t' q=>Bool.rec (motive:=fun _=>Rc) (.err 22) (Option.rec (motive:=fun _=>Rc) (.err 22) (fun h'=>.ok (.bool true) h') (qStore 1 h q p)) (Nat.beq t' tPF)) (asC y)) (fun _ _ _=>C6.rec (motive:=fun _=>Rc) (.err 22) (.err 22) (fun t' q=>Bool.rec (motive:=fun _=>Rc) (.err 22) (Option.rec (motive:=fun _=>Rc) (.err 22) (fun h'=>.ok (.bool true) h') (qStore 1 h q p)) (Nat.beq t' tPF)) (asC y)) (asP p)) (Nat.beq t tF)) (asC x) = .ok v h':=e
    cases hx:asC x with
    | no=>rw [hx] at e;cases e
    | nil =>
      rw [hx] at e
      cases e
      refine ⟨hen,fun E hE g a w vs hsim hsz hrep=>?_⟩
      obtain ⟨u1,u2,rfl,r1,r2⟩:=two_args hsz hrep
      rw [asC_nil hx] at r1
      rw [r1.nili_inv]
      refine (hnil u2 w).mono ?_
      rintro e w' ⟨rfl,rfl⟩
      exact ⟨_,_,_,g,rfl,hsim,.imm _ _ (.bool _),rfl,rfl⟩
    | ifc t p =>
      rw [hx] at e
      obtain ⟨ht,e2⟩:=rBool e
      clear e
      have ht:=Nat.eq_of_beq_eq_true ht
      subst ht
      have key:((∃ cs off,asP p = .ip cs off)∨∃ k n off,asP p = .mp k n off)∧∃ q,asC y = .ifc tPF q∧qStore 1 h q p=some h'∧v = .bool true:=by
        have fin:C6.rec (motive:=fun _=>Rc) (.err 22) (.err 22) (fun t' q=>Bool.rec (motive:=fun _=>Rc) (.err 22) (Option.rec (motive:=fun _=>Rc) (.err 22) (fun h'=>.ok (.bool true) h') (qStore 1 h q p)) (Nat.beq t' tPF)) (asC y) = .ok v h'→∃ q,asC y = .ifc tPF q∧qStore 1 h q p=some h'∧v = .bool true:=by
          intro e
          cases hy:asC y with
          | no=>rw [hy] at e;cases e
          | nil=>rw [hy] at e;cases e
          | ifc t' q =>
            rw [hy] at e
            obtain ⟨ht,e3⟩:=rBool e
            clear e
            have ht:=Nat.eq_of_beq_eq_true ht
            subst ht
            cases hq:qStore 1 h q p with
            | none=>rw [hq] at e3;cases e3
            | some h1=>rw [hq] at e3;cases e3;exact ⟨q,rfl,hq,rfl⟩
        cases hp:asP p with
        | no=>rw [hp] at e2;cases e2
        | ip cs off=>rw [hp] at e2;exact ⟨.inl ⟨cs,off,rfl⟩,fin e2⟩
        | mp k n off=>rw [hp] at e2;exact ⟨.inr ⟨k,n,off,rfl⟩,fin e2⟩
      obtain ⟨hp,q,hy,hq,rfl⟩:=key
      obtain ⟨pre,H',s1,s2,s3,s4⟩:=qStore_ok hq
      refine ⟨hen,fun E hE g a w vs hsim hsz hrep=>?_⟩
      obtain ⟨u1,u2,rfl,r1,r2⟩:=two_args hsz hrep
      rw [asC_ifc hx] at r1
      rw [asC_ifc hy] at r2
      obtain ⟨v1,rfl,k1⟩:=r1.ifc_inv
      obtain ⟨v2,rfl,k2⟩:=r2.ifc_inv
      obtain ⟨ad,rfl⟩:=ptr_of k1 hp
      -- the target: an object's cell
      have hs1:∀ w1,SimG E g ⟨tm,h.H,h.c⟩ a w1→Rep g w1 (.pointer (some ad)) p→Rep g w1 v2 q→∃ t old,v2 = .pointer (some t)∧w1.cell? t=some old∧w1.frozen? t=false∧t.block<w1.heap.size∧∃ g',SimG E g' ⟨tm,H',h.c⟩ a (w1.setCell t (.pointer (some ad))):=by
        intro w1 hsim1 q1 q2
        have hst:=store_ok (P:=P) (s:=0) hsim1 hsz1 q2 q1
        rw [s1] at hst
        obtain ⟨n,w2,g',e1,_,e3⟩:=hst s2
        cases hqq:q<;>rw [hqq] at s1<;>simp only [lstore] at s1<;>try (cases s1;done)
        rename_i k gn off
        rw [hqq] at q2
        obtain ⟨b,cap,hb,rfl⟩:=q2.mp_inv
        cases hk:h.H k with
        | none=>rw [hk] at s1;cases s1
        | some o =>
          cases o with
          | map es=>rw [hk] at s1;cases s1
          | it _ _=>rw [hk] at s1;cases s1
          | row g0 esz cs =>
            rw [hk] at s1
            simp only [] at s1
            by_cases hg:g0=gn
            case neg=>rw [if_neg hg] at s1;cases s1
            rw [if_pos hg] at s1
            subst hg
            cases s1
            obtain ⟨c1,c2,c3⟩:=s2
            obtain ⟨blk,cap',z1,z2,z3⟩:=hsim1.obj k _ hk
            rw [hb] at z1;cases z1
            obtain ⟨p1,p2,p3,us,T,fz,y1,y2,y3,y4,y5⟩:=z3
            have hoff:off<us.size:=by omega
            have hc:w1.cell? ⟨b,off,none⟩=some us[off]:=by rw [cell_at y1];exact Array.getElem?_eq_getElem hoff
            have hf:w1.frozen? ⟨b,off,none⟩=false:=frozen_at y1 (y2.1 off hoff)
            refine ⟨⟨b,off,none⟩,us[off],rfl,hc,hf,p2,g',?_⟩
            have hrun:(do Instr.storeAt t (.pointer (some ⟨b,off,none⟩)) (.pointer (some ad));pure .skip:Sem Next).run P w1 = .ok .skip (w1.setCell ⟨b,off,none⟩ (.pointer (some ad))):=by
              have hst1:=run_store P w1 ⟨b,off,none⟩ (.pointer (some ad)) .plain rfl
              rw [hc] at hst1
              simp only [hf] at hst1
              simp only [Instr.storeAt,Instr.sureAddr,storeVar]
              simp [szT_run hsz1,Value.cells,storeCells,Addr.add,hst1]
            rw [hrun] at e1
            cases e1
            exact e3
      obtain ⟨t0,old,e1,e2,e3,e4,_⟩:=hs1 w hsim k1 k2
      subst e1
      refine (hhit ad t0 old w (EOk.gok hsim) e2 e3).mono ?_
      rintro ev w' ⟨rfl,o1,o2,o3,o4,rfl⟩
      have hb:BelowD w.heap.size w ((((w.alloc o1).alloc o2).alloc o3).alloc o4):=((((BelowD.refl _ _).alloc (Nat.le_refl _) _).alloc (by simp) _).alloc (by simp;omega) _).alloc (by simp;omega) _
      have hmono:∀ v x,Rep g w v x→Rep g ((((w.alloc o1).alloc o2).alloc o3).alloc o4) v x:=fun v x h=>h.mono (fun _ h=>h) (fun b hm=>hb.block b (hsim.immlt b hm)) (fun _ _ _ h=>h)
      obtain ⟨t1,_,f1,_,_,_,g',f5⟩:=hs1 _ (hsim.grow_same hb) (hmono _ _ k1) (hmono _ _ k2)
      cases f1
      refine ⟨_,_,⟨tm,h'.H,h'.c⟩,g',rfl,?_,.imm _ _ (.bool _),rfl,rfl⟩
      rw [s3,s4]
      exact f5
end
end Go.Lg

namespace Go.Lg
open Go Go.RowKit
def LC.l:LC→LC
  | .seq x _=>x
  | .join x _=>x
  | c=>c
def LC.r:LC→LC
  | .seq _ y=>y
  | .join _ y=>y
  | c=>c
end Go.Lg

namespace Go.Proofs.YtlnphjjhfgghkaaGreatDoor
open Go Go.Lg Go.RowKit
set_option maxRecDepth 100000
theorem gl_eq:glOf Tryz.prog=[(1,.int),(0,.val (.iface 194 (.agg #[.pointer (some ⟨2,33,none⟩)])))]:=by kernel_rfl
theorem gok_err {w:World} (h:GOk Tryz.prog w):w.cell? ⟨0,0,none⟩=some (.iface 194 (.agg #[.pointer (some ⟨2,33,none⟩)])) :=
  (h (0,.val (.iface 194 (.agg #[.pointer (some ⟨2,33,none⟩)]))) (by rw [gl_eq];simp)).2
theorem gok_max {w:World} (h:GOk Tryz.prog w):∃ m,w.cell? ⟨1,0,none⟩=some (.int .i64 m) :=
  (h (1,.int) (by rw [gl_eq];simp)).2
theorem fxCon:FxOk Tryz.prog 126 (.ext xCon) :=
  fx_con (by kernel_rfl) fun s sub w hg hs=>by
    obtain ⟨m,hm⟩:=gok_max hg
    exact Tryz.strings_Contains s sub m w hs hm
theorem fxCut:FxOk Tryz.prog 156 (.ext xCut) :=
  fx_cut (by kernel_rfl) fun s sub w hg hs=>by
    obtain ⟨m,hm⟩:=gok_max hg
    exact Tryz.strings_Cut s sub m w hs hm
theorem fxAs:FxOk Tryz.prog 95 (.ext (xAs 92 153)) :=
  fx_as (by kernel_rfl) (by kernel_rfl) (fun t w=>as_nil t w) fun e t old w hg ht hf=>(as_hit e t old w (gok_err hg) ht hf).mono fun ev w' ⟨h1,h2⟩=>⟨h1,_,_,_,_,h2⟩
noncomputable def tbX:Tq Fx:=tbPut 95 (.ext (xAs 92 153)) (tbPut 126 (.ext xCon) (tbPut 156 (.ext xCut) tbAll))
theorem tbX_ok:TbOk Tryz.prog tbX:=tb_put (tb_put (tb_put tbAll_ok (by kernel_rfl) fxCut) (by kernel_rfl) fxCon) (by kernel_rfl) fxAs
theorem told_ret:PRet Tryz.prog 9 [] (.bool true):=true_of_cl tbX_ok 60 (by kernel_rfl)
end Go.Proofs.YtlnphjjhfgghkaaGreatDoor

namespace Go.Lg
open Go Go.RowKit
mutual
theorem RT.ind {p:RT→Prop} (h:∀ k n r e,(∀ x∈e,p x)→p (.mk k n r e)):∀ t,p t
  | .mk k n r e=>h k n r e (RT.indL h e)
theorem RT.indL {p:RT→Prop} (h:∀ k n r e,(∀ x∈e,p x)→p (.mk k n r e)):∀ (e:List RT),∀ x∈e,p x
  | [],x,hx=>absurd hx (by simp)
  | y::l,x,hx=>(List.mem_cons.1 hx).elim (fun e=>e▸RT.ind h y) (fun hx=>RT.indL h l x hx)
end
def isRef (k:Int):Bool:=decide (k=4) || decide (k=5)
def ownS (k:Int) (r:List Int):List Int:=if k=3 then r else if isRef k=true then r.take 1 else []
mutual
def regS:RT→List Int
  | .mk k _ r e=>ownS k r++(if isRef k=true then regH e else [])
def regH:List RT→List Int
  | []=>[]
  | x::_=>regS x
end
mutual
def sameB:RT→RT→Bool
  | .mk k n r e,b=>decide (k=b.kind) && (decide (n=b.name) && (decide (r.length=b.regions.length) && sameL e b.elem))
def sameL:List RT→List RT→Bool
  | [],m=>m.isEmpty
  | x::l,m=>match m with
    | []=>false
    | y::m=>sameB x y && sameL l m
end
mutual
def exB:RT→RT→Bool
  | .mk k n r e,b=>decide (k=b.kind) && (decide (n=b.name) && (decide (r=b.regions) && exL e b.elem))
def exL:List RT→List RT→Bool
  | [],m=>m.isEmpty
  | x::l,m=>match m with
    | []=>false
    | y::m=>exB x y && exL l m
end
def mapR (m:List Int) (r:Int):Int:=if 0≤r∧r<m.length then m.getD r.toNat 0 else r
mutual
def substS (m:List Int):RT→RT
  | .mk k n r e=>.mk k n (r.map (mapR m)) (substL m e)
def substL (m:List Int):List RT→List RT
  | []=>[]
  | x::l=>substS m x::substL m l
end
mutual
def wellS:RT→List (Int × Int)
  | .mk k _ r e=>if isRef k=true then wellH (r.take 1) e else []
def wellH (q:List Int):List RT→List (Int × Int)
  | []=>[]
  | x::_=>((regS x).flatMap fun a=>q.map fun b=>(a,b))++wellS x
end
def bothS:List Int→List Int→List (Int × Int)
  | x::l,y::m=>(x,y)::(y,x)::bothS l m
  | _,_=>[]
mutual
def subS:RT→RT→List (Int × Int)
  | .mk k _ r e,b=>if k=3 then bothS r b.regions else if isRef k=true then (r.take 1).zip b.regions++subH (decide (k=4)) e b.elem else []
def subH (ref:Bool):List RT→List RT→List (Int × Int)
  | [],_=>[]
  | x::_,m=>match m with
    | []=>[]
    | y::_=>if ref=true then subS x y else bothS (regS x) (regS y)
end
mutual
def plainB:RT→Bool
  | .mk k _ r e=>(if isRef k=true then decide (r.length=1) else (decide (k=3) || decide (r.length=0)) && decide (e.length=0)) && (decide (e.length≤1) && plainH e)
def plainH:List RT→Bool
  | []=>true
  | x::_=>plainB x
end
def Via (l:List (Int × Int)) (p:Int × Int):Prop:=∃ j,(p.1,j)∈l∧(j,p.2)∈l
theorem Via.mono {l m:List (Int × Int)} {p:Int × Int} (h:Via l p) (hs:∀ q∈l,q∈m):Via m p:=by
  obtain ⟨j,h1,h2⟩:=h
  exact ⟨j,hs _ h1,hs _ h2⟩
end Go.Lg

namespace Go.Lg
open Go Go.RowKit
inductive TT where
  | mk (kind:Int) (name:ByteArray) (lives:List ByteArray) (elem:List TT)
def TT.kind:TT→Int | .mk k _ _ _=>k
def TT.name:TT→ByteArray | .mk _ n _ _=>n
def TT.lives:TT→List ByteArray | .mk _ _ r _=>r
def TT.elem:TT→List TT | .mk _ _ _ e=>e
mutual
def TT.cells:TT→List V
  | .mk k n r e=>[.int .i64 k,.str n,encL cS r,.sl e.length (TT.cellsL e)]
def TT.cellsL:List TT→List V
  | []=>[]
  | x::r=>TT.cells x++TT.cellsL r
end
mutual
def TT.ok:TT→Prop
  | .mk k n r e=>InI64 k∧n.size≤maxLen∧(r.length≤maxLen∧∀ x∈r,x.size≤maxLen)∧e.length≤maxLen∧TT.okL e
def TT.okL:List TT→Prop
  | []=>True
  | x::r=>TT.ok x∧TT.okL r
end
theorem TT.cellsL_eq:∀ l:List TT,TT.cellsL l=l.flatMap TT.cells
  | []=>rfl
  | x::r=>by rw [TT.cellsL,TT.cellsL_eq r];rfl
theorem TT.okL_iff:∀ l:List TT,TT.okL l↔∀ x∈l,x.ok
  | []=>by simp [TT.okL]
  | x::r=>by rw [TT.okL,TT.okL_iff r];simp
theorem TT.cells_eq (t:TT):t.cells=[.int .i64 t.kind,.str t.name,encL cS t.lives,encL TT.cells t.elem]:=by
  cases t with
  | mk k n r e=>rw [TT.cells,TT.cellsL_eq];rfl
theorem TT.ok_iff (t:TT):t.ok↔InI64 t.kind∧t.name.size≤maxLen∧(t.lives.length≤maxLen∧∀ x∈t.lives,x.size≤maxLen)∧t.elem.length≤maxLen∧∀ x∈t.elem,x.ok:=by
  cases t with
  | mk k n r e=>rw [TT.ok,TT.okL_iff];rfl
theorem TT.len (x:TT):x.cells.length=4:=by rw [TT.cells_eq];rfl
theorem TT.c0 (x:TT):ldV false 1 x.cells 0=some (.int .i64 x.kind):=by simp [ldV,TT.cells_eq]
theorem TT.c1 (x:TT):ldV false 1 x.cells 1=some (.str x.name):=by simp [ldV,TT.cells_eq]
theorem TT.c2 (x:TT):ldV false 1 x.cells 2=some (encL cS x.lives):=by simp [ldV,TT.cells_eq]
theorem TT.c3 (x:TT):ldV false 1 x.cells 3=some (encL TT.cells x.elem):=by simp [ldV,TT.cells_eq]
theorem TT.call (x:TT):ldV true 4 x.cells 0=some (.agg x.cells):=by simp only [ldV,if_true,Nat.zero_add,TT.len,Nat.le_refl,List.drop_zero];rw [List.take_of_length_le (by rw [TT.len];exact Nat.le_refl _)]
theorem TT.snapc (x:TT) (H:Heap) (d:Nat):x.cells.map (snap H (d+1))=x.cells:=by simp [TT.cells_eq,snap,encL]
theorem TT.sokc (x:TT) (H:Heap) (d:Nat):x.cells.all (sok H (d+1))=true:=by simp [TT.cells_eq,sok,encL]
theorem TT.onec (x:TT):x.cells.all V.one=true:=by simp [TT.cells_eq,V.one,encL]
theorem TT.imvc (x:TT) (d:Nat):x.cells.all (imV (d+1))=true:=by simp [TT.cells_eq,imV,encL]
theorem TT.ld {l:List TT} {i j n:Nat} {agg:Bool} (h:i<l.length) (hj:j+n≤4) (hn:0<n):ldV agg n (l.flatMap TT.cells) (i*4+j)=ldV agg n l[i].cells j:=ld_flat TT.len h hj hn
theorem TT.ld0 {l:List TT} {i n:Nat} {agg:Bool} (h:i<l.length) (hj:n≤4) (hn:0<n):ldV agg n (l.flatMap TT.cells) (i*4)=ldV agg n l[i].cells 0:=ld_flat0 TT.len h hj hn
structure FD where
  mu:Bool
  name:ByteArray
  type:TT
@[irreducible] def FD.cells (f:FD):List V:=[.bool f.mu,.str f.name,.int .i64 f.type.kind,.str f.type.name,encL cS f.type.lives,encL TT.cells f.type.elem]
structure ST where
  pub:Bool
  name:ByteArray
  lives:List ByteArray
  fields:List FD
  at':Int
@[irreducible] def ST.cells (s:ST):List V:=[.bool s.pub,.str s.name,encL cS s.lives,encL FD.cells s.fields,.int .i64 s.at']
theorem FD.len (x:FD):x.cells.length=6:=by simp [FD.cells]
theorem ST.len (x:ST):x.cells.length=5:=by simp [ST.cells]
theorem FD.c0 (x:FD):ldV false 1 x.cells 0=some (.bool x.mu):=by simp [ldV,FD.cells]
theorem FD.c1 (x:FD):ldV false 1 x.cells 1=some (.str x.name):=by simp [ldV,FD.cells]
theorem FD.c2 (x:FD):ldV false 1 x.cells 2=some (.int .i64 x.type.kind):=by simp [ldV,FD.cells]
theorem FD.c3 (x:FD):ldV false 1 x.cells 3=some (.str x.type.name):=by simp [ldV,FD.cells]
theorem FD.c4 (x:FD):ldV false 1 x.cells 4=some (encL cS x.type.lives):=by simp [ldV,FD.cells]
theorem FD.c5 (x:FD):ldV false 1 x.cells 5=some (encL TT.cells x.type.elem):=by simp [ldV,FD.cells]
theorem FD.call (x:FD):ldV true 6 x.cells 0=some (.agg x.cells):=by simp only [ldV,if_true,Nat.zero_add,FD.len,Nat.le_refl,List.drop_zero];rw [List.take_of_length_le (by rw [FD.len];exact Nat.le_refl _)]
theorem FD.s2_4 (x:FD):ldV true 4 x.cells 2=some (.agg x.type.cells):=by simp [ldV,FD.cells,TT.cells_eq]
theorem FD.snapc (x:FD) (H:Heap) (d:Nat):x.cells.map (snap H (d+1))=x.cells:=by simp [FD.cells,snap,encL]
theorem FD.sokc (x:FD) (H:Heap) (d:Nat):x.cells.all (sok H (d+1))=true:=by simp [FD.cells,sok,encL]
theorem FD.onec (x:FD):x.cells.all V.one=true:=by simp [FD.cells,V.one,encL]
theorem FD.imvc (x:FD) (d:Nat):x.cells.all (imV (d+1))=true:=by simp [FD.cells,imV,encL]
theorem ST.c0 (x:ST):ldV false 1 x.cells 0=some (.bool x.pub):=by simp [ldV,ST.cells]
theorem ST.c1 (x:ST):ldV false 1 x.cells 1=some (.str x.name):=by simp [ldV,ST.cells]
theorem ST.c2 (x:ST):ldV false 1 x.cells 2=some (encL cS x.lives):=by simp [ldV,ST.cells]
theorem ST.c3 (x:ST):ldV false 1 x.cells 3=some (encL FD.cells x.fields):=by simp [ldV,ST.cells]
theorem ST.c4 (x:ST):ldV false 1 x.cells 4=some (.int .i64 x.at'):=by simp [ldV,ST.cells]
theorem ST.call (x:ST):ldV true 5 x.cells 0=some (.agg x.cells):=by simp only [ldV,if_true,Nat.zero_add,ST.len,Nat.le_refl,List.drop_zero];rw [List.take_of_length_le (by rw [ST.len];exact Nat.le_refl _)]
theorem ST.snapc (x:ST) (H:Heap) (d:Nat):x.cells.map (snap H (d+1))=x.cells:=by simp [ST.cells,snap,encL]
theorem ST.sokc (x:ST) (H:Heap) (d:Nat):x.cells.all (sok H (d+1))=true:=by simp [ST.cells,sok,encL]
theorem ST.onec (x:ST):x.cells.all V.one=true:=by simp [ST.cells,V.one,encL]
theorem ST.imvc (x:ST) (d:Nat):x.cells.all (imV (d+1))=true:=by simp [ST.cells,imV,encL]
theorem FD.ld {l:List FD} {i j n:Nat} {agg:Bool} (h:i<l.length) (hj:j+n≤6) (hn:0<n):ldV agg n (l.flatMap FD.cells) (i*6+j)=ldV agg n l[i].cells j:=ld_flat FD.len h hj hn
theorem FD.ld0 {l:List FD} {i n:Nat} {agg:Bool} (h:i<l.length) (hj:n≤6) (hn:0<n):ldV agg n (l.flatMap FD.cells) (i*6)=ldV agg n l[i].cells 0:=ld_flat0 FD.len h hj hn
theorem ST.ld {l:List ST} {i j n:Nat} {agg:Bool} (h:i<l.length) (hj:j+n≤5) (hn:0<n):ldV agg n (l.flatMap ST.cells) (i*5+j)=ldV agg n l[i].cells j:=ld_flat ST.len h hj hn
theorem ST.ld0 {l:List ST} {i n:Nat} {agg:Bool} (h:i<l.length) (hj:n≤5) (hn:0<n):ldV agg n (l.flatMap ST.cells) (i*5)=ldV agg n l[i].cells 0:=ld_flat0 ST.len h hj hn
theorem tt_len (l:List TT):(l.flatMap TT.cells).length=l.length*4:=flat_len TT.len l
theorem tt_first {l:List TT} (h:0<l.length):ldV true 4 (l.flatMap TT.cells) 0=some (.agg (l[0]).cells):=by
  have:=TT.ld0 (l:=l) (i:=0) (n:=4) (agg:=true) h (by decide) (by decide)
  rw [Nat.zero_mul] at this
  rw [this,TT.call]
mutual
theorem TT.ind {p:TT→Prop} (h:∀ k n r e,(∀ x∈e,p x)→p (.mk k n r e)):∀ t,p t
  | .mk k n r e=>h k n r e (TT.indL h e)
theorem TT.indL {p:TT→Prop} (h:∀ k n r e,(∀ x∈e,p x)→p (.mk k n r e)):∀ (e:List TT),∀ x∈e,p x
  | [],x,hx=>absurd hx (by simp)
  | y::l,x,hx=>(List.mem_cons.1 hx).elim (fun e=>e▸TT.ind h y) (fun hx=>TT.indL h l x hx)
end
def idxS (l:List ByteArray) (s:ByteArray):Int:=match l with
  | []=>-1
  | x::r=>if x=s then 0 else if idxS r s<0 then -1 else idxS r s+1
def upS (next:Int) (n:Nat):List Int:=(List.range n).map fun j:Nat=>next+(j:Int)
def nextS (sc:ByteArray→Nat) (k:Int) (n:ByteArray) (l:List ByteArray) (next:Int):Int :=
  if isRef k=true then (if l.length=0 then next+1 else next) else if k=3∧l.length=0 then next+sc n else next
def regsS (sc:ByteArray→Nat) (lives:List ByteArray) (k:Int) (n:ByteArray) (l:List ByteArray) (next:Int):List Int :=
  if isRef k=true then (if l.length=0 then [next] else [idxS lives (l.getD 0 ⟨#[]⟩)]) else if k=3 then (if l.length=0 then upS next (sc n) else l.map (idxS lives)) else []
mutual
def liftS (sc:ByteArray→Nat) (lives:List ByteArray):TT→Int→RT × Int
  | .mk k n l e,next=>if isRef k=true∧0<e.length then (.mk k n (regsS sc lives k n l next) [(liftH sc lives e (nextS sc k n l next)).1],(liftH sc lives e (nextS sc k n l next)).2) else (.mk k n (regsS sc lives k n l next) [],nextS sc k n l next)
def liftH (sc:ByteArray→Nat) (lives:List ByteArray):List TT→Int→RT × Int
  | [],next=>(.mk 0 ⟨#[]⟩ [] [],next)
  | x::_,next=>liftS sc lives x next
end
end Go.Lg

namespace Go.Lg
open Go Go.RowKit
section
variable {P:Program}
end
theorem ba_beq (a b:ByteArray):(a == b)=decide (a=b):=by
  obtain ⟨x⟩:=a
  obtain ⟨y⟩:=b
  have h:((⟨x⟩:ByteArray) == ⟨y⟩)=(x == y):=rfl
  rw [h,Bool.eq_iff_iff]
  simp
theorem txt_eq (a b:ByteArray):(a.toList == b.toList)=decide (a=b):=by
  rw [ByteArray.toList_eq,ByteArray.toList_eq,Bool.eq_iff_iff]
  simp only [beq_iff_eq,decide_eq_true_eq]
  constructor
  · intro h
    cases a;cases b
    simp only at h
    congr 1
    exact Array.toList_inj.1 h
  · rintro rfl;rfl
theorem ldc0 (a:V) (r:List V):ldV false 1 (a::r) 0=some a:=rfl
theorem ldc1 (a b:V) (r:List V):ldV false 1 (a::b::r) 1=some b:=rfl
theorem ldc2 (a b c:V) (r:List V):ldV false 1 (a::b::c::r) 2=some c:=rfl
theorem ldc3 (a b c d:V) (r:List V):ldV false 1 (a::b::c::d::r) 3=some d:=rfl
theorem ldc4 (a b c d e:V) (r:List V):ldV false 1 (a::b::c::d::e::r) 4=some e:=rfl
theorem gt0 (a:V) (r:List V):(a::r)[0]? = some a:=rfl
theorem gt1 (a b:V) (r:List V):(a::b::r)[1]? = some b:=rfl
theorem gt2 (a b c:V) (r:List V):(a::b::c::r)[2]? = some c:=rfl
theorem lda5 (a b c d e:V):ldV true 5 [a,b,c,d,e] 0=some (.agg [a,b,c,d,e]):=rfl
theorem lda4 (a b c d:V):ldV true 4 [a,b,c,d] 0=some (.agg [a,b,c,d]):=rfl
theorem nz_e0 (d:Nat):nz (d+1) .e0 = .sl 0 []:=rfl
theorem nz_agg (d:Nat) (cs:List V):nz (d+1) (.agg cs) = .agg (cs.map (nz d)):=rfl
theorem nz_int (d:Nat) (k:IntKind) (n:Int):nz d (.int k n) = .int k n:=by cases d<;>rfl
theorem nz_bool (d:Nat) (b:Bool):nz d (.bool b) = .bool b:=by cases d<;>rfl
theorem nz_str (d:Nat) (s:ByteArray):nz d (.str s) = .str s:=by cases d<;>rfl
theorem TTA:type_of% (And.intro @TT.c0 (And.intro @TT.c1 (And.intro @TT.c2 (And.intro @TT.c3 (And.intro @TT.call (And.intro @TT.snapc (And.intro @TT.sokc (And.intro @TT.onec (And.intro @TT.imvc (And.intro @TT.len (And.intro @TT.ld (And.intro @TT.ld0 (And.intro @FD.c0 (And.intro @FD.c1 (And.intro @FD.c2 (And.intro @FD.c3 (And.intro @FD.c4 (And.intro @FD.c5 (And.intro @FD.call (And.intro @FD.s2_4 (And.intro @FD.snapc (And.intro @FD.sokc (And.intro @FD.onec (And.intro @FD.imvc (And.intro @FD.len (And.intro @ST.c0 (And.intro @ST.c1 (And.intro @ST.c2 (And.intro @ST.c3 (And.intro @ST.c4 (And.intro @ST.call (And.intro @ST.snapc (And.intro @ST.sokc (And.intro @ST.onec (And.intro @ST.imvc (And.intro @ST.len (And.intro @FD.ld (And.intro @FD.ld0 (And.intro @ST.ld (@ST.ld0)))))))))))))))))))))))))))))))))))))))):=And.intro @TT.c0 (And.intro @TT.c1 (And.intro @TT.c2 (And.intro @TT.c3 (And.intro @TT.call (And.intro @TT.snapc (And.intro @TT.sokc (And.intro @TT.onec (And.intro @TT.imvc (And.intro @TT.len (And.intro @TT.ld (And.intro @TT.ld0 (And.intro @FD.c0 (And.intro @FD.c1 (And.intro @FD.c2 (And.intro @FD.c3 (And.intro @FD.c4 (And.intro @FD.c5 (And.intro @FD.call (And.intro @FD.s2_4 (And.intro @FD.snapc (And.intro @FD.sokc (And.intro @FD.onec (And.intro @FD.imvc (And.intro @FD.len (And.intro @ST.c0 (And.intro @ST.c1 (And.intro @ST.c2 (And.intro @ST.c3 (And.intro @ST.c4 (And.intro @ST.call (And.intro @ST.snapc (And.intro @ST.sokc (And.intro @ST.onec (And.intro @ST.imvc (And.intro @ST.len (And.intro @FD.ld (And.intro @FD.ld0 (And.intro @ST.ld (@ST.ld0)))))))))))))))))))))))))))))))))))))))
theorem LDA:type_of% (And.intro @ldc0 (And.intro @ldc1 (And.intro @ldc2 (And.intro @ldc3 (And.intro @ldc4 (And.intro @gt0 (And.intro @gt1 (And.intro @gt2 (And.intro @lda5 (@lda4)))))))))):=And.intro @ldc0 (And.intro @ldc1 (And.intro @ldc2 (And.intro @ldc3 (And.intro @ldc4 (And.intro @gt0 (And.intro @gt1 (And.intro @gt2 (And.intro @lda5 (@lda4)))))))))
end Go.Lg

namespace Go.Lg
open Go Go.RowKit
theorem repI_str {imm:Nat→Prop} {w:World} {v:Value} {s:ByteArray} (h:RepI imm w v (.str s)):v = .string s:=by cases h;rfl
def cutP (s:ByteArray):List UInt8 × List UInt8 × Bool:=Lib.cut s.data.toList [58,58]
def doubleB (s:ByteArray):Bool:=nameB ⟨(cutP s).1.toArray⟩ && (!(cutP s).2.2 || nameB ⟨(cutP s).2.1.toArray⟩)
theorem cut_len (s sep:List UInt8):(Lib.cut s sep).1.length≤s.length∧(Lib.cut s sep).2.1.length≤s.length:=by
  unfold Lib.cut
  split
  · exact ⟨by rw [List.length_take];omega,by rw [List.length_drop];omega⟩
  · exact ⟨Nat.le_refl _,Nat.zero_le _⟩
def SB:Nat:=1048576
mutual
def TT.sm:TT→Prop
  | .mk k n r e=>InI64 k∧n.size≤SB∧(r.length≤SB∧∀ x∈r,x.size≤SB)∧e.length≤SB∧TT.smL e
def TT.smL:List TT→Prop
  | []=>True
  | x::r=>TT.sm x∧TT.smL r
end
theorem TT.smL_iff:∀ l:List TT,TT.smL l↔∀ x∈l,x.sm
  | []=>by simp [TT.smL]
  | x::r=>by rw [TT.smL,TT.smL_iff r];simp
theorem TT.sm_iff (t:TT):t.sm↔InI64 t.kind∧t.name.size≤SB∧(t.lives.length≤SB∧∀ x∈t.lives,x.size≤SB)∧t.elem.length≤SB∧∀ x∈t.elem,x.sm:=by
  cases t with
  | mk k n r e=>rw [TT.sm,TT.smL_iff];rfl
def nothingB (t:TT):Bool:=decide (t.name=⟨#[]⟩) && (decide (t.lives.length=0) && decide (t.elem.length=0))
mutual
def kindB:TT→Nat→Bool
  | .mk k n r e,d=>if 64<d then false else if k=3 then doubleB n && (livesB r && decide (e.length=0)) else if k=4∨k=5 then decide (n=⟨#[]⟩) && (decide (r.length≤1) && (livesB r && (decide (e.length=1) && kindH e (d+1))))
      else if k=1∨k=2 then nothingB (.mk k n r e) else false
def kindH:List TT→Nat→Bool
  | [],_=>false
  | x::_,d=>kindB x d
end
theorem kindH_pos {e:List TT} (h:0<e.length) (d:Nat):kindH e d=kindB e[0] d:=by
  cases e with
  | nil=>simp at h
  | cons x l=>rw [kindH];rfl
def fieldB (mu:Bool) (f:FD):Bool:=!(f.mu && !mu) && (nameB f.name && kindB f.type 1)
def fieldsB (l:List FD) (mu:Bool):Bool:=l.all (fieldB mu) && decide (l.length≤64)
def struktB (s:ST):Bool:=nameB s.name && (livesB s.lives && fieldsB s.fields false)
def FD.sm (f:FD):Prop:=f.name.size≤SB∧f.type.sm
def ST.sm (s:ST):Prop:=s.name.size≤SB∧(s.lives.length≤SB∧∀ x∈s.lives,x.size≤SB)∧(s.fields.length≤SB∧∀ f∈s.fields,f.sm)∧InI64 s.at'
theorem all_take {α:Type} {p:α→Bool} {l:List α} {k:Nat} (hk:k<l.length) (h:(l.take k).all p=true) (hb:p l[k]=true):(l.take (k+1)).all p=true:=by
  rw [List.take_add_one,List.getElem?_eq_getElem hk,List.all_append,h]
  simp [hb]
theorem all_no {α:Type} {p:α→Bool} {l:List α} {k:Nat} (hk:k<l.length) (hb:p l[k]=false):l.all p=false:=by
  rw [List.all_eq_false];exact ⟨_,List.getElem_mem hk,by rw [hb];decide⟩
theorem fd_imv (d:Nat) (l:List FD):(l.flatMap FD.cells).all (imV (d+1))=true:=by
  induction l with
  | nil=>rfl
  | cons x r ih=>rw [List.flatMap_cons,List.all_append,ih,FD.imvc];rfl
theorem len64 (n:Nat):decide ((n:Int)≤64)=decide (n≤64):=by rw [Bool.eq_iff_iff,decide_eq_true_eq,decide_eq_true_eq];omega
theorem fd_set (f:FD):setCells [V.bool false,V.str ⟨#[]⟩,V.int .i64 0,V.str ⟨#[]⟩,V.e0,V.e0] 0 f.cells=f.cells:=setCells_all (by rw [FD.len];rfl)
end Go.Lg
namespace Go.Proofs.YtlnphjjhfgghkaaGreatDoor
open Go Go.Lg Go.RowKit
theorem cut_ret (s sep:ByteArray) (hs:s.size<4294967281):PRet Tryz.prog 156 [.str s,.str sep] (.tup [.str ⟨(Lib.cut s.data.toList sep.data.toList).1.toArray⟩,.str ⟨(Lib.cut s.data.toList sep.data.toList).2.1.toArray⟩,.bool (Lib.cut s.data.toList sep.data.toList).2.2]):=by
  refine ⟨by kernel_rfl,fun imm w vs him hsz hrep=>?_⟩
  obtain ⟨u,v,rfl⟩:∃ u v,vs = #[u,v]:=by
    obtain ⟨l⟩:=vs
    match l,hsz with
    | [u,v],_=>exact ⟨u,v,rfl⟩
  obtain rfl:=repI_str (hrep 0 u _ rfl rfl)
  obtain rfl:=repI_str (hrep 1 v _ rfl rfl)
  obtain ⟨m,hm⟩:=gok_max him.2
  refine (Tryz.strings_Cut s sep m w hs hm).mono ?_
  rintro e w' ⟨rfl,n,rfl⟩
  have hb:BelowD w.heap.size w (w.drewN n):=⟨⟨rfl,rfl,rfl,Nat.le_refl _,fun _ _=>rfl⟩,Nat.le_add_right _ _⟩
  refine ⟨_,imm,rfl,.tup _ _ rfl fun j u c hu hcj=>?_,hb,fun _ h=>h,fun _ h=>.inl h⟩
  match j,hu,hcj with
  | 0,hu,hcj=>simp at hu hcj;subst hu hcj;exact .str _
  | 1,hu,hcj=>simp at hu hcj;subst hu hcj;exact .str _
  | 2,hu,hcj=>simp at hu hcj;subst hu hcj;exact .bool _
  | j+3,hu,_=>simp at hu
theorem double_ret (s:ByteArray) (hs:s.size<4294967281):PRet Tryz.prog 143 [.str s] (.bool (doubleB s)):=by
  refine pret_intro fdt143 (by simp) ?_
  have hc:=cut_ret s ⟨#[58,58]⟩ hs
  have e:(⟨#[58,58]⟩:ByteArray).data.toList=[58,58]:=rfl
  rw [e] at hc
  have h1:=cut_len s.data.toList [58,58]
  have hsz:=ba_size s
  have hm:(Lib.cut s.data.toList [58,58]).1.toArray.size≤maxLen∧(Lib.cut s.data.toList [58,58]).2.1.toArray.size≤maxLen:=by
    have e:maxLen=9223372036854775807:=rfl
    rw [e];simp only [List.size_toArray];omega
  simp only [lct143,VCA,simprocAttr,encL]
  refine callX_of hc (.inr rfl) ?_
  simp only [VCA,simprocAttr,encL,List.getElem?_cons_zero,List.getElem?_cons_succ]
  refine callX_of (name_ret _ hm.1) (.inr rfl) ?_
  cases b1:nameB ⟨(Lib.cut s.data.toList [58,58]).1.toArray⟩
  · simp only [VCA,simprocAttr,encL,doubleB,cutP,b1]
  cases b2:(Lib.cut s.data.toList [58,58]).2.2
  · simp only [VCA,simprocAttr,encL,doubleB,cutP,b1,b2]
  simp only [VCA,simprocAttr,encL]
  refine callX_of (name_ret _ hm.2) (.inr rfl) ?_
  simp only [VCA,simprocAttr,encL,doubleB,cutP,b1,b2]
theorem nothing_ret (t:TT):PRet Tryz.prog 117 [.agg t.cells] (.bool (nothingB t)):=by
  refine pret_intro fdt117 (by simp) ?_
  have e1:decide ((t.lives.length:Int)=0)=decide (t.lives.length=0):=by rw [Bool.eq_iff_iff,decide_eq_true_eq,decide_eq_true_eq];omega
  have e2:decide ((t.elem.length:Int)=0)=decide (t.elem.length=0):=by rw [Bool.eq_iff_iff,decide_eq_true_eq,decide_eq_true_eq];omega
  simp only [lct117,VCA,simprocAttr,encL,TTA,st_eq]
  cases h1:decide (t.name=⟨#[]⟩)<;>simp only [VCA,simprocAttr,encL,TTA,nothingB,h1,e1]
  cases h2:decide (t.lives.length=0)<;>simp only [VCA,simprocAttr,encL,TTA,nothingB,h1,h2,e1,e2]
theorem sb_eq:SB=1048576:=rfl
theorem sb_max {n:Nat} (h:n≤SB):n≤maxLen:=by rw [sb_eq] at h;have e:maxLen=9223372036854775807:=rfl;rw [e];omega
theorem kind_ret:∀ (t:TT),t.sm→∀ d:Nat,d≤65→PRet Tryz.prog 118 [.agg t.cells,.int .i64 d] (.bool (kindB t d)):=by
  refine TT.ind ?_
  intro k n r e ih hs d hd
  obtain ⟨s1,s2,⟨s3,s3'⟩,s4,s5⟩:=(TT.sm_iff _).1 hs
  simp only [TT.kind,TT.name,TT.lives,TT.elem] at s1 s2 s3 s3' s4 s5
  have hlv:=tlives_ret r (sb_max s3) fun s h=>sb_max (s3' s h)
  have hdb:=double_ret n (by rw [sb_eq] at s2;omega)
  have hno:=nothing_ret (.mk k n r e)
  have d2:InI64 ((d:Int)+1):=by unfold InI64;omega
  refine pret_intro fdt118 (by simp) ?_
  have f0:(TT.mk k n r e).kind=k:=rfl
  have f1:(TT.mk k n r e).name=n:=rfl
  have f2:(TT.mk k n r e).lives=r:=rfl
  have f3:(TT.mk k n r e).elem=e:=rfl
  simp only [lct118,VCA,simprocAttr,encL,TTA,f0,f1,f2,f3]
  refine condD_of (fun h=>?_) (fun h=>?_)
  · have:kindB (.mk k n r e) d=false:=by rw [kindB,if_pos (by omega)]
    simp only [VCA,simprocAttr,encL,this]
  have hd':¬ 64<d:=by omega
  simp only [VCA,simprocAttr,encL,TTA,f0,f1,f2,f3]
  refine condD_of (fun h3=>?_) (fun h3=>?_)
  · have e0:decide ((e.length:Int)=0)=decide (e.length=0):=by rw [Bool.eq_iff_iff,decide_eq_true_eq,decide_eq_true_eq];omega
    have hk:kindB (.mk k n r e) d=(doubleB n && (livesB r && decide (e.length=0))):=by rw [kindB,if_neg hd',if_pos h3]
    simp only [VCA,simprocAttr,encL,TTA,f0,f1,f2,f3,hk]
    refine callX_of hdb (.inr rfl) ?_
    cases b1:doubleB n
    · simp only [VCA,simprocAttr,encL]
    simp only [VCA,simprocAttr,encL,TTA,f0,f1,f2,f3]
    refine callX_of hlv (.inr rfl) ?_
    cases b2:livesB r
    · simp only [VCA,simprocAttr,encL]
    simp only [VCA,simprocAttr,encL,TTA,f0,f1,f2,f3,e0]
  have e1:decide ((r.length:Int)≤1)=decide (r.length≤1):=by rw [Bool.eq_iff_iff,decide_eq_true_eq,decide_eq_true_eq];omega
  have e2:decide ((e.length:Int)=1)=decide (e.length=1):=by rw [Bool.eq_iff_iff,decide_eq_true_eq,decide_eq_true_eq];omega
  simp only [VCA,simprocAttr,encL]
  refine condD_of (fun h4=>?_) (fun h4=>?_)
  · have h45:k=4∨k=5:=.inl h4
    have hk:kindB (.mk k n r e) d=(decide (n=⟨#[]⟩) && (decide (r.length≤1) && (livesB r && (decide (e.length=1) && kindH e (d+1))))):=by rw [kindB,if_neg hd',if_neg h3,if_pos h45]
    simp only [VCA,simprocAttr,encL,TTA,f0,f1,f2,f3,hk,st_eq,decide_eq_true h4]
    cases b1:decide (n=⟨#[]⟩)<;>simp only [VCA,simprocAttr,encL,TTA,f0,f1,f2,f3,e1]
    cases b2:decide (r.length≤1)<;>simp only [VCA,simprocAttr,encL,TTA,f0,f1,f2,f3]
    refine callX_of hlv (.inr rfl) ?_
    cases b3:livesB r<;>simp only [VCA,simprocAttr,encL,TTA,f0,f1,f2,f3,e2]
    cases b4:decide (e.length=1)<;>simp only [VCA,simprocAttr,encL,TTA,f0,f1,f2,f3]
    have hp:0<e.length:=by have:=of_decide_eq_true b4;omega
    have he0:0≤(0:Int)∧(0:Int)<e.length:=by omega
    simp only [VCA,simprocAttr,encL,TTA,f0,f1,f2,f3,he0,tt_first hp,d2]
    have:=ih e[0] (List.getElem_mem hp) (s5 _ (List.getElem_mem hp)) (d+1) (by omega)
    rw [Int.natCast_add,Int.natCast_one] at this
    refine callX_of this (.inr rfl) ?_
    simp only [VCA,simprocAttr,encL,kindH_pos hp]
  simp only [VCA,simprocAttr,encL]
  refine condD_of (fun h5=>?_) (fun h5=>?_)
  · have h45:k=4∨k=5:=.inr h5
    have hk:kindB (.mk k n r e) d=(decide (n=⟨#[]⟩) && (decide (r.length≤1) && (livesB r && (decide (e.length=1) && kindH e (d+1))))):=by rw [kindB,if_neg hd',if_neg h3,if_pos h45]
    simp only [VCA,simprocAttr,encL,TTA,f0,f1,f2,f3,hk,st_eq,decide_eq_true h5,decide_eq_false h4]
    cases b1:decide (n=⟨#[]⟩)<;>simp only [VCA,simprocAttr,encL,TTA,f0,f1,f2,f3,e1]
    cases b2:decide (r.length≤1)<;>simp only [VCA,simprocAttr,encL,TTA,f0,f1,f2,f3]
    refine callX_of hlv (.inr rfl) ?_
    cases b3:livesB r<;>simp only [VCA,simprocAttr,encL,TTA,f0,f1,f2,f3,e2]
    cases b4:decide (e.length=1)<;>simp only [VCA,simprocAttr,encL,TTA,f0,f1,f2,f3]
    have hp:0<e.length:=by have:=of_decide_eq_true b4;omega
    have he0:0≤(0:Int)∧(0:Int)<e.length:=by omega
    simp only [VCA,simprocAttr,encL,TTA,f0,f1,f2,f3,he0,tt_first hp,d2]
    have:=ih e[0] (List.getElem_mem hp) (s5 _ (List.getElem_mem hp)) (d+1) (by omega)
    rw [Int.natCast_add,Int.natCast_one] at this
    refine callX_of this (.inr rfl) ?_
    simp only [VCA,simprocAttr,encL,kindH_pos hp]
  have h45:¬ (k=4∨k=5):=fun h=>h.elim h4 h5
  simp only [VCA,simprocAttr,encL]
  refine condD_of (fun h1=>?_) (fun h1=>?_)
  · have hk:kindB (.mk k n r e) d=nothingB (.mk k n r e):=by rw [kindB,if_neg hd',if_neg h3,if_neg h45,if_pos (.inl h1)]
    simp only [VCA,simprocAttr,encL,TTA,f0,f1,f2,f3,hk,decide_eq_true h1]
    refine callX_of hno (.inr rfl) ?_
    simp only [VCA,simprocAttr,encL]
  simp only [VCA,simprocAttr,encL]
  refine condD_of (fun h2=>?_) (fun h2=>?_)
  · have hk:kindB (.mk k n r e) d=nothingB (.mk k n r e):=by rw [kindB,if_neg hd',if_neg h3,if_neg h45,if_pos (.inr h2)]
    simp only [VCA,simprocAttr,encL,TTA,f0,f1,f2,f3,hk,decide_eq_true h2,decide_eq_false h1]
    refine callX_of hno (.inr rfl) ?_
    simp only [VCA,simprocAttr,encL]
  have hk:kindB (.mk k n r e) d=false:=by rw [kindB,if_neg hd',if_neg h3,if_neg h45,if_neg (fun h=>h.elim h1 h2)]
  simp only [VCA,simprocAttr,encL,hk,decide_eq_false h1,decide_eq_false h2]
theorem fields_ret (l:List FD) (mu:Bool) (hl:l.length≤SB) (hs:∀ f∈l,f.sm):PRet Tryz.prog 115 [encL FD.cells l,.bool mu] (.bool (fieldsB l mu)):=by
  rw [sb_eq] at hl
  refine pret_intro fdt115 (by simp) ?_
  simp only [lct115,VCA,simprocAttr,encL,TTA]
  refine loop_vcg (ι:=Nat × (Nat→Nat)) (fun (k,c)=>stO [(0,.val (encL FD.cells l)),(1,.val (.bool mu)),(7,.val (encL FD.cells l)),(8,.val (.int .i64 l.length)),(9,.val (.int .i64 k))] c)
    (fun (k,_)=>k≤l.length∧(l.take k).all (fieldB mu)=true) (fun (k,_)=>l.length - k) (0,_) ⟨Nat.zero_le _,rfl⟩ (ent_of _ [] rfl rfl (by simp only [VCA,simprocAttr,encL,fd_imv])) ?_
  rintro ⟨k,c⟩ ⟨hk,ha⟩
  have hk:k≤l.length:=hk
  have ha:(l.take k).all (fieldB mu)=true:=ha
  simp only [VCA,simprocAttr,encL]
  refine condD_of (fun h=>?_) (fun h=>?_)
  case refine_2 =>
    obtain rfl:k=l.length:=by omega
    rw [List.take_length] at ha
    simp only [VCA,simprocAttr,encL,fieldsB,ha,len64]
  have hk':k<l.length:=by omega
  have kk:0≤(k:Int)∧(k:Int)<l.length:=by omega
  have k2:InI64 ((k:Int)+1):=by unfold InI64;omega
  obtain ⟨f,hf⟩:∃ f,f=l[k]:=⟨_,rfl⟩
  have hfs:f.sm:=hf▸hs _ (List.getElem_mem hk')
  have hld:=FD.ld0 (l:=l) (i:=k) (n:=6) (agg:=true) hk' (by decide) (by decide)
  rw [← hf,FD.call] at hld
  have bad:fieldB mu f=false→fieldsB l mu=false:=fun h=>by rw [fieldsB,all_no hk' (hf▸h)];rfl
  have good:fieldB mu f=true→(l.take (k+1)).all (fieldB mu)=true:=fun h=>all_take hk' ha (hf▸h)
  simp only [VCA,simprocAttr,encL,TTA,kk,hld,fd_set]
  cases b1:f.mu && !mu
  case true =>
    have hb:=bad (by rw [fieldB,b1];rfl)
    simp only [Bool.and_eq_true,Bool.not_eq_true'] at b1
    obtain ⟨c1,rfl⟩:=b1
    simp only [VCA,simprocAttr,encL,TTA,c1,hb]
  have hb1:∀ (x y:Bool),(x && !y)=false→x=false∨y=true:=by decide
  have nm:=name_ret f.name (sb_max hfs.1)
  have kd:PRet Tryz.prog 118 [.agg f.type.cells,.int .i64 1] (.bool (kindB f.type 1)):=kind_ret f.type hfs.2 1 (by omega)
  rcases hb1 _ _ b1 with c1|rfl
  · simp only [VCA,simprocAttr,encL,TTA,c1]
    refine callX_of nm (.inr rfl) ?_
    cases b2:nameB f.name
    · have hb:=bad (by rw [fieldB,b1,b2];rfl)
      simp only [VCA,simprocAttr,encL,TTA,hb]
    simp only [VCA,simprocAttr,encL,TTA]
    refine callX_of kd (.inr rfl) ?_
    cases b3:kindB f.type 1
    · have hb:=bad (by rw [fieldB,b1,b2,b3];rfl)
      simp only [VCA,simprocAttr,encL,TTA,hb]
    simp only [VCA,simprocAttr,encL,TTA,k2]
    exact backTo_of (k+1,_) ⟨hk',good (by rw [fieldB,b1,b2,b3];rfl)⟩ (by simp only [];omega) (ent_of _ [] rfl rfl (by simp only [VCA,simprocAttr,encL,fd_imv]))
  · cases c2:f.mu<;>simp only [VCA,simprocAttr,encL,TTA,c2]
    · refine callX_of nm (.inr rfl) ?_
      cases b2:nameB f.name
      · have hb:=bad (by rw [fieldB,b1,b2];rfl)
        simp only [VCA,simprocAttr,encL,TTA,hb]
      simp only [VCA,simprocAttr,encL,TTA]
      refine callX_of kd (.inr rfl) ?_
      cases b3:kindB f.type 1
      · have hb:=bad (by rw [fieldB,b1,b2,b3];rfl)
        simp only [VCA,simprocAttr,encL,TTA,hb]
      simp only [VCA,simprocAttr,encL,TTA,k2]
      exact backTo_of (k+1,_) ⟨hk',good (by rw [fieldB,b1,b2,b3];rfl)⟩ (by simp only [];omega) (ent_of _ [] rfl rfl (by simp only [VCA,simprocAttr,encL,fd_imv]))
    · refine callX_of nm (.inr rfl) ?_
      cases b2:nameB f.name
      · have hb:=bad (by rw [fieldB,b1,b2];rfl)
        simp only [VCA,simprocAttr,encL,TTA,hb]
      simp only [VCA,simprocAttr,encL,TTA]
      refine callX_of kd (.inr rfl) ?_
      cases b3:kindB f.type 1
      · have hb:=bad (by rw [fieldB,b1,b2,b3];rfl)
        simp only [VCA,simprocAttr,encL,TTA,hb]
      simp only [VCA,simprocAttr,encL,TTA,k2]
      exact backTo_of (k+1,_) ⟨hk',good (by rw [fieldB,b1,b2,b3];rfl)⟩ (by simp only [];omega) (ent_of _ [] rfl rfl (by simp only [VCA,simprocAttr,encL,fd_imv]))
theorem tstrukt_ret (s:ST) (hs:s.sm):PRet Tryz.prog 92 [.agg s.cells] (.bool (struktB s)):=by
  obtain ⟨s1,⟨s2,s2'⟩,⟨s3,s3'⟩,_⟩:=hs
  refine pret_intro fdt92 (by simp) ?_
  simp only [lct92,VCA,simprocAttr,encL,TTA]
  refine callX_of (name_ret s.name (sb_max s1)) (.inr rfl) ?_
  cases b1:nameB s.name
  · simp only [VCA,simprocAttr,encL,struktB,b1]
  simp only [VCA,simprocAttr,encL,TTA]
  refine callX_of (tlives_ret s.lives (sb_max s2) fun x h=>sb_max (s2' x h)) (.inr rfl) ?_
  cases b2:livesB s.lives
  · simp only [VCA,simprocAttr,encL,struktB,b1,b2]
  simp only [VCA,simprocAttr,encL,TTA]
  refine callX_of (fields_ret s.fields false s3 s3') (.inr rfl) ?_
  simp only [VCA,simprocAttr,encL,struktB,b1,b2]
end Go.Proofs.YtlnphjjhfgghkaaGreatDoor



namespace Go.Lg
open Go Go.RowKit
theorem tt_imv (d:Nat) (l:List TT):(l.flatMap TT.cells).all (imV (d+1))=true:=by
  induction l with
  | nil=>rfl
  | cons x r ih=>rw [List.flatMap_cons,List.all_append,ih,TT.imvc];rfl
theorem tt_snap (H:Heap) (d:Nat) (l:List TT):(l.flatMap TT.cells).map (snap H (d+1))=l.flatMap TT.cells:=by
  induction l with
  | nil=>rfl
  | cons x r ih=>rw [List.flatMap_cons,List.map_append,ih,TT.snapc]
theorem tt_set (t:TT):setCells [V.int .i64 0,V.str ⟨#[]⟩,V.e0,V.e0] 0 t.cells=t.cells:=setCells_all (by rw [TT.len];rfl)
theorem tt_take {l:List TT} {k:Nat} (h:k<l.length):(l.take k).flatMap TT.cells++l[k].cells=(l.take (k+1)).flatMap TT.cells:=by
  rw [List.take_add_one,List.getElem?_eq_getElem h,List.flatMap_append];simp
theorem fd_snap (H:Heap) (d:Nat) (l:List FD):(l.flatMap FD.cells).map (snap H (d+1))=l.flatMap FD.cells:=by
  induction l with
  | nil=>rfl
  | cons x r ih=>rw [List.flatMap_cons,List.map_append,ih,FD.snapc]
theorem fd_take {l:List FD} {k:Nat} (h:k<l.length):(l.take k).flatMap FD.cells++l[k].cells=(l.take (k+1)).flatMap FD.cells:=by
  rw [List.take_add_one,List.getElem?_eq_getElem h,List.flatMap_append];simp
theorem fd_set2 (f:FD):setCells f.cells 2 f.type.cells=f.cells:=by rw [FD.cells,TT.cells_eq];rfl
theorem st_set2 (s:ST):setCells s.cells 2 [.sl s.lives.length (s.lives.flatMap cS)]=s.cells:=by rw [ST.cells];rfl
theorem st_set3 (s:ST):setCells s.cells 3 [.sl s.fields.length (s.fields.flatMap FD.cells)]=s.cells:=by rw [ST.cells];rfl
theorem st_setA (s:ST):setCells [V.bool false,V.str ⟨#[]⟩,V.e0,V.e0,V.int .i64 0] 0 s.cells=s.cells:=setCells_all (by rw [ST.len];rfl)
theorem sc4_2 (a b c d x:V):setCells [a,b,c,d] 2 [x]=[a,b,x,d]:=rfl
theorem sc4_3 (a b c d x:V):setCells [a,b,c,d] 3 [x]=[a,b,c,x]:=rfl
theorem sc4_a (a b c d w x y z:V):setCells [a,b,c,d] 0 [w,x,y,z]=[w,x,y,z]:=rfl
end Go.Lg
namespace Go.Proofs.YtlnphjjhfgghkaaGreatDoor
open Go Go.Lg Go.RowKit
theorem texts_ret (l:List ByteArray) (hl:l.length≤SB):PRet Tryz.prog 59 [encL cS l] (encL cS l):=by
  rw [sb_eq] at hl
  refine pret_intro fdt59 (by simp) ?_
  have hsz:l.length*16≤140737488355328∧l.length≤4611686018427387904:=by omega
  simp only [lct59,VCA,simprocAttr,encL,ls_len,ls_one,Nat.mul_one,hsz,ls_take,ls_snap,Nat.le_refl]
theorem ctype_ret:∀ (t:TT),t.sm→PRet Tryz.prog 65 [.agg t.cells] (.agg t.cells):=by
  refine TT.ind ?_
  intro k n r e ih hs
  obtain ⟨s1,s2,⟨s3,s3'⟩,s4,s5⟩:=(TT.sm_iff _).1 hs
  simp only [TT.kind,TT.name,TT.lives,TT.elem] at s1 s2 s3 s3' s4 s5
  rw [TT.cells_eq]
  simp only [TT.kind,TT.name,TT.lives,TT.elem]
  refine pret_intro fdt65 (by simp) ?_
  simp only [lct65,VCA,simprocAttr,encL,ldc2]
  refine callX_of (texts_ret r s3) (.inl rfl) ?_
  simp only [VCA,simprocAttr,encL,ldc3,sc4_2]
  rw [sb_eq] at s4
  refine loop_vcg (ι:=Nat × (Nat→Nat)) (fun (i,c)=>stO [(1,.box [.int .i64 k,.str n,encL cS r,encL TT.cells e]),(2,.box [.int .i64 0,.str ⟨#[]⟩,.e0,.e0]),(3,.own 4 i ((e.take i).flatMap TT.cells)),(11,.val (encL TT.cells e)),(12,.val (.int .i64 e.length)),(13,.val (.int .i64 i))] c)
    (fun (i,_)=>i≤e.length) (fun (i,_)=>e.length - i) (0,_) (Nat.zero_le _) (ent_of _ [] rfl rfl (by simp only [VCA,simprocAttr,encL,tt_imv,List.take_zero,List.flatMap_nil];try decide)) ?_
  rintro ⟨i,c⟩ hi
  have hi:i≤e.length:=hi
  simp only [VCA,simprocAttr,encL]
  refine condD_of (fun h=>?_) (fun h=>?_)
  case refine_2 =>
    obtain rfl:i=e.length:=by omega
    rw [List.take_length]
    have htk:((e.flatMap TT.cells).take (e.length*4))=e.flatMap TT.cells:=List.take_of_length_le (by rw [tt_len];exact Nat.le_refl _)
    simp only [VCA,simprocAttr,encL,sc4_3,sc4_a,lda4,tt_len,tt_snap,htk,Nat.le_refl]
  have hi':i<e.length:=by omega
  have ii:0≤(i:Int)∧(i:Int)<e.length:=by omega
  have i2:InI64 ((i:Int)+1):=by unfold InI64;omega
  have hld:=TT.ld0 (l:=e) (i:=i) (n:=4) (agg:=true) hi' (by decide) (by decide)
  rw [TT.call] at hld
  have hsz:(i+1)*72≤140737488355328∧i+1≤4611686018427387904:=by omega
  have hln:((e.take i).flatMap TT.cells).length=i*4:=by rw [tt_len,List.length_take,Nat.min_eq_left hi]
  simp only [VCA,simprocAttr,encL,TTA,ii,hld,tt_set]
  refine callX_of (ih _ (List.getElem_mem hi') (s5 _ (List.getElem_mem hi'))) (.inl rfl) ?_
  simp only [VCA,simprocAttr,encL,TTA,tt_set,hln,hsz,i2]
  exact backTo_of (i+1,_) hi' (by simp only [];omega) (ent_of _ [] rfl rfl (by simp only [VCA,simprocAttr,encL,tt_imv,tt_take hi']))
theorem cfields_ret (l:List FD) (hl:l.length≤SB) (hs:∀ f∈l,f.sm):PRet Tryz.prog 60 [encL FD.cells l] (encL FD.cells l):=by
  rw [sb_eq] at hl
  refine pret_intro fdt60 (by simp) ?_
  simp only [lct60,VCA,simprocAttr,encL]
  refine loop_vcg (ι:=Nat × (Nat→Nat)) (fun (i,c)=>stO [(3,.own 6 i ((l.take i).flatMap FD.cells)),(6,.val (encL FD.cells l)),(7,.val (.int .i64 l.length)),(8,.val (.int .i64 i))] c)
    (fun (i,_)=>i≤l.length) (fun (i,_)=>l.length - i) (0,_) (Nat.zero_le _) (ent_of _ [] rfl rfl (by simp only [VCA,simprocAttr,encL,fd_imv,List.take_zero,List.flatMap_nil];try decide)) ?_
  rintro ⟨i,c⟩ hi
  have hi:i≤l.length:=hi
  simp only [VCA,simprocAttr,encL]
  refine condD_of (fun h=>?_) (fun h=>?_)
  case refine_2 =>
    obtain rfl:i=l.length:=by omega
    rw [List.take_length]
    have htk:((l.flatMap FD.cells).take (l.length*6))=l.flatMap FD.cells:=List.take_of_length_le (by rw [flat_len FD.len];exact Nat.le_refl _)
    simp only [VCA,simprocAttr,encL,flat_len FD.len,fd_snap,htk,Nat.le_refl]
  have hi':i<l.length:=by omega
  have ii:0≤(i:Int)∧(i:Int)<l.length:=by omega
  have i2:InI64 ((i:Int)+1):=by unfold InI64;omega
  obtain ⟨f,hf⟩:∃ f,f=l[i]:=⟨_,rfl⟩
  have hfs:f.sm:=hf▸hs _ (List.getElem_mem hi')
  have hld:=FD.ld0 (l:=l) (i:=i) (n:=6) (agg:=true) hi' (by decide) (by decide)
  rw [← hf,FD.call] at hld
  have hsz:(i+1)*96≤140737488355328∧i+1≤4611686018427387904:=by omega
  have hln:((l.take i).flatMap FD.cells).length=i*6:=by rw [flat_len FD.len,List.length_take,Nat.min_eq_left hi]
  have htk:=fd_take hi'
  rw [← hf] at htk
  simp only [VCA,simprocAttr,encL,TTA,ii,hld,fd_set]
  refine callX_of (ctype_ret f.type hfs.2) (.inl rfl) ?_
  simp only [VCA,simprocAttr,encL,TTA,fd_set,fd_set2,hln,hsz,i2]
  exact backTo_of (i+1,_) hi' (by simp only [];omega) (ent_of _ [] rfl rfl (by simp only [VCA,simprocAttr,encL,fd_imv,htk]))
theorem cstruct_ret (s:ST) (hs:s.sm):PRet Tryz.prog 28 [.agg s.cells] (.agg s.cells):=by
  obtain ⟨s1,⟨s2,s2'⟩,⟨s3,s3'⟩,_⟩:=hs
  refine pret_intro fdt28 (by simp) ?_
  simp only [lct28,VCA,simprocAttr,encL,TTA]
  refine callX_of (texts_ret s.lives s2) (.inl rfl) ?_
  simp only [VCA,simprocAttr,encL,TTA,st_set2]
  refine callX_of (cfields_ret s.fields s3 s3') (.inl rfl) ?_
  simp only [VCA,simprocAttr,encL,TTA,st_set3,st_setA]
end Go.Proofs.YtlnphjjhfgghkaaGreatDoor



namespace Go.Lg
open Go Go.RowKit
def idxP {α:Type} (p:α→Bool):List α→Nat→Int
  | [],_=>-1
  | x::r,k=>if p x=true then (k:Int) else idxP p r (k+1)
theorem idxP_drop {α:Type} (p:α→Bool) {l:List α} {k:Nat} (h:k<l.length):idxP p (l.drop k) k=if p l[k]=true then (k:Int) else idxP p (l.drop (k+1)) (k+1):=by
  rw [List.drop_eq_getElem_cons h];rfl
theorem idxP_any {α:Type} (p:α→Bool):∀ (l:List α) (k:Nat),decide (0≤idxP p l k)=l.any p
  | [],_=>rfl
  | x::r,k=>by
    rw [idxP,List.any_cons]
    cases h:p x
    · rw [if_neg (by decide),idxP_any p r];rfl
    · rw [if_pos rfl];simp
theorem flat_tk {α:Type} {f:α→List V} {s:Nat} (hf:∀ x,(f x).length=s):∀ (l:List α) (k:Nat),(l.flatMap f).take (k*s)=(l.take k).flatMap f
  | [],k=>by simp
  | x::l,0=>by simp
  | x::l,k+1=>by
    rw [List.flatMap_cons,List.take_succ_cons,List.flatMap_cons,List.take_append,hf,Nat.succ_mul,Nat.add_sub_cancel,flat_tk hf l k,List.take_of_length_le (by rw [hf];omega)]
end Go.Lg
namespace Go.Proofs.YtlnphjjhfgghkaaGreatDoor
open Go Go.Lg Go.RowKit
theorem indexS_ret (l:List ByteArray) (g:FuncId) (cap:List V) (p:ByteArray→Bool) (hl:l.length≤SB) (hc:∀ H d,cap.all (sok H (d+1))=true) (hs:∀ H d,cap.map (snap H (d+1))=cap) (hf:∀ x∈l,PRet Tryz.prog g (.str x::cap) (.bool (p x))) :
    PRet Tryz.prog 129 [encL cS l,.fn g cap] (.int .i64 (idxP p l 0)):=by
  rw [sb_eq] at hl
  refine pret_intro fdt129 (by simp) ?_
  simp only [lct129,VCA,simprocAttr,encL]
  refine loop_vcg (ι:=Nat × (Nat→Nat)) (fun (k,c)=>⟨tmk [(0,encL cS l),(1,.fn g cap),(7,.int .i64 l.length),(8,.int .i64 k)],hmk [],c⟩)
    (fun (k,_)=>k≤l.length∧idxP p l 0=idxP p (l.drop k) k) (fun (k,_)=>l.length - k) (0,_) ⟨Nat.zero_le _,rfl⟩ (le_mk ?_ ?_ (fun s=>Nat.le_refl _)) ?_
  · simp only [VCA,simprocAttr,encL]
  · simp only [VCA,simprocAttr,encL]
  rintro ⟨k,c⟩ ⟨hk,hb⟩
  have hk:k≤l.length:=hk
  have hb:idxP p l 0=idxP p (l.drop k) k:=hb
  simp only [VCA,simprocAttr,encL]
  refine condD_of (fun h=>?_) (fun h=>?_)
  · have hk':k<l.length:=by omega
    have kk:0≤(k:Int)∧(k:Int)<l.length:=by omega
    have i2:InI64 ((k:Int)+1):=by unfold InI64;omega
    have hld:=st_ld hk'
    simp only [VCA,simprocAttr,encL,TTA,kk,hld,hc _ 7,hs _ 7]
    refine callX_of (hf _ (List.getElem_mem hk')) (.inr rfl) ?_
    rw [idxP_drop p hk'] at hb
    cases h1:p l[k]
    · rw [h1,if_neg (by decide)] at hb
      simp only [VCA,simprocAttr,encL,i2]
      refine backTo_of (k+1,c) ⟨hk',hb⟩ (by simp only [];omega) (le_mk ?_ ?_ (fun s=>Nat.le_refl _))
      · simp only [VCA,simprocAttr,encL]
      · simp only [VCA,simprocAttr,encL]
    · rw [h1,if_pos rfl] at hb
      simp only [VCA,simprocAttr,encL,hb]
  · obtain rfl:k=l.length:=by omega
    simp only [VCA,simprocAttr,encL]
    rw [hb,List.drop_eq_nil_of_le (Nat.le_refl _)];rfl
theorem containsS_ret (l:List ByteArray) (g:FuncId) (cap:List V) (p:ByteArray→Bool) (hl:l.length≤SB) (hc:∀ H d,cap.all (sok H (d+1))=true) (hs:∀ H d,cap.map (snap H (d+1))=cap) (hf:∀ x∈l,PRet Tryz.prog g (.str x::cap) (.bool (p x))) :
    PRet Tryz.prog 99 [encL cS l,.fn g cap] (.bool (l.any p)):=by
  refine pret_intro fdt99 (by simp) ?_
  simp only [lct99,VCA,simprocAttr,encL,hc _ 6,hs _ 6,hc _ 7,hs _ 7]
  refine callX_of (indexS_ret l g cap p hl hc hs hf) (.inr rfl) ?_
  simp only [VCA,simprocAttr,encL,idxP_any p l 0]
theorem indexF_ret (l:List FD) (g:FuncId) (cap:List V) (p:FD→Bool) (hl:l.length≤SB) (hc:∀ H d,cap.all (sok H (d+1))=true) (hs:∀ H d,cap.map (snap H (d+1))=cap) (hf:∀ x∈l,PRet Tryz.prog g (.agg x.cells::cap) (.bool (p x))) :
    PRet Tryz.prog 94 [encL FD.cells l,.fn g cap] (.int .i64 (idxP p l 0)):=by
  rw [sb_eq] at hl
  refine pret_intro fdt94 (by simp) ?_
  simp only [lct94,VCA,simprocAttr,encL]
  refine loop_vcg (ι:=Nat × (Nat→Nat)) (fun (k,c)=>⟨tmk [(0,encL FD.cells l),(1,.fn g cap),(7,.int .i64 l.length),(8,.int .i64 k)],hmk [],c⟩)
    (fun (k,_)=>k≤l.length∧idxP p l 0=idxP p (l.drop k) k) (fun (k,_)=>l.length - k) (0,_) ⟨Nat.zero_le _,rfl⟩ (le_mk ?_ ?_ (fun s=>Nat.le_refl _)) ?_
  · simp only [VCA,simprocAttr,encL]
  · simp only [VCA,simprocAttr,encL]
  rintro ⟨k,c⟩ ⟨hk,hb⟩
  have hk:k≤l.length:=hk
  have hb:idxP p l 0=idxP p (l.drop k) k:=hb
  simp only [VCA,simprocAttr,encL]
  refine condD_of (fun h=>?_) (fun h=>?_)
  · have hk':k<l.length:=by omega
    have kk:0≤(k:Int)∧(k:Int)<l.length:=by omega
    have i2:InI64 ((k:Int)+1):=by unfold InI64;omega
    have hld:=(FD.ld0 (l:=l) (i:=k) (n:=6) (agg:=true) hk' (by decide) (by decide)).trans (FD.call _)
    simp only [VCA,simprocAttr,encL,TTA,kk,hld,hc _ 7,hs _ 7]
    refine callX_of (hf _ (List.getElem_mem hk')) (.inr rfl) ?_
    rw [idxP_drop p hk'] at hb
    cases h1:p l[k]
    · rw [h1,if_neg (by decide)] at hb
      simp only [VCA,simprocAttr,encL,i2]
      refine backTo_of (k+1,c) ⟨hk',hb⟩ (by simp only [];omega) (le_mk ?_ ?_ (fun s=>Nat.le_refl _))
      · simp only [VCA,simprocAttr,encL]
      · simp only [VCA,simprocAttr,encL]
    · rw [h1,if_pos rfl] at hb
      simp only [VCA,simprocAttr,encL,hb]
  · obtain rfl:k=l.length:=by omega
    simp only [VCA,simprocAttr,encL]
    rw [hb,List.drop_eq_nil_of_le (Nat.le_refl _)];rfl
theorem containsF_ret (l:List FD) (g:FuncId) (cap:List V) (p:FD→Bool) (hl:l.length≤SB) (hc:∀ H d,cap.all (sok H (d+1))=true) (hs:∀ H d,cap.map (snap H (d+1))=cap) (hf:∀ x∈l,PRet Tryz.prog g (.agg x.cells::cap) (.bool (p x))) :
    PRet Tryz.prog 55 [encL FD.cells l,.fn g cap] (.bool (l.any p)):=by
  refine pret_intro fdt55 (by simp) ?_
  simp only [lct55,VCA,simprocAttr,encL,hc _ 6,hs _ 6,hc _ 7,hs _ 7]
  refine callX_of (indexF_ret l g cap p hl hc hs hf) (.inr rfl) ?_
  simp only [VCA,simprocAttr,encL,idxP_any p l 0]
theorem indexT_ret (l:List TT) (g:FuncId) (cap:List V) (p:TT→Bool) (hl:l.length≤SB) (hc:∀ H d,cap.all (sok H (d+1))=true) (hs:∀ H d,cap.map (snap H (d+1))=cap) (hf:∀ x∈l,PRet Tryz.prog g (.agg x.cells::cap) (.bool (p x))) :
    PRet Tryz.prog 149 [encL TT.cells l,.fn g cap] (.int .i64 (idxP p l 0)):=by
  rw [sb_eq] at hl
  refine pret_intro fdt149 (by simp) ?_
  simp only [lct149,VCA,simprocAttr,encL]
  refine loop_vcg (ι:=Nat × (Nat→Nat)) (fun (k,c)=>⟨tmk [(0,encL TT.cells l),(1,.fn g cap),(7,.int .i64 l.length),(8,.int .i64 k)],hmk [],c⟩)
    (fun (k,_)=>k≤l.length∧idxP p l 0=idxP p (l.drop k) k) (fun (k,_)=>l.length - k) (0,_) ⟨Nat.zero_le _,rfl⟩ (le_mk ?_ ?_ (fun s=>Nat.le_refl _)) ?_
  · simp only [VCA,simprocAttr,encL]
  · simp only [VCA,simprocAttr,encL]
  rintro ⟨k,c⟩ ⟨hk,hb⟩
  have hk:k≤l.length:=hk
  have hb:idxP p l 0=idxP p (l.drop k) k:=hb
  simp only [VCA,simprocAttr,encL]
  refine condD_of (fun h=>?_) (fun h=>?_)
  · have hk':k<l.length:=by omega
    have kk:0≤(k:Int)∧(k:Int)<l.length:=by omega
    have i2:InI64 ((k:Int)+1):=by unfold InI64;omega
    have hld:=(TT.ld0 (l:=l) (i:=k) (n:=4) (agg:=true) hk' (by decide) (by decide)).trans (TT.call _)
    simp only [VCA,simprocAttr,encL,TTA,kk,hld,hc _ 7,hs _ 7]
    refine callX_of (hf _ (List.getElem_mem hk')) (.inr rfl) ?_
    rw [idxP_drop p hk'] at hb
    cases h1:p l[k]
    · rw [h1,if_neg (by decide)] at hb
      simp only [VCA,simprocAttr,encL,i2]
      refine backTo_of (k+1,c) ⟨hk',hb⟩ (by simp only [];omega) (le_mk ?_ ?_ (fun s=>Nat.le_refl _))
      · simp only [VCA,simprocAttr,encL]
      · simp only [VCA,simprocAttr,encL]
    · rw [h1,if_pos rfl] at hb
      simp only [VCA,simprocAttr,encL,hb]
  · obtain rfl:k=l.length:=by omega
    simp only [VCA,simprocAttr,encL]
    rw [hb,List.drop_eq_nil_of_le (Nat.le_refl _)];rfl
theorem containsT_ret (l:List TT) (g:FuncId) (cap:List V) (p:TT→Bool) (hl:l.length≤SB) (hc:∀ H d,cap.all (sok H (d+1))=true) (hs:∀ H d,cap.map (snap H (d+1))=cap) (hf:∀ x∈l,PRet Tryz.prog g (.agg x.cells::cap) (.bool (p x))) :
    PRet Tryz.prog 127 [encL TT.cells l,.fn g cap] (.bool (l.any p)):=by
  refine pret_intro fdt127 (by simp) ?_
  simp only [lct127,VCA,simprocAttr,encL,hc _ 6,hs _ 6,hc _ 7,hs _ 7]
  refine callX_of (indexT_ret l g cap p hl hc hs hf) (.inr rfl) ?_
  simp only [VCA,simprocAttr,encL,idxP_any p l 0]
theorem idxs_ret (l:List ByteArray) (s:ByteArray) (hl:l.length≤SB):PRet Tryz.prog 98 [encL cS l,.str s] (.int .i64 (idxP (fun x=>decide (s=x)) l 0)):=by
  rw [sb_eq] at hl
  refine pret_intro fdt98 (by simp) ?_
  simp only [lct98,VCA,simprocAttr,encL]
  refine loop_vcg (ι:=Nat × (Nat→Nat)) (fun (k,c)=>stO [(0,.val (encL cS l)),(1,.val (.str s)),(7,.val (.int .i64 l.length)),(8,.val (.int .i64 k))] c)
    (fun (k,_)=>k≤l.length∧idxP (fun x=>decide (s=x)) l 0=idxP (fun x=>decide (s=x)) (l.drop k) k) (fun (k,_)=>l.length - k) (0,_) ⟨Nat.zero_le _,rfl⟩ (ent_of _ [] rfl rfl (by simp only [VCA,simprocAttr,encL,ls_imv])) ?_
  rintro ⟨k,c⟩ ⟨hk,hb⟩
  have hk:k≤l.length:=hk
  have hb:idxP (fun x=>decide (s=x)) l 0=idxP (fun x=>decide (s=x)) (l.drop k) k:=hb
  simp only [VCA,simprocAttr,encL]
  refine condD_of (fun h=>?_) (fun h=>?_)
  · have hk':k<l.length:=by omega
    have kk:0≤(k:Int)∧(k:Int)<l.length:=by omega
    have i2:InI64 ((k:Int)+1):=by unfold InI64;omega
    rw [idxP_drop _ hk'] at hb
    simp only [VCA,simprocAttr,encL,kk,st_ld hk',st_eq]
    refine condD_of (fun h1=>?_) (fun h1=>?_)
    · rw [if_pos (decide_eq_true h1)] at hb
      simp only [VCA,simprocAttr,encL,hb]
    · rw [if_neg (by simpa using h1)] at hb
      simp only [VCA,simprocAttr,encL,i2]
      exact backTo_of (k+1,_) ⟨hk',hb⟩ (by simp only [];omega) (ent_of _ [] rfl rfl (by simp only [VCA,simprocAttr,encL,ls_imv]))
  · obtain rfl:k=l.length:=by omega
    simp only [VCA,simprocAttr,encL]
    rw [hb,List.drop_eq_nil_of_le (Nat.le_refl _)];rfl
def inB (l:List ByteArray) (s:ByteArray):Bool:=l.any fun x=>decide (s=x)
theorem conts_ret (l:List ByteArray) (s:ByteArray) (hl:l.length≤SB):PRet Tryz.prog 61 [encL cS l,.str s] (.bool (inB l s)):=by
  refine pret_intro fdt61 (by simp) ?_
  simp only [lct61,VCA,simprocAttr,encL]
  refine callX_of (idxs_ret l s hl) (.inr rfl) ?_
  simp only [VCA,simprocAttr,encL,idxP_any,inB]
theorem within1_ret (all:List ByteArray) (x:ByteArray) (hl:all.length≤SB):PRet Tryz.prog 100 [.str x,.ip [encL cS all] 0] (.bool (!inB all x)):=by
  refine pret_intro fdt100 (by simp) ?_
  simp only [lct100,VCA,simprocAttr,encL,ldc0]
  refine callX_of (conts_ret all x hl) (.inr rfl) ?_
  simp only [VCA,simprocAttr,encL]
def withinB (l all:List ByteArray):Bool:=!l.any fun x=>!inB all x
theorem within_ret (l all:List ByteArray) (hl:l.length≤SB) (ha:all.length≤SB):PRet Tryz.prog 62 [encL cS l,encL cS all] (.bool (withinB l all)):=by
  refine pret_intro fdt62 (by simp) ?_
  simp only [lct62,VCA,simprocAttr,encL]
  refine callX_of (containsS_ret l 100 [.ip [encL cS all] 0] (fun x=>!inB all x) hl (fun _ _=>rfl) (fun _ _=>rfl) fun x _=>within1_ret all x ha) (.inr rfl) ?_
  simp only [VCA,simprocAttr,encL,withinB]
def dblB:List ByteArray→Nat→List ByteArray→Bool
  | _,_,[]=>false
  | l,k,x::r=>inB (l.take k) x || dblB l (k+1) r
theorem dblB_drop {l:List ByteArray} {k:Nat} (h:k<l.length):dblB l k (l.drop k)=(inB (l.take k) l[k] || dblB l (k+1) (l.drop (k+1))):=by
  rw [List.drop_eq_getElem_cons h];rfl
theorem sdouble_ret (l:List ByteArray) (hl:l.length≤SB):PRet Tryz.prog 54 [encL cS l] (.bool (dblB l 0 l)):=by
  have hl0:=hl
  rw [sb_eq] at hl
  refine pret_intro fdt54 (by simp) ?_
  simp only [lct54,VCA,simprocAttr,encL]
  refine loop_vcg (ι:=Nat × (Nat→Nat)) (fun (k,c)=>stO [(0,.val (encL cS l)),(5,.val (encL cS l)),(6,.val (.int .i64 l.length)),(7,.val (.int .i64 k))] c)
    (fun (k,_)=>k≤l.length∧dblB l 0 l=dblB l k (l.drop k)) (fun (k,_)=>l.length - k) (0,_) ⟨Nat.zero_le _,rfl⟩ (ent_of _ [] rfl rfl (by simp only [VCA,simprocAttr,encL,ls_imv])) ?_
  rintro ⟨k,c⟩ ⟨hk,hb⟩
  have hk:k≤l.length:=hk
  have hb:dblB l 0 l=dblB l k (l.drop k):=hb
  simp only [VCA,simprocAttr,encL]
  refine condD_of (fun h=>?_) (fun h=>?_)
  · have hk':k<l.length:=by omega
    have kk:0≤(k:Int)∧(k:Int)<l.length∧(k:Int)≤l.length:=by omega
    have i2:InI64 ((k:Int)+1):=by unfold InI64;omega
    rw [dblB_drop hk'] at hb
    have htk:(l.flatMap cS).take k=(l.take k).flatMap cS:=by
      have:=flat_tk (f:=cS) (s:=1) (fun _=>rfl) l k
      rwa [Nat.mul_one] at this
    have hln:(l.take k).length=k:=by rw [List.length_take];omega
    have hcs:=conts_ret (l.take k) l[k] (by rw [hln];omega)
    rw [encL,hln] at hcs
    simp only [VCA,simprocAttr,encL,kk,st_ld hk',ls_len,htk,hk]
    refine callX_of hcs (.inr rfl) ?_
    cases h1:inB (l.take k) l[k]
    · rw [h1,Bool.false_or] at hb
      simp only [VCA,simprocAttr,encL,i2]
      exact backTo_of (k+1,_) ⟨hk',hb⟩ (by simp only [];omega) (ent_of _ [] rfl rfl (by simp only [VCA,simprocAttr,encL,ls_imv]))
    · rw [h1,Bool.true_or] at hb
      simp only [VCA,simprocAttr,encL,hb]
  · obtain rfl:k=l.length:=by omega
    simp only [VCA,simprocAttr,encL]
    rw [hb,List.drop_eq_nil_of_le (Nat.le_refl _)];rfl
end Go.Proofs.YtlnphjjhfgghkaaGreatDoor



namespace Go.Lg
open Go Go.RowKit
mutual
def insideS:TT→List ByteArray
  | .mk _ _ r e=>r++insideL e
def insideL:List TT→List ByteArray
  | []=>[]
  | x::l=>insideS x++insideL l
end
theorem insideL_app:∀ (l:List TT) (x:TT),insideL (l++[x])=insideL l++insideS x
  | [],x=>by simp [insideL]
  | y::l,x=>by rw [List.cons_append,insideL,insideL_app l x,insideL,List.append_assoc]
theorem kindB_parts {k:Int} {n:ByteArray} {r:List ByteArray} {e:List TT} {d:Nat} (h:kindB (.mk k n r e) d=true):d≤64∧r.length≤64∧(e=[]∨∃ x,e=[x]∧kindB x (d+1)=true):=by
  rw [kindB] at h
  split at h
  · cases h
  rename_i hd
  refine ⟨by omega,?_⟩
  split at h
  · simp only [Bool.and_eq_true,decide_eq_true_eq,livesB] at h
    exact ⟨h.2.1.2,.inl (List.eq_nil_of_length_eq_zero h.2.2)⟩
  split at h
  · simp only [Bool.and_eq_true,decide_eq_true_eq] at h
    obtain ⟨_,h1,_,h2,h3⟩:=h
    refine ⟨by omega,.inr ?_⟩
    match e,h2,h3 with
    | [x],_,h3=>exact ⟨x,rfl,by rw [kindH] at h3;exact h3⟩
  split at h
  · simp only [nothingB,Bool.and_eq_true,decide_eq_true_eq,TT.lives,TT.elem] at h
    have h1:=of_decide_eq_true h.2.1
    exact ⟨by omega,.inl (List.eq_nil_of_length_eq_zero (of_decide_eq_true h.2.2))⟩
  · cases h
theorem inside_len:∀ (t:TT) (d:Nat),kindB t d=true→(insideS t).length≤64*(65 - d):=by
  refine TT.ind ?_
  intro k n r e ih d h
  obtain ⟨h1,h2,h3⟩:=kindB_parts h
  rw [insideS,List.length_append]
  rcases h3 with rfl|⟨x,rfl,hx⟩
  · simp only [insideL,List.length_nil];omega
  · have:=ih x (by simp) (d+1) hx
    simp only [insideL,List.append_nil]
    omega
def ovr (o:ByteArray→ByteArray→Bool):List ByteArray→ByteArray→Bool
  | [],_=>true
  | a::_,x=>o x a
mutual
def wellB (o:ByteArray→ByteArray→Bool):TT→Bool
  | .mk _ _ r e=>wellL o r e
def wellL (o:ByteArray→ByteArray→Bool) (r:List ByteArray):List TT→Bool
  | []=>true
  | e::l=>(insideS e).all (ovr o r) && (wellB o e && wellL o r l)
end
theorem wellL_drop (o:ByteArray→ByteArray→Bool) (r:List ByteArray) {l:List TT} {k:Nat} (h:k<l.length):wellL o r (l.drop k)=((insideS l[k]).all (ovr o r) && (wellB o l[k] && wellL o r (l.drop (k+1)))):=by
  rw [List.drop_eq_getElem_cons h,wellL]
theorem all_drop {α:Type} (p:α→Bool) {l:List α} {k:Nat} (h:k<l.length):(l.drop k).all p=(p l[k] && (l.drop (k+1)).all p):=by
  rw [List.drop_eq_getElem_cons h,List.all_cons]
end Go.Lg
namespace Go.Proofs.YtlnphjjhfgghkaaGreatDoor
open Go Go.Lg Go.RowKit
theorem texts_own (l:List ByteArray) (hl:l.length≤SB):PRetM Tryz.prog 59 [encL cS l] 1 l.length (l.flatMap cS):=by
  rw [sb_eq] at hl
  refine pretM_intro fdt59 (by simp) (by rw [ls_len,Nat.mul_one]) ?_
  have hsz:l.length*16≤140737488355328∧l.length≤4611686018427387904:=by omega
  simp only [lct59,VCA,simprocAttr,encL,ls_len,ls_one,Nat.mul_one,hsz,ls_take,ls_snap,Nat.le_refl,ownR]
theorem inside_ret:∀ (t:TT),t.sm→∀ d,kindB t d=true→PRet Tryz.prog 125 [.agg t.cells] (encL cS (insideS t)):=by
  refine TT.ind ?_
  intro k n r e ih hs d hk
  have hlen:=inside_len _ d hk
  obtain ⟨q1,q2,q3⟩:=kindB_parts hk
  obtain ⟨s1,s2,⟨s3,s3'⟩,s4,s5⟩:=(TT.sm_iff _).1 hs
  simp only [TT.kind,TT.name,TT.lives,TT.elem] at s1 s2 s3 s3' s4 s5
  have f2:(TT.mk k n r e).lives=r:=rfl
  have f3:(TT.mk k n r e).elem=e:=rfl
  rw [insideS] at hlen ⊢
  rw [sb_eq] at s4
  refine pret_intro fdt125 (by simp) ?_
  simp only [lct125,VCA,simprocAttr,encL,TTA,f2,f3]
  refine callX_own (texts_own r s3) (.inr (ls_flat 4 _)) ?_
  simp only [VCA,simprocAttr,encL,TTA,f2,f3]
  refine loop_vcg (ι:=Nat × (Nat→Nat)) (fun (i,c)=>stO [(3,.own 1 (r++insideL (e.take i)).length ((r++insideL (e.take i)).flatMap cS)),(10,.val (encL TT.cells e)),(11,.val (.int .i64 e.length)),(12,.val (.int .i64 i))] c)
    (fun (i,_)=>i≤e.length) (fun (i,_)=>e.length - i) (0,_) (Nat.zero_le _) (ent_of _ [] rfl rfl (by simp only [VCA,simprocAttr,encL,tt_imv,ls_imv,List.take_zero,insideL,List.append_nil];try decide)) ?_
  rintro ⟨i,c⟩ hi
  have hi:i≤e.length:=hi
  simp only [VCA,simprocAttr,encL]
  refine condD_of (fun h=>?_) (fun h=>?_)
  case refine_2 =>
    obtain rfl:i=e.length:=by omega
    rw [List.take_length]
    simp only [VCA,simprocAttr,encL,ls_len,ls_snap,ls_take,Nat.le_refl]
  have hi':i<e.length:=by omega
  have ii:0≤(i:Int)∧(i:Int)<e.length:=by omega
  have i2:InI64 ((i:Int)+1):=by unfold InI64;omega
  have hld:=TT.ld0 (l:=e) (i:=i) (n:=4) (agg:=true) hi' (by decide) (by decide)
  rw [TT.call] at hld
  have hx:kindB e[i] (d+1)=true:=by
    rcases q3 with rfl|⟨x,rfl,hx⟩
    · cases hi'
    · have:i=0:=by simpa using hi'
      subst this;exact hx
  have htk:insideL (e.take (i+1))=insideL (e.take i)++insideS e[i]:=by
    rw [List.take_add_one,List.getElem?_eq_getElem hi'];exact insideL_app _ _
  have hxl:=inside_len _ _ hx
  have hpre:(insideL (e.take i)).length≤(insideL e).length:=by
    rcases q3 with rfl|⟨x,rfl,hx⟩
    · cases hi'
    · have:i=0:=by simpa using hi'
      subst this;simp [insideL]
  simp only [List.length_append] at hlen
  have hsz:(r.length+((insideL (e.take i)).length+(insideS e[i]).length))*16≤140737488355328∧r.length+((insideL (e.take i)).length+(insideS e[i]).length)≤4611686018427387904:=by omega
  simp only [VCA,simprocAttr,encL,TTA,ii,hld,tt_set]
  refine callX_of (ih _ (List.getElem_mem hi') (s5 _ (List.getElem_mem hi')) (d+1) hx) (.inl rfl) ?_
  simp only [VCA,simprocAttr,encL,ls_len,ls_one,Nat.mul_one,List.length_append,hsz,i2]
  refine backTo_of (i+1,_) hi' (by simp only [];omega) (ent_of _ [] rfl rfl ?_)
  simp only [VCA,simprocAttr,encL,tt_imv,ls_imv,htk,List.length_append,List.flatMap_append,List.append_assoc,List.all_append]
theorem well_ret (g:FuncId) (cap:List V) (o:ByteArray→ByteArray→Bool) (hm:∀ d,imV (d+2) (.fn g cap)=true) (hc:∀ H d,cap.all (sok H (d+1))=true) (hs:∀ H d,cap.map (snap H (d+1))=cap)
    (hf:∀ x y:ByteArray,PRet Tryz.prog g (.str x :: .str y::cap) (.bool (o x y))):∀ (t:TT),t.sm→∀ d,kindB t d=true→PRet Tryz.prog 96 [.agg t.cells,.fn g cap] (.bool (wellB o t)):=by
  refine TT.ind ?_
  intro k n r e ih hsm d hk
  obtain ⟨q1,q2,q3⟩:=kindB_parts hk
  obtain ⟨s1,s2,⟨s3,s3'⟩,s4,s5⟩:=(TT.sm_iff _).1 hsm
  simp only [TT.kind,TT.name,TT.lives,TT.elem] at s1 s2 s3 s3' s4 s5
  have f2:(TT.mk k n r e).lives=r:=rfl
  have f3:(TT.mk k n r e).elem=e:=rfl
  rw [wellB]
  rw [sb_eq] at s4
  refine pret_intro fdt96 (by simp) ?_
  simp only [lct96,VCA,simprocAttr,encL,TTA,f2,f3]
  refine loop_vcg (ι:=Nat × (Nat→Nat)) (fun (i,c)=>stO [(1,.val (.fn g cap)),(2,.box (TT.mk k n r e).cells),(10,.val (encL TT.cells e)),(11,.val (.int .i64 e.length)),(12,.val (.int .i64 i))] c)
    (fun (i,_)=>i≤e.length∧wellL o r e=wellL o r (e.drop i)) (fun (i,_)=>e.length - i) (0,_) ⟨Nat.zero_le _,rfl⟩ (ent_of _ [] rfl rfl (by simp only [VCA,simprocAttr,encL,TTA,tt_imv,hm])) ?_
  rintro ⟨i,c⟩ ⟨hi,hb⟩
  have hi:i≤e.length:=hi
  have hb:wellL o r e=wellL o r (e.drop i):=hb
  simp only [VCA,simprocAttr,encL]
  refine condD_of (fun h=>?_) (fun h=>?_)
  case refine_2 =>
    obtain rfl:i=e.length:=by omega
    rw [List.drop_eq_nil_of_le (Nat.le_refl _),wellL] at hb
    simp only [VCA,simprocAttr,encL,hb]
  have hi':i<e.length:=by omega
  have ii:0≤(i:Int)∧(i:Int)<e.length:=by omega
  have i2:InI64 ((i:Int)+1):=by unfold InI64;omega
  have hld:=TT.ld0 (l:=e) (i:=i) (n:=4) (agg:=true) hi' (by decide) (by decide)
  rw [TT.call] at hld
  have hx:kindB e[i] (d+1)=true:=by
    rcases q3 with rfl|⟨x,rfl,hx⟩
    · cases hi'
    · have:i=0:=by simpa using hi'
      subst this;exact hx
  have hxl:=inside_len _ _ hx
  simp only [VCA,simprocAttr,encL,TTA,ii,hld,tt_set]
  refine callX_of (inside_ret _ (s5 _ (List.getElem_mem hi')) (d+1) hx) (.inl rfl) ?_
  simp only [VCA,simprocAttr,encL,TTA]
  obtain ⟨I,hI⟩:∃ I,I=insideS e[i]:=⟨_,rfl⟩
  rw [wellL_drop o r hi'] at hb
  rw [← hI] at hxl hb ⊢
  refine loop_vcg (ι:=Nat × (Nat→Nat)) (fun (j,c)=>stO [(1,.val (.fn g cap)),(2,.box (TT.mk k n r e).cells),(6,.box e[i].cells),(10,.val (encL TT.cells e)),(11,.val (.int .i64 e.length)),(12,.val (.int .i64 i)),(17,.val (encL cS I)),(18,.val (.int .i64 I.length)),(19,.val (.int .i64 j))] c)
    (fun (j,_)=>j≤I.length∧I.all (ovr o r)=(I.drop j).all (ovr o r)) (fun (j,_)=>I.length - j) (0,_) ⟨Nat.zero_le _,rfl⟩ (ent_of _ [] rfl rfl (by simp only [VCA,simprocAttr,encL,TTA,tt_imv,ls_imv,hm])) ?_
  rintro ⟨j,c'⟩ ⟨hj,hbj⟩
  have hj:j≤I.length:=hj
  have hbj:I.all (ovr o r)=(I.drop j).all (ovr o r):=hbj
  simp only [VCA,simprocAttr,encL]
  refine condD_of (fun h=>?_) (fun h=>?_)
  case refine_2 =>
    obtain rfl:j=I.length:=by omega
    rw [List.drop_eq_nil_of_le (Nat.le_refl _),List.all_nil] at hbj
    rw [hbj,Bool.true_and] at hb
    simp only [VCA,simprocAttr,encL,TTA,hm,hc,hs]
    refine callX_of (ih _ (List.getElem_mem hi') (s5 _ (List.getElem_mem hi')) (d+1) hx) (.inr rfl) ?_
    cases hw:wellB o e[i]
    · rw [hw,Bool.false_and] at hb
      simp only [VCA,simprocAttr,encL,hb]
    · rw [hw,Bool.true_and] at hb
      simp only [VCA,simprocAttr,encL,i2]
      refine backTo_of (i+1,_) ⟨hi',hb⟩ (by simp only [];omega) (ent_of _ [] rfl rfl ?_)
      simp only [VCA,simprocAttr,encL,TTA,tt_imv,ls_imv,hm]
  have hj':j<I.length:=by omega
  have jj:0≤(j:Int)∧(j:Int)<I.length:=by omega
  have j2:InI64 ((j:Int)+1):=by unfold InI64;omega
  have hld:=st_ld hj'
  rw [all_drop _ hj'] at hbj
  match r,f2,hb,hbj,s3 with
  | [],f2,hb,hbj,s3 =>
    rw [show ovr o [] I[j]=true from rfl,Bool.true_and] at hbj
    simp only [VCA,simprocAttr,encL,TTA,jj,hld,f2,j2]
    refine backTo_of (j+1,_) ⟨hj',hbj⟩ (by simp only [];omega) (ent_of _ [] rfl rfl ?_)
    simp only [VCA,simprocAttr,encL,TTA,tt_imv,ls_imv,hm]
  | a::r',f2,hb,hbj,s3 =>
    rw [show ovr o (a::r') I[j]=o I[j] a from rfl] at hbj
    have hl0:ldV false 1 ((a::r').flatMap cS) 0=some (.str a):=rfl
    have r0:(0:Int)<(r'.length:Int)+1:=by omega
    simp only [VCA,simprocAttr,encL,MCA,TTA,jj,hld,f2,j2,hm,hc,hs,r0,hl0,decide_true]
    refine callX_of (hf _ _) (.inr rfl) ?_
    cases ho:o I[j] a
    · rw [ho,Bool.false_and] at hbj
      rw [hbj,Bool.false_and] at hb
      simp only [VCA,simprocAttr,encL,MCA,hb]
    · rw [ho,Bool.true_and] at hbj
      simp only [VCA,simprocAttr,encL,MCA,TTA,j2]
      refine backTo_of (j+1,_) ⟨hj',hbj⟩ (by simp only [];omega) (ent_of _ [] rfl rfl ?_)
      simp only [VCA,simprocAttr,encL,TTA,tt_imv,ls_imv,hm]
end Go.Proofs.YtlnphjjhfgghkaaGreatDoor



namespace Go.Lg
open Go Go.RowKit
section
variable {P:Program}
theorem asL_nil {f:FuncId} (hen:entersOk P f=true) (hnil:∀ (t:Value) (w:World),Calls P f #[.nilIface,t] w fun e w'=>e = .returned (.bool false)∧w' = w)
    {s:Nat} {y:V} {sargs:List V} {d:Option Nat} {K:St→Prop} {σ:St} (h:K (σ.put d (.bool false))):callX P s f [.nili,y] sargs d K σ:=by
  refine .inr (.inr (.inr ⟨fun v σ'=>v = .bool false∧σ' = σ,⟨hen,fun E hE g a w vs hsim hsz hrep=>?_⟩,?_⟩))
  · obtain ⟨u1,u2,rfl,r1,r2⟩:=two_args hsz hrep
    rw [r1.nili_inv]
    refine (hnil u2 w).mono ?_
    rintro e w' ⟨rfl,rfl⟩
    exact ⟨_,_,_,g,rfl,hsim,.imm _ _ (.bool _),rfl,rfl⟩
  · rintro v σ' ⟨rfl,rfl⟩
    exact h
theorem asL_hit {f:FuncId} {tF tPF:TypeId} (hen:entersOk P f=true) (hsz1:szT P tF=some 1)
    (hhit:∀ (e t:Addr) (old:Value) (w:World),GOk P w→w.cell? t=some old→w.frozen? t=false→Calls P f #[.iface tF (.pointer (some e)),.iface tPF (.pointer (some t))] w fun ev w'=>ev = .returned (.bool true)∧∃ o1 o2 o3 o4,w' = ((((w.alloc o1).alloc o2).alloc o3).alloc o4).setCell t (.pointer (some e)))
    {s:Nat} {cs cs0:List V} {o off g0:Nat} {esz:Nat} {key:Key} {sargs:List V} {d:Option Nat} {K:St→Prop} {σ:St} (hk:σ.H key=some (.row g0 esz cs0)) (ho:off+1≤cs0.length)
    (h:K (St.put ⟨σ.tm,hupd σ.H key (.row g0 esz (setCells cs0 off [.ip cs o])),σ.cnt⟩ d (.bool true))):callX P s f [.ifc tF (.ip cs o),.ifc tPF (.mp key g0 off)] sargs d K σ:=by
  refine .inr (.inr (.inr ⟨fun v σ'=>v = .bool true∧σ' = ⟨σ.tm,hupd σ.H key (.row g0 esz (setCells cs0 off [.ip cs o])),σ.cnt⟩,⟨hen,fun E hE g a w vs hsim hsz hrep=>?_⟩,?_⟩))
  · obtain ⟨u1,u2,rfl,r1,r2⟩:=two_args hsz hrep
    obtain ⟨v1,rfl,k1⟩:=r1.ifc_inv
    obtain ⟨v2,rfl,k2⟩:=r2.ifc_inv
    obtain ⟨ad,rfl⟩:=ptr_of k1 (.inl ⟨cs,o,rfl⟩)
    have hs1:∀ w1,SimG E g σ a w1→Rep g w1 (.pointer (some ad)) (.ip cs o)→Rep g w1 v2 (.mp key g0 off)→∃ t old,v2 = .pointer (some t)∧w1.cell? t=some old∧w1.frozen? t=false∧t.block<w1.heap.size∧∃ g',SimG E g' ⟨σ.tm,hupd σ.H key (.row g0 esz (setCells cs0 off [.ip cs o])),σ.cnt⟩ a (w1.setCell t (.pointer (some ad))):=by
      intro w1 hsim1 q1 q2
      have hst:=store_ok (P:=P) (s:=0) hsim1 hsz1 q2 q1
      simp only [lstore,hk,if_true] at hst
      obtain ⟨n,w2,g',e1,_,e3⟩:=hst ⟨rfl,ho,rfl⟩
      obtain ⟨b,cap,hb,rfl⟩:=q2.mp_inv
      obtain ⟨blk,cap',z1,z2,z3⟩:=hsim1.obj key _ hk
      rw [hb] at z1;cases z1
      obtain ⟨p1,p2,p3,us,T,fz,y1,y2,y3,y4,y5⟩:=z3
      have hoff:off<us.size:=by omega
      have hc:w1.cell? ⟨b,off,none⟩=some us[off]:=by rw [cell_at y1];exact Array.getElem?_eq_getElem hoff
      have hf:w1.frozen? ⟨b,off,none⟩=false:=frozen_at y1 (y2.1 off hoff)
      refine ⟨⟨b,off,none⟩,us[off],rfl,hc,hf,p2,g',?_⟩
      have hrun:(do Instr.storeAt tF (.pointer (some ⟨b,off,none⟩)) (.pointer (some ad));pure .skip:Sem Next).run P w1 = .ok .skip (w1.setCell ⟨b,off,none⟩ (.pointer (some ad))):=by
        have hst1:=run_store P w1 ⟨b,off,none⟩ (.pointer (some ad)) .plain rfl
        rw [hc] at hst1
        simp only [hf] at hst1
        simp only [Instr.storeAt,Instr.sureAddr,storeVar]
        simp [szT_run hsz1,Value.cells,storeCells,Addr.add,hst1]
      rw [hrun] at e1
      cases e1
      exact e3
    obtain ⟨t0,old,e1,e2,e3,e4,_⟩:=hs1 w hsim k1 k2
    subst e1
    refine (hhit ad t0 old w (EOk.gok hsim) e2 e3).mono ?_
    rintro ev w' ⟨rfl,o1,o2,o3,o4,rfl⟩
    have hb:BelowD w.heap.size w ((((w.alloc o1).alloc o2).alloc o3).alloc o4):=((((BelowD.refl _ _).alloc (Nat.le_refl _) _).alloc (by simp) _).alloc (by simp;omega) _).alloc (by simp;omega) _
    have hmono:∀ v x,Rep g w v x→Rep g ((((w.alloc o1).alloc o2).alloc o3).alloc o4) v x:=fun v x h=>h.mono (fun _ h=>h) (fun b hm=>hb.block b (hsim.immlt b hm)) (fun _ _ _ h=>h)
    obtain ⟨t1,_,f1,_,_,_,g',f5⟩:=hs1 _ (hsim.grow_same hb) (hmono _ _ k1) (hmono _ _ k2)
    cases f1
    exact ⟨_,_,_,g',rfl,f5,.imm _ _ (.bool _),rfl,rfl⟩
  · rintro v σ' ⟨rfl,rfl⟩
    exact h
end
end Go.Lg

namespace Go.Lg
open Go Go.RowKit
def smM (M:List ST):List (V × V):=M.map fun s=>(.str s.name,.agg s.cells)
def lkS:List ST→ByteArray→Option ST
  | [],_=>none
  | s::r,x=>if x=s.name then some s else lkS r x
def ST0:ST:=⟨false,⟨#[]⟩,[],[],0⟩
theorem smM_keys (M:List ST):((smM M).all fun e=>keyV .str e.1)=true:=by
  rw [List.all_eq_true]
  intro e he
  obtain ⟨p,_,rfl⟩:=List.mem_map.1 he
  rfl
theorem find_sm (x:ByteArray):∀ M:List ST,(findK (.str x) (smM M)=none∧lkS M x=none)∨∃ j s,findK (.str x) (smM M)=some (j,.agg s.cells)∧lkS M x=some s∧s∈M∧s.name=x
  | []=>.inl ⟨rfl,rfl⟩
  | p::r=>by
    have e1:smM (p::r)=(.str p.name,.agg p.cells)::smM r:=rfl
    rw [e1,lkS]
    simp only [findK,eqK_str]
    by_cases e:x=p.name
    · exact .inr ⟨0,p,by simp [e],by rw [if_pos e],List.mem_cons_self ..,e.symm⟩
    · rw [if_neg e]
      rcases find_sm x r with ⟨h1,h2⟩|⟨j,s,h1,h2,h3,h4⟩
      · exact .inl ⟨by simp [e,h1],h2⟩
      · exact .inr ⟨j+1,s,by simp [e,h1],h2,List.mem_cons_of_mem _ h3,h4⟩
theorem ST0_sm:ST0.sm:=⟨by decide,⟨by decide,fun _ h=>by cases h⟩,⟨by decide,fun _ h=>by cases h⟩,by unfold InI64;decide⟩
end Go.Lg
namespace Go.Proofs.YtlnphjjhfgghkaaGreatDoor
open Go Go.Lg Go.RowKit
def structS (M:List ST) (lv:List ByteArray) (op:Bool) (n:ByteArray) (r:List ByteArray):Int:=match lkS M n with
  | none=>22
  | some x=>if (!decide (r.length=x.lives.length) && !(op && decide (r.length=0)))=true then 27 else if withinB r lv=true then 0 else 24
mutual
def kindS (M:List ST) (lv:List ByteArray) (op:Bool):TT→Int
  | .mk k n r e=>if k=1∨k=2 then 0 else if k=3 then structS M lv op n r else if k=4∨k=5 then (if ((decide (r.length=0) && !op) || !withinB r lv)=true then 24 else kindSH M lv op e) else 25
def kindSH (M:List ST) (lv:List ByteArray) (op:Bool):List TT→Int
  | []=>25
  | x::_=>kindS M lv op x
end
theorem kindSH_pos {M:List ST} {lv:List ByteArray} {op:Bool} {e:List TT} (hp:0<e.length):kindSH M lv op e=kindS M lv op e[0]:=by
  cases e with
  | nil=>cases hp
  | cons x r=>rfl
theorem struct0_ret:PRet Tryz.prog 28 [.agg [.bool false,.str ⟨#[]⟩,.e0,.e0,.int .i64 0]] (.agg ST0.cells) :=
  PRet.nz 3 (by simp only [ST0,ST.cells,List.map_cons,List.map_nil,nz_agg,nz_e0,nz_bool,nz_str,nz_int,encL,List.length_nil,List.flatMap_nil]) (cstruct_ret ST0 ST0_sm)
theorem struct_ret (M:List ST) (fs:List (V × V)) (x:ByteArray) (hM:∀ s∈M,s.sm):PRet Tryz.prog 18 [.ip [.im (smM M),.im fs] 0,.str x] (.tup [.agg ((lkS M x).getD ST0).cells,.bool (lkS M x).isSome]):=by
  refine pret_intro fdt18 (by simp) ?_
  rcases find_sm x M with ⟨h1,h2⟩|⟨j,s,h1,h2,h3,h4⟩
  · simp only [lct18,VCA,simprocAttr,encL,MCA,TTA,LDA,setCells_all,h1,h2,smM_keys]
    refine callX_of struct0_ret (.inl rfl) ?_
    simp only [VCA,simprocAttr,encL,MCA,TTA,LDA,List.mapM_cons,List.mapM_nil,Option.pure_def,Option.bind_eq_bind,Option.bind_some,Option.map_some,some_ex,st_setA,Option.getD,Option.isSome]
  · simp only [lct18,VCA,simprocAttr,encL,MCA,TTA,LDA,st_setA,h1,h2,smM_keys]
    refine callX_of (cstruct_ret s (hM s h3)) (.inl rfl) ?_
    simp only [VCA,simprocAttr,encL,MCA,TTA,LDA,List.mapM_cons,List.mapM_nil,Option.pure_def,Option.bind_eq_bind,Option.bind_some,Option.map_some,some_ex,st_setA,Option.getD,Option.isSome]
theorem skind_ret (M:List ST) (fs:List (V × V)) (hM:∀ s∈M,s.sm) (lv:List ByteArray) (hv:lv.length≤SB) (op:Bool):∀ (t:TT),t.sm→PRet Tryz.prog 38 [.ip [.im (smM M),.im fs] 0,.agg t.cells,encL cS lv,.bool op] (.int .i64 (kindS M lv op t)):=by
  refine TT.ind ?_
  intro k n r e ih hs
  obtain ⟨s1,s2,⟨s3,s3'⟩,s4,s5⟩:=(TT.sm_iff _).1 hs
  simp only [TT.kind,TT.name,TT.lives,TT.elem] at s1 s2 s3 s3' s4 s5
  have f0:(TT.mk k n r e).kind=k:=rfl
  have f1:(TT.mk k n r e).name=n:=rfl
  have f2:(TT.mk k n r e).lives=r:=rfl
  have f3:(TT.mk k n r e).elem=e:=rfl
  have e0:decide ((r.length:Int)=0)=decide (r.length=0):=by rw [Bool.eq_iff_iff,decide_eq_true_eq,decide_eq_true_eq];omega
  have hst:=struct_ret M fs n hM
  refine pret_intro fdt38 (by simp) ?_
  simp only [lct38,VCA,simprocAttr,encL,TTA,f0,f1,f2,f3]
  refine condD_of (fun h1=>?_) (fun h1=>?_)
  · have hk:kindS M lv op (.mk k n r e)=0:=by rw [kindS,if_pos (.inl h1)]
    simp only [VCA,simprocAttr,encL,hk,decide_eq_true h1]
  simp only [VCA,simprocAttr,encL]
  refine condD_of (fun h2=>?_) (fun h2=>?_)
  · have hk:kindS M lv op (.mk k n r e)=0:=by rw [kindS,if_pos (.inr h2)]
    simp only [VCA,simprocAttr,encL,hk,decide_eq_true h2,decide_eq_false h1]
  have h12:¬ (k=1∨k=2):=fun h=>h.elim h1 h2
  simp only [VCA,simprocAttr,encL]
  refine condD_of (fun h3=>?_) (fun h3=>?_)
  · have hk:kindS M lv op (.mk k n r e)=structS M lv op n r:=by rw [kindS,if_neg h12,if_pos h3]
    simp only [VCA,simprocAttr,encL,TTA,f0,f1,f2,f3,hk,decide_eq_true h3]
    refine callX_of hst (.inl rfl) ?_
    rw [structS]
    cases hl:lkS M n with
    | none =>
      simp only [VCA,simprocAttr,encL,MCA,TTA,LDA,st_setA,Option.getD,Option.isSome]
    | some x =>
      have e1:decide ((r.length:Int)=(x.lives.length:Int))=decide (r.length=x.lives.length):=by rw [Bool.eq_iff_iff,decide_eq_true_eq,decide_eq_true_eq];omega
      simp only [VCA,simprocAttr,encL,MCA,TTA,LDA,f0,f1,f2,f3,st_setA,Option.getD,Option.isSome,e1]
      have hwi:=within_ret r lv s3 hv
      cases b1:decide (r.length=x.lives.length)<;>simp only [VCA,simprocAttr,encL,MCA,TTA,LDA,f0,f1,f2,f3]
      · cases op<;>simp only [VCA,simprocAttr,encL,MCA,TTA,LDA,f0,f1,f2,f3,e0,if_true]
        cases b2:decide (r.length=0)<;>simp only [VCA,simprocAttr,encL,MCA,TTA,LDA,f0,f1,f2,f3,if_true]
        refine callX_of hwi (.inr rfl) ?_
        cases b3:withinB r lv<;>simp only [VCA,simprocAttr,encL,MCA,TTA,LDA]
      · refine callX_of hwi (.inr rfl) ?_
        cases b3:withinB r lv<;>simp only [VCA,simprocAttr,encL,MCA,TTA,LDA]
  simp only [VCA,simprocAttr,encL]
  refine condD_of (fun h4=>?_) (fun h4=>?_)
  · have hk:kindS M lv op (.mk k n r e)=if ((decide (r.length=0) && !op) || !withinB r lv)=true then 24 else kindSH M lv op e:=by rw [kindS,if_neg h12,if_neg h3,if_pos (.inl h4)]
    have hwi:=within_ret r lv s3 hv
    simp only [VCA,simprocAttr,encL,TTA,f0,f1,f2,f3,hk,decide_eq_true h4,e0]
    cases b1:decide (r.length=0)<;>cases op<;>simp only [VCA,simprocAttr,encL,MCA,TTA,LDA,f0,f1,f2,f3,if_true]
    all_goals try (refine callX_of hwi (.inr rfl) ?_;cases b3:withinB r lv<;>simp only [VCA,simprocAttr,encL,MCA,TTA,LDA,f0,f1,f2,f3,if_true])
    all_goals
      refine condV_of (fun he=>?_) (fun he=>?_)
      · have he:e=[]:=by have:=of_decide_eq_true he;exact List.eq_nil_of_length_eq_zero (by omega)
        simp only [VCA,simprocAttr,encL,MCA,TTA,LDA,he,kindSH]
      · have hp:0<e.length:=by have:=of_decide_eq_false he;omega
        have he0:0≤(0:Int)∧(0:Int)<e.length:=by omega
        simp only [VCA,simprocAttr,encL,MCA,TTA,f0,f1,f2,f3,he0,tt_first hp]
        refine callX_of (ih e[0] (List.getElem_mem hp) (s5 _ (List.getElem_mem hp))) (.inr rfl) ?_
        simp only [VCA,simprocAttr,encL,kindSH_pos hp]
  simp only [VCA,simprocAttr,encL]
  refine condD_of (fun h5=>?_) (fun h5=>?_)
  · have hk:kindS M lv op (.mk k n r e)=if ((decide (r.length=0) && !op) || !withinB r lv)=true then 24 else kindSH M lv op e:=by rw [kindS,if_neg h12,if_neg h3,if_pos (.inr h5)]
    have hwi:=within_ret r lv s3 hv
    simp only [VCA,simprocAttr,encL,TTA,f0,f1,f2,f3,hk,decide_eq_true h5,decide_eq_false h4,e0]
    cases b1:decide (r.length=0)<;>cases op<;>simp only [VCA,simprocAttr,encL,MCA,TTA,LDA,f0,f1,f2,f3,if_true]
    all_goals try (refine callX_of hwi (.inr rfl) ?_;cases b3:withinB r lv<;>simp only [VCA,simprocAttr,encL,MCA,TTA,LDA,f0,f1,f2,f3,if_true])
    all_goals
      refine condV_of (fun he=>?_) (fun he=>?_)
      · have he:e=[]:=by have:=of_decide_eq_true he;exact List.eq_nil_of_length_eq_zero (by omega)
        simp only [VCA,simprocAttr,encL,MCA,TTA,LDA,he,kindSH]
      · have hp:0<e.length:=by have:=of_decide_eq_false he;omega
        have he0:0≤(0:Int)∧(0:Int)<e.length:=by omega
        simp only [VCA,simprocAttr,encL,MCA,TTA,f0,f1,f2,f3,he0,tt_first hp]
        refine callX_of (ih e[0] (List.getElem_mem hp) (s5 _ (List.getElem_mem hp))) (.inr rfl) ?_
        simp only [VCA,simprocAttr,encL,kindSH_pos hp]
  have hk:kindS M lv op (.mk k n r e)=25:=by rw [kindS,if_neg h12,if_neg h3,if_neg (fun h=>h.elim h4 h5)]
  simp only [VCA,simprocAttr,encL,hk,decide_eq_false h4,decide_eq_false h5]
def fltV (c i:Int):V:=if c=0 then .nili else .ifc 92 (.ip [.int .i64 c,.int .i64 i,.ifc 75 (.int .i64 c)] 0)
theorem fill3 (a b c x y z:V):setCells (setCells (setCells [a,b,c] 0 [x]) 1 [y]) 2 [z]=[x,y,z]:=rfl
theorem flt_ret (c i:Int):PRet Tryz.prog 25 [.int .i64 c,.int .i64 i] (fltV c i):=by
  refine pret_intro fdt25 (by simp) ?_
  simp only [lct25,VCA,simprocAttr,encL,MCA,LDA]
  cases b:decide (c=0)<;>simp only [VCA,simprocAttr,encL,MCA,LDA,b,fill3]
  · rw [fltV,if_neg (of_decide_eq_false b)]
  · rw [fltV,if_pos (of_decide_eq_true b)]
theorem type_ret (M:List ST) (fs:List (V × V)) (hM:∀ s∈M,s.sm) (lv:List ByteArray) (hv:lv.length≤SB) (op:Bool) (t:TT) (ht:t.sm):PRet Tryz.prog 19 [.ip [.im (smM M),.im fs] 0,.agg t.cells,encL cS lv,.bool op] (fltV (kindS M lv op t) 0):=by
  refine pret_intro fdt19 (by simp) ?_
  simp only [lct19,VCA,simprocAttr,encL,MCA,TTA]
  refine callX_of (skind_ret M fs hM lv hv op t ht) (.inr rfl) ?_
  simp only [VCA,simprocAttr,encL,MCA]
  refine callX_of (flt_ret _ _) (.inl rfl) ?_
  have hsn:∀ H,snap H 8 (fltV (kindS M lv op t) 0)=fltV (kindS M lv op t) 0:=fun H=>by rw [fltV];split<;>rfl
  simp only [VCA,simprocAttr,encL,MCA,hsn]
end Go.Proofs.YtlnphjjhfgghkaaGreatDoor

namespace Go.Proofs.YtlnphjjhfgghkaaGreatDoor
open Go Go.Lg Go.RowKit
theorem scon_ret (s sub:ByteArray) (hs:s.size<4294967281):PRet Tryz.prog 126 [.str s,.str sub] (.bool (Lib.contains s.data.toList sub.data.toList)):=by
  refine ⟨by kernel_rfl,fun imm w vs him hsz hrep=>?_⟩
  obtain ⟨u,v,rfl⟩:∃ u v,vs = #[u,v]:=by
    obtain ⟨l⟩:=vs
    match l,hsz with
    | [u,v],_=>exact ⟨u,v,rfl⟩
  obtain rfl:=repI_str (hrep 0 u _ rfl rfl)
  obtain rfl:=repI_str (hrep 1 v _ rfl rfl)
  obtain ⟨m,hm⟩:=gok_max him.2
  refine (Tryz.strings_Contains s sub m w hs hm).mono ?_
  rintro e w' ⟨rfl,rfl⟩
  exact ⟨_,imm,rfl,.bool _,⟨⟨rfl,rfl,rfl,Nat.le_refl _,fun _ _=>rfl⟩,Nat.le_refl _⟩,fun _ h=>h,fun _ h=>.inl h⟩
def ccB (n:ByteArray):Bool:=Lib.contains n.data.toList [58,58]
def pubS (M:List ST) (n:ByteArray):Bool:=((lkS M n).getD ST0).pub
mutual
def shownB (M:List ST):TT→Bool
  | .mk k n r e=>!(decide (k=3) && (ccB n || !pubS M n)) && shownL M e
def shownL (M:List ST):List TT→Bool
  | []=>true
  | x::l=>shownB M x && shownL M l
end
theorem shownL_any (M:List ST):∀ l:List TT,shownL M l = !l.any fun x=>!shownB M x
  | []=>rfl
  | x::l=>by rw [shownL,shownL_any M l,List.any_cons,Bool.not_or,Bool.not_not]
theorem shown_ret (M:List ST) (fs:List (V × V)) (hM:∀ s∈M,s.sm):∀ (t:TT),t.sm→PRet Tryz.prog 97 [.ip [.im (smM M),.im fs] 0,.agg t.cells] (.bool (shownB M t)):=by
  refine TT.ind ?_
  intro k n r e ih hs
  obtain ⟨s1,s2,⟨s3,s3'⟩,s4,s5⟩:=(TT.sm_iff _).1 hs
  simp only [TT.kind,TT.name,TT.lives,TT.elem] at s1 s2 s3 s3' s4 s5
  have f0:(TT.mk k n r e).kind=k:=rfl
  have f1:(TT.mk k n r e).name=n:=rfl
  have f2:(TT.mk k n r e).lives=r:=rfl
  have f3:(TT.mk k n r e).elem=e:=rfl
  have hsc:=scon_ret n ⟨#[58,58]⟩ (by rw [sb_eq] at s2;omega)
  have e9:Lib.contains n.data.toList (⟨#[58,58]⟩:ByteArray).data.toList=ccB n:=rfl
  rw [e9] at hsc
  have h1s:∀ x∈e,PRet Tryz.prog 128 (.agg x.cells::[.ip [.ip [.im (smM M),.im fs] 0] 0]) (.bool ((fun x=>!shownB M x) x)):=by
    intro x hx
    refine pret_intro fdt128 (by simp) ?_
    simp only [lct128,VCA,simprocAttr,encL,MCA,TTA,LDA]
    refine callX_of (ih x hx (s5 x hx)) (.inr rfl) ?_
    simp only [VCA,simprocAttr,encL,MCA]
  have hany:=containsT_ret e 128 [.ip [.ip [.im (smM M),.im fs] 0] 0] (fun x=>!shownB M x) s4 (fun _ _=>rfl) (fun _ _=>rfl) h1s
  rw [shownB,shownL_any]
  refine pret_intro fdt97 (by simp) ?_
  simp only [lct97,VCA,simprocAttr,encL,MCA,TTA,LDA,f0,f1,f2,f3]
  cases b1:decide (k=3)<;>simp only [VCA,simprocAttr,encL,MCA,TTA,LDA,f0,f1,f2,f3]
  · refine callX_of hany (.inr rfl) ?_
    simp only [VCA,simprocAttr,encL,MCA]
  refine callV_of hsc (.inr rfl) ?_
  cases b2:ccB n<;>simp only [VCA,simprocAttr,encL,MCA,TTA,LDA,f0,f1,f2,f3]
  rcases find_sm n M with ⟨h1,h2⟩|⟨j,s,h1,h2,h3,h4⟩
  · have hp:pubS M n=false:=by rw [pubS,h2];rfl
    simp only [VCA,simprocAttr,encL,MCA,TTA,LDA,f0,f1,f2,f3,smM_keys,h1,hp]
  · have hp:pubS M n=s.pub:=by rw [pubS,h2];rfl
    simp only [VCA,simprocAttr,encL,MCA,TTA,LDA,f0,f1,f2,f3,smM_keys,h1,hp]
    cases b3:s.pub<;>simp only [VCA,simprocAttr,encL,MCA,TTA,LDA,f0,f1,f2,f3]
    refine callX_of hany (.inr rfl) ?_
    simp only [VCA,simprocAttr,encL,MCA]
theorem as_ent:entersOk Tryz.prog 95=true:=by kernel_rfl
theorem as_sz:szT Tryz.prog 92=some 1:=by kernel_rfl
theorem as_hitw (e t:Addr) (old:Value) (w:World) (hg:GOk Tryz.prog w) (ht:w.cell? t=some old) (hf:w.frozen? t=false):Calls Tryz.prog 95 #[.iface 92 (.pointer (some e)),.iface 153 (.pointer (some t))] w fun ev w'=>ev = .returned (.bool true)∧∃ o1 o2 o3 o4,w' = ((((w.alloc o1).alloc o2).alloc o3).alloc o4).setCell t (.pointer (some e)) :=
  (as_hit e t old w (gok_err hg) ht hf).mono fun ev w' ⟨h1,h2⟩=>⟨h1,_,_,_,_,h2⟩
def headS (M:List ST) (lv:List ByteArray) (o:ByteArray→ByteArray→Bool) (pub:Bool) (t:TT):Int :=
  if kindS M lv false t=0 then (if wellB o t=true then (if (pub && !shownB M t)=true then 22 else 0) else 24) else kindS M lv false t
theorem head_ret (M:List ST) (fs:List (V × V)) (hM:∀ s∈M,s.sm) (lv:List ByteArray) (hv:lv.length≤SB) (g:FuncId) (cap:List V) (o:ByteArray→ByteArray→Bool) (hm:∀ d,imV (d+2) (.fn g cap)=true) (hc:∀ H d,cap.all (sok H (d+1))=true) (hs:∀ H d,cap.map (snap H (d+1))=cap)
    (hf:∀ x y:ByteArray,PRet Tryz.prog g (.str x :: .str y::cap) (.bool (o x y))) (pub:Bool) (t:TT) (ht:t.sm) (d:Nat) (hk:kindB t d=true) :
    PRet Tryz.prog 57 [.ip [.im (smM M),.im fs] 0,.agg t.cells,encL cS lv,.fn g cap,.bool pub] (.int .i64 (headS M lv o pub t)):=by
  have hty:=type_ret M fs hM lv hv false t ht
  have hwe:=well_ret g cap o hm hc hs hf t ht d hk
  have hsh:=shown_ret M fs hM t ht
  refine pret_intro fdt57 (by simp) ?_
  simp only [lct57,VCA,simprocAttr,encL,MCA,TTA,LDA]
  refine callX_of hty (.inl rfl) ?_
  rw [headS]
  by_cases hk0:kindS M lv false t=0
  · rw [if_pos hk0,hk0,fltV,if_pos rfl]
    simp only [VCA,simprocAttr,encL,MCA,TTA,LDA]
    refine asL_nil as_ent (fun t w=>as_nil t w) ?_
    simp only [VCA,simprocAttr,encL,MCA,TTA,LDA,hm,hc,hs]
    refine callX_of hwe (.inr rfl) ?_
    cases b1:wellB o t<;>simp only [VCA,simprocAttr,encL,MCA,TTA,LDA,hm,hc,hs,Bool.false_eq_true,if_false,if_true]
    cases b2:pub<;>simp only [VCA,simprocAttr,encL,MCA,TTA,LDA,hm,hc,hs,Bool.false_eq_true,if_false,if_true]
    refine callX_of hsh (.inr rfl) ?_
    cases b3:shownB M t<;>simp only [VCA,simprocAttr,encL,MCA,TTA,LDA,hm,hc,hs,Bool.false_eq_true,if_false,if_true]
  · rw [if_neg hk0,fltV,if_neg hk0]
    simp only [VCA,simprocAttr,encL,MCA,TTA,LDA]
    refine asL_hit as_ent as_sz as_hitw (esz:=0) rfl (Nat.le_refl _) ?_
    simp only [VCA,simprocAttr,encL,MCA,TTA,LDA,sc11]
end Go.Proofs.YtlnphjjhfgghkaaGreatDoor

namespace Go.Proofs.YtlnphjjhfgghkaaGreatDoor
open Go Go.Lg Go.RowKit
def eqB (a b:ByteArray):Bool:=decide (a=b)
theorem eq58_ret (x y:ByteArray):PRet Tryz.prog 58 (.str x :: .str y::[]) (.bool (eqB x y)):=by
  refine pret_intro fdt58 (by simp) ?_
  simp only [lct58,VCA,simprocAttr,encL,MCA,TTA,LDA,eqB,txt_eq,ba_beq]
theorem eq56_ret (f g:FD):PRet Tryz.prog 56 (.agg g.cells::[.ip f.cells 0]) (.bool ((fun g=>decide (g.name=f.name)) g)):=by
  refine pret_intro fdt56 (by simp) ?_
  simp only [lct56,VCA,simprocAttr,encL,MCA,TTA,LDA,eqB,txt_eq,ba_beq]
def fldS (M:List ST) (s:ST):Nat→List FD→Int
  | _,[]=>0
  | k,f::r=>if (s.fields.take k).any (fun g=>decide (g.name=f.name))=true then 23 else if headS M s.lives eqB s.pub f.type=0 then fldS M s (k+1) r else headS M s.lives eqB s.pub f.type
def newS (M:List ST) (s:ST):Int:=if ((lkS M s.name).isSome || dblB s.lives 0 s.lives)=true then 23 else fldS M s 0 s.fields
theorem fldS_drop {M:List ST} {s:ST} {k:Nat} (h:k<s.fields.length):fldS M s k (s.fields.drop k)=if (s.fields.take k).any (fun g=>decide (g.name=s.fields[k].name))=true then 23 else if headS M s.lives eqB s.pub s.fields[k].type=0 then fldS M s (k+1) (s.fields.drop (k+1)) else headS M s.lives eqB s.pub s.fields[k].type:=by
  rw [List.drop_eq_getElem_cons h];rfl
theorem sstrukt_ret (M:List ST) (fs:List (V × V)) (hM:∀ s∈M,s.sm) (s:ST) (hs:s.sm) (hk:∀ f∈s.fields,kindB f.type 1=true):PRet Tryz.prog 27 [.ip [.im (smM M),.im fs] 0,.agg s.cells] (.int .i64 (newS M s)):=by
  have hs0:=hs
  obtain ⟨s1,⟨s2,s2'⟩,⟨s3,s3'⟩,_⟩:=hs
  have hdb:=sdouble_ret s.lives s2
  refine pret_intro fdt27 (by simp) ?_
  rw [newS]
  rcases find_sm s.name M with ⟨h1,h2⟩|⟨j,x,h1,h2,h3,h4⟩
  · simp only [lct27,VCA,simprocAttr,encL,MCA,TTA,LDA,smM_keys,h1,h2,st_setA,Option.isSome]
    refine callX_of hdb (.inr rfl) ?_
    cases b1:dblB s.lives 0 s.lives<;>simp only [VCA,simprocAttr,encL,MCA,TTA,LDA,Bool.false_or,Bool.false_eq_true,if_false,if_true]
    rw [sb_eq] at s3
    refine loop_vcg (ι:=Nat × (Nat→Nat)) (fun (i,c)=>stO [(0,.val (.ip [.im (smM M),.im fs] 0)),(3,.box s.cells),(27,.val (encL FD.cells s.fields)),(28,.val (.int .i64 s.fields.length)),(29,.val (.int .i64 i))] c)
      (fun (i,_)=>i≤s.fields.length∧fldS M s 0 s.fields=fldS M s i (s.fields.drop i)) (fun (i,_)=>s.fields.length - i) (0,_) ⟨Nat.zero_le _,rfl⟩ (ent_of _ [] rfl rfl (by simp only [VCA,simprocAttr,encL,MCA,TTA,fd_imv])) ?_
    rintro ⟨i,c⟩ ⟨hi,hb⟩
    have hi:i≤s.fields.length:=hi
    have hb:fldS M s 0 s.fields=fldS M s i (s.fields.drop i):=hb
    simp only [VCA,simprocAttr,encL]
    refine condD_of (fun h=>?_) (fun h=>?_)
    case refine_2 =>
      obtain rfl:i=s.fields.length:=by omega
      rw [List.drop_eq_nil_of_le (Nat.le_refl _),fldS] at hb
      simp only [VCA,simprocAttr,encL,hb]
    have hi':i<s.fields.length:=by omega
    have ii:0≤(i:Int)∧(i:Int)<s.fields.length∧(i:Int)≤s.fields.length:=by omega
    have i2:InI64 ((i:Int)+1):=by unfold InI64;omega
    have hld:=FD.ld0 (l:=s.fields) (i:=i) (n:=6) (agg:=true) hi' (by decide) (by decide)
    rw [FD.call] at hld
    rw [fldS_drop hi'] at hb
    obtain ⟨f,hf⟩:∃ f,f=s.fields[i]:=⟨_,rfl⟩
    have hfm:f∈s.fields:=by rw [hf];exact List.getElem_mem hi'
    rw [← hf] at hld hb
    have htk:(s.fields.flatMap FD.cells).take (i*6)=(s.fields.take i).flatMap FD.cells:=flat_tk (f:=FD.cells) (s:=6) FD.len s.fields i
    have hln:(s.fields.take i).length=i:=by rw [List.length_take];omega
    have hany:=containsF_ret (s.fields.take i) 56 [.ip f.cells 0] (fun g=>decide (g.name=f.name)) (by rw [hln,sb_eq];omega) (fun _ _=>rfl) (fun H d=>by simp only [List.map_cons,List.map_nil,snap]) (fun g _=>eq56_ret f g)
    rw [encL,hln] at hany
    have hhd:=head_ret M fs hM s.lives s2 58 [] eqB (fun _=>rfl) (fun _ _=>rfl) (fun _ _=>rfl) eq58_ret s.pub f.type (s3' f hfm).2 1 (hk f hfm)
    simp only [VCA,simprocAttr,encL,MCA,TTA,LDA,ii,hld,fd_set,htk,hi]
    refine ⟨by rw [flat_len FD.len];exact Nat.mul_le_mul_right 6 hi,callX_of hany (.inr rfl) ?_⟩
    cases b2:(s.fields.take i).any (fun g=>decide (g.name=f.name))
    case true =>
      rw [b2,if_pos rfl] at hb
      simp only [VCA,simprocAttr,encL,MCA,hb]
    rw [b2,if_neg (by decide)] at hb
    simp only [VCA,simprocAttr,encL,MCA,TTA,LDA]
    refine callX_of hhd (.inr rfl) ?_
    cases b3:decide (headS M s.lives eqB s.pub f.type=0)
    · have b4:=of_decide_eq_false b3
      rw [if_neg b4] at hb
      simp only [VCA,simprocAttr,encL,MCA,TTA,LDA,b3,hb]
    · have b4:=of_decide_eq_true b3
      rw [if_pos b4] at hb
      simp only [VCA,simprocAttr,encL,MCA,TTA,LDA,b3,i2,b4]
      exact backTo_of (i+1,_) ⟨hi',hb⟩ (by simp only [];omega) (ent_of _ [] rfl rfl (by simp only [VCA,simprocAttr,encL,MCA,TTA,fd_imv]))
  · simp only [lct27,VCA,simprocAttr,encL,MCA,TTA,LDA,smM_keys,h1,h2,st_setA,Option.isSome,Bool.true_or,if_true]
end Go.Proofs.YtlnphjjhfgghkaaGreatDoor

namespace Go.Lg
open Go Go.RowKit
def PRetR (P:Program) (f:FuncId) (args:List V) (R:V→Prop):Prop :=
  entersOk P f=true∧∀ (imm:Nat→Prop) (w:World) (vs:Array Value),Imm0 P imm w→vs.size=args.length →
    (∀ (j:Nat) (u:Value) (c:V),vs[j]? = some u→args[j]? = some c→RepI imm w u c) →
    Calls P f vs w fun e w'=>∃ v imm' r,e = .returned v∧RepI imm' w' v r∧BelowD w.heap.size w w'∧(∀ b,imm b→imm' b)∧(∀ b,imm' b→imm b∨(w.heap.size≤b∧b<w'.heap.size))∧R r
section
variable {P:Program}
theorem pretR_intro {f:FuncId} {args:List V} {R:V→Prop} {N:Nat} {lc:LC} {rs:List LRV} (hf:fnData P f=some (N,lc.erase,rs)) (hn:args.length≤N)
    (h:vcg P lc (retK rs fun v σ=>R (snap σ.H 8 v)) ⟨argTm args,noH,noC⟩):PRetR P f args R:=by
  obtain ⟨hen,hc⟩:=fn_core hf hn h
  refine ⟨hen,fun imm w vs h1 h2 h3=>(hc imm w vs h1 h2 h3).mono ?_⟩
  rintro e w' ⟨n,g,σ',a',u,v,hs',hrep,hR,rfl⟩
  exact ⟨u,allImm g σ'.H,_,rfl,snap_rep hs' 8 hrep,hs'.below.below,fun b hb=>.inl (hs'.imm0 b hb),allImm_from hs',hR⟩
theorem PRet.rel {f:FuncId} {args:List V} {r:V} {R:V→Prop} (h:PRet P f args r) (hR:R r):PRetR P f args R:=by
  refine ⟨h.1,fun imm w vs h1 h2 h3=>(h.2 imm w vs h1 h2 h3).mono ?_⟩
  rintro e w' ⟨v,imm',e1,e2,e3,e4,e5⟩
  exact ⟨v,imm',r,e1,e2,e3,e4,e5,hR⟩
theorem PRetR.mono {f:FuncId} {args:List V} {R R':V→Prop} (h:PRetR P f args R) (hR:∀ v,R v→R' v):PRetR P f args R':=by
  refine ⟨h.1,fun imm w vs h1 h2 h3=>(h.2 imm w vs h1 h2 h3).mono ?_⟩
  rintro e w' ⟨v,imm',r,e1,e2,e3,e4,e5,e6⟩
  exact ⟨v,imm',r,e1,e2,e3,e4,e5,hR r e6⟩
theorem PRetR.nz {f:FuncId} {args args':List V} {R:V→Prop} (d:Nat) (he:args.map (Go.Lg.nz d)=args') (h:PRetR P f args' R):PRetR P f args R:=by
  obtain ⟨hen,hc⟩:=h
  refine ⟨hen,fun imm w vs h1 h2 h3=>hc imm w vs h1 (by rw [← he];simpa using h2) fun j u c hu hcj=>?_⟩
  rw [← he,List.getElem?_map,Option.map_eq_some_iff] at hcj
  obtain ⟨c0,h0,rfl⟩:=hcj
  exact (h3 j u c0 hu h0).nz d
theorem ldEF0 (n:Nat) (a:V) (l:List V):ldV false n (a::l) 0=some a:=rfl
theorem ldEF1 (n:Nat) (a:V) (l:List V) (k:Nat):ldV false n (a::l) (k+1)=ldV false n l k:=rfl
theorem ldET (n:Nat) (a:V) (l:List V) (o:Nat):ldV true n (a::l) o=if o+n≤(a::l).length then some (.agg (((a::l).drop o).take n)) else none:=rfl
theorem setEx (a:V) (l:List V) (o:Nat) (x:V) (xs:List V):setCells (a::l) o (x::xs)=(a::l).take o++((x::xs)++(a::l).drop (o+(x::xs).length)):=rfl
theorem EXA:type_of% (And.intro ldEF0 (And.intro ldEF1 (And.intro ldET (And.intro setEx (And.intro (@List.getElem?_cons_zero V) (And.intro (@List.getElem?_cons_succ V) (And.intro (@List.length_cons V) (And.intro (@List.length_nil V) (And.intro (@List.drop_succ_cons V) (And.intro (@List.drop_zero V) (And.intro (@List.take_succ_cons V) (And.intro (@List.take_zero V) (And.intro (@List.cons_append V) (And.intro (@List.nil_append V) (Nat.zero_add))))))))))))))):=And.intro ldEF0 (And.intro ldEF1 (And.intro ldET (And.intro setEx (And.intro (@List.getElem?_cons_zero V) (And.intro (@List.getElem?_cons_succ V) (And.intro (@List.length_cons V) (And.intro (@List.length_nil V) (And.intro (@List.drop_succ_cons V) (And.intro (@List.drop_zero V) (And.intro (@List.take_succ_cons V) (And.intro (@List.take_zero V) (And.intro (@List.cons_append V) (And.intro (@List.nil_append V) (Nat.zero_add))))))))))))))
def SlZ (x:V):Prop:=x = .e0∨∃ n cs,x = .sl n cs
theorem SlZ.e0:SlZ .e0:=.inl rfl
theorem SlZ.enc {α:Type} (c:α→List V) (l:List α):SlZ (encL c l):=.inr ⟨_,_,rfl⟩
theorem SlZ.snap {x:V} (h:SlZ x) (H:Heap) (d:Nat):Go.Lg.snap H (d+1) x=x:=by rcases h with rfl|⟨n,cs,rfl⟩<;>rfl
theorem SlZ.sok {x:V} (h:SlZ x) (H:Heap) (d:Nat):Go.Lg.sok H (d+1) x=true:=by rcases h with rfl|⟨n,cs,rfl⟩<;>rfl
theorem SlZ.one {x:V} (h:SlZ x):x.one=true:=by rcases h with rfl|⟨n,cs,rfl⟩<;>rfl
theorem SlZ.imv {x:V} (h:SlZ x) (d:Nat):imV (d+1) x=true:=by rcases h with rfl|⟨n,cs,rfl⟩<;>rfl
theorem callR_of {f:FuncId} {args:List V} {R:V→Prop} {s:Nat} {d:Option Nat} {K:St→Prop} {σ:St} (h:PRetR P f args R) (h2:∀ r,R r→K (σ.put d r)) (h1:args.map (snap σ.H 8)=args):callX P s f args args d K σ:=by
  refine .inr (.inr (.inr ⟨fun v σ'=>R v∧σ' = σ,⟨h.1,fun E hE g a w vs hsim hsz hrep=>?_⟩,?_⟩))
  · have fix:∀ (j:Nat) (c:V),args[j]? = some c→snap σ.H 8 c=c:=by
      intro j c hj
      have:=congrArg (fun l=>l[j]?) h1
      simp only [List.getElem?_map,hj,Option.map_some,Option.some.injEq] at this
      exact this
    refine (h.2 g.imm w vs ⟨hsim.immlt,EOk.gok hsim⟩ hsz fun j u c hu hc=>snap_fix 8 (hrep j u c hu hc) (fix j c hc)).mono ?_
    rintro e w' ⟨v,imm',r,rfl,hv,hb,q1,q2,hR⟩
    exact ⟨v,r,σ,⟨imm',g.ref⟩,rfl,hsim.grow hb q1 q2,.imm _ _ hv,hR,rfl⟩
  · rintro v σ' ⟨hR,rfl⟩
    exact h2 v hR
theorem callRF_of {f:FuncId} {args sargs:List V} {R:V→Prop} {s:Nat} {d:Option Nat} {K:St→Prop} {σ:St} (h:PRetR P f sargs R) (h2:∀ r,R r→K (σ.put d r)) (h1:args.map (snap σ.H 8)=sargs) (hfl:∀ r,R r→flat 4 r=true):callX P s f args sargs d K σ:=by
  refine .inr (.inr (.inr ⟨fun v σ'=>R v∧σ' = σ,⟨h.1,fun E hE g a w vs hsim hsz hrep=>?_⟩,?_⟩))
  · refine (h.2 (allImm g σ.H) w vs ⟨allImm_lt hsim,EOk.gok hsim⟩ (by rw [hsz,← h1];simp) (fun j u c hu hc=>?_)).mono ?_
    · rw [← h1,List.getElem?_map,Option.map_eq_some_iff] at hc
      obtain ⟨c0,h0,rfl⟩:=hc
      exact snap_rep hsim 8 (hrep j u c0 hu h0)
    · rintro e w' ⟨v,imm',r,rfl,hv,hb,q1,q2,hR⟩
      exact ⟨v,r,σ,g,rfl,hsim.grow_same hb,.imm _ _ (flat_rep 4 hv (hfl r hR)),hR,rfl⟩
  · rintro v σ' ⟨hR,rfl⟩
    exact h2 v hR
def boV (p:Prop) (v:V):Prop:=∃ b:Bool,v = .bool b∧(b=true→p)
theorem boV_flat {p:Prop} {v:V} (h:boV p v):flat 4 v=true:=by obtain ⟨b,rfl,_⟩:=h;rfl
end
end Go.Lg

namespace Go.Lg
open Go Go.RowKit
structure PL where
  name:ByteArray
  path:List ByteArray
@[irreducible] def PL.cells (x:PL):List V:=[.str x.name,encL cS x.path]
theorem PL.cells_eq (x:PL):x.cells=[.str x.name,encL cS x.path]:=by unfold PL.cells;rfl
structure OP where
  kind:Int
  n:Int
  place:PL
@[irreducible] def OP.cells (x:OP):List V:=[.int .i64 x.kind,.int .i64 x.n,.str x.place.name,encL cS x.place.path]
theorem OP.cells_eq (x:OP):x.cells=[.int .i64 x.kind,.int .i64 x.n,.str x.place.name,encL cS x.place.path]:=by unfold OP.cells;rfl
structure VL where
  kind:Int
  a:OP
  b:OP
  op:Int
  place:PL
  name:ByteArray
  names:List ByteArray
  args:List OP
@[irreducible] def VL.cells (x:VL):List V:=[.int .i64 x.kind,.int .i64 x.a.kind,.int .i64 x.a.n,.str x.a.place.name,encL cS x.a.place.path,.int .i64 x.b.kind,.int .i64 x.b.n,.str x.b.place.name,encL cS x.b.place.path,.int .i64 x.op,.str x.place.name,encL cS x.place.path,.str x.name,encL cS x.names,encL OP.cells x.args]
theorem VL.cells_eq (x:VL):x.cells=[.int .i64 x.kind,.int .i64 x.a.kind,.int .i64 x.a.n,.str x.a.place.name,encL cS x.a.place.path,.int .i64 x.b.kind,.int .i64 x.b.n,.str x.b.place.name,encL cS x.b.place.path,.int .i64 x.op,.str x.place.name,encL cS x.place.path,.str x.name,encL cS x.names,encL OP.cells x.args]:=by unfold VL.cells;rfl
inductive SM where
  | mk (kind:Int) (at':Int) (mu:Bool) (name:ByteArray) (type:TT) (has:Bool) (place:PL) (value:VL) (cond:OP) (thn:List SM) (els:List SM)
def SM.kind:SM→Int | .mk x _ _ _ _ _ _ _ _ _ _=>x
def SM.at':SM→Int | .mk _ x _ _ _ _ _ _ _ _ _=>x
def SM.mu:SM→Bool | .mk _ _ x _ _ _ _ _ _ _ _=>x
def SM.name:SM→ByteArray | .mk _ _ _ x _ _ _ _ _ _ _=>x
def SM.type:SM→TT | .mk _ _ _ _ x _ _ _ _ _ _=>x
def SM.has:SM→Bool | .mk _ _ _ _ _ x _ _ _ _ _=>x
def SM.place:SM→PL | .mk _ _ _ _ _ _ x _ _ _ _=>x
def SM.value:SM→VL | .mk _ _ _ _ _ _ _ x _ _ _=>x
def SM.cond:SM→OP | .mk _ _ _ _ _ _ _ _ x _ _=>x
def SM.thn:SM→List SM | .mk _ _ _ _ _ _ _ _ _ x _=>x
def SM.els:SM→List SM | .mk _ _ _ _ _ _ _ _ _ _ x=>x
mutual
def SM.cells:SM→List V
  | .mk kind pos mu name type has place value cond thn els=>[.int .i64 kind,.int .i64 pos,.bool mu,.str name,.int .i64 type.kind,.str type.name,encL cS type.lives,encL TT.cells type.elem,.bool has,.str place.name,encL cS place.path,.int .i64 value.kind,.int .i64 value.a.kind,.int .i64 value.a.n,.str value.a.place.name,encL cS value.a.place.path,.int .i64 value.b.kind,.int .i64 value.b.n,.str value.b.place.name,encL cS value.b.place.path,.int .i64 value.op,.str value.place.name,encL cS value.place.path,.str value.name,encL cS value.names,encL OP.cells value.args,.int .i64 cond.kind,.int .i64 cond.n,.str cond.place.name,encL cS cond.place.path,.sl thn.length (SM.cellsL thn),.sl els.length (SM.cellsL els)]
def SM.cellsL:List SM→List V
  | []=>[]
  | x::r=>SM.cells x++SM.cellsL r
end
theorem SM.cellsL_eq:∀ l:List SM,SM.cellsL l=l.flatMap SM.cells
  | []=>rfl
  | x::r=>by rw [SM.cellsL,SM.cellsL_eq r];rfl
theorem SM.cells_eq (x:SM):x.cells=[.int .i64 x.kind,.int .i64 x.at',.bool x.mu,.str x.name,.int .i64 x.type.kind,.str x.type.name,encL cS x.type.lives,encL TT.cells x.type.elem,.bool x.has,.str x.place.name,encL cS x.place.path,.int .i64 x.value.kind,.int .i64 x.value.a.kind,.int .i64 x.value.a.n,.str x.value.a.place.name,encL cS x.value.a.place.path,.int .i64 x.value.b.kind,.int .i64 x.value.b.n,.str x.value.b.place.name,encL cS x.value.b.place.path,.int .i64 x.value.op,.str x.value.place.name,encL cS x.value.place.path,.str x.value.name,encL cS x.value.names,encL OP.cells x.value.args,.int .i64 x.cond.kind,.int .i64 x.cond.n,.str x.cond.place.name,encL cS x.cond.place.path,encL SM.cells x.thn,encL SM.cells x.els]:=by
  cases x with
  | mk kind pos mu name type has place value cond thn els=>rw [SM.cells,SM.cellsL_eq,SM.cellsL_eq];rfl
structure FN where
  pub:Bool
  name:ByteArray
  lives:List Lif
  params:List FD
  result:TT
  body:List SM
  at':Int
@[irreducible] def FN.cells (x:FN):List V:=[.bool x.pub,.str x.name,encL cLif x.lives,encL FD.cells x.params,.int .i64 x.result.kind,.str x.result.name,encL cS x.result.lives,encL TT.cells x.result.elem,encL SM.cells x.body,.int .i64 x.at']
theorem FN.cells_eq (x:FN):x.cells=[.bool x.pub,.str x.name,encL cLif x.lives,encL FD.cells x.params,.int .i64 x.result.kind,.str x.result.name,encL cS x.result.lives,encL TT.cells x.result.elem,encL SM.cells x.body,.int .i64 x.at']:=by unfold FN.cells;rfl
structure CR where
  structs:List ST
  funcs:List FN
@[irreducible] def CR.cells (x:CR):List V:=[encL ST.cells x.structs,encL FN.cells x.funcs]
theorem CR.cells_eq (x:CR):x.cells=[encL ST.cells x.structs,encL FN.cells x.funcs]:=by unfold CR.cells;rfl
theorem PL.len (x:PL):x.cells.length=2:=by rw [PL.cells_eq];rfl
theorem PL.c0 (x:PL):ldV false 1 x.cells 0=some (.str x.name):=by rw [PL.cells_eq];rfl
theorem PL.c1 (x:PL):ldV false 1 x.cells 1=some (encL cS x.path):=by rw [PL.cells_eq];rfl
theorem PL.call (x:PL):ldV true 2 x.cells 0=some (.agg x.cells):=by simp only [ldV,if_true,Nat.zero_add,PL.len,Nat.le_refl,List.drop_zero];rw [List.take_of_length_le (by rw [PL.len];exact Nat.le_refl _)]
theorem PL.snapc (x:PL) (H:Heap) (d:Nat):x.cells.map (snap H (d+1))=x.cells:=by simp [PL.cells_eq,snap,encL]
theorem PL.sokc (x:PL) (H:Heap) (d:Nat):x.cells.all (sok H (d+1))=true:=by simp [PL.cells_eq,sok,encL]
theorem PL.onec (x:PL):x.cells.all V.one=true:=by simp [PL.cells_eq,V.one,encL]
theorem PL.imvc (x:PL) (d:Nat):x.cells.all (imV (d+1))=true:=by simp [PL.cells_eq,imV,encL]
theorem PL.ld0 {l:List PL} {i n:Nat} {agg:Bool} (h:i<l.length) (hj:n≤2) (hn:0<n):ldV agg n (l.flatMap PL.cells) (i*2)=ldV agg n l[i].cells 0:=ld_flat0 PL.len h hj hn
theorem OP.len (x:OP):x.cells.length=4:=by rw [OP.cells_eq];rfl
theorem OP.c0 (x:OP):ldV false 1 x.cells 0=some (.int .i64 x.kind):=by rw [OP.cells_eq];rfl
theorem OP.c1 (x:OP):ldV false 1 x.cells 1=some (.int .i64 x.n):=by rw [OP.cells_eq];rfl
theorem OP.c2 (x:OP):ldV false 1 x.cells 2=some (.str x.place.name):=by rw [OP.cells_eq];rfl
theorem OP.c3 (x:OP):ldV false 1 x.cells 3=some (encL cS x.place.path):=by rw [OP.cells_eq];rfl
theorem OP.call (x:OP):ldV true 4 x.cells 0=some (.agg x.cells):=by simp only [ldV,if_true,Nat.zero_add,OP.len,Nat.le_refl,List.drop_zero];rw [List.take_of_length_le (by rw [OP.len];exact Nat.le_refl _)]
theorem OP.s2_2 (x:OP):ldV true 2 x.cells 2=some (.agg x.place.cells):=by rw [OP.cells_eq,PL.cells_eq];rfl
theorem OP.w2 (x:OP):setCells x.cells 2 x.place.cells=x.cells:=by rw [OP.cells_eq,PL.cells_eq];rfl
theorem OP.snapc (x:OP) (H:Heap) (d:Nat):x.cells.map (snap H (d+1))=x.cells:=by simp [OP.cells_eq,snap,encL]
theorem OP.sokc (x:OP) (H:Heap) (d:Nat):x.cells.all (sok H (d+1))=true:=by simp [OP.cells_eq,sok,encL]
theorem OP.onec (x:OP):x.cells.all V.one=true:=by simp [OP.cells_eq,V.one,encL]
theorem OP.imvc (x:OP) (d:Nat):x.cells.all (imV (d+1))=true:=by simp [OP.cells_eq,imV,encL]
theorem OP.ld0 {l:List OP} {i n:Nat} {agg:Bool} (h:i<l.length) (hj:n≤4) (hn:0<n):ldV agg n (l.flatMap OP.cells) (i*4)=ldV agg n l[i].cells 0:=ld_flat0 OP.len h hj hn
theorem VL.len (x:VL):x.cells.length=15:=by rw [VL.cells_eq];rfl
theorem VL.c0 (x:VL):ldV false 1 x.cells 0=some (.int .i64 x.kind):=by rw [VL.cells_eq];rfl
theorem VL.c1 (x:VL):ldV false 1 x.cells 1=some (.int .i64 x.a.kind):=by rw [VL.cells_eq];rfl
theorem VL.c2 (x:VL):ldV false 1 x.cells 2=some (.int .i64 x.a.n):=by rw [VL.cells_eq];rfl
theorem VL.c3 (x:VL):ldV false 1 x.cells 3=some (.str x.a.place.name):=by rw [VL.cells_eq];rfl
theorem VL.c4 (x:VL):ldV false 1 x.cells 4=some (encL cS x.a.place.path):=by rw [VL.cells_eq];rfl
theorem VL.c5 (x:VL):ldV false 1 x.cells 5=some (.int .i64 x.b.kind):=by rw [VL.cells_eq];rfl
theorem VL.c6 (x:VL):ldV false 1 x.cells 6=some (.int .i64 x.b.n):=by rw [VL.cells_eq];rfl
theorem VL.c7 (x:VL):ldV false 1 x.cells 7=some (.str x.b.place.name):=by rw [VL.cells_eq];rfl
theorem VL.c8 (x:VL):ldV false 1 x.cells 8=some (encL cS x.b.place.path):=by rw [VL.cells_eq];rfl
theorem VL.c9 (x:VL):ldV false 1 x.cells 9=some (.int .i64 x.op):=by rw [VL.cells_eq];rfl
theorem VL.c10 (x:VL):ldV false 1 x.cells 10=some (.str x.place.name):=by rw [VL.cells_eq];rfl
theorem VL.c11 (x:VL):ldV false 1 x.cells 11=some (encL cS x.place.path):=by rw [VL.cells_eq];rfl
theorem VL.c12 (x:VL):ldV false 1 x.cells 12=some (.str x.name):=by rw [VL.cells_eq];rfl
theorem VL.c13 (x:VL):ldV false 1 x.cells 13=some (encL cS x.names):=by rw [VL.cells_eq];rfl
theorem VL.c14 (x:VL):ldV false 1 x.cells 14=some (encL OP.cells x.args):=by rw [VL.cells_eq];rfl
theorem VL.call (x:VL):ldV true 15 x.cells 0=some (.agg x.cells):=by simp only [ldV,if_true,Nat.zero_add,VL.len,Nat.le_refl,List.drop_zero];rw [List.take_of_length_le (by rw [VL.len];exact Nat.le_refl _)]
theorem VL.s1_4 (x:VL):ldV true 4 x.cells 1=some (.agg x.a.cells):=by rw [VL.cells_eq,OP.cells_eq];rfl
theorem VL.w1 (x:VL):setCells x.cells 1 x.a.cells=x.cells:=by rw [VL.cells_eq,OP.cells_eq];rfl
theorem VL.s5_4 (x:VL):ldV true 4 x.cells 5=some (.agg x.b.cells):=by rw [VL.cells_eq,OP.cells_eq];rfl
theorem VL.w5 (x:VL):setCells x.cells 5 x.b.cells=x.cells:=by rw [VL.cells_eq,OP.cells_eq];rfl
theorem VL.s10_2 (x:VL):ldV true 2 x.cells 10=some (.agg x.place.cells):=by rw [VL.cells_eq,PL.cells_eq];rfl
theorem VL.w10 (x:VL):setCells x.cells 10 x.place.cells=x.cells:=by rw [VL.cells_eq,PL.cells_eq];rfl
theorem VL.snapc (x:VL) (H:Heap) (d:Nat):x.cells.map (snap H (d+1))=x.cells:=by simp [VL.cells_eq,snap,encL]
theorem VL.sokc (x:VL) (H:Heap) (d:Nat):x.cells.all (sok H (d+1))=true:=by simp [VL.cells_eq,sok,encL]
theorem VL.onec (x:VL):x.cells.all V.one=true:=by simp [VL.cells_eq,V.one,encL]
theorem VL.imvc (x:VL) (d:Nat):x.cells.all (imV (d+1))=true:=by simp [VL.cells_eq,imV,encL]
theorem VL.ld0 {l:List VL} {i n:Nat} {agg:Bool} (h:i<l.length) (hj:n≤15) (hn:0<n):ldV agg n (l.flatMap VL.cells) (i*15)=ldV agg n l[i].cells 0:=ld_flat0 VL.len h hj hn
theorem SM.len (x:SM):x.cells.length=32:=by rw [SM.cells_eq];rfl
theorem SM.c0 (x:SM):ldV false 1 x.cells 0=some (.int .i64 x.kind):=by rw [SM.cells_eq];rfl
theorem SM.c1 (x:SM):ldV false 1 x.cells 1=some (.int .i64 x.at'):=by rw [SM.cells_eq];rfl
theorem SM.c2 (x:SM):ldV false 1 x.cells 2=some (.bool x.mu):=by rw [SM.cells_eq];rfl
theorem SM.c3 (x:SM):ldV false 1 x.cells 3=some (.str x.name):=by rw [SM.cells_eq];rfl
theorem SM.c4 (x:SM):ldV false 1 x.cells 4=some (.int .i64 x.type.kind):=by rw [SM.cells_eq];rfl
theorem SM.c5 (x:SM):ldV false 1 x.cells 5=some (.str x.type.name):=by rw [SM.cells_eq];rfl
theorem SM.c6 (x:SM):ldV false 1 x.cells 6=some (encL cS x.type.lives):=by rw [SM.cells_eq];rfl
theorem SM.c7 (x:SM):ldV false 1 x.cells 7=some (encL TT.cells x.type.elem):=by rw [SM.cells_eq];rfl
theorem SM.c8 (x:SM):ldV false 1 x.cells 8=some (.bool x.has):=by rw [SM.cells_eq];rfl
theorem SM.c9 (x:SM):ldV false 1 x.cells 9=some (.str x.place.name):=by rw [SM.cells_eq];rfl
theorem SM.c10 (x:SM):ldV false 1 x.cells 10=some (encL cS x.place.path):=by rw [SM.cells_eq];rfl
theorem SM.c11 (x:SM):ldV false 1 x.cells 11=some (.int .i64 x.value.kind):=by rw [SM.cells_eq];rfl
theorem SM.c12 (x:SM):ldV false 1 x.cells 12=some (.int .i64 x.value.a.kind):=by rw [SM.cells_eq];rfl
theorem SM.c13 (x:SM):ldV false 1 x.cells 13=some (.int .i64 x.value.a.n):=by rw [SM.cells_eq];rfl
theorem SM.c14 (x:SM):ldV false 1 x.cells 14=some (.str x.value.a.place.name):=by rw [SM.cells_eq];rfl
theorem SM.c15 (x:SM):ldV false 1 x.cells 15=some (encL cS x.value.a.place.path):=by rw [SM.cells_eq];rfl
theorem SM.c16 (x:SM):ldV false 1 x.cells 16=some (.int .i64 x.value.b.kind):=by rw [SM.cells_eq];rfl
theorem SM.c17 (x:SM):ldV false 1 x.cells 17=some (.int .i64 x.value.b.n):=by rw [SM.cells_eq];rfl
theorem SM.c18 (x:SM):ldV false 1 x.cells 18=some (.str x.value.b.place.name):=by rw [SM.cells_eq];rfl
theorem SM.c19 (x:SM):ldV false 1 x.cells 19=some (encL cS x.value.b.place.path):=by rw [SM.cells_eq];rfl
theorem SM.c20 (x:SM):ldV false 1 x.cells 20=some (.int .i64 x.value.op):=by rw [SM.cells_eq];rfl
theorem SM.c21 (x:SM):ldV false 1 x.cells 21=some (.str x.value.place.name):=by rw [SM.cells_eq];rfl
theorem SM.c22 (x:SM):ldV false 1 x.cells 22=some (encL cS x.value.place.path):=by rw [SM.cells_eq];rfl
theorem SM.c23 (x:SM):ldV false 1 x.cells 23=some (.str x.value.name):=by rw [SM.cells_eq];rfl
theorem SM.c24 (x:SM):ldV false 1 x.cells 24=some (encL cS x.value.names):=by rw [SM.cells_eq];rfl
theorem SM.c25 (x:SM):ldV false 1 x.cells 25=some (encL OP.cells x.value.args):=by rw [SM.cells_eq];rfl
theorem SM.c26 (x:SM):ldV false 1 x.cells 26=some (.int .i64 x.cond.kind):=by rw [SM.cells_eq];rfl
theorem SM.c27 (x:SM):ldV false 1 x.cells 27=some (.int .i64 x.cond.n):=by rw [SM.cells_eq];rfl
theorem SM.c28 (x:SM):ldV false 1 x.cells 28=some (.str x.cond.place.name):=by rw [SM.cells_eq];rfl
theorem SM.c29 (x:SM):ldV false 1 x.cells 29=some (encL cS x.cond.place.path):=by rw [SM.cells_eq];rfl
theorem SM.c30 (x:SM):ldV false 1 x.cells 30=some (encL SM.cells x.thn):=by rw [SM.cells_eq];rfl
theorem SM.c31 (x:SM):ldV false 1 x.cells 31=some (encL SM.cells x.els):=by rw [SM.cells_eq];rfl
theorem SM.call (x:SM):ldV true 32 x.cells 0=some (.agg x.cells):=by simp only [ldV,if_true,Nat.zero_add,SM.len,Nat.le_refl,List.drop_zero];rw [List.take_of_length_le (by rw [SM.len];exact Nat.le_refl _)]
theorem SM.s4_4 (x:SM):ldV true 4 x.cells 4=some (.agg x.type.cells):=by rw [SM.cells_eq,TT.cells_eq];rfl
theorem SM.w4 (x:SM):setCells x.cells 4 x.type.cells=x.cells:=by rw [SM.cells_eq,TT.cells_eq];rfl
theorem SM.s9_2 (x:SM):ldV true 2 x.cells 9=some (.agg x.place.cells):=by rw [SM.cells_eq,PL.cells_eq];rfl
theorem SM.w9 (x:SM):setCells x.cells 9 x.place.cells=x.cells:=by rw [SM.cells_eq,PL.cells_eq];rfl
theorem SM.s11_15 (x:SM):ldV true 15 x.cells 11=some (.agg x.value.cells):=by rw [SM.cells_eq,VL.cells_eq];rfl
theorem SM.w11 (x:SM):setCells x.cells 11 x.value.cells=x.cells:=by rw [SM.cells_eq,VL.cells_eq];rfl
theorem SM.s26_4 (x:SM):ldV true 4 x.cells 26=some (.agg x.cond.cells):=by rw [SM.cells_eq,OP.cells_eq];rfl
theorem SM.w26 (x:SM):setCells x.cells 26 x.cond.cells=x.cells:=by rw [SM.cells_eq,OP.cells_eq];rfl
theorem SM.snapc (x:SM) (H:Heap) (d:Nat):x.cells.map (snap H (d+1))=x.cells:=by simp [SM.cells_eq,snap,encL]
theorem SM.sokc (x:SM) (H:Heap) (d:Nat):x.cells.all (sok H (d+1))=true:=by simp [SM.cells_eq,sok,encL]
theorem SM.onec (x:SM):x.cells.all V.one=true:=by simp [SM.cells_eq,V.one,encL]
theorem SM.imvc (x:SM) (d:Nat):x.cells.all (imV (d+1))=true:=by simp [SM.cells_eq,imV,encL]
theorem SM.ld0 {l:List SM} {i n:Nat} {agg:Bool} (h:i<l.length) (hj:n≤32) (hn:0<n):ldV agg n (l.flatMap SM.cells) (i*32)=ldV agg n l[i].cells 0:=ld_flat0 SM.len h hj hn
theorem FN.len (x:FN):x.cells.length=10:=by rw [FN.cells_eq];rfl
theorem FN.c0 (x:FN):ldV false 1 x.cells 0=some (.bool x.pub):=by rw [FN.cells_eq];rfl
theorem FN.c1 (x:FN):ldV false 1 x.cells 1=some (.str x.name):=by rw [FN.cells_eq];rfl
theorem FN.c2 (x:FN):ldV false 1 x.cells 2=some (encL cLif x.lives):=by rw [FN.cells_eq];rfl
theorem FN.c3 (x:FN):ldV false 1 x.cells 3=some (encL FD.cells x.params):=by rw [FN.cells_eq];rfl
theorem FN.c4 (x:FN):ldV false 1 x.cells 4=some (.int .i64 x.result.kind):=by rw [FN.cells_eq];rfl
theorem FN.c5 (x:FN):ldV false 1 x.cells 5=some (.str x.result.name):=by rw [FN.cells_eq];rfl
theorem FN.c6 (x:FN):ldV false 1 x.cells 6=some (encL cS x.result.lives):=by rw [FN.cells_eq];rfl
theorem FN.c7 (x:FN):ldV false 1 x.cells 7=some (encL TT.cells x.result.elem):=by rw [FN.cells_eq];rfl
theorem FN.c8 (x:FN):ldV false 1 x.cells 8=some (encL SM.cells x.body):=by rw [FN.cells_eq];rfl
theorem FN.c9 (x:FN):ldV false 1 x.cells 9=some (.int .i64 x.at'):=by rw [FN.cells_eq];rfl
theorem FN.call (x:FN):ldV true 10 x.cells 0=some (.agg x.cells):=by simp only [ldV,if_true,Nat.zero_add,FN.len,Nat.le_refl,List.drop_zero];rw [List.take_of_length_le (by rw [FN.len];exact Nat.le_refl _)]
theorem FN.s4_4 (x:FN):ldV true 4 x.cells 4=some (.agg x.result.cells):=by rw [FN.cells_eq,TT.cells_eq];rfl
theorem FN.w4 (x:FN):setCells x.cells 4 x.result.cells=x.cells:=by rw [FN.cells_eq,TT.cells_eq];rfl
theorem FN.snapc (x:FN) (H:Heap) (d:Nat):x.cells.map (snap H (d+1))=x.cells:=by simp [FN.cells_eq,snap,encL]
theorem FN.sokc (x:FN) (H:Heap) (d:Nat):x.cells.all (sok H (d+1))=true:=by simp [FN.cells_eq,sok,encL]
theorem FN.onec (x:FN):x.cells.all V.one=true:=by simp [FN.cells_eq,V.one,encL]
theorem FN.imvc (x:FN) (d:Nat):x.cells.all (imV (d+1))=true:=by simp [FN.cells_eq,imV,encL]
theorem FN.ld0 {l:List FN} {i n:Nat} {agg:Bool} (h:i<l.length) (hj:n≤10) (hn:0<n):ldV agg n (l.flatMap FN.cells) (i*10)=ldV agg n l[i].cells 0:=ld_flat0 FN.len h hj hn
theorem CR.len (x:CR):x.cells.length=2:=by rw [CR.cells_eq];rfl
theorem CR.c0 (x:CR):ldV false 1 x.cells 0=some (encL ST.cells x.structs):=by rw [CR.cells_eq];rfl
theorem CR.c1 (x:CR):ldV false 1 x.cells 1=some (encL FN.cells x.funcs):=by rw [CR.cells_eq];rfl
theorem CR.call (x:CR):ldV true 2 x.cells 0=some (.agg x.cells):=by simp only [ldV,if_true,Nat.zero_add,CR.len,Nat.le_refl,List.drop_zero];rw [List.take_of_length_le (by rw [CR.len];exact Nat.le_refl _)]
theorem CR.snapc (x:CR) (H:Heap) (d:Nat):x.cells.map (snap H (d+1))=x.cells:=by simp [CR.cells_eq,snap,encL]
theorem CR.sokc (x:CR) (H:Heap) (d:Nat):x.cells.all (sok H (d+1))=true:=by simp [CR.cells_eq,sok,encL]
theorem CR.onec (x:CR):x.cells.all V.one=true:=by simp [CR.cells_eq,V.one,encL]
theorem CR.imvc (x:CR) (d:Nat):x.cells.all (imV (d+1))=true:=by simp [CR.cells_eq,imV,encL]
theorem CR.ld0 {l:List CR} {i n:Nat} {agg:Bool} (h:i<l.length) (hj:n≤2) (hn:0<n):ldV agg n (l.flatMap CR.cells) (i*2)=ldV agg n l[i].cells 0:=ld_flat0 CR.len h hj hn
mutual
theorem SM.ind {p:SM→Prop} (h:∀ x:SM,(∀ y∈x.thn,p y)→(∀ y∈x.els,p y)→p x):∀ t,p t
  | .mk kind pos mu name type has place value cond thn els=>h (.mk kind pos mu name type has place value cond thn els) (SM.indL h thn) (SM.indL h els)
theorem SM.indL {p:SM→Prop} (h:∀ x:SM,(∀ y∈x.thn,p y)→(∀ y∈x.els,p y)→p x):∀ (e:List SM),∀ x∈e,p x
  | [],x,hx=>absurd hx (by simp)
  | y::l,x,hx=>(List.mem_cons.1 hx).elim (fun e=>e▸SM.ind h y) (fun hx=>SM.indL h l x hx)
end
def PL.sm (x:PL):Prop:=x.name.size≤SB∧(x.path.length≤SB∧∀ s∈x.path,s.size≤SB)
def OP.sm (x:OP):Prop:=InI64 x.kind∧InI64 x.n∧x.place.sm
def VL.sm (x:VL):Prop:=x.a.sm∧x.b.sm∧x.place.sm∧x.name.size≤SB∧(x.names.length≤SB∧∀ s∈x.names,s.size≤SB)∧(x.args.length≤SB∧∀ s∈x.args,s.sm)
mutual
def SM.sm:SM→Prop
  | .mk kind pos mu name type has place value cond thn els=>name.size≤SB∧type.sm∧place.sm∧value.sm∧cond.sm∧(thn.length≤SB∧SM.smL thn)∧(els.length≤SB∧SM.smL els)
def SM.smL:List SM→Prop
  | []=>True
  | x::r=>SM.sm x∧SM.smL r
end
theorem SM.smL_iff:∀ l:List SM,SM.smL l↔∀ x∈l,x.sm
  | []=>by simp [SM.smL]
  | x::r=>by rw [SM.smL,SM.smL_iff r];simp
theorem SM.sm_iff (t:SM):t.sm↔t.name.size≤SB∧t.type.sm∧t.place.sm∧t.value.sm∧t.cond.sm∧(t.thn.length≤SB∧∀ x∈t.thn,x.sm)∧(t.els.length≤SB∧∀ x∈t.els,x.sm):=by
  cases t with
  | mk kind pos mu name type has place value cond thn els=>rw [SM.sm,SM.smL_iff,SM.smL_iff];rfl
def LFsm (x:Lif):Prop:=x.1.size≤SB∧(x.2.length≤SB∧∀ s∈x.2,s.size≤SB)
def FN.sm (f:FN):Prop:=f.name.size≤SB∧(f.lives.length≤SB∧∀ x∈f.lives,LFsm x)∧(f.params.length≤SB∧∀ x∈f.params,x.sm)∧f.result.sm∧(f.body.length≤SB∧∀ x∈f.body,x.sm)∧InI64 f.at'
def FN.toC (f:FN):FnC:=⟨.bool f.pub,.str f.name,f.lives,[encL FD.cells f.params,.int .i64 f.result.kind,.str f.result.name,encL cS f.result.lives,encL TT.cells f.result.elem,encL SM.cells f.body,.int .i64 f.at'],rfl,rfl,rfl,rfl⟩
theorem FN.toC_cells (f:FN):f.toC.cells=f.cells:=by rw [FN.cells_eq];rfl
def CR.sm (c:CR):Prop:=(c.structs.length≤SB∧∀ x∈c.structs,x.sm)∧(c.funcs.length≤SB∧∀ x∈c.funcs,x.sm)
theorem PL.imvs (d:Nat) (l:List PL):(l.flatMap PL.cells).all (imV (d+1))=true:=by
  induction l with
  | nil=>rfl
  | cons x r ih=>rw [List.flatMap_cons,List.all_append,ih,PL.imvc];rfl
theorem PL.snaps (H:Heap) (d:Nat) (l:List PL):(l.flatMap PL.cells).map (snap H (d+1))=l.flatMap PL.cells:=by
  induction l with
  | nil=>rfl
  | cons x r ih=>rw [List.flatMap_cons,List.map_append,ih,PL.snapc]
theorem PL.tks {l:List PL} {k:Nat} (h:k<l.length):(l.take k).flatMap PL.cells++l[k].cells=(l.take (k+1)).flatMap PL.cells:=by
  rw [List.take_add_one,List.getElem?_eq_getElem h,List.flatMap_append];simp
theorem OP.imvs (d:Nat) (l:List OP):(l.flatMap OP.cells).all (imV (d+1))=true:=by
  induction l with
  | nil=>rfl
  | cons x r ih=>rw [List.flatMap_cons,List.all_append,ih,OP.imvc];rfl
theorem OP.snaps (H:Heap) (d:Nat) (l:List OP):(l.flatMap OP.cells).map (snap H (d+1))=l.flatMap OP.cells:=by
  induction l with
  | nil=>rfl
  | cons x r ih=>rw [List.flatMap_cons,List.map_append,ih,OP.snapc]
theorem OP.tks {l:List OP} {k:Nat} (h:k<l.length):(l.take k).flatMap OP.cells++l[k].cells=(l.take (k+1)).flatMap OP.cells:=by
  rw [List.take_add_one,List.getElem?_eq_getElem h,List.flatMap_append];simp
theorem VL.imvs (d:Nat) (l:List VL):(l.flatMap VL.cells).all (imV (d+1))=true:=by
  induction l with
  | nil=>rfl
  | cons x r ih=>rw [List.flatMap_cons,List.all_append,ih,VL.imvc];rfl
theorem VL.snaps (H:Heap) (d:Nat) (l:List VL):(l.flatMap VL.cells).map (snap H (d+1))=l.flatMap VL.cells:=by
  induction l with
  | nil=>rfl
  | cons x r ih=>rw [List.flatMap_cons,List.map_append,ih,VL.snapc]
theorem VL.tks {l:List VL} {k:Nat} (h:k<l.length):(l.take k).flatMap VL.cells++l[k].cells=(l.take (k+1)).flatMap VL.cells:=by
  rw [List.take_add_one,List.getElem?_eq_getElem h,List.flatMap_append];simp
theorem SM.imvs (d:Nat) (l:List SM):(l.flatMap SM.cells).all (imV (d+1))=true:=by
  induction l with
  | nil=>rfl
  | cons x r ih=>rw [List.flatMap_cons,List.all_append,ih,SM.imvc];rfl
theorem SM.snaps (H:Heap) (d:Nat) (l:List SM):(l.flatMap SM.cells).map (snap H (d+1))=l.flatMap SM.cells:=by
  induction l with
  | nil=>rfl
  | cons x r ih=>rw [List.flatMap_cons,List.map_append,ih,SM.snapc]
theorem SM.tks {l:List SM} {k:Nat} (h:k<l.length):(l.take k).flatMap SM.cells++l[k].cells=(l.take (k+1)).flatMap SM.cells:=by
  rw [List.take_add_one,List.getElem?_eq_getElem h,List.flatMap_append];simp
theorem FN.imvs (d:Nat) (l:List FN):(l.flatMap FN.cells).all (imV (d+1))=true:=by
  induction l with
  | nil=>rfl
  | cons x r ih=>rw [List.flatMap_cons,List.all_append,ih,FN.imvc];rfl
theorem FN.snaps (H:Heap) (d:Nat) (l:List FN):(l.flatMap FN.cells).map (snap H (d+1))=l.flatMap FN.cells:=by
  induction l with
  | nil=>rfl
  | cons x r ih=>rw [List.flatMap_cons,List.map_append,ih,FN.snapc]
theorem FN.tks {l:List FN} {k:Nat} (h:k<l.length):(l.take k).flatMap FN.cells++l[k].cells=(l.take (k+1)).flatMap FN.cells:=by
  rw [List.take_add_one,List.getElem?_eq_getElem h,List.flatMap_append];simp
theorem CR.imvs (d:Nat) (l:List CR):(l.flatMap CR.cells).all (imV (d+1))=true:=by
  induction l with
  | nil=>rfl
  | cons x r ih=>rw [List.flatMap_cons,List.all_append,ih,CR.imvc];rfl
theorem CR.snaps (H:Heap) (d:Nat) (l:List CR):(l.flatMap CR.cells).map (snap H (d+1))=l.flatMap CR.cells:=by
  induction l with
  | nil=>rfl
  | cons x r ih=>rw [List.flatMap_cons,List.map_append,ih,CR.snapc]
theorem CR.tks {l:List CR} {k:Nat} (h:k<l.length):(l.take k).flatMap CR.cells++l[k].cells=(l.take (k+1)).flatMap CR.cells:=by
  rw [List.take_add_one,List.getElem?_eq_getElem h,List.flatMap_append];simp
theorem SMA:type_of% (And.intro @SM.c0 (And.intro @SM.c1 (And.intro @SM.c2 (And.intro @SM.c3 (And.intro @SM.c4 (And.intro @SM.c5 (And.intro @SM.c6 (And.intro @SM.c7 (And.intro @SM.c8 (And.intro @SM.c9 (And.intro @SM.c10 (And.intro @SM.c11 (And.intro @SM.c12 (And.intro @SM.c13 (And.intro @SM.c14 (And.intro @SM.c15 (And.intro @SM.c16 (And.intro @SM.c17 (And.intro @SM.c18 (And.intro @SM.c19 (And.intro @SM.c20 (And.intro @SM.c21 (And.intro @SM.c22 (And.intro @SM.c23 (And.intro @SM.c24 (And.intro @SM.c25 (And.intro @SM.c26 (And.intro @SM.c27 (And.intro @SM.c28 (And.intro @SM.c29 (And.intro @SM.c30 (And.intro @SM.c31 (And.intro @SM.call (And.intro @SM.s4_4 (And.intro @SM.s9_2 (And.intro @SM.s11_15 (And.intro @SM.s26_4 (And.intro @SM.snapc (And.intro @SM.sokc (And.intro @SM.onec (And.intro @SM.imvc (And.intro @PL.snapc (And.intro @PL.sokc (And.intro @PL.imvc (And.intro @OP.snapc (And.intro @OP.sokc (And.intro @OP.imvc (And.intro @VL.snapc (And.intro @VL.sokc (And.intro @VL.imvc (And.intro @TT.snapc (And.intro @TT.sokc @TT.imvc)))))))))))))))))))))))))))))))))))))))))))))))))))):=And.intro @SM.c0 (And.intro @SM.c1 (And.intro @SM.c2 (And.intro @SM.c3 (And.intro @SM.c4 (And.intro @SM.c5 (And.intro @SM.c6 (And.intro @SM.c7 (And.intro @SM.c8 (And.intro @SM.c9 (And.intro @SM.c10 (And.intro @SM.c11 (And.intro @SM.c12 (And.intro @SM.c13 (And.intro @SM.c14 (And.intro @SM.c15 (And.intro @SM.c16 (And.intro @SM.c17 (And.intro @SM.c18 (And.intro @SM.c19 (And.intro @SM.c20 (And.intro @SM.c21 (And.intro @SM.c22 (And.intro @SM.c23 (And.intro @SM.c24 (And.intro @SM.c25 (And.intro @SM.c26 (And.intro @SM.c27 (And.intro @SM.c28 (And.intro @SM.c29 (And.intro @SM.c30 (And.intro @SM.c31 (And.intro @SM.call (And.intro @SM.s4_4 (And.intro @SM.s9_2 (And.intro @SM.s11_15 (And.intro @SM.s26_4 (And.intro @SM.snapc (And.intro @SM.sokc (And.intro @SM.onec (And.intro @SM.imvc (And.intro @PL.snapc (And.intro @PL.sokc (And.intro @PL.imvc (And.intro @OP.snapc (And.intro @OP.sokc (And.intro @OP.imvc (And.intro @VL.snapc (And.intro @VL.sokc (And.intro @VL.imvc (And.intro @TT.snapc (And.intro @TT.sokc @TT.imvc)))))))))))))))))))))))))))))))))))))))))))))))))))
theorem FNA:type_of% (And.intro @FN.c0 (And.intro @FN.c1 (And.intro @FN.c2 (And.intro @FN.c3 (And.intro @FN.c4 (And.intro @FN.c5 (And.intro @FN.c6 (And.intro @FN.c7 (And.intro @FN.c8 (And.intro @FN.c9 (And.intro @FN.call (And.intro @FN.s4_4 (And.intro @FN.snapc (And.intro @FN.sokc (And.intro @FN.onec (And.intro @FN.imvc @FN.len)))))))))))))))):=And.intro @FN.c0 (And.intro @FN.c1 (And.intro @FN.c2 (And.intro @FN.c3 (And.intro @FN.c4 (And.intro @FN.c5 (And.intro @FN.c6 (And.intro @FN.c7 (And.intro @FN.c8 (And.intro @FN.c9 (And.intro @FN.call (And.intro @FN.s4_4 (And.intro @FN.snapc (And.intro @FN.sokc (And.intro @FN.onec (And.intro @FN.imvc @FN.len)))))))))))))))
theorem CRA:type_of% (And.intro @CR.c0 (And.intro @CR.c1 (And.intro @CR.call (And.intro @CR.snapc (And.intro @CR.sokc (And.intro @CR.onec (And.intro @CR.imvc @CR.len))))))):=And.intro @CR.c0 (And.intro @CR.c1 (And.intro @CR.call (And.intro @CR.snapc (And.intro @CR.sokc (And.intro @CR.onec (And.intro @CR.imvc @CR.len))))))
end Go.Lg



namespace Go.Proofs.YtlnphjjhfgghkaaGreatDoor
open Go Go.Lg Go.RowKit
set_option maxRecDepth 20000
theorem boV_t (b:Bool):boV True (.bool b):=⟨b,rfl,fun _=>trivial⟩
theorem equalS_sl (n:Nat) (cs:List V):PRetR Tryz.prog 178 [.sl n cs,.sl 0 []] (boV True):=by
  refine pretR_intro fdt178 (by simp) ?_
  rcases Nat.eq_zero_or_pos n with rfl|hn
  · simp only [lct178,VCA,simprocAttr,encL]
    refine loop_vcg (ι:=Nat→Nat) (fun c=>stO [(0,.val (.sl 0 cs)),(1,.val (.sl 0 [])),(12,.val (.int .i64 0)),(13,.val (.int .i64 0))] c)
      (fun _=>True) (fun _=>0) _ trivial (ent_of _ [] rfl rfl (by simp only [VCA,simprocAttr,encL])) ?_
    rintro c -
    simp only [VCA,simprocAttr,encL,boV_t]
  · have e:decide ((n:Int)=0)=false:=decide_eq_false (by omega)
    simp only [lct178,VCA,simprocAttr,encL,e,boV_t]
theorem equalS_z {x:V} (h:SlZ x):PRetR Tryz.prog 178 [x,.e0] (boV True):=by
  rcases h with rfl|⟨n,cs,rfl⟩
  · exact (equalS_sl 0 []).nz 3 rfl
  · exact (equalS_sl n (cs.map (nz 2))).nz 3 rfl
theorem eqFT_sl (n:Nat) (cs:List V) (g:Nat):PRetR Tryz.prog 186 [.sl n cs,.sl 0 [],.fn g []] (boV True):=by
  refine pretR_intro fdt186 (by simp) ?_
  rcases Nat.eq_zero_or_pos n with rfl|hn
  · simp only [lct186,VCA,simprocAttr,encL]
    refine loop_vcg (ι:=Nat→Nat) (fun c=>stO [(1,.val (.sl 0 [])),(2,.val (.fn g [])),(15,.val (.sl 0 cs)),(16,.val (.int .i64 0)),(17,.val (.int .i64 0))] c)
      (fun _=>True) (fun _=>0) _ trivial (ent_of _ [] rfl rfl (by simp only [VCA,simprocAttr,encL])) ?_
    rintro c -
    simp only [VCA,simprocAttr,encL,boV_t]
  · have e:decide ((n:Int)=0)=false:=decide_eq_false (by omega)
    simp only [lct186,VCA,simprocAttr,encL,e,boV_t]
theorem eqFT_z {x:V} (h:SlZ x) (g:Nat):PRetR Tryz.prog 186 [x,.e0,.fn g []] (boV True):=by
  rcases h with rfl|⟨n,cs,rfl⟩
  · exact (eqFT_sl 0 [] g).nz 3 rfl
  · exact (eqFT_sl n (cs.map (nz 2)) g).nz 3 rfl
theorem eachT_z {x:V} (h:SlZ x) (g:Nat):PRetR Tryz.prog 180 [x,.e0,.fn g []] (boV True):=by
  have he:=eqFT_z h g
  refine pretR_intro fdt180 (by simp) ?_
  simp only [lct180,VCA,simprocAttr,encL,MCA,h.snap,h.sok,h.one,h.imv]
  repeat' (first|exact boV_t _|((first|refine condDn_of (fun h=>?_) (fun h=>?_)|refine condD_of (fun h=>?_) (fun h=>?_)|refine condVn_of (fun h=>?_) (fun h=>?_)|refine condV_of (fun h=>?_) (fun h=>?_)|refine gdDn_of (fun h=>?_) (fun h=>?_)|refine gdD_of (fun h=>?_) (fun h=>?_)|refine gdVMn_of (fun h=>?_) (fun h=>?_)|refine gdVM_of (fun h=>?_) (fun h=>?_)|refine gpDn_of (fun h=>?_) (fun h=>?_)|refine gpD_of (fun h=>?_) (fun h=>?_)|refine gdVn_of (fun h=>?_) (fun h=>?_)|refine gdV_of (fun h=>?_) (fun h=>?_))<;>simp only [VCA,simprocAttr,encL,MCA,boV_t,h,h.snap,h.sok,h.one,h.imv])|(refine callRF_of (he) (fun r hr=>?_) (by simp only [VCA,simprocAttr,encL,MCA,h.snap,h.sok,h.one,h.imv]) (fun _=>boV_flat);obtain ⟨b,rfl,-⟩:=hr;try simp only [VCA,simprocAttr,encL,MCA,boV_t,h.snap,h.sok,h.one,h.imv]))
theorem eqFO_sl (n:Nat) (cs:List V) (g:Nat):PRetR Tryz.prog 185 [.sl n cs,.sl 0 [],.fn g []] (boV True):=by
  refine pretR_intro fdt185 (by simp) ?_
  rcases Nat.eq_zero_or_pos n with rfl|hn
  · simp only [lct185,VCA,simprocAttr,encL]
    refine loop_vcg (ι:=Nat→Nat) (fun c=>stO [(1,.val (.sl 0 [])),(2,.val (.fn g [])),(15,.val (.sl 0 cs)),(16,.val (.int .i64 0)),(17,.val (.int .i64 0))] c)
      (fun _=>True) (fun _=>0) _ trivial (ent_of _ [] rfl rfl (by simp only [VCA,simprocAttr,encL])) ?_
    rintro c -
    simp only [VCA,simprocAttr,encL,boV_t]
  · have e:decide ((n:Int)=0)=false:=decide_eq_false (by omega)
    simp only [lct185,VCA,simprocAttr,encL,e,boV_t]
theorem eqFO_z {x:V} (h:SlZ x) (g:Nat):PRetR Tryz.prog 185 [x,.e0,.fn g []] (boV True):=by
  rcases h with rfl|⟨n,cs,rfl⟩
  · exact (eqFO_sl 0 [] g).nz 3 rfl
  · exact (eqFO_sl n (cs.map (nz 2)) g).nz 3 rfl
theorem eachO_z {x:V} (h:SlZ x) (g:Nat):PRetR Tryz.prog 179 [x,.e0,.fn g []] (boV True):=by
  have he:=eqFO_z h g
  refine pretR_intro fdt179 (by simp) ?_
  simp only [lct179,VCA,simprocAttr,encL,MCA,h.snap,h.sok,h.one,h.imv]
  repeat' (first|exact boV_t _|((first|refine condDn_of (fun h=>?_) (fun h=>?_)|refine condD_of (fun h=>?_) (fun h=>?_)|refine condVn_of (fun h=>?_) (fun h=>?_)|refine condV_of (fun h=>?_) (fun h=>?_)|refine gdDn_of (fun h=>?_) (fun h=>?_)|refine gdD_of (fun h=>?_) (fun h=>?_)|refine gdVMn_of (fun h=>?_) (fun h=>?_)|refine gdVM_of (fun h=>?_) (fun h=>?_)|refine gpDn_of (fun h=>?_) (fun h=>?_)|refine gpD_of (fun h=>?_) (fun h=>?_)|refine gdVn_of (fun h=>?_) (fun h=>?_)|refine gdV_of (fun h=>?_) (fun h=>?_))<;>simp only [VCA,simprocAttr,encL,MCA,boV_t,h,h.snap,h.sok,h.one,h.imv])|(refine callRF_of (he) (fun r hr=>?_) (by simp only [VCA,simprocAttr,encL,MCA,h.snap,h.sok,h.one,h.imv]) (fun _=>boV_flat);obtain ⟨b,rfl,-⟩:=hr;try simp only [VCA,simprocAttr,encL,MCA,boV_t,h.snap,h.sok,h.one,h.imv]))
theorem eqFS_sl (n:Nat) (cs:List V) (g:Nat):PRetR Tryz.prog 181 [.sl n cs,.sl 0 [],.fn g []] (boV True):=by
  refine pretR_intro fdt181 (by simp) ?_
  rcases Nat.eq_zero_or_pos n with rfl|hn
  · simp only [lct181,VCA,simprocAttr,encL]
    refine loop_vcg (ι:=Nat→Nat) (fun c=>stO [(1,.val (.sl 0 [])),(2,.val (.fn g [])),(15,.val (.sl 0 cs)),(16,.val (.int .i64 0)),(17,.val (.int .i64 0))] c)
      (fun _=>True) (fun _=>0) _ trivial (ent_of _ [] rfl rfl (by simp only [VCA,simprocAttr,encL])) ?_
    rintro c -
    simp only [VCA,simprocAttr,encL,boV_t]
  · have e:decide ((n:Int)=0)=false:=decide_eq_false (by omega)
    simp only [lct181,VCA,simprocAttr,encL,e,boV_t]
theorem eqFS_z {x:V} (h:SlZ x) (g:Nat):PRetR Tryz.prog 181 [x,.e0,.fn g []] (boV True):=by
  rcases h with rfl|⟨n,cs,rfl⟩
  · exact (eqFS_sl 0 [] g).nz 3 rfl
  · exact (eqFS_sl n (cs.map (nz 2)) g).nz 3 rfl
theorem eachS_z {x:V} (h:SlZ x) (g:Nat):PRetR Tryz.prog 171 [x,.e0,.fn g []] (boV True):=by
  have he:=eqFS_z h g
  refine pretR_intro fdt171 (by simp) ?_
  simp only [lct171,VCA,simprocAttr,encL,MCA,h.snap,h.sok,h.one,h.imv]
  repeat' (first|exact boV_t _|((first|refine condDn_of (fun h=>?_) (fun h=>?_)|refine condD_of (fun h=>?_) (fun h=>?_)|refine condVn_of (fun h=>?_) (fun h=>?_)|refine condV_of (fun h=>?_) (fun h=>?_)|refine gdDn_of (fun h=>?_) (fun h=>?_)|refine gdD_of (fun h=>?_) (fun h=>?_)|refine gdVMn_of (fun h=>?_) (fun h=>?_)|refine gdVM_of (fun h=>?_) (fun h=>?_)|refine gpDn_of (fun h=>?_) (fun h=>?_)|refine gpD_of (fun h=>?_) (fun h=>?_)|refine gdVn_of (fun h=>?_) (fun h=>?_)|refine gdV_of (fun h=>?_) (fun h=>?_))<;>simp only [VCA,simprocAttr,encL,MCA,boV_t,h,h.snap,h.sok,h.one,h.imv])|(refine callRF_of (he) (fun r hr=>?_) (by simp only [VCA,simprocAttr,encL,MCA,h.snap,h.sok,h.one,h.imv]) (fun _=>boV_flat);obtain ⟨b,rfl,-⟩:=hr;try simp only [VCA,simprocAttr,encL,MCA,boV_t,h.snap,h.sok,h.one,h.imv]))
theorem samePlace_z (a0:ByteArray) {a1:V} (h1:SlZ a1):PRetR Tryz.prog 168 [.agg [.str a0,a1],.agg [.str ⟨#[]⟩,.e0]] (boV True):=by
  refine pretR_intro fdt168 (by simp) ?_
  simp only [lct168,VCA,simprocAttr,encL,MCA,h1.snap,h1.sok,h1.one,h1.imv,EXA]
  repeat' (first|exact boV_t _|((first|refine condDn_of (fun h=>?_) (fun h=>?_)|refine condD_of (fun h=>?_) (fun h=>?_)|refine condVn_of (fun h=>?_) (fun h=>?_)|refine condV_of (fun h=>?_) (fun h=>?_)|refine gdDn_of (fun h=>?_) (fun h=>?_)|refine gdD_of (fun h=>?_) (fun h=>?_)|refine gdVMn_of (fun h=>?_) (fun h=>?_)|refine gdVM_of (fun h=>?_) (fun h=>?_)|refine gpDn_of (fun h=>?_) (fun h=>?_)|refine gpD_of (fun h=>?_) (fun h=>?_)|refine gdVn_of (fun h=>?_) (fun h=>?_)|refine gdV_of (fun h=>?_) (fun h=>?_))<;>simp only [VCA,simprocAttr,encL,MCA,boV_t,h,h1.snap,h1.sok,h1.one,h1.imv,EXA])|(refine callRF_of (equalS_z h1) (fun r hr=>?_) (by simp only [VCA,simprocAttr,encL,MCA,h1.snap,h1.sok,h1.one,h1.imv,EXA]) (fun _=>boV_flat);obtain ⟨b,rfl,-⟩:=hr;try simp only [VCA,simprocAttr,encL,MCA,boV_t,h1.snap,h1.sok,h1.one,h1.imv,EXA]))
theorem sameOper_z (a0:Int) (a1:Int) (a2:ByteArray) {a3:V} (h3:SlZ a3):PRetR Tryz.prog 170 [.agg [.int .i64 a0,.int .i64 a1,.str a2,a3],.agg [.int .i64 0,.int .i64 0,.str ⟨#[]⟩,.e0]] (boV True):=by
  refine pretR_intro fdt170 (by simp) ?_
  simp only [lct170,VCA,simprocAttr,encL,MCA,h3.snap,h3.sok,h3.one,h3.imv,EXA]
  repeat' (first|exact boV_t _|((first|refine condDn_of (fun h=>?_) (fun h=>?_)|refine condD_of (fun h=>?_) (fun h=>?_)|refine condVn_of (fun h=>?_) (fun h=>?_)|refine condV_of (fun h=>?_) (fun h=>?_)|refine gdDn_of (fun h=>?_) (fun h=>?_)|refine gdD_of (fun h=>?_) (fun h=>?_)|refine gdVMn_of (fun h=>?_) (fun h=>?_)|refine gdVM_of (fun h=>?_) (fun h=>?_)|refine gpDn_of (fun h=>?_) (fun h=>?_)|refine gpD_of (fun h=>?_) (fun h=>?_)|refine gdVn_of (fun h=>?_) (fun h=>?_)|refine gdV_of (fun h=>?_) (fun h=>?_))<;>simp only [VCA,simprocAttr,encL,MCA,boV_t,h,h3.snap,h3.sok,h3.one,h3.imv,EXA])|(refine callRF_of (samePlace_z _ h3) (fun r hr=>?_) (by simp only [VCA,simprocAttr,encL,MCA,h3.snap,h3.sok,h3.one,h3.imv,EXA]) (fun _=>boV_flat);obtain ⟨b,rfl,-⟩:=hr;try simp only [VCA,simprocAttr,encL,MCA,boV_t,h3.snap,h3.sok,h3.one,h3.imv,EXA]))
theorem sameType_z (a0:Int) (a1:ByteArray) {a2:V} (h2:SlZ a2) {a3:V} (h3:SlZ a3):PRetR Tryz.prog 169 [.agg [.int .i64 a0,.str a1,a2,a3],.agg [.int .i64 0,.str ⟨#[]⟩,.e0,.e0]] (boV True):=by
  refine pretR_intro fdt169 (by simp) ?_
  simp only [lct169,VCA,simprocAttr,encL,MCA,h2.snap,h2.sok,h2.one,h2.imv,h3.snap,h3.sok,h3.one,h3.imv,EXA]
  repeat' (first|exact boV_t _|((first|refine condDn_of (fun h=>?_) (fun h=>?_)|refine condD_of (fun h=>?_) (fun h=>?_)|refine condVn_of (fun h=>?_) (fun h=>?_)|refine condV_of (fun h=>?_) (fun h=>?_)|refine gdDn_of (fun h=>?_) (fun h=>?_)|refine gdD_of (fun h=>?_) (fun h=>?_)|refine gdVMn_of (fun h=>?_) (fun h=>?_)|refine gdVM_of (fun h=>?_) (fun h=>?_)|refine gpDn_of (fun h=>?_) (fun h=>?_)|refine gpD_of (fun h=>?_) (fun h=>?_)|refine gdVn_of (fun h=>?_) (fun h=>?_)|refine gdV_of (fun h=>?_) (fun h=>?_))<;>simp only [VCA,simprocAttr,encL,MCA,boV_t,h,h2.snap,h2.sok,h2.one,h2.imv,h3.snap,h3.sok,h3.one,h3.imv,EXA])|(refine callRF_of (equalS_z h2) (fun r hr=>?_) (by simp only [VCA,simprocAttr,encL,MCA,h2.snap,h2.sok,h2.one,h2.imv,h3.snap,h3.sok,h3.one,h3.imv,EXA]) (fun _=>boV_flat);obtain ⟨b,rfl,-⟩:=hr;try simp only [VCA,simprocAttr,encL,MCA,boV_t,h2.snap,h2.sok,h2.one,h2.imv,h3.snap,h3.sok,h3.one,h3.imv,EXA])|(refine callRF_of (eachT_z h3 _) (fun r hr=>?_) (by simp only [VCA,simprocAttr,encL,MCA,h2.snap,h2.sok,h2.one,h2.imv,h3.snap,h3.sok,h3.one,h3.imv,EXA]) (fun _=>boV_flat);obtain ⟨b,rfl,-⟩:=hr;try simp only [VCA,simprocAttr,encL,MCA,boV_t,h2.snap,h2.sok,h2.one,h2.imv,h3.snap,h3.sok,h3.one,h3.imv,EXA]))
theorem sameValue_z (a0:Int) (a1:Int) (a2:Int) (a3:ByteArray) {a4:V} (h4:SlZ a4) (a5:Int) (a6:Int) (a7:ByteArray) {a8:V} (h8:SlZ a8) (a9:Int) (a10:ByteArray) {a11:V} (h11:SlZ a11) (a12:ByteArray) {a13:V} (h13:SlZ a13) {a14:V} (h14:SlZ a14):PRetR Tryz.prog 167 [.agg [.int .i64 a0,.int .i64 a1,.int .i64 a2,.str a3,a4,.int .i64 a5,.int .i64 a6,.str a7,a8,.int .i64 a9,.str a10,a11,.str a12,a13,a14],.agg [.int .i64 0,.int .i64 0,.int .i64 0,.str ⟨#[]⟩,.e0,.int .i64 0,.int .i64 0,.str ⟨#[]⟩,.e0,.int .i64 0,.str ⟨#[]⟩,.e0,.str ⟨#[]⟩,.e0,.e0]] (boV True):=by
  refine pretR_intro fdt167 (by simp) ?_
  simp only [lct167,VCA,simprocAttr,encL,MCA,h4.snap,h4.sok,h4.one,h4.imv,h8.snap,h8.sok,h8.one,h8.imv,h11.snap,h11.sok,h11.one,h11.imv,h13.snap,h13.sok,h13.one,h13.imv,h14.snap,h14.sok,h14.one,h14.imv,EXA]
  repeat' (first|exact boV_t _|((first|refine condDn_of (fun h=>?_) (fun h=>?_)|refine condD_of (fun h=>?_) (fun h=>?_)|refine condVn_of (fun h=>?_) (fun h=>?_)|refine condV_of (fun h=>?_) (fun h=>?_)|refine gdDn_of (fun h=>?_) (fun h=>?_)|refine gdD_of (fun h=>?_) (fun h=>?_)|refine gdVMn_of (fun h=>?_) (fun h=>?_)|refine gdVM_of (fun h=>?_) (fun h=>?_)|refine gpDn_of (fun h=>?_) (fun h=>?_)|refine gpD_of (fun h=>?_) (fun h=>?_)|refine gdVn_of (fun h=>?_) (fun h=>?_)|refine gdV_of (fun h=>?_) (fun h=>?_))<;>simp only [VCA,simprocAttr,encL,MCA,boV_t,h,h4.snap,h4.sok,h4.one,h4.imv,h8.snap,h8.sok,h8.one,h8.imv,h11.snap,h11.sok,h11.one,h11.imv,h13.snap,h13.sok,h13.one,h13.imv,h14.snap,h14.sok,h14.one,h14.imv,EXA])|(refine callRF_of (sameOper_z _ _ _ h4) (fun r hr=>?_) (by simp only [VCA,simprocAttr,encL,MCA,h4.snap,h4.sok,h4.one,h4.imv,h8.snap,h8.sok,h8.one,h8.imv,h11.snap,h11.sok,h11.one,h11.imv,h13.snap,h13.sok,h13.one,h13.imv,h14.snap,h14.sok,h14.one,h14.imv,EXA]) (fun _=>boV_flat);obtain ⟨b,rfl,-⟩:=hr;try simp only [VCA,simprocAttr,encL,MCA,boV_t,h4.snap,h4.sok,h4.one,h4.imv,h8.snap,h8.sok,h8.one,h8.imv,h11.snap,h11.sok,h11.one,h11.imv,h13.snap,h13.sok,h13.one,h13.imv,h14.snap,h14.sok,h14.one,h14.imv,EXA])|(refine callRF_of (sameOper_z _ _ _ h8) (fun r hr=>?_) (by simp only [VCA,simprocAttr,encL,MCA,h4.snap,h4.sok,h4.one,h4.imv,h8.snap,h8.sok,h8.one,h8.imv,h11.snap,h11.sok,h11.one,h11.imv,h13.snap,h13.sok,h13.one,h13.imv,h14.snap,h14.sok,h14.one,h14.imv,EXA]) (fun _=>boV_flat);obtain ⟨b,rfl,-⟩:=hr;try simp only [VCA,simprocAttr,encL,MCA,boV_t,h4.snap,h4.sok,h4.one,h4.imv,h8.snap,h8.sok,h8.one,h8.imv,h11.snap,h11.sok,h11.one,h11.imv,h13.snap,h13.sok,h13.one,h13.imv,h14.snap,h14.sok,h14.one,h14.imv,EXA])|(refine callRF_of (samePlace_z _ h11) (fun r hr=>?_) (by simp only [VCA,simprocAttr,encL,MCA,h4.snap,h4.sok,h4.one,h4.imv,h8.snap,h8.sok,h8.one,h8.imv,h11.snap,h11.sok,h11.one,h11.imv,h13.snap,h13.sok,h13.one,h13.imv,h14.snap,h14.sok,h14.one,h14.imv,EXA]) (fun _=>boV_flat);obtain ⟨b,rfl,-⟩:=hr;try simp only [VCA,simprocAttr,encL,MCA,boV_t,h4.snap,h4.sok,h4.one,h4.imv,h8.snap,h8.sok,h8.one,h8.imv,h11.snap,h11.sok,h11.one,h11.imv,h13.snap,h13.sok,h13.one,h13.imv,h14.snap,h14.sok,h14.one,h14.imv,EXA])|(refine callRF_of (equalS_z h13) (fun r hr=>?_) (by simp only [VCA,simprocAttr,encL,MCA,h4.snap,h4.sok,h4.one,h4.imv,h8.snap,h8.sok,h8.one,h8.imv,h11.snap,h11.sok,h11.one,h11.imv,h13.snap,h13.sok,h13.one,h13.imv,h14.snap,h14.sok,h14.one,h14.imv,EXA]) (fun _=>boV_flat);obtain ⟨b,rfl,-⟩:=hr;try simp only [VCA,simprocAttr,encL,MCA,boV_t,h4.snap,h4.sok,h4.one,h4.imv,h8.snap,h8.sok,h8.one,h8.imv,h11.snap,h11.sok,h11.one,h11.imv,h13.snap,h13.sok,h13.one,h13.imv,h14.snap,h14.sok,h14.one,h14.imv,EXA])|(refine callRF_of (eachO_z h14 _) (fun r hr=>?_) (by simp only [VCA,simprocAttr,encL,MCA,h4.snap,h4.sok,h4.one,h4.imv,h8.snap,h8.sok,h8.one,h8.imv,h11.snap,h11.sok,h11.one,h11.imv,h13.snap,h13.sok,h13.one,h13.imv,h14.snap,h14.sok,h14.one,h14.imv,EXA]) (fun _=>boV_flat);obtain ⟨b,rfl,-⟩:=hr;try simp only [VCA,simprocAttr,encL,MCA,boV_t,h4.snap,h4.sok,h4.one,h4.imv,h8.snap,h8.sok,h8.one,h8.imv,h11.snap,h11.sok,h11.one,h11.imv,h13.snap,h13.sok,h13.one,h13.imv,h14.snap,h14.sok,h14.one,h14.imv,EXA]))
set_option maxHeartbeats 4000000 in
theorem sameStmt_z (a0:Int) (a1:Int) (a2:Bool) (a3:ByteArray) (a4:Int) (a5:ByteArray) {a6:V} (h6:SlZ a6) {a7:V} (h7:SlZ a7) (a8:Bool) (a9:ByteArray) {a10:V} (h10:SlZ a10) (a11:Int) (a12:Int) (a13:Int) (a14:ByteArray) {a15:V} (h15:SlZ a15) (a16:Int) (a17:Int) (a18:ByteArray) {a19:V} (h19:SlZ a19) (a20:Int) (a21:ByteArray) {a22:V} (h22:SlZ a22) (a23:ByteArray) {a24:V} (h24:SlZ a24) {a25:V} (h25:SlZ a25) (a26:Int) (a27:Int) (a28:ByteArray) {a29:V} (h29:SlZ a29) {a30:V} (h30:SlZ a30) {a31:V} (h31:SlZ a31):PRetR Tryz.prog 161 [.agg [.int .i64 a0,.int .i64 a1,.bool a2,.str a3,.int .i64 a4,.str a5,a6,a7,.bool a8,.str a9,a10,.int .i64 a11,.int .i64 a12,.int .i64 a13,.str a14,a15,.int .i64 a16,.int .i64 a17,.str a18,a19,.int .i64 a20,.str a21,a22,.str a23,a24,a25,.int .i64 a26,.int .i64 a27,.str a28,a29,a30,a31],.agg [.int .i64 0,.int .i64 0,.bool false,.str ⟨#[]⟩,.int .i64 0,.str ⟨#[]⟩,.e0,.e0,.bool false,.str ⟨#[]⟩,.e0,.int .i64 0,.int .i64 0,.int .i64 0,.str ⟨#[]⟩,.e0,.int .i64 0,.int .i64 0,.str ⟨#[]⟩,.e0,.int .i64 0,.str ⟨#[]⟩,.e0,.str ⟨#[]⟩,.e0,.e0,.int .i64 0,.int .i64 0,.str ⟨#[]⟩,.e0,.e0,.e0]] (boV True):=by
  refine pretR_intro fdt161 (by simp) ?_
  simp only [lct161,VCA,simprocAttr,encL,MCA,h6.snap,h6.sok,h6.one,h6.imv,h7.snap,h7.sok,h7.one,h7.imv,h10.snap,h10.sok,h10.one,h10.imv,h15.snap,h15.sok,h15.one,h15.imv,h19.snap,h19.sok,h19.one,h19.imv,h22.snap,h22.sok,h22.one,h22.imv,h24.snap,h24.sok,h24.one,h24.imv,h25.snap,h25.sok,h25.one,h25.imv,h29.snap,h29.sok,h29.one,h29.imv,h30.snap,h30.sok,h30.one,h30.imv,h31.snap,h31.sok,h31.one,h31.imv,EXA]
  repeat' (first|exact boV_t _|((first|refine condDn_of (fun h=>?_) (fun h=>?_)|refine condD_of (fun h=>?_) (fun h=>?_)|refine condVn_of (fun h=>?_) (fun h=>?_)|refine condV_of (fun h=>?_) (fun h=>?_)|refine gdDn_of (fun h=>?_) (fun h=>?_)|refine gdD_of (fun h=>?_) (fun h=>?_)|refine gdVMn_of (fun h=>?_) (fun h=>?_)|refine gdVM_of (fun h=>?_) (fun h=>?_)|refine gpDn_of (fun h=>?_) (fun h=>?_)|refine gpD_of (fun h=>?_) (fun h=>?_)|refine gdVn_of (fun h=>?_) (fun h=>?_)|refine gdV_of (fun h=>?_) (fun h=>?_))<;>simp only [VCA,simprocAttr,encL,MCA,boV_t,h,h6.snap,h6.sok,h6.one,h6.imv,h7.snap,h7.sok,h7.one,h7.imv,h10.snap,h10.sok,h10.one,h10.imv,h15.snap,h15.sok,h15.one,h15.imv,h19.snap,h19.sok,h19.one,h19.imv,h22.snap,h22.sok,h22.one,h22.imv,h24.snap,h24.sok,h24.one,h24.imv,h25.snap,h25.sok,h25.one,h25.imv,h29.snap,h29.sok,h29.one,h29.imv,h30.snap,h30.sok,h30.one,h30.imv,h31.snap,h31.sok,h31.one,h31.imv,EXA])|(refine callRF_of (sameType_z _ _ h6 h7) (fun r hr=>?_) (by simp only [VCA,simprocAttr,encL,MCA,h6.snap,h6.sok,h6.one,h6.imv,h7.snap,h7.sok,h7.one,h7.imv,h10.snap,h10.sok,h10.one,h10.imv,h15.snap,h15.sok,h15.one,h15.imv,h19.snap,h19.sok,h19.one,h19.imv,h22.snap,h22.sok,h22.one,h22.imv,h24.snap,h24.sok,h24.one,h24.imv,h25.snap,h25.sok,h25.one,h25.imv,h29.snap,h29.sok,h29.one,h29.imv,h30.snap,h30.sok,h30.one,h30.imv,h31.snap,h31.sok,h31.one,h31.imv,EXA]) (fun _=>boV_flat);obtain ⟨b,rfl,-⟩:=hr;try simp only [VCA,simprocAttr,encL,MCA,boV_t,h6.snap,h6.sok,h6.one,h6.imv,h7.snap,h7.sok,h7.one,h7.imv,h10.snap,h10.sok,h10.one,h10.imv,h15.snap,h15.sok,h15.one,h15.imv,h19.snap,h19.sok,h19.one,h19.imv,h22.snap,h22.sok,h22.one,h22.imv,h24.snap,h24.sok,h24.one,h24.imv,h25.snap,h25.sok,h25.one,h25.imv,h29.snap,h29.sok,h29.one,h29.imv,h30.snap,h30.sok,h30.one,h30.imv,h31.snap,h31.sok,h31.one,h31.imv,EXA])|(refine callRF_of (samePlace_z _ h10) (fun r hr=>?_) (by simp only [VCA,simprocAttr,encL,MCA,h6.snap,h6.sok,h6.one,h6.imv,h7.snap,h7.sok,h7.one,h7.imv,h10.snap,h10.sok,h10.one,h10.imv,h15.snap,h15.sok,h15.one,h15.imv,h19.snap,h19.sok,h19.one,h19.imv,h22.snap,h22.sok,h22.one,h22.imv,h24.snap,h24.sok,h24.one,h24.imv,h25.snap,h25.sok,h25.one,h25.imv,h29.snap,h29.sok,h29.one,h29.imv,h30.snap,h30.sok,h30.one,h30.imv,h31.snap,h31.sok,h31.one,h31.imv,EXA]) (fun _=>boV_flat);obtain ⟨b,rfl,-⟩:=hr;try simp only [VCA,simprocAttr,encL,MCA,boV_t,h6.snap,h6.sok,h6.one,h6.imv,h7.snap,h7.sok,h7.one,h7.imv,h10.snap,h10.sok,h10.one,h10.imv,h15.snap,h15.sok,h15.one,h15.imv,h19.snap,h19.sok,h19.one,h19.imv,h22.snap,h22.sok,h22.one,h22.imv,h24.snap,h24.sok,h24.one,h24.imv,h25.snap,h25.sok,h25.one,h25.imv,h29.snap,h29.sok,h29.one,h29.imv,h30.snap,h30.sok,h30.one,h30.imv,h31.snap,h31.sok,h31.one,h31.imv,EXA])|(refine callRF_of (sameValue_z _ _ _ _ h15 _ _ _ h19 _ _ h22 _ h24 h25) (fun r hr=>?_) (by simp only [VCA,simprocAttr,encL,MCA,h6.snap,h6.sok,h6.one,h6.imv,h7.snap,h7.sok,h7.one,h7.imv,h10.snap,h10.sok,h10.one,h10.imv,h15.snap,h15.sok,h15.one,h15.imv,h19.snap,h19.sok,h19.one,h19.imv,h22.snap,h22.sok,h22.one,h22.imv,h24.snap,h24.sok,h24.one,h24.imv,h25.snap,h25.sok,h25.one,h25.imv,h29.snap,h29.sok,h29.one,h29.imv,h30.snap,h30.sok,h30.one,h30.imv,h31.snap,h31.sok,h31.one,h31.imv,EXA]) (fun _=>boV_flat);obtain ⟨b,rfl,-⟩:=hr;try simp only [VCA,simprocAttr,encL,MCA,boV_t,h6.snap,h6.sok,h6.one,h6.imv,h7.snap,h7.sok,h7.one,h7.imv,h10.snap,h10.sok,h10.one,h10.imv,h15.snap,h15.sok,h15.one,h15.imv,h19.snap,h19.sok,h19.one,h19.imv,h22.snap,h22.sok,h22.one,h22.imv,h24.snap,h24.sok,h24.one,h24.imv,h25.snap,h25.sok,h25.one,h25.imv,h29.snap,h29.sok,h29.one,h29.imv,h30.snap,h30.sok,h30.one,h30.imv,h31.snap,h31.sok,h31.one,h31.imv,EXA])|(refine callRF_of (sameOper_z _ _ _ h29) (fun r hr=>?_) (by simp only [VCA,simprocAttr,encL,MCA,h6.snap,h6.sok,h6.one,h6.imv,h7.snap,h7.sok,h7.one,h7.imv,h10.snap,h10.sok,h10.one,h10.imv,h15.snap,h15.sok,h15.one,h15.imv,h19.snap,h19.sok,h19.one,h19.imv,h22.snap,h22.sok,h22.one,h22.imv,h24.snap,h24.sok,h24.one,h24.imv,h25.snap,h25.sok,h25.one,h25.imv,h29.snap,h29.sok,h29.one,h29.imv,h30.snap,h30.sok,h30.one,h30.imv,h31.snap,h31.sok,h31.one,h31.imv,EXA]) (fun _=>boV_flat);obtain ⟨b,rfl,-⟩:=hr;try simp only [VCA,simprocAttr,encL,MCA,boV_t,h6.snap,h6.sok,h6.one,h6.imv,h7.snap,h7.sok,h7.one,h7.imv,h10.snap,h10.sok,h10.one,h10.imv,h15.snap,h15.sok,h15.one,h15.imv,h19.snap,h19.sok,h19.one,h19.imv,h22.snap,h22.sok,h22.one,h22.imv,h24.snap,h24.sok,h24.one,h24.imv,h25.snap,h25.sok,h25.one,h25.imv,h29.snap,h29.sok,h29.one,h29.imv,h30.snap,h30.sok,h30.one,h30.imv,h31.snap,h31.sok,h31.one,h31.imv,EXA])|(refine callRF_of (eachS_z h30 _) (fun r hr=>?_) (by simp only [VCA,simprocAttr,encL,MCA,h6.snap,h6.sok,h6.one,h6.imv,h7.snap,h7.sok,h7.one,h7.imv,h10.snap,h10.sok,h10.one,h10.imv,h15.snap,h15.sok,h15.one,h15.imv,h19.snap,h19.sok,h19.one,h19.imv,h22.snap,h22.sok,h22.one,h22.imv,h24.snap,h24.sok,h24.one,h24.imv,h25.snap,h25.sok,h25.one,h25.imv,h29.snap,h29.sok,h29.one,h29.imv,h30.snap,h30.sok,h30.one,h30.imv,h31.snap,h31.sok,h31.one,h31.imv,EXA]) (fun _=>boV_flat);obtain ⟨b,rfl,-⟩:=hr;try simp only [VCA,simprocAttr,encL,MCA,boV_t,h6.snap,h6.sok,h6.one,h6.imv,h7.snap,h7.sok,h7.one,h7.imv,h10.snap,h10.sok,h10.one,h10.imv,h15.snap,h15.sok,h15.one,h15.imv,h19.snap,h19.sok,h19.one,h19.imv,h22.snap,h22.sok,h22.one,h22.imv,h24.snap,h24.sok,h24.one,h24.imv,h25.snap,h25.sok,h25.one,h25.imv,h29.snap,h29.sok,h29.one,h29.imv,h30.snap,h30.sok,h30.one,h30.imv,h31.snap,h31.sok,h31.one,h31.imv,EXA])|(refine callRF_of (eachS_z h31 _) (fun r hr=>?_) (by simp only [VCA,simprocAttr,encL,MCA,h6.snap,h6.sok,h6.one,h6.imv,h7.snap,h7.sok,h7.one,h7.imv,h10.snap,h10.sok,h10.one,h10.imv,h15.snap,h15.sok,h15.one,h15.imv,h19.snap,h19.sok,h19.one,h19.imv,h22.snap,h22.sok,h22.one,h22.imv,h24.snap,h24.sok,h24.one,h24.imv,h25.snap,h25.sok,h25.one,h25.imv,h29.snap,h29.sok,h29.one,h29.imv,h30.snap,h30.sok,h30.one,h30.imv,h31.snap,h31.sok,h31.one,h31.imv,EXA]) (fun _=>boV_flat);obtain ⟨b,rfl,-⟩:=hr;try simp only [VCA,simprocAttr,encL,MCA,boV_t,h6.snap,h6.sok,h6.one,h6.imv,h7.snap,h7.sok,h7.one,h7.imv,h10.snap,h10.sok,h10.one,h10.imv,h15.snap,h15.sok,h15.one,h15.imv,h19.snap,h19.sok,h19.one,h19.imv,h22.snap,h22.sok,h22.one,h22.imv,h24.snap,h24.sok,h24.one,h24.imv,h25.snap,h25.sok,h25.one,h25.imv,h29.snap,h29.sok,h29.one,h29.imv,h30.snap,h30.sok,h30.one,h30.imv,h31.snap,h31.sok,h31.one,h31.imv,EXA]))
end Go.Proofs.YtlnphjjhfgghkaaGreatDoor
