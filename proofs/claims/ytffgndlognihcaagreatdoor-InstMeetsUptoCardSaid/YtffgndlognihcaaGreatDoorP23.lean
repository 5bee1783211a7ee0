import Derived.Test.YtffgndlognihcaaGreatDoorP14
import Derived.Test.YtffgndlognihcaaGreatDoorP18
import Derived.Test.YtffgndlognihcaaGreatDoorP20
import Derived.Test.YtffgndlognihcaaGreatDoorP22
import Derived.Shelf.Sort.Plain
import Derived.Shelf.Strings.Search3
import Derived.Shelf.Strings.BuilderK
import Derived.Shelf.Strings.BuilderF
import Derived.Shelf.Strconv.Itoa3
import Derived.Shelf.LaysM
import Derived.Ground.NamesProg
import Derived.Test.YtffgndlognihcaaGreatDoorProg
import Derived.Shelf.Strings.Builder1
import Derived.WalkKit
import Derived.LaidEql
import Derived.Stop.Asserts
import Derived.RowKitTokens
import Derived.Shelf.Vars
import Derived.Lib.LaidTab
/-
  Part 23 of the proof.
-/
set_option linter.all false
section
namespace Go.Proofs
open Go.Shelf
def Tryz.lays190_ren:Go.Shelf.Ren:=⟨fun|190=>73|125=>102|258=>101|128=>130|129=>131|302=>122|303=>123|304=>124|305=>125|306=>126|307=>127|308=>93|309=>128|310=>129|333=>153|329=>154|330=>155|334=>156|335=>157|336=>120|344=>179|n=>n,fun|31=>32|9=>9|3=>3|46=>181|0=>0|51=>242|53=>244|4=>4|183=>236|182=>235|131=>65|5=>5|218=>264|222=>268|228=>289|229=>290|n=>n,fun|n=>n⟩
theorem Tryz.lays190:Go.Proofs.Lays.n190 Tryz.prog Tryz.lays190_ren:={
 mixed:=by kernel_rfl
 f125:=Tryz.func102.trans (congrArg some (by kernel_rfl))
 f128:=Tryz.func130.trans (congrArg some (by kernel_rfl))
 f129:=Tryz.func131.trans (congrArg some (by kernel_rfl))
 f190:=Tryz.func73.trans (congrArg some (by kernel_rfl))
 f258:=Tryz.func101.trans (congrArg some (by kernel_rfl))
 f302:=Tryz.func122.trans (congrArg some (by kernel_rfl))
 f303:=Tryz.func123.trans (congrArg some (by kernel_rfl))
 f304:=Tryz.func124.trans (congrArg some (by kernel_rfl))
 f305:=Tryz.func125.trans (congrArg some (by kernel_rfl))
 f306:=Tryz.func126.trans (congrArg some (by kernel_rfl))
 f307:=Tryz.func127.trans (congrArg some (by kernel_rfl))
 f308:=Tryz.func93.trans (congrArg some (by kernel_rfl))
 f309:=Tryz.func128.trans (congrArg some (by kernel_rfl))
 f310:=Tryz.func129.trans (congrArg some (by kernel_rfl))
 f329:=Tryz.func154.trans (congrArg some (by kernel_rfl))
 f330:=Tryz.func155.trans (congrArg some (by kernel_rfl))
 f333:=Tryz.func153.trans (congrArg some (by kernel_rfl))
 f334:=Tryz.func156.trans (congrArg some (by kernel_rfl))
 f335:=Tryz.func157.trans (congrArg some (by kernel_rfl))
 f336:=Tryz.func120.trans (congrArg some (by kernel_rfl))
 f344:=Tryz.func179.trans (congrArg some (by kernel_rfl))
 t0:=Tryz.underlying0
 a0:=Tryz.isAgg0
 z0:=Tryz.sizeOf0
 v0:=Tryz.zeroValue0
 t3:=Tryz.underlying3
 a3:=Tryz.isAgg3
 z3:=Tryz.sizeOf3
 v3:=Tryz.zeroValue3
 t4:=Tryz.underlying4
 a4:=Tryz.isAgg4
 z4:=Tryz.sizeOf4
 v4:=Tryz.zeroValue4
 t5:=Tryz.underlying5
 a5:=Tryz.isAgg5
 z5:=Tryz.sizeOf5
 v5:=Tryz.zeroValue5
 t9:=Tryz.underlying9
 a9:=Tryz.isAgg9
 z9:=Tryz.sizeOf9
 v9:=Tryz.zeroValue9
 t31:=Tryz.underlying32
 a31:=Tryz.isAgg32
 z31:=Tryz.sizeOf32
 v31:=Tryz.zeroValue32
 t46:=Tryz.underlying181
 a46:=Tryz.isAgg181
 z46:=Tryz.sizeOf181
 v46:=Tryz.zeroValue181
 t51:=Tryz.underlying242
 a51:=Tryz.isAgg242
 z51:=Tryz.sizeOf242
 v51:=Tryz.zeroValue242
 t53:=Tryz.underlying244
 a53:=Tryz.isAgg244
 z53:=Tryz.sizeOf244
 v53:=Tryz.zeroValue244
 t131:=Tryz.underlying65
 a131:=Tryz.isAgg65
 z131:=Tryz.sizeOf65
 v131:=Tryz.zeroValue65
 t182:=Tryz.underlying235
 a182:=Tryz.isAgg235
 z182:=Tryz.sizeOf235
 v182:=Tryz.zeroValue235
 t183:=Tryz.underlying236
 a183:=Tryz.isAgg236
 z183:=Tryz.sizeOf236
 v183:=Tryz.zeroValue236
 t218:=Tryz.underlying264
 a218:=Tryz.isAgg264
 z218:=Tryz.sizeOf264
 v218:=Tryz.zeroValue264
 t222:=Tryz.underlying268
 a222:=Tryz.isAgg268
 z222:=Tryz.sizeOf268
 v222:=Tryz.zeroValue268
 t228:=Tryz.underlying289
 a228:=Tryz.isAgg289
 z228:=Tryz.sizeOf289
 v228:=Tryz.zeroValue289
 t229:=Tryz.underlying290
 a229:=Tryz.isAgg290
 z229:=Tryz.sizeOf290
 v229:=Tryz.zeroValue290}
def Tryz.lays144_ren:Go.Shelf.Ren:=⟨fun|144=>116|143=>105|219=>137|217=>160|225=>161|224=>162|267=>163|266=>181|314=>182|n=>n,fun|9=>9|4=>4|3=>3|5=>5|46=>181|146=>293|51=>242|n=>n,fun|1=>2|n=>n⟩
theorem Tryz.lays144:Go.Proofs.Lays.n144 Tryz.prog Tryz.lays144_ren:={
 mixed:=by kernel_rfl
 f143:=Tryz.func105.trans (congrArg some (by kernel_rfl))
 f144:=Tryz.func116.trans (congrArg some (by kernel_rfl))
 f217:=Tryz.func160.trans (congrArg some (by kernel_rfl))
 f219:=Tryz.func137.trans (congrArg some (by kernel_rfl))
 f224:=Tryz.func162.trans (congrArg some (by kernel_rfl))
 f225:=Tryz.func161.trans (congrArg some (by kernel_rfl))
 f266:=Tryz.func181.trans (congrArg some (by kernel_rfl))
 f267:=Tryz.func163.trans (congrArg some (by kernel_rfl))
 f314:=Tryz.func182.trans (congrArg some (by kernel_rfl))
 t3:=Tryz.underlying3
 a3:=Tryz.isAgg3
 z3:=Tryz.sizeOf3
 v3:=Tryz.zeroValue3
 t4:=Tryz.underlying4
 a4:=Tryz.isAgg4
 z4:=Tryz.sizeOf4
 v4:=Tryz.zeroValue4
 t5:=Tryz.underlying5
 a5:=Tryz.isAgg5
 z5:=Tryz.sizeOf5
 v5:=Tryz.zeroValue5
 t9:=Tryz.underlying9
 a9:=Tryz.isAgg9
 z9:=Tryz.sizeOf9
 v9:=Tryz.zeroValue9
 t46:=Tryz.underlying181
 a46:=Tryz.isAgg181
 z46:=Tryz.sizeOf181
 v46:=Tryz.zeroValue181
 t51:=Tryz.underlying242
 a51:=Tryz.isAgg242
 z51:=Tryz.sizeOf242
 v51:=Tryz.zeroValue242
 t146:=Tryz.underlying293
 a146:=Tryz.isAgg293
 z146:=Tryz.sizeOf293
 v146:=Tryz.zeroValue293
 g1:=by kernel_rfl}
def Tryz.laysM171_ren:Go.Shelf.Ren:=⟨fun|171=>89|243=>117|246=>151|283=>174|284=>175|285=>176|286=>177|129=>131|317=>192|318=>193|319=>194|320=>195|337=>200|338=>201|n=>n,fun|3=>3|9=>9|2=>2|4=>4|171=>284|0=>0|53=>244|37=>223|5=>5|173=>286|212=>317|51=>242|20=>20|213=>318|46=>181|232=>322|233=>323|n=>n,fun|17=>8|18=>9|19=>10|n=>n⟩
theorem Tryz.laysM171:Go.Proofs.LaysM.n171 Tryz.prog Tryz.laysM171_ren:={
 mixed:=by kernel_rfl
 f129:=Tryz.func131.trans (congrArg some (by kernel_rfl))
 f171:=Tryz.func89.trans (congrArg some (by kernel_rfl))
 f243:=Tryz.func117.trans (congrArg some (by kernel_rfl))
 f246:=Tryz.func151.trans (congrArg some (by kernel_rfl))
 f283:=Tryz.func174.trans (congrArg some (by kernel_rfl))
 f284:=Tryz.func175.trans (congrArg some (by kernel_rfl))
 f285:=Tryz.func176.trans (congrArg some (by kernel_rfl))
 f286:=Tryz.func177.trans (congrArg some (by kernel_rfl))
 f317:=Tryz.func192.trans (congrArg some (by kernel_rfl))
 f318:=Tryz.func193.trans (congrArg some (by kernel_rfl))
 f319:=Tryz.func194.trans (congrArg some (by kernel_rfl))
 f320:=Tryz.func195.trans (congrArg some (by kernel_rfl))
 f337:=Tryz.func200.trans (congrArg some (by kernel_rfl))
 f338:=Tryz.func201.trans (congrArg some (by kernel_rfl))
 t0:=Tryz.underlying0
 a0:=Tryz.isAgg0
 z0:=Tryz.sizeOf0
 v0:=Tryz.zeroValue0
 t2:=Tryz.underlying2
 a2:=Tryz.isAgg2
 z2:=Tryz.sizeOf2
 v2:=Tryz.zeroValue2
 t3:=Tryz.underlying3
 a3:=Tryz.isAgg3
 z3:=Tryz.sizeOf3
 v3:=Tryz.zeroValue3
 t4:=Tryz.underlying4
 a4:=Tryz.isAgg4
 z4:=Tryz.sizeOf4
 v4:=Tryz.zeroValue4
 t5:=Tryz.underlying5
 a5:=Tryz.isAgg5
 z5:=Tryz.sizeOf5
 v5:=Tryz.zeroValue5
 t9:=Tryz.underlying9
 a9:=Tryz.isAgg9
 z9:=Tryz.sizeOf9
 v9:=Tryz.zeroValue9
 t20:=Tryz.underlying20
 a20:=Tryz.isAgg20
 z20:=Tryz.sizeOf20
 v20:=Tryz.zeroValue20
 t37:=Tryz.underlying223
 a37:=Tryz.isAgg223
 z37:=Tryz.sizeOf223
 v37:=Tryz.zeroValue223
 t46:=Tryz.underlying181
 a46:=Tryz.isAgg181
 z46:=Tryz.sizeOf181
 v46:=Tryz.zeroValue181
 t51:=Tryz.underlying242
 a51:=Tryz.isAgg242
 z51:=Tryz.sizeOf242
 v51:=Tryz.zeroValue242
 t53:=Tryz.underlying244
 a53:=Tryz.isAgg244
 z53:=Tryz.sizeOf244
 v53:=Tryz.zeroValue244
 t171:=Tryz.underlying284
 a171:=Tryz.isAgg284
 z171:=Tryz.sizeOf284
 v171:=Tryz.zeroValue284
 t173:=Tryz.underlying286
 a173:=Tryz.isAgg286
 z173:=Tryz.sizeOf286
 v173:=Tryz.zeroValue286
 t212:=Tryz.underlying317
 a212:=Tryz.isAgg317
 z212:=Tryz.sizeOf317
 v212:=Tryz.zeroValue317
 t213:=Tryz.underlying318
 a213:=Tryz.isAgg318
 z213:=Tryz.sizeOf318
 t232:=Tryz.underlying322
 a232:=Tryz.isAgg322
 z232:=Tryz.sizeOf322
 v232:=Tryz.zeroValue322
 t233:=Tryz.underlying323
 a233:=Tryz.isAgg323
 z233:=Tryz.sizeOf323
 v233:=Tryz.zeroValue323
 g17:=by kernel_rfl
 g18:=by kernel_rfl
 g19:=by kernel_rfl
 i0:=by kernel_rfl
 i2:=by kernel_rfl
 i3:=by kernel_rfl
 i4:=by kernel_rfl
 i5:=by kernel_rfl
 i9:=by kernel_rfl
 i20:=by kernel_rfl
 i37:=by kernel_rfl
 i46:=by kernel_rfl
 i51:=by kernel_rfl
 i53:=by kernel_rfl
 i171:=by kernel_rfl
 i173:=by kernel_rfl
 i212:=by kernel_rfl
 i232:=by kernel_rfl
 i233:=by kernel_rfl
 m17:=by kernel_rfl
 m18:=by kernel_rfl
 m19:=by kernel_rfl}
def Tryz.lays169_ren:Go.Shelf.Ren:=⟨fun|169=>119|n=>n,fun|70=>222|9=>9|0=>0|72=>225|37=>223|127=>263|3=>3|5=>5|n=>n,fun|n=>n⟩
theorem Tryz.lays169:Go.Proofs.Lays.n169 Tryz.prog Tryz.lays169_ren:={
 mixed:=by kernel_rfl
 f169:=Tryz.func119.trans (congrArg some (by kernel_rfl))
 t0:=Tryz.underlying0
 a0:=Tryz.isAgg0
 z0:=Tryz.sizeOf0
 v0:=Tryz.zeroValue0
 t3:=Tryz.underlying3
 a3:=Tryz.isAgg3
 z3:=Tryz.sizeOf3
 v3:=Tryz.zeroValue3
 t9:=Tryz.underlying9
 a9:=Tryz.isAgg9
 z9:=Tryz.sizeOf9
 v9:=Tryz.zeroValue9
 t37:=Tryz.underlying223
 a37:=Tryz.isAgg223
 z37:=Tryz.sizeOf223
 v37:=Tryz.zeroValue223
 t70:=Tryz.underlying222
 a70:=Tryz.isAgg222
 z70:=Tryz.sizeOf222
 v70:=Tryz.zeroValue222
 t72:=Tryz.underlying225
 a72:=Tryz.isAgg225
 z72:=Tryz.sizeOf225
 v72:=Tryz.zeroValue225
 t127:=Tryz.underlying263
 a127:=Tryz.isAgg263
 z127:=Tryz.sizeOf263
 v127:=Tryz.zeroValue263}
def Tryz.lays240_ren:Go.Shelf.Ren:=⟨fun|240=>152|276=>178|n=>n,fun|0=>0|4=>4|9=>9|20=>20|37=>223|70=>222|72=>225|164=>147|n=>n,fun|n=>n⟩
theorem Tryz.lays240:Go.Proofs.Lays.n240 Tryz.prog Tryz.lays240_ren:={
 mixed:=by kernel_rfl
 f240:=Tryz.func152.trans (congrArg some (by kernel_rfl))
 f276:=Tryz.func178.trans (congrArg some (by kernel_rfl))
 t0:=Tryz.underlying0
 a0:=Tryz.isAgg0
 z0:=Tryz.sizeOf0
 v0:=Tryz.zeroValue0
 t4:=Tryz.underlying4
 a4:=Tryz.isAgg4
 z4:=Tryz.sizeOf4
 v4:=Tryz.zeroValue4
 t9:=Tryz.underlying9
 a9:=Tryz.isAgg9
 z9:=Tryz.sizeOf9
 v9:=Tryz.zeroValue9
 t20:=Tryz.underlying20
 a20:=Tryz.isAgg20
 z20:=Tryz.sizeOf20
 v20:=Tryz.zeroValue20
 t70:=Tryz.underlying222
 a70:=Tryz.isAgg222
 z70:=Tryz.sizeOf222
 v70:=Tryz.zeroValue222
 t72:=Tryz.underlying225
 a72:=Tryz.isAgg225
 z72:=Tryz.sizeOf225
 v72:=Tryz.zeroValue225
 t164:=Tryz.underlying147
 a164:=Tryz.isAgg147
 z164:=Tryz.sizeOf147
 v164:=Tryz.zeroValue147}
theorem Tryz.Builder_X72_240:Builder.X72 Tryz.prog Tryz.lays240_ren where
 sizeBuilder:=by kernel_rfl
 liesBuilder:=by kernel_rfl
theorem Tryz.Builder_Extra_169:Builder.Extra Tryz.prog Tryz.lays169_ren:={
 sizeBuilder:=by kernel_rfl
 liesBuilder:=by kernel_rfl
 t5:=Tryz.underlying5
 a5:=Tryz.isAgg5
 z5:=Tryz.sizeOf5
 v5:=Tryz.zeroValue5
 infoByte:=by kernel_rfl
 cellsByte:=by kernel_rfl
 sizeByte:=by kernel_rfl
 neB5:=by decide}
end Go.Proofs
end
section
namespace Go.Proofs
open Go Go.RowKit Go.Extern.Stop Go.Stop Go.Extern
theorem tOc(v:Value)(w:World):(ReflectliteType.typeOf #[.iface 99 v]).run Tryz.prog w=.ok (.iface 185 (.agg #[.pointer (some ⟨12,99,none⟩)])) w:=by kernel_rfl
theorem tOs(v:Value)(w:World):(ReflectliteType.typeOf #[.iface 231 v]).run Tryz.prog w=.ok (.iface 185 (.agg #[.pointer (some ⟨12,231,none⟩)])) w:=by kernel_rfl
theorem tOj(v:Value)(w:World):(ReflectliteType.typeOf #[.iface 228 v]).run Tryz.prog w=.ok (.iface 185 (.agg #[.pointer (some ⟨12,228,none⟩)])) w:=by kernel_rfl
theorem aTc(w:World):(ReflectliteType.relation "AssignableTo" ReflectliteType.assignableTo #[.agg #[.pointer (some ⟨12,99,none⟩)],.iface 185 (.agg #[.pointer (some ⟨12,99,none⟩)])]).run Tryz.prog w=.ok (.bool true) w:=by kernel_rfl
theorem aTs(w:World):(ReflectliteType.relation "AssignableTo" ReflectliteType.assignableTo #[.agg #[.pointer (some ⟨12,231,none⟩)],.iface 185 (.agg #[.pointer (some ⟨12,99,none⟩)])]).run Tryz.prog w=.ok (.bool false) w:=by kernel_rfl
theorem aTj(w:World):(ReflectliteType.relation "AssignableTo" ReflectliteType.assignableTo #[.agg #[.pointer (some ⟨12,228,none⟩)],.iface 185 (.agg #[.pointer (some ⟨12,99,none⟩)])]).run Tryz.prog w=.ok (.bool false) w:=by kernel_rfl
theorem noAs(v:Value)(xT:TypeId)(w:World):(Instr.typeAssert (.iface 231 v) xT 189 true).run Tryz.prog w=.ok (.tuple #[.nilIface,.bool false]) w:=run_typeAssert_lacksB Tryz.underlying189 (by kernel_rfl) (by kernel_rfl) v xT w
theorem noUn(v:Value)(xT:TypeId)(w:World):(Instr.typeAssert (.iface 231 v) xT 192 true).run Tryz.prog w=.ok (.tuple #[.nilIface,.bool false]) w:=run_typeAssert_lacksB Tryz.underlying192 (by kernel_rfl) (by kernel_rfl) v xT w
theorem noUs(v:Value)(xT:TypeId)(w:World):(Instr.typeAssert (.iface 231 v) xT 193 true).run Tryz.prog w=.ok (.tuple #[.nilIface,.bool false]) w:=run_typeAssert_lacksB Tryz.underlying193 (by kernel_rfl) (by kernel_rfl) v xT w
theorem noAsJ(v:Value)(xT:TypeId)(w:World):(Instr.typeAssert (.iface 228 v) xT 189 true).run Tryz.prog w=.ok (.tuple #[.nilIface,.bool false]) w:=run_typeAssert_lacksB Tryz.underlying189 (by kernel_rfl) (by kernel_rfl) v xT w
theorem noUnJ(v:Value)(xT:TypeId)(w:World):(Instr.typeAssert (.iface 228 v) xT 192 true).run Tryz.prog w=.ok (.tuple #[.nilIface,.bool false]) w:=run_typeAssert_lacksB Tryz.underlying192 (by kernel_rfl) (by kernel_rfl) v xT w
theorem hasUsJ(v:Value)(xT:TypeId)(w:World):(Instr.typeAssert (.iface 228 v) xT 193 true).run Tryz.prog w=.ok (.tuple #[.iface 228 v,.bool true]) w:=run_typeAssert_hasB Tryz.underlying193 (by kernel_rfl) v xT w
theorem mAs(h:Value)(w:World):(Go.method 450 185 (.agg #[h]) "AssignableTo").run Tryz.prog w=.ok (231,.agg #[h]) w:=by kernel_rfl
theorem mUs(h:Value)(w:World):(Go.method 450 228 h "Unwrap").run Tryz.prog w=.ok (243,h) w:=by kernel_rfl
set_option maxRecDepth 100000 in
set_option maxHeartbeats 4000000 in
theorem as_no(e:Addr)(x:Value)(p q:Addr)(w:World):Calls Tryz.prog 71 #[.iface 231 (.pointer (some e)),x,.agg #[.pointer (some p),.pointer (some q),.int .u64 150],.iface 185 (.agg #[.pointer (some ⟨12,99,none⟩)])] w fun ev w'=>ev=.returned (.bool false)/\w'=w.alloc (.cells #[.pointer (some p),.pointer (some q),.int .u64 150] 150):=by
 have h76:= @run_callFunc_extern Tryz.prog 85 _ ReflectliteType.typeOf Tryz.func85 (by kernel_rfl) (by kernel_rfl) (by kernel_rfl) (by kernel_rfl)
 have h239:= @run_callFunc_extern Tryz.prog 231 _ (ReflectliteType.relation "AssignableTo" ReflectliteType.assignableTo) Tryz.func231 (by kernel_rfl) (by kernel_rfl) (by kernel_rfl) (by kernel_rfl)
 have t1:=tOs
 have t2:=aTs
 have t3:=mAs
 have n1:=noAs
 have n2:=noUn
 have n3:=noUs
 go_enter Tryz.func71,Tryz.ntmps71
 go_wp2
 refine wp_loop_rounds 1 ?_
 rw[rounds_succ]
 go_wp2
 go_ret
 exact⟨rfl,rfl⟩
theorem rlm(z:Sem Value)(f:TypeId->Addr->Nat->Nat->Sem Value)(v:Value):
  ReflectliteValue.method z f #[v]=(do match <-ReflectliteValue.parts v with |none=>z|some (t,a,fl)=>f t a fl (fl % 32)):=rfl
theorem partsP(a:Addr)(w:World):(ReflectliteValue.parts (.agg #[.pointer (some ⟨12,104,none⟩),.pointer (some a),.int .u64 150])).run Tryz.prog w=.ok (some (104,a,150)) w:=by kernel_rfl
theorem partsCa(a:Addr)(w:World):(ReflectliteValue.parts (.agg #[.pointer (some ⟨12,99,none⟩),.pointer (some a),.int .u64 406])).run Tryz.prog w=.ok (some (99,a,406)) w:=by kernel_rfl
theorem partsC(a:Addr)(w:World):(ReflectliteValue.parts (.agg #[.pointer (some ⟨12,99,none⟩),.pointer (some a),.int .u64 150])).run Tryz.prog w=.ok (some (99,a,150)) w:=by kernel_rfl
theorem elemOf(w:World):(Rtype.elem? 104).run Tryz.prog w=.ok (some 99) w:=by kernel_rfl
theorem mkC(p:Addr)(w:World):(ReflectliteValue.mk 99 p ReflectliteValue.flagAddr).run Tryz.prog w=.ok (.agg #[.pointer (some ⟨12,99,none⟩),.pointer (some p),.int .u64 406]) w:=by kernel_rfl
theorem elemV(a p:Addr)(W:World)(ha:W.cell? a=some (.pointer (some p))):
  (ReflectliteValue.method (ReflectliteValue.valueError "reflectlite.Value.Elem" 0) ReflectliteValue.elem #[.agg #[.pointer (some ⟨12,104,none⟩),.pointer (some a),.int .u64 150]]).run Tryz.prog W
   =.ok (.agg #[.pointer (some ⟨12,99,none⟩),.pointer (some p),.int .u64 406]) W:=by
 rw[rlm]
 simp only[Sem.run_bind,partsP,Result.andThen]
 simp[ReflectliteValue.elem,loadVar,isAgg,underlying,Tryz.underlying104,ha,Result.andThen,elemOf,mkC]
theorem valC(e:Addr)(w:World):(ReflectliteValue.unpack (.iface 99 (.pointer (some e)))).run Tryz.prog w
  =.ok (.agg #[.pointer (some ⟨12,99,none⟩),.pointer (some ⟨w.heap.size,0,none⟩),.int .u64 150]) (w.alloc (.cells #[.pointer (some e)] 99)):=by kernel_rfl
theorem rls(v x:Value):ReflectliteValue.set #[v,x]=(do
  let (some (dst,a,fl),some (src,b,_)):=(<-ReflectliteValue.parts v,<-ReflectliteValue.parts x)
   |unsupported (.noEntry "extern/(internal/reflectlite.Value).Set.zeroValue")
  if fl / ReflectliteValue.flagAddr % 2==0 then unsupported (.noEntry "extern/(internal/reflectlite.Value).Set.unaddressable")
  let val <-loadVar src b
  if <-Rtype.directlyAssignable dst src then storeVar dst a val
  else if <-Rtype.implements dst src then
   if (<-Rtype.kind src)==20 then
    match val with
    | .nilIface=>unsupported (.noEntry "extern/reflectlite: a nil value of one interface type handed on as a value of another")
    |_=>storeVar dst a val
   else storeVar dst a (.iface src val)
  else panicString ("reflectlite.Set: value of type " ++(<-Rtype.spelt src)++ " is not assignable to type " ++(<-Rtype.spelt dst))
  pure (.tuple #[])):=rfl
theorem directC(w:World):(Rtype.directlyAssignable 99 99).run Tryz.prog w=.ok true w:=by kernel_rfl
theorem setC(ta b e:Addr)(old:Value)(W:World)(hb:W.cell? b=some (.pointer (some e)))(ht:W.cell? ta=some old)(hf:W.frozen? ta=false):
  (ReflectliteValue.set #[.agg #[.pointer (some ⟨12,99,none⟩),.pointer (some ta),.int .u64 406],.agg #[.pointer (some ⟨12,99,none⟩),.pointer (some b),.int .u64 150]]).run Tryz.prog W
   =.ok (.tuple #[]) (W.setCell ta (.pointer (some e))):=by
 rw[rls]
 simp only[Sem.run_bind,partsCa,partsC,Result.andThen]
 simp[ReflectliteValue.flagAddr,loadVar,isAgg,underlying,Tryz.underlying99,hb,Result.andThen,directC,storeVar,Value.cells,storeCells,Addr.add]
 rw[run_store Tryz.prog W ta _ _ (by rfl)]
 simp[ht,hf]
def hitW(w:World)(q t e:Addr):World:=((w.alloc (.cells #[.pointer (some ⟨12,104,none⟩),.pointer (some q),.int .u64 150] 150)).alloc (.cells #[.pointer (some e)] 99)).setCell t (.pointer (some e))
set_option maxRecDepth 100000 in
set_option maxHeartbeats 4000000 in
theorem as_hit(e q t:Addr)(x old:Value)(w:World)(hq:w.cell? q=some (.pointer (some t)))(ht:w.cell? t=some old)(hf:w.frozen? t=false):Calls Tryz.prog 71 #[.iface 99 (.pointer (some e)),x,.agg #[.pointer (some ⟨12,104,none⟩),.pointer (some q),.int .u64 150],.iface 185 (.agg #[.pointer (some ⟨12,99,none⟩)])] w fun ev w'=>ev=.returned (.bool true)/\w'=hitW w q t e:=by
 have h76:= @run_callFunc_extern Tryz.prog 85 _ ReflectliteType.typeOf Tryz.func85 (by kernel_rfl) (by kernel_rfl) (by kernel_rfl) (by kernel_rfl)
 have h239:= @run_callFunc_extern Tryz.prog 231 _ (ReflectliteType.relation "AssignableTo" ReflectliteType.assignableTo) Tryz.func231 (by kernel_rfl) (by kernel_rfl) (by kernel_rfl) (by kernel_rfl)
 have h77:= @run_callFunc_extern Tryz.prog 96 _ (ReflectliteValue.method (ReflectliteValue.valueError "reflectlite.Value.Elem" 0) ReflectliteValue.elem) Tryz.func96 (by kernel_rfl) (by kernel_rfl) (by kernel_rfl) (by kernel_rfl)
 have h51:= @run_callFunc_extern Tryz.prog 68 _ (fun args=>ReflectliteValue.unpack (args.getD 0 (.tuple #[]))) Tryz.func68 (by kernel_rfl) (by kernel_rfl) (by kernel_rfl) (by kernel_rfl)
 have h78:= @run_callFunc_extern Tryz.prog 97 _ ReflectliteValue.set Tryz.func97 (by kernel_rfl) (by kernel_rfl) (by kernel_rfl) (by kernel_rfl)
 have t1:=tOc
 have t2:=aTc
 have t3:=mAs
 have lq:q.block<w.heap.size:=by
  rcases Nat.lt_or_ge q.block w.heap.size with h|h
  ·exact h
  ·simp[World.cell?,Array.getElem?_eq_none h] at hq
 have lt:t.block<w.heap.size:=by
  rcases Nat.lt_or_ge t.block w.heap.size with h|h
  ·exact h
  ·simp[World.cell?,Array.getElem?_eq_none h] at ht
 have v1:=elemV q t (w.alloc (.cells #[.pointer (some ⟨12,104,none⟩),.pointer (some q),.int .u64 150] 150)) (by rw[World.cell?_alloc_lt _ _ q lq];exact hq)
 have v2:=valC e
 have v3:=setC t ⟨w.heap.size+1,0,none⟩ e old ((w.alloc (.cells #[.pointer (some ⟨12,104,none⟩),.pointer (some q),.int .u64 150] 150)).alloc (.cells #[.pointer (some e)] 99))
  (by rw[World.cell?_alloc_at _ _ _ _ (by simp)];rfl)
  (by rw[World.cell?_alloc_lt _ _ t (by simp;omega),World.cell?_alloc_lt _ _ t lt];exact ht)
  (by rw[World.frozen?_alloc_old _ _ t (by simp;omega),World.frozen?_alloc_old _ _ t (Nat.ne_of_lt lt)];exact hf)
 go_enter Tryz.func71,Tryz.ntmps71
 go_wp2
 refine wp_loop_rounds 1 ?_
 rw[rounds_succ]
 go_wp2
 go_ret
 exact⟨rfl,rfl⟩
end Go.Proofs
end
section
namespace Go.Proofs
open Go Go.RowKit Go.Extern.Stop Go.Stop Go.Extern
theorem zEQ{w:World}{a:Addr}{v:Value}(h:w.cell? a=some v):a.block<w.heap.size:=by
 rcases Nat.lt_or_ge a.block w.heap.size with h1|h1
 ·exact h1
 ·simp[World.cell?,Array.getElem?_eq_none h1] at h
set_option maxRecDepth 100000 in
set_option maxHeartbeats 4000000 in
theorem unwrap(j:Addr)(v:Value)(w:World)(hj:w.cell? j=some v):Calls Tryz.prog 243 #[.pointer (some j)] w fun ev w'=>ev=.returned v/\w'=w:=by
 go_enter Tryz.func243,Tryz.ntmps243
 go_wp2
 go_ret
 exact⟨rfl,rfl⟩
set_option maxRecDepth 100000 in
set_option maxHeartbeats 4000000 in
theorem as_join(e1 e2 j q t:Addr)(bS k:Nat)(x old:Value)(w:World)(hj:w.cell? j=some (.slice (some ⟨bS,0,none⟩) 2 k))(h1:w.cell? ⟨bS,0,none⟩=some (.iface 231 (.pointer (some e1))))(h2:w.cell? ⟨bS,1,none⟩=some (.iface 99 (.pointer (some e2))))
  (hq:w.cell? q=some (.pointer (some t))) (ht:w.cell? t=some old) (hf:w.frozen? t=false):
  Calls Tryz.prog 71 #[.iface 228 (.pointer (some j)),x,.agg #[.pointer (some ⟨12,104,none⟩),.pointer (some q),.int .u64 150],.iface 185 (.agg #[.pointer (some ⟨12,99,none⟩)])] w fun ev w'=>ev=.returned (.bool true)/\w'=hitW ((w.alloc (.cells #[.pointer (some ⟨12,104,none⟩),.pointer (some q),.int .u64 150] 150)).alloc (.cells #[.pointer (some ⟨12,104,none⟩),.pointer (some q),.int .u64 150] 150)) q t e2:=by
 have h76:= @run_callFunc_extern Tryz.prog 85 _ ReflectliteType.typeOf Tryz.func85 (by kernel_rfl) (by kernel_rfl) (by kernel_rfl) (by kernel_rfl)
 have h239:= @run_callFunc_extern Tryz.prog 231 _ (ReflectliteType.relation "AssignableTo" ReflectliteType.assignableTo) Tryz.func231 (by kernel_rfl) (by kernel_rfl) (by kernel_rfl) (by kernel_rfl)
 have t1:=tOj
 have t2:=aTj
 have t3:=mAs
 have m1:=mUs
 have n1:=noAsJ
 have n2:=noUnJ
 have n3:=hasUsJ
 have lj:=zEQ hj
 have l1:bS<w.heap.size:=zEQ h1
 have l2:bS<w.heap.size:=zEQ h2
 have lq:=zEQ hq
 have lt:=zEQ ht
 have hj1:(w.alloc (.cells #[.pointer (some ⟨12,104,none⟩),.pointer (some q),.int .u64 150] 150)).cell? j=some (.slice (some ⟨bS,0,none⟩) 2 k):=by rw[World.cell?_alloc_lt _ _ j lj];exact hj
 have h11:(w.alloc (.cells #[.pointer (some ⟨12,104,none⟩),.pointer (some q),.int .u64 150] 150)).cell? ⟨bS,0,none⟩=some (.iface 231 (.pointer (some e1))):=by rw[World.cell?_alloc_lt _ _ ⟨bS,0,none⟩ l1];exact h1
 have h22:((w.alloc (.cells #[.pointer (some ⟨12,104,none⟩),.pointer (some q),.int .u64 150] 150)).alloc (.cells #[.pointer (some ⟨12,104,none⟩),.pointer (some q),.int .u64 150] 150)).cell? ⟨bS,1,none⟩=some (.iface 99 (.pointer (some e2))):=by rw[World.cell?_alloc_lt _ _ ⟨bS,1,none⟩ (by simp;omega),World.cell?_alloc_lt _ _ ⟨bS,1,none⟩ l2];exact h2
 have hq2:((w.alloc (.cells #[.pointer (some ⟨12,104,none⟩),.pointer (some q),.int .u64 150] 150)).alloc (.cells #[.pointer (some ⟨12,104,none⟩),.pointer (some q),.int .u64 150] 150)).cell? q=some (.pointer (some t)):=by rw[World.cell?_alloc_lt _ _ q (by simp;omega),World.cell?_alloc_lt _ _ q lq];exact hq
 have ht2:((w.alloc (.cells #[.pointer (some ⟨12,104,none⟩),.pointer (some q),.int .u64 150] 150)).alloc (.cells #[.pointer (some ⟨12,104,none⟩),.pointer (some q),.int .u64 150] 150)).cell? t=some old:=by rw[World.cell?_alloc_lt _ _ t (by simp;omega),World.cell?_alloc_lt _ _ t lt];exact ht
 have hf2:((w.alloc (.cells #[.pointer (some ⟨12,104,none⟩),.pointer (some q),.int .u64 150] 150)).alloc (.cells #[.pointer (some ⟨12,104,none⟩),.pointer (some q),.int .u64 150] 150)).frozen? t=false:=by rw[World.frozen?_alloc_old _ _ t (by simp;omega),World.frozen?_alloc_old _ _ t (Nat.ne_of_lt lt)];exact hf
 go_enter Tryz.func71,Tryz.ntmps71
 go_wp2
 refine wp_loop_rounds 1 ?_
 rw[rounds_succ]
 go_wp2_with (first|(go_at_call 243;refine(unwrap j _ _ hj1).mono ?_;rintro e w' ⟨rfl,rfl⟩))
 refine wp_loop_rounds 2 ?_
 rw[rounds_succ]
 go_wp2_with (go_at_call 71;refine(as_no e1 x ⟨12,104,none⟩ q _).mono ?_;rintro e w' ⟨rfl,rfl⟩)
 rw[rounds_succ]
 go_wp2_with (go_at_call 71;refine(as_hit e2 q t x old _ hq2 ht2 hf2).mono ?_;rintro e w' ⟨rfl,rfl⟩)
 go_ret
 exact⟨rfl,rfl⟩
end Go.Proofs
end
section
namespace Go.Proofs
open Go Go.RowKit Go.Extern.Stop Go.Stop Go.Extern
theorem As_nil(t:Value)(w:World):Calls Tryz.prog 50 #[.nilIface,t] w fun e w'=>e=.returned (.bool false)/\w'=w:=by
 go_enter Tryz.func50,Tryz.ntmps50
 go_wp2
 go_ret
 exact⟨rfl,rfl⟩
theorem valueOfP(t:Addr)(w:World):(ReflectliteValue.unpack (.iface 104 (.pointer (some t)))).run Tryz.prog w
  =.ok (.agg #[.pointer (some ⟨12,104,none⟩),.pointer (some ⟨w.heap.size,0,none⟩),.int .u64 150]) (w.alloc (.cells #[.pointer (some t)] 104)):=by kernel_rfl
theorem typeP(a:Addr)(w:World):(ReflectliteValue.methodAny (ReflectliteValue.valueError "reflectlite.Value.Type" 0) (fun t _ _ _=>ReflectliteType.toType t) #[.agg #[.pointer (some ⟨12,104,none⟩),.pointer (some a),.int .u64 150]]).run Tryz.prog w
  =.ok (.iface 185 (.agg #[.pointer (some ⟨12,104,none⟩)])) w:=by kernel_rfl
theorem mKind(h:Value)(w:World):(Go.method 450 185 (.agg #[h]) "Kind").run Tryz.prog w=.ok (218,h) w:=by kernel_rfl
theorem kindP(w:World):((ReflectliteType.abiMethod fun t=>(fun a:Nat=>Value.int IntKind.u8 (a:Int))<$>Rtype.kind t) #[.pointer (some ⟨12,104,none⟩)]).run Tryz.prog w=.ok (.int .u8 22) w:=by kernel_rfl
theorem kindC(w:World):((ReflectliteType.abiMethod fun t=>(fun a:Nat=>Value.int IntKind.u8 (a:Int))<$>Rtype.kind t) #[.pointer (some ⟨12,99,none⟩)]).run Tryz.prog w=.ok (.int .u8 22) w:=by kernel_rfl
theorem isNilP(a p:Addr)(W:World)(ha:W.cell? a=some (.pointer (some p))):
  (ReflectliteValue.method (ReflectliteValue.valueError "reflectlite.Value.IsNil" 0) ReflectliteValue.isNil #[.agg #[.pointer (some ⟨12,104,none⟩),.pointer (some a),.int .u64 150]]).run Tryz.prog W=.ok (.bool false) W:=by
 rw[rlm]
 simp only[Sem.run_bind,partsP,Result.andThen]
 simp[ReflectliteValue.isNil,loadVar,isAgg,underlying,Tryz.underlying104,ha,Result.andThen]
theorem mElem(h:Value)(w:World):(Go.method 450 185 (.agg #[h]) "Elem").run Tryz.prog w=.ok (233,.agg #[h]) w:=by kernel_rfl
theorem mImpl(h:Value)(w:World):(Go.method 450 185 (.agg #[h]) "Implements").run Tryz.prog w=.ok (234,.agg #[h]) w:=by kernel_rfl
theorem elemP(w:World):(ReflectliteType.method ReflectliteType.elem #[.agg #[.pointer (some ⟨12,104,none⟩)]]).run Tryz.prog w=.ok (.iface 185 (.agg #[.pointer (some ⟨12,99,none⟩)])) w:=by kernel_rfl
theorem implC(w:World):(ReflectliteType.relation "Implements" ReflectliteType.implements_ #[.agg #[.pointer (some ⟨12,99,none⟩)],.iface 185 (.agg #[.pointer (some ⟨12,102,none⟩)])]).run Tryz.prog w=.ok (.bool true) w:=by kernel_rfl
def asW(w:World)(t:Addr):World:=(w.alloc (.cells #[.pointer (some t)] 104)).alloc (.cells #[.pointer (some ⟨12,104,none⟩),.pointer (some ⟨w.heap.size,0,none⟩),.int .u64 150] 150)
set_option maxRecDepth 100000 in
set_option maxHeartbeats 4000000 in
theorem As_join(e1 e2 j t:Addr)(bS k:Nat)(old:Value)(w:World)(hg:w.cell? ⟨0,0,none⟩=some (.iface 185 (.agg #[.pointer (some ⟨12,102,none⟩)])))(hj:w.cell? j=some (.slice (some ⟨bS,0,none⟩) 2 k))(h1:w.cell? ⟨bS,0,none⟩=some (.iface 231 (.pointer (some e1))))(h2:w.cell? ⟨bS,1,none⟩=some (.iface 99 (.pointer (some e2))))
  (ht:w.cell? t=some old) (hf:w.frozen? t=false):
  Calls Tryz.prog 50 #[.iface 228 (.pointer (some j)),.iface 104 (.pointer (some t))] w fun ev w'=>ev=.returned (.bool true)/\w'=hitW (((asW w t).alloc (.cells #[.pointer (some ⟨12,104,none⟩),.pointer (some ⟨w.heap.size,0,none⟩),.int .u64 150] 150)).alloc (.cells #[.pointer (some ⟨12,104,none⟩),.pointer (some ⟨w.heap.size,0,none⟩),.int .u64 150] 150)) ⟨w.heap.size,0,none⟩ t e2:=by
 have h51:= @run_callFunc_extern Tryz.prog 68 _ (fun args=>ReflectliteValue.unpack (args.getD 0 (.tuple #[]))) Tryz.func68 (by kernel_rfl) (by kernel_rfl) (by kernel_rfl) (by kernel_rfl)
 have h52:= @run_callFunc_extern Tryz.prog 69 _ (ReflectliteValue.methodAny (ReflectliteValue.valueError "reflectlite.Value.Type" 0) (fun t _ _ _=>ReflectliteType.toType t)) Tryz.func69 (by kernel_rfl) (by kernel_rfl) (by kernel_rfl) (by kernel_rfl)
 have h53:= @run_callFunc_extern Tryz.prog 70 _ (ReflectliteValue.method (ReflectliteValue.valueError "reflectlite.Value.IsNil" 0) ReflectliteValue.isNil) Tryz.func70 (by kernel_rfl) (by kernel_rfl) (by kernel_rfl) (by kernel_rfl)
 have hki:= @run_callFunc_extern Tryz.prog 218 _ (ReflectliteType.abiMethod fun t=>do pure (.int .u8 (<-Rtype.kind t))) Tryz.func218 (by kernel_rfl) (by kernel_rfl) (by kernel_rfl) (by kernel_rfl)
 have hel:= @run_callFunc_extern Tryz.prog 233 _ (ReflectliteType.method ReflectliteType.elem) Tryz.func233 (by kernel_rfl) (by kernel_rfl) (by kernel_rfl) (by kernel_rfl)
 have him:= @run_callFunc_extern Tryz.prog 234 _ (ReflectliteType.relation "Implements" ReflectliteType.implements_) Tryz.func234 (by kernel_rfl) (by kernel_rfl) (by kernel_rfl) (by kernel_rfl)
 have f1:=valueOfP
 have f2:=typeP
 have f3:=mKind
 have f4:=mElem
 have f5:=mImpl
 have f6:=kindP
 have f7:=kindC
 have f8:=elemP
 have f9:=implC
 have l0:0<w.heap.size:=zEQ hg
 have lj:=zEQ hj
 have lS:bS<w.heap.size:=zEQ h1
 have lt:=zEQ ht
 have old2:∀(a:Addr) (v:Value),a.block<w.heap.size->w.cell? a=some v->(asW w t).cell? a=some v:=fun a v hl h=>by
  rw[asW,World.cell?_alloc_lt _ _ a (by simp;omega),World.cell?_alloc_lt _ _ a hl];exact h
 have n8:=isNilP ⟨w.heap.size,0,none⟩ t (asW w t) (by rw[asW,World.cell?_alloc_lt _ _ ⟨w.heap.size,0,none⟩ (by simp)];simp)
 have hg2:=old2 _ _ l0 hg
 have hj2:=old2 _ _ lj hj
 have h12:=old2 ⟨bS,0,none⟩ _ lS h1
 have h22:=old2 ⟨bS,1,none⟩ _ lS h2
 have ht2:=old2 _ _ lt ht
 have hq2:(asW w t).cell? ⟨w.heap.size,0,none⟩=some (.pointer (some t)):=by rw[asW,World.cell?_alloc_lt _ _ ⟨w.heap.size,0,none⟩ (by simp)];simp
 have hf2:(asW w t).frozen? t=false:=by rw[asW,World.frozen?_alloc_old _ _ t (by simp;omega),World.frozen?_alloc_old _ _ t (Nat.ne_of_lt lt)];exact hf
 have key:=as_join e1 e2 j ⟨w.heap.size,0,none⟩ t bS k (.iface 104 (.pointer (some t))) old (asW w t) hj2 h12 h22 hq2 ht2 hf2
 unfold asW at n8 hg2 key
 go_enter Tryz.func50,Tryz.ntmps50
 go_wp2_with (go_at_call 71;refine key.mono ?_;rintro e w' ⟨rfl,rfl⟩)
 go_ret
 exact⟨rfl,rfl⟩
end Go.Proofs
end
section
namespace Go.Proofs
open Go Go.Ab
open Go.RowKit (Below)
section
variable{N:Nat}{w0:World}
theorem s_as_nil{h:AHeap}{a:AVal}{G:GM}{argsV:Array Value}{w:World}{Q:AVal×AHeap->Prop}(hR:Rel Tryz.prog N w0 G h w)(hv:VsR Tryz.prog G [.nilIface,a] argsV.toList)(hq:Q (.bool false,h)):CallsIn (FR none) 0 Tryz.prog 50 argsV w (PostC Tryz.prog N w0 G h w Q):=by
 obtain⟨x,y,rfl,hx,hy⟩:=args2 hv
 have hx:x=.nilIface:=hx
 subst hx
 exact zGL hR (v:=.bool false) (cv:=.bool false) rfl hq (As_nil y w)
theorem zHs{G:GM}{h:AHeap}{w:World}(hR:Rel Tryz.prog N w0 G h w){b ver:Nat}{e:TypeId}{vs:List AVal}(hb:h.objs.get b=some (ver,.cells false e vs)):∃(gi:GI) (c:Array Value),G b=some gi/\gi.off=0/\w.heap[gi.blk]?=some (.cells c e (0,0))/\c.size=gi.size/\gi.elem=e/\vs.length<=gi.size/\VsR Tryz.prog G vs (c.toList.take vs.length)∧
  (∀i v,vs[i]?=some v->∃x,w.cell? ⟨gi.blk,i,none⟩=some x/\VR Tryz.prog G v x):=by
 obtain⟨gi,h1,ob,h2,c,t,fr,rfl,hf,hfit,hel,hl,hvs⟩:=hR.obj b _ _ hb
 obtain⟨hsz,hoff,ht,hfr⟩:=hf rfl
 subst ht;subst hfr
 rw[hoff,zlZ] at hvs
 refine⟨gi,c,h1,hoff,h2,hsz,hel,hl,hvs,fun i v hv=>?_⟩
 obtain⟨x,k1,k2⟩:=hvs.get hv
 have hi:i<vs.length:=(List.getElem?_eq_some_iff.1 hv).1
 refine⟨x,?_,k2⟩
 rw[List.getElem?_take,if_pos hi] at k1
 simp[World.cell?,h2]
 simpa using k1
theorem zDt{n:Nat}{w w':World}(b:Below n w w')(h:n<=w'.heap.size)(ob:Obj):Below n w (w'.alloc ob):=
 ⟨b.os,b.tape,b.output,Nat.le_trans b.size (by
  show w'.heap.size<=(w'.heap.push ob).size
  rw[Array.size_push];omega),fun k hk=>by
  rw[<-b.block k hk]
  show (w'.heap.push ob)[k]?=_
  rw[Array.getElem?_push,if_neg (by omega)]⟩
theorem size_alloc(w:World)(ob:Obj):w.heap.size<=(w.alloc ob).heap.size:=by
 show w.heap.size<=(w.heap.push ob).size
 rw[Array.size_push];omega
set_option maxHeartbeats 2000000 in
theorem s_as{h:AHeap}{bj vj be ve bw vw b1 b2:Nat}{vs:List AVal}(h1:h.objs.get bj=some (vj,.cells false 230 [.slice (some (be,0)) 2]))(h2:h.objs.get be=some (ve,.cells false 102 vs))(ht:vs.take 2=[.iface 231 (.ptr (some (b1,0))),.iface 99 (.ptr (some (b2,0)))])
  (h3:h.objs.get bw=some (vw,.cells false 99 [.ptr none])) (hN0:0<N) (he:w0.cell? ⟨0,0,none⟩=some (.iface 185 (.agg #[.pointer (some ⟨12,102,none⟩)])))
  {G:GM} {argsV:Array Value} {w:World} {Q:AVal×AHeap->Prop} (hR:Rel Tryz.prog N w0 G h w) (hv:VsR Tryz.prog G [.iface 228 (.ptr (some (bj,0))),.iface 104 (.ptr (some (bw,0)))] argsV.toList)
  (hq:Q (.bool true,zAT h bw (.cells false 99 [.ptr (some (b2,0))]))):CallsIn (FR none) 0 Tryz.prog 50 argsV w (PostC Tryz.prog N w0 G h w Q):=by
 obtain⟨x,y,rfl,⟨x',rfl,gj,hgj,rfl⟩,y',rfl,gw,hgw,rfl⟩:=args2 hv
 obtain⟨gj',cj,k1,k2,k3,_,_,_,_,k8⟩:=zHs hR h1
 obtain⟨ge,ce,l1,l2,l3,_,_,_,_,l8⟩:=zHs hR h2
 obtain⟨gw',cw,m1,m2,m3,m4,m5,m6,m7,m8⟩:=zHs hR h3
 have hgj':G bj=some gj:=hgj
 have hgw':G bw=some gw:=hgw
 rw[hgj'] at k1;cases k1
 rw[hgw'] at m1;cases m1
 obtain⟨xs,q1,gse,cap,hge,rfl,_⟩:=k8 0 _ rfl
 have hge':G be=some gse:=hge
 rw[l1] at hge';cases hge'
 have v0:vs[0]?=some (.iface 231 (.ptr (some (b1,0)))):=by have:=congrArg (fun l=>l[0]?) ht;simpa using this
 have v1:vs[1]?=some (.iface 99 (.ptr (some (b2,0)))):=by have:=congrArg (fun l=>l[1]?) ht;simpa using this
 obtain⟨y0,r1,z0,rfl,g1,hg1,rfl⟩:=l8 0 _ v0
 obtain⟨y1,r2,z1,rfl,g2,hg2,rfl⟩:=l8 1 _ v1
 obtain⟨yw,r3,hyw⟩:=m8 0 _ rfl
 have hyw:yw=.pointer none:=hyw
 subst hyw
 have hfz:w.frozen? ⟨gw.blk,0,none⟩=false:=zBb m3
 have hg0:w.cell? ⟨0,0,none⟩=some (.iface 185 (.agg #[.pointer (some ⟨12,102,none⟩)])):=by
  have:=hR.below.block 0 hN0
  simp only[World.cell?] at he ⊢
  rw[this];exact he
 have hNw:N<=gw.blk:=hR.own bw _ _ gw h3 hgw' rfl
 simp only[k2,m2,l2,Nat.add_zero,Nat.zero_add] at q1 ⊢
 refine callsIn_wide.2 ((As_join ⟨g1.blk,g1.off+0,none⟩ ⟨g2.blk,g2.off+0,none⟩ ⟨gj.blk,0,none⟩ ⟨gw.blk,0,none⟩ ge.blk cap (.pointer none) w hg0 q1 r1 r2 r3 hfz).mono fun e w' hp=>?_)
 obtain⟨rfl,rfl⟩:=hp
 unfold hitW
 generalize hwA:((((asW w ⟨gw.blk,0,none⟩).alloc _).alloc _).alloc _).alloc _=wA
 have hbel:Below w.heap.size w wA:=by
  subst hwA
  have b0:Below w.heap.size w w:=⟨rfl,rfl,rfl,Nat.le_refl _,fun _ _=>rfl⟩
  have c1:=zDt b0 (Nat.le_refl _)
  have c2:=fun o1 o2=>zDt (c1 o1) (size_alloc _ _) o2
  have c3:=fun o1 o2 o3=>zDt (c2 o1 o2) (Nat.le_trans (size_alloc _ _) (size_alloc _ _)) o3
  have c4:=fun o1 o2 o3 o4=>zDt (c3 o1 o2 o3) (Nat.le_trans (Nat.le_trans (size_alloc _ _) (size_alloc _ _)) (size_alloc _ _)) o4
  have c5:=fun o1 o2 o3 o4 o5=>zDt (c4 o1 o2 o3 o4) (Nat.le_trans (Nat.le_trans (Nat.le_trans (size_alloc _ _) (size_alloc _ _)) (size_alloc _ _)) (size_alloc _ _)) o5
  have c6:=fun o1 o2 o3 o4 o5 o6=>zDt (c5 o1 o2 o3 o4 o5) (Nat.le_trans (Nat.le_trans (Nat.le_trans (Nat.le_trans (size_alloc _ _) (size_alloc _ _)) (size_alloc _ _)) (size_alloc _ _)) (size_alloc _ _)) o6
  exact c6 _ _ _ _ _ _
 obtain⟨hR',hE'⟩:=hR.grown hbel
 have lw:gw.blk<w.heap.size:=zAt m3
 have hA:wA.heap[gw.blk]?=some (.cells cw 99 (0,0)):=(hbel.block _ lw).trans m3
 have hset:(wA.setCell ⟨gw.blk,0,none⟩ (.pointer (some ⟨g2.blk,g2.off+0,none⟩))).heap[gw.blk]?=some (.cells (cw.setIfInBounds 0 (.pointer (some ⟨g2.blk,g2.off+0,none⟩))) 99 (0,0)):=by
  show (wA.heap.modify gw.blk _)[gw.blk]?=_
  rw[Array.getElem?_modify];simp[hA]
 have hoth:∀k,k≠gw.blk->(wA.setCell ⟨gw.blk,0,none⟩ (.pointer (some ⟨g2.blk,g2.off+0,none⟩))).heap[k]?=wA.heap[k]?:=fun k hk=>by
  show (wA.heap.modify gw.blk _)[k]?=_
  rw[Array.getElem?_modify];simp[Ne.symm hk]
 have hput:=hR'.put (w':=wA.setCell ⟨gw.blk,0,none⟩ (.pointer (some ⟨g2.blk,g2.off+0,none⟩))) (o':=.cells false 99 [.ptr (some (b2,0))]) (ob':=.cells (cw.setIfInBounds 0 (.pointer (some ⟨g2.blk,g2.off+0,none⟩))) 99 (0,0)) h3 rfl rfl hgw' hset hoth
  ⟨rfl,rfl,rfl,by simp[World.setCell],fun k hk=>hoth k (by omega)⟩
  ⟨_,_,(0,0),rfl,fun _=>⟨by simp[m4],m2,rfl,rfl⟩,by simp[m2,m4],m5,by simpa using m6,by
   rw[m2,zlZ]
   have m6':1<=cw.size:=by rw[m4];simpa using m6
   have:(cw.setIfInBounds 0 (.pointer (some ⟨g2.blk,g2.off+0,none⟩))).toList.take 1=[.pointer (some ⟨g2.blk,g2.off+0,none⟩)]:=by
    rw[Array.toList_setIfInBounds]
    obtain⟨x0,r0,hl⟩:∃x r,cw.toList=x::r:=by
     have h0:0<cw.toList.length:=by rw[Array.length_toList];omega
     exact⟨_,_,(List.cons_head_tail (List.ne_nil_of_length_pos h0)).symm⟩
    rw[hl];rfl
   show VsR Tryz.prog G _ (List.take 1 _)
   rw[this]
   exact⟨_,_,rfl,⟨g2,hg2,rfl⟩,rfl⟩⟩
 exact⟨.bool true,_,G,.bool true,rfl,hq,hput.1,hE'.trans hput.2,rfl⟩
end
end Go.Proofs
end
section
namespace Go.Proofs
open Go Go.Ab Go.Ab.S
open Go.RowKit (Below)
theorem zLM:∀a b:List Nat,zOc a b=zKc a b
 |[],_=>rfl
 |_::_,[]=>rfl
 |x::a,y::b=>by
  rw[zOc,zKc,zLM a b]
  cases h:Nat.beq x y with
  |true=>rw[Nat.eq_of_beq_eq_true h];simp
  |false=>
   have:(x==y)=false:=by
    rw[beq_eq_false_iff_ne];rintro rfl;rw[Nat.beq_refl] at h;cases h
   rw[this];rfl
theorem inL_N:∀s t:List Nat,inL s t=inN s t
 |[],t=>by rw[inL,inN,zLM]
 |a::s,t=>by
  rw[inL,inN,zLM,inL_N s t]
  cases zKc t (a::s)<;>rfl
theorem zJG:∀(f n:Nat),n<10 ^ (f+1)->digF f n=zAh (Lib.decDigits n)
 |0,n,h=>by
  rw[Lib.decDigits,dif_pos (by omega),digF,Nat.mod_eq_of_lt (by omega)]
  simp only[zAh,List.map_cons,List.map_nil,UInt8.toNat_ofNat']
  rw[Nat.mod_eq_of_lt (by omega)]
 |f+1,n,h=>by
  rw[Lib.decDigits,digF]
  by_cases h10:n<10
  ·rw[dif_pos h10,if_pos h10]
   simp only[zAh,List.map_cons,List.map_nil,UInt8.toNat_ofNat']
   rw[Nat.mod_eq_of_lt (by omega)]
  ·rw[dif_neg h10,if_neg h10,zJG f (n / 10) (by rw[Nat.pow_succ] at h;omega)]
   simp only[zAh,List.map_append,List.map_cons,List.map_nil,UInt8.toNat_ofNat']
   rw[Nat.mod_eq_of_lt (a:=48+n % 10) (by omega)]
theorem itoa_eq{n:Int}(h0: -9223372036854775808<=n)(h1:n<=9223372036854775807):zAh (Lib.itoa n)=zAy n:=by
 unfold Lib.itoa zAy
 by_cases hn:n<0
 ·rw[if_pos hn,if_pos hn,digN,zJG 19 _ (by omega)];rfl
 ·rw[if_neg hn,if_neg hn,digN,zJG 19 _ (by omega)]
def zFf:List AVal->Option (List UInt8)
 |[]=>some []
 | .int .u8 (.ofNat x)::r=>(match Nat.blt x 256,zFf r with |true,some l=>some (UInt8.ofNat x::l)|_,_=>none)
 |_=>none
theorem zFo:∀{vs:List AVal} {l:List UInt8},zFf vs=some l->vs=l.map fun x=>AVal.int .u8 (x.toNat:Nat)
 |[],l,h=>by simp only[zFf,oI] at h;subst h;rfl
 |v::r,l,h=>by
  unfold zFf at h
  split at h
  ·rename_i heq;cases heq
  ·rename_i x r' heq
   cases heq
   split at h
   ·rename_i l' hx hl
    simp only[oI] at h
    subst h
    rw[zFo hl,List.map_cons,UInt8.toNat_ofNat',Nat.mod_eq_of_lt (Nat.blt_eq.mp hx)];rfl
   ·cases h
  ·cases h
theorem zHT:∀(l:List Nat),(∀x∈l,x<256)->∃b,zFf (l.map fun x=>AVal.int .u8 (x:Nat))=some b/\zAh b=l/\b.length=l.length
 |[],_=>⟨[],rfl,rfl,rfl⟩
 |x::l,h=>by
  obtain⟨b,h1,h2,h3⟩:=zHT l fun y hy=>h y (by simp[hy])
  have hx:=h x (by simp)
  refine⟨UInt8.ofNat x::b,?_,?_,by simp[h3]⟩
  ·rw[List.map_cons]
   show (match Nat.blt x 256,zFf _ with |true,some l=>some (UInt8.ofNat x::l)|_,_=>none)=_
   rw[h1,Nat.blt_eq.mpr hx]
  ·simp only[zAh,List.map_cons,UInt8.toNat_ofNat'] at h2 ⊢
   rw[h2,Nat.mod_eq_of_lt hx]
structure WOK(W:World):Prop where
 maxLen:∃m,W.cell? ⟨2,0,none⟩=some (.int .i64 m)
 space:TblOK Tryz.prog W.heap.size W 1 200 tabA
 pow:∀w,Below W.heap.size W w->Lib.TabIs Tryz.prog w "internal/strconv.uint64pow10" .u64 Lib.pow10Tab
 globs:Tryz.prog.globals.size<=W.heap.size
 err:W.cell? ⟨0,0,none⟩=some (.iface 185 (.agg #[.pointer (some ⟨12,102,none⟩)]))
theorem mixed:Tryz.prog.follows .mixedOrders=true:=by kernel_rfl
theorem zDd:Tryz.prog.globals.size=12:=by kernel_rfl
theorem zLy:Ab.Enters Tryz.prog 50:=⟨Tryz.f50,_,Tryz.func50,by kernel_rfl,rfl⟩
theorem zKJ:Ab.Enters Tryz.prog 116:=⟨Tryz.f116,_,Tryz.func116,by kernel_rfl,rfl⟩
theorem enters89:Ab.Enters Tryz.prog 89:=⟨Tryz.f89,_,Tryz.func89,by kernel_rfl,rfl⟩
theorem zKK:Ab.Enters Tryz.prog 152:=⟨Tryz.f152,_,Tryz.func152,by kernel_rfl,rfl⟩
theorem zNl:Ab.Enters Tryz.prog 119:=⟨Tryz.f119,_,Tryz.func119,by kernel_rfl,rfl⟩
theorem zJJ:Ab.Enters Tryz.prog 73:=⟨Tryz.f73,_,Tryz.func73,by kernel_rfl,rfl⟩
theorem enters18:Ab.Enters Tryz.prog 18:=⟨Tryz.f18,_,Tryz.func18,by kernel_rfl,rfl⟩
section
variable{W:World}(K:WOK W)
include K
theorem summ0_ok:SummOK Tryz.prog W.heap.size W zLc:=by
 intro f args h d hd
 unfold zLc at hd
 split at hd
 ·rename_i hf
  have hf:=Nat.eq_of_beq_eq_true hf
  subst hf
  split at hd
  ·rename_i s t
   split at hd
   ·rename_i hs
    have hs:=Nat.le_of_ble_eq_true hs
    simp only[oI] at hd
    subst hd
    refine⟨zKJ,fun G argsV w Q R hv hq=>?_⟩
    exact zIv Tryz.lays144 (w0:=W) K.maxLen (by have:=K.globs;rw[zDd] at this;show 2<_;omega) (by omega) R hv hq
   ·cases hd
  ·cases hd
 ·cases hd
end
def rdOf(s:List Nat):Option (Nat×List (TypeId×List AVal)):=
 match eqL s sA with
 |true=>some (3,osA)
 |false=>(match eqL s sB with
  |true=>some (2,osB)
  |false=>(match eqL s sC with
   |true=>some (3,osC)
   |false=>(match eqL s sD with
    |true=>some (2,osD)
    |false=>none)))
def zIH:List AVal->Option (List (List Nat))
 |[]=>some []
 | .str s::r=>(match zIH r with |some l=>some (s::l)|none=>none)
 |_=>none
theorem zGv:∀{vs:List AVal} {l:List (List Nat)},zIH vs=some l->vs=l.map AVal.str
 |[],l,h=>by simp only[zIH,oI] at h;subst h;rfl
 |v::r,l,h=>by
  unfold zIH at h
  split at h
  ·rename_i heq;cases heq
  ·rename_i s r' heq
   cases heq
   split at h
   ·rename_i l' hl
    simp only[oI] at h
    subst h
    rw[zGv hl];rfl
   ·cases h
  ·cases h
theorem zIy:∀l:List (List Nat),zIH (l.map AVal.str)=some l
 |[]=>rfl
 |s::l=>by
  rw[List.map_cons]
  show (match zIH (l.map AVal.str) with |some l=>some (s::l)|none=>none)=_
  rw[zIy l]
def asF(args:List AVal)(h:AHeap):Option (D (AVal×AHeap)):=match args with
 |[.nilIface,_]=>some (.ret (.bool false,h))
 |[.iface t1 (.ptr (some (bj,o1))),.iface t2 (.ptr (some (bw,o2)))]=>if t1=228/\o1=0/\t2=104/\o2=0 then (match h.objs.get bj,h.objs.get bw with
  |some (_,.cells false e1 [.slice (some (be,o3)) n]),some (_,.cells false e2 [.ptr none])=>if e1=230/\o3=0/\n=2/\e2=99 then (match h.objs.get be with
   |some (_,.cells false e3 vs)=>(match vs.take 2 with
    |[.iface t3 (.ptr (some (_,o4))),.iface t4 (.ptr (some (b2,o5)))]=>if e3=102/\t3=231/\o4=0/\t4=99/\o5=0 then some (.ret (.bool true,zAT h bw (.cells false 99 [.ptr (some (b2,0))]))) else none
    |_=>none)
   |_=>none) else none
  |_,_=>none) else none
 |_=>none
def zEL:FuncId->List AVal->AHeap->Option (D (AVal×AHeap)):=fun f args h=>
 if f=116 then (match args with
  |[.str s,.str t]=>if s.length<=2000 then some (.ret (.bool (inL s t),h)) else none
  |_=>none)
 else if f=89 then (match args with
  |[.int .i64 n]=>if -9223372036854775808<=n/\n<=9223372036854775807 then some (.ret (.str (zAy n),h)) else none
  |_=>none)
 else if f=152 then (match args with
  |[.ptr (some (b,0))]=>(match h.objs.get b with
   |some (_,.cells false e [.ptr none,s])=>if e=225/\Go.Ab.one s=true then some (.ret (.tuple [],zAT h b (.cells false 225 [.ptr (some (b,0)),s]))) else none
   |some (_,.cells false e [.ptr (some (c,0)),_])=>if e=225/\c=b then some (.ret (.tuple [],h)) else none
   |_=>none)
  |_=>none)
 else if f=119 then (match args with
  |[.ptr (some (b,0))]=>(match h.objs.get b with
   |some (_,.cells false _ [_,.slice (some (c,0)) n])=>(match h.objs.get c with
    |some (_,.cells false e vs)=>(match zFf (vs.take n) with
     |some l=>if e=5/\l≠[]/\l.length=n/\n<=1000000 then some (.ret (.str (zAh l),zCz h c)) else none
     |none=>none)
    |_=>none)
   |_=>none)
  |_=>none)
 else if f=18 then (match args with
  |[.str s]=>(match rdOf s with
   |some (n,os)=>some (.ret (mapV (h.next+ ·) (vR n),layH h.next os h))
   |none=>none)
  |_=>none)
 else if f=73 then (match args with
  |[.slice none n]=>if n=0 then some (.ret (.tuple [],h)) else none
  |[.slice0]=>some (.ret (.tuple [],h))
  |[.slice (some (b,0)) n]=>(match h.objs.get b with
   |some (_,.cells false e vs)=>(match zIH (vs.take n) with
    |some l=>if e=9/\l.length=n/\n<=2147483648/\(l.all fun s=>s.all fun c=>decide (c<256))=true then some (.ret (.tuple [],zAT h b (.cells false 9 ((zEK l).map AVal.str++vs.drop n)))) else none
    |none=>none)
   |_=>none)
  |_=>none)
 else if f=50 then asF args h
 else none
section
variable{W:World}(K:WOK W)
include K
theorem zJf{s:List Nat}{keep:List Nat}{n:Nat}{os:List (TypeId×List AVal)}(hk:keep.length=os.length)(hnd:keep.Nodup)(hpl:∀o∈os,zDN os.length o.2=true)(hv0:zGK os.length (vR n)=true)
  (he:((run (fnsP Tryz.prog) zLc 4000).call 18 [.str s] (tblH 1 200 tabA)).all (isAt keep (vR n) os)=true) {h:AHeap} {G:GM} {argsV:Array Value} {w:World} {Q:AVal×AHeap->Prop} (R:Rel Tryz.prog W.heap.size W G h w) (hv:VsR Tryz.prog G [.str s] argsV.toList) (hq:(D.ret (mapV (h.next+ ·) (vR n),layH h.next os h)).sat Q):
  CallsIn (FR none) 0 Tryz.prog 18 argsV w (PostC Tryz.prog W.heap.size W G h w Q):=
 summ_run mixed (fnsP_ok _) (summ0_ok K) K.space rfl hk hnd hpl hv0 he R hv hq
theorem summ1_ok:SummOK Tryz.prog W.heap.size W zEL:=by
 intro f args h d hd
 unfold zEL at hd
 split at hd
 ·rename_i hf
  subst hf
  split at hd
  ·split at hd
   ·simp only[oI] at hd
    subst hd
    refine⟨zKJ,fun G argsV w Q R hv hq=>?_⟩
    rw[D.sat_ret,inL_N] at hq
    exact zIv Tryz.lays144 (w0:=W) K.maxLen (by have:=K.globs;rw[zDd] at this;show 2<_;omega) (by omega) R hv hq
   ·cases hd
  ·cases hd
 split at hd
 ·rename_i hf
  subst hf
  split at hd
  ·split at hd
   ·rename_i n hn
    simp only[oI] at hd
    subst hd
    refine⟨enters89,fun G argsV w Q R hv hq=>?_⟩
    rw[D.sat_ret,<-itoa_eq hn.1 hn.2] at hq
    exact s_itoa Tryz.laysM171 n hn.1 hn.2 K.pow R hv hq
   ·cases hd
  ·cases hd
 split at hd
 ·rename_i hf
  subst hf
  split at hd
  ·rename_i b
   split at hd
   ·rename_i ver e s hb
    split at hd
    ·rename_i he
     obtain⟨rfl,hs⟩:=he
     simp only[oI] at hd
     subst hd
     exact⟨zKK,fun G argsV w Q R hv hq=>zJn Tryz.lays240 Tryz.Builder_X72_240 hs hb R hv hq⟩
    ·cases hd
   ·rename_i ver e c s hb
    split at hd
    ·rename_i he
     obtain⟨rfl,rfl⟩:=he
     simp only[oI] at hd
     subst hd
     exact⟨zKK,fun G argsV w Q R hv hq=>zKk (ro:=false) Tryz.lays240 Tryz.Builder_X72_240 hb R hv hq⟩
    ·cases hd
   ·cases hd
  ·cases hd
 split at hd
 ·rename_i hf
  subst hf
  split at hd
  ·rename_i b
   split at hd
   ·rename_i ver e x0 c n hb
    split at hd
    ·rename_i ver' e' vs hc
     split at hd
     ·rename_i l hl
      split at hd
      ·rename_i he
       obtain⟨rfl,h1,rfl,h3⟩:=he
       simp only[oI] at hd
       subst hd
       exact⟨zNl,fun G argsV w Q R hv hq=>s_string Tryz.lays169 Tryz.Builder_Extra_169 h1 hb hc (zFo hl) h3 R hv hq⟩
      ·cases hd
     ·cases hd
    ·cases hd
   ·cases hd
  ·cases hd
 split at hd
 ·rename_i hf
  subst hf
  split at hd
  ·rename_i s
   split at hd
   ·rename_i n os hr
    simp only[oI] at hd
    subst hd
    refine⟨enters18,fun G argsV w Q R hv hq=>?_⟩
    unfold rdOf at hr
    split at hr
    ·rename_i hs
     rw[zBB.1 hs] at hv
     simp only[oI,Prod.mk.injEq] at hr
     obtain⟨rfl,rfl⟩:=hr
     exact zJf K rfl (by decide) (by decide) (by decide) readA R hv hq
    split at hr
    ·rename_i hs
     rw[zBB.1 hs] at hv
     simp only[oI,Prod.mk.injEq] at hr
     obtain⟨rfl,rfl⟩:=hr
     exact zJf K rfl (by decide) (by decide) (by decide) readB R hv hq
    split at hr
    ·rename_i hs
     rw[zBB.1 hs] at hv
     simp only[oI,Prod.mk.injEq] at hr
     obtain⟨rfl,rfl⟩:=hr
     exact zJf K rfl (by decide) (by decide) (by decide) readC R hv hq
    split at hr
    ·rename_i hs
     rw[zBB.1 hs] at hv
     simp only[oI,Prod.mk.injEq] at hr
     obtain⟨rfl,rfl⟩:=hr
     exact zJf K rfl (by decide) (by decide) (by decide) readD R hv hq
    ·cases hr
   ·cases hd
  ·cases hd
 split at hd
 ·rename_i hf
  subst hf
  split at hd
  ·split at hd
   ·rename_i hn
    subst hn
    simp only[oI] at hd
    subst hd
    exact⟨zJJ,fun G argsV w Q R hv hq=>zID Tryz.lays190 (.inl rfl) R hv hq⟩
   ·cases hd
  ·simp only[oI] at hd
   subst hd
   exact⟨zJJ,fun G argsV w Q R hv hq=>zID Tryz.lays190 (.inr rfl) R hv hq⟩
  ·rename_i b n
   split at hd
   ·rename_i ver e vs hb
    split at hd
    ·rename_i l hl
     split at hd
     ·rename_i he
      obtain⟨rfl,rfl,h3,h4⟩:=he
      simp only[oI] at hd
      subst hd
      refine⟨zJJ,fun G argsV w Q R hv hq=>s_sort Tryz.lays190 (fun s hs c hc=>?_) h3 hb (zGv hl) R hv hq⟩
      exact of_decide_eq_true (List.all_eq_true.1 (List.all_eq_true.1 h4 s hs) c hc)
     ·cases hd
    ·cases hd
   ·cases hd
  ·cases hd
 split at hd
 ·rename_i hf
  subst hf
  unfold asF at hd
  split at hd
  ·simp only[oI] at hd
   subst hd
   exact⟨zLy,fun G argsV w Q R hv hq=>s_as_nil R hv hq⟩
  ·split at hd
   ·rename_i hc
    obtain⟨rfl,rfl,rfl,rfl⟩:=hc
    split at hd
    ·rename_i hb1 hb2
     split at hd
     ·rename_i hc2
      obtain⟨rfl,rfl,rfl,rfl⟩:=hc2
      split at hd
      ·rename_i hb3
       split at hd
       ·rename_i htk
        split at hd
        ·rename_i hc3
         obtain⟨rfl,rfl,rfl,rfl,rfl⟩:=hc3
         simp only[oI] at hd
         subst hd
         exact⟨zLy,fun G argsV w Q R hv hq=>s_as hb1 hb3 htk hb2 (by have:=K.globs;rw[zDd] at this;omega) K.err R hv hq⟩
        ·cases hd
       ·cases hd
      ·cases hd
     ·cases hd
    ·cases hd
   ·cases hd
  ·cases hd
 ·cases hd
end
end Go.Proofs
end
section
namespace Go.Proofs
open Go Go.Ab Go.Ab.S
theorem hasTab:Has tab zEL where
 contains:=fun s t h hs=>by
  unfold zEL
  rw[if_pos rfl]
  simp only[hs,if_true]
 itoa:=fun n h h0 h1=>by
  unfold zEL
  rw[if_neg (by decide),if_pos rfl]
  simp only[h0,h1,and_self,if_true]
 checkNew:=fun b ver s h hb hs=>by
  unfold zEL
  rw[if_neg (by decide),if_neg (by decide),if_pos rfl]
  simp only[hb,hs,and_self,if_true]
 checkOld:=fun b ver s h hb=>by
  unfold zEL
  rw[if_neg (by decide),if_neg (by decide),if_pos rfl]
  simp only[hb,and_self,if_true]
 text:=fun b ver p c ver' vs l h hb hc ht hn hl hs=>by
  obtain⟨bs,h1,h2,h3⟩:=zHT l hl
  unfold zEL
  rw[if_neg (by decide),if_neg (by decide),if_neg (by decide),if_pos rfl]
  have hne:bs≠[]:=by rintro rfl;simp at h3;exact hn (by simpa using h3.symm)
  simp only[hb,hc,ht,h1]
  rw[if_pos ⟨trivial,hne,h3,hs⟩,h2]
 funs:=fun _ _ h=>h
 other:=fun f fn hf a h=>by
  unfold zEL
  by_cases h1:f=116
  ·subst h1;cases hf
  by_cases h2:f=89
  ·subst h2;cases hf
  by_cases h3:f=152
  ·subst h3;cases hf
  by_cases h4:f=119
  ·subst h4;cases hf
  by_cases h5:f=18
  ·subst h5;cases hf
  by_cases h6:f=73
  ·subst h6;cases hf
  by_cases h7:f=50
  ·subst h7;cases hf
  rw[if_neg h1,if_neg h2,if_neg h3,if_neg h4,if_neg h5,if_neg h6,if_neg h7]
theorem zEo(n:Nat):∀(os:List (TypeId×List AVal)) {h0 h:AHeap},Grow h0 h->Grow h0 (layH n os h)
 |[],_,_,g=>g
 |(e,vs)::r,_,_,g=>by rw[layH];exact zEo n r (g.new _)
theorem zNL{h:AHeap}{b ver:Nat}{ro:Bool}{e:TypeId}{vs:List AVal}{sz n:Nat}{xs:List (List AVal)}(hb:h.objs.get b=some (ver,.cells ro e vs))(hn:n=xs.length)(hx:∀x∈xs,x.length=sz)(hv:vs=xs.flatten):SlAt h sz (.slice (some (b,0)) n) xs:=by
 subst hn;subst hv
 refine⟨rfl,fun i x hi=>?_⟩
 have hil:=(List.getElem?_eq_some_iff.1 hi).1
 have hxl:=hx x (List.mem_of_getElem? hi)
 refine⟨hxl,b,0+i*sz,ver,ro,e,_,by simp[slA,hil],hb,?_⟩
 clear hb
 induction xs generalizing i with
 |nil=>simp at hi
 |cons y xs ih=>
  cases i with
  |zero=>
   simp only[List.getElem?_cons_zero,oI] at hi
   subst hi
   simp only[Nat.zero_mul,Nat.add_zero,zlZ,List.flatten_cons]
   rw[List.take_append_of_le_length (by omega),List.take_of_length_le (by omega)]
  |succ i=>
   have hy:=hx y (by simp)
   have:=ih (fun x hx'=>hx x (by simp[hx'])) i (by simpa using hi) (by simpa using hil)
   rw[<-this,List.flatten_cons]
   have he:0+(i+1)*sz=y.length+(0+i*sz):=by rw[hy,Nat.add_mul];omega
   rw[he,List.drop_append,List.drop_eq_nil_of_le (by omega)]
   simp
theorem sl_nil(h:AHeap)(sz:Nat):SlAt h sz (.slice none 0) []:=⟨rfl,fun i x hx=>by simp at hx⟩
theorem zJO{h:AHeap}{b ver:Nat}{ro:Bool}{e:TypeId}{n:Nat}{l:List Int}(hb:h.objs.get b=some (ver,.cells ro e (l.map fun k=>.int .i64 k)))(hn:n=l.length):IntsAt h (.slice (some (b,0)) n) l:=by
 refine zNL hb (by simp[hn]) (fun x hx=>?_) ?_
 ·obtain⟨k,_,rfl⟩:=List.mem_map.1 hx;rfl
 ·clear hb hn;induction l with
  |nil=>rfl
  |cons a l ih=>rw[List.map_cons,List.map_cons,List.flatten_cons,<-ih];rfl
theorem zOw{h:AHeap}{b ver:Nat}{ro:Bool}{e:TypeId}{n:Nat}{l:List (List Nat)}(hb:h.objs.get b=some (ver,.cells ro e (l.map fun k=>.str k)))(hn:n=l.length):StrsAt h (.slice (some (b,0)) n) l:=by
 refine zNL hb (by simp[hn]) (fun x hx=>?_) ?_
 ·obtain⟨k,_,rfl⟩:=List.mem_map.1 hx;rfl
 ·clear hb hn;induction l with
  |nil=>rfl
  |cons a l ih=>rw[List.map_cons,List.map_cons,List.flatten_cons,<-ih];rfl
theorem nodes3{h:AHeap}{v:AVal}{c1 c2 c3:List AVal}{n1 n2 n3:Ab.Node}(hs:SlAt h 5 v [c1,c2,c3])(h1:NodeAt h c1 n1)(h2:NodeAt h c2 n2)(h3:NodeAt h c3 n3):NodesAt h v [n1,n2,n3]:=by
 refine⟨_,hs,rfl,fun i n c hn hc=>?_⟩
 match i with
 |0=>cases hn;cases hc;exact h1
 |1=>cases hn;cases hc;exact h2
 |2=>cases hn;cases hc;exact h3
 |i+3=>simp at hn
theorem nodes2{h:AHeap}{v:AVal}{c1 c2:List AVal}{n1 n2:Ab.Node}(hs:SlAt h 5 v [c1,c2])(h1:NodeAt h c1 n1)(h2:NodeAt h c2 n2):NodesAt h v [n1,n2]:=by
 refine⟨_,hs,rfl,fun i n c hn hc=>?_⟩
 match i with
 |0=>cases hn;cases hc;exact h1
 |1=>cases hn;cases hc;exact h2
 |i+2=>simp at hn
theorem nilI(h:AHeap):IntsAt h (.slice none 0) []:=sl_nil h 1
theorem nilS(h:AHeap):StrsAt h (.slice none 0) []:=sl_nil h 1
theorem zHL(h:AHeap):NodeAt h [.int .i64 2,.str [105,110,116],.slice none 0,.slice none 0,.bool false] intN:=⟨_,_,rfl,nilI h,nilS h⟩
theorem node_v(h:AHeap):NodeAt h [.int .i64 1,.str [],.slice none 0,.slice none 0,.bool false] vN:=⟨_,_,rfl,nilI h,nilS h⟩
theorem five{c1 c2 c3:List AVal}(h1:c1.length=5)(h2:c2.length=5)(h3:c3.length=5):∀x∈[c1,c2,c3],x.length=5:=by
 intro x hx
 simp only[List.mem_cons,List.not_mem_nil,or_false] at hx
 rcases hx with rfl|rfl|rfl<;>assumption
theorem five2{c1 c2:List AVal}(h1:c1.length=5)(h2:c2.length=5):∀x∈[c1,c2],x.length=5:=by
 intro x hx
 simp only[List.mem_cons,List.not_mem_nil,or_false] at hx
 rcases hx with rfl|rfl<;>assumption
theorem readGA(h:AHeap):GraphAt (layH h.next osA h) (.agg [.slice (some (h.next+0,0)) 3,.int .i64 0]) gA:=
 ⟨_,rfl,nodes3 (c1:=[.int .i64 2,.str [45,62],.slice (some (h.next+1,0)) 2,.slice none 0,.bool false]) (zNL (zCP h.next osA h 0 34 _ rfl) rfl (five rfl rfl rfl) rfl) ⟨_,_,rfl,zJO (l:=[1,2]) (zCP h.next osA h 1 3 _ rfl) rfl,nilS _⟩ (zHL _) (zHL _)⟩
theorem readGB(h:AHeap):GraphAt (layH h.next osB h) (.agg [.slice (some (h.next+0,0)) 2,.int .i64 0]) gB:=
 ⟨_,rfl,nodes2 (c1:=[.int .i64 2,.str [45,62],.slice (some (h.next+1,0)) 2,.slice none 0,.bool false]) (zNL (zCP h.next osB h 0 34 _ rfl) rfl (five2 rfl rfl) rfl) ⟨_,_,rfl,zJO (l:=[1,1]) (zCP h.next osB h 1 3 _ rfl) rfl,nilS _⟩ (node_v _)⟩
theorem readGC(h:AHeap):GraphAt (layH h.next osC h) (.agg [.slice (some (h.next+0,0)) 3,.int .i64 0]) gC:=
 ⟨_,rfl,nodes3 (c1:=[.int .i64 3,.str [],.slice (some (h.next+1,0)) 2,.slice (some (h.next+2,0)) 2,.bool false]) (zNL (zCP h.next osC h 0 34 _ rfl) rfl (five rfl rfl rfl) rfl) ⟨_,_,rfl,zJO (l:=[1,2]) (zCP h.next osC h 1 3 _ rfl) rfl,zOw (l:=[[109],[110]]) (zCP h.next osC h 2 9 _ rfl) rfl⟩ (zHL _) (zHL _)⟩
theorem readGD(h:AHeap):GraphAt (layH h.next osD h) (.agg [.slice (some (h.next+0,0)) 2,.int .i64 0]) gD:=
 ⟨_,rfl,nodes2 (c1:=[.int .i64 3,.str [],.slice (some (h.next+1,0)) 1,.slice (some (h.next+2,0)) 1,.bool true]) (zNL (zCP h.next osD h 0 34 _ rfl) rfl (five2 rfl rfl) rfl) ⟨_,_,rfl,zJO (l:=[1]) (zCP h.next osD h 1 3 _ rfl) rfl,zOw (l:=[[109]]) (zCP h.next osD h 2 9 _ rfl) rfl⟩ (node_v _)⟩
theorem zFN(s:List Nat)(h:AHeap){n:Nat}{os:List (TypeId×List AVal)}(hr:rdOf s=some (n,os)):zEL 18 [.str s] h=some (.ret (.tuple [.agg [.slice (some (h.next+0,0)) n,.int .i64 0],.int .i64 0],layH h.next os h)):=by
 unfold zEL
 rw[if_neg (by decide),if_neg (by decide),if_neg (by decide),if_neg (by decide),if_pos rfl]
 dsimp only
 rw[hr];rfl
theorem hasRead:HasRead zEL:=by
 refine⟨fun s G hm h hw=>?_⟩
 simp only[List.mem_cons,Prod.mk.injEq,List.not_mem_nil,or_false] at hm
 rcases hm with⟨rfl,rfl⟩|⟨rfl,rfl⟩|⟨rfl,rfl⟩|⟨rfl,rfl⟩
 ·exact⟨_,_,zFN _ h rfl,readGA h,zEo _ _ (Grow.refl hw)⟩
 ·exact⟨_,_,zFN _ h rfl,readGB h,zEo _ _ (Grow.refl hw)⟩
 ·exact⟨_,_,zFN _ h rfl,readGC h,zEo _ _ (Grow.refl hw)⟩
 ·exact⟨_,_,zFN _ h rfl,readGD h,zEo _ _ (Grow.refl hw)⟩
theorem hasSort:HasSort zEL where
 none:=fun h=>by
  unfold zEL
  rw[if_neg (by decide),if_neg (by decide),if_neg (by decide),if_neg (by decide),if_neg (by decide),if_pos rfl]
  simp
 zero:=fun h=>by
  unfold zEL
  rw[if_neg (by decide),if_neg (by decide),if_neg (by decide),if_neg (by decide),if_neg (by decide),if_pos rfl]
 some:=fun l hl hn h b ver vs hw hb hle ht=>by
  unfold zEL
  rw[if_neg (by decide),if_neg (by decide),if_neg (by decide),if_neg (by decide),if_neg (by decide),if_pos rfl]
  simp only[hb,ht,zIy]
  have h31:(2:Nat) ^ 31=2147483648:=by decide
  rw[if_pos ⟨trivial,trivial,by omega,List.all_eq_true.2 fun s hs=>List.all_eq_true.2 fun c hc=>decide_eq_true (hl s hs c hc)⟩]
theorem hasAs:HasAs zEL where
 no:=fun x h=>by
  unfold zEL
  rw[if_neg (by decide),if_neg (by decide),if_neg (by decide),if_neg (by decide),if_neg (by decide),if_neg (by decide),if_pos rfl]
  rfl
 yes:=fun r h bw vw w hE hb=>by
  obtain⟨bj,vj,be,ve,vs,b1,b2,rfl,h1,h2,h3⟩:=hE
  refine⟨some (b2,0),?_⟩
  unfold zEL
  rw[if_neg (by decide),if_neg (by decide),if_neg (by decide),if_neg (by decide),if_neg (by decide),if_neg (by decide),if_pos rfl]
  unfold asF
  dsimp only
  rw[if_pos ⟨rfl,rfl,rfl,rfl⟩]
  simp only[h1,hb]
  rw[if_pos (by simp)]
  simp only[h2,h3]
  rw[if_pos (by simp)]
end Go.Proofs
end
