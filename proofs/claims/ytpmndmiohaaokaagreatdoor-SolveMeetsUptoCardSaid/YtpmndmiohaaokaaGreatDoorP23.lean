import Derived.Test.YtpmndmiohaaokaaGreatDoorP04
import Derived.Test.YtpmndmiohaaokaaGreatDoorP08
import Derived.Test.YtpmndmiohaaokaaGreatDoorP22
import Derived.Shelf.Sort.Plain
import Derived.Sort.OwnSorted
import Derived.Shelf.Slices.In.SortNone
import Derived.KernelRfl
import Derived.Test.YtpmndmiohaaokaaGreatDoorProg
import Derived.Shelf.Strings.Search3
import Derived.Shelf.Strings.BuilderK
import Derived.Shelf.Strings.BuilderF
import Derived.Shelf.Strconv.Itoa3
import Derived.Shelf.LaysM
import Derived.Ground.NamesProg
import Derived.Shelf.Strings.Builder1
import Derived.WalkKit
import Derived.LaidEql
import Derived.Stop.Asserts
import Derived.RowKitTokens
/-
  Part 23 of the proof.
-/
set_option linter.all false
section
namespace Go.Ab
open Go Go.Proofs Go.Shelf Go.Sort Go.RowKit
theorem zRa:∀x y:List UInt8,zAn (zAi x) (zAi y)=decide (x<y)
 |_,[]=>by simp[zAi,zAn]
 |[],_::_=>by simp[zAi,zAn]
 |a::x,b::y=>by
  have ih:=zRa x y;simp only[zAi,List.map_cons,zAn] at ih ⊢;rw[ih];have h1:Nat.blt a.toNat b.toNat=decide (a<b):=by rw[Bool.eq_iff_iff,Nat.blt_eq,decide_eq_true_eq];exact Iff.rfl
  have h2:Nat.beq a.toNat b.toNat=decide (a=b):=by rw[Bool.eq_iff_iff,Nat.beq_eq,decide_eq_true_eq];exact UInt8.toNat_inj
  rw[h1,h2];by_cases aa:a<b
  ·simp[aa,List.cons_lt_cons_iff]
  ·by_cases he:a=b
   ·simp[he,List.cons_lt_cons_iff]
   ·simp[aa,he,List.cons_lt_cons_iff]
theorem le_u(x y:List UInt8):decide (x<=y)= !zAn (zAi y) (zAi x):=by rw[zRa,Bool.eq_iff_iff];simp
theorem zTs(ss:List (List UInt8)):(ss.mergeSort fun x y=>decide (x<=y)).map zAi=(ss.map zAi).mergeSort fun x y=> !zAn y x:=
 List.map_mergeSort fun a _ b _=>le_u a b
theorem zMJ:∀l:List Nat,(∀x∈l,x<256)->∃b:List UInt8,zAi b=l
 |[],_=>⟨[],rfl⟩
 |x::l,h=>by obtain⟨b,hb⟩:=zMJ l fun y hy=>h y (by simp[hy]);exact⟨UInt8.ofNat x::b,by simp only[zAi,List.map_cons] at hb ⊢;rw[hb,UInt8.toNat_ofNat',Nat.mod_eq_of_lt (h x (by simp))]⟩
theorem zMx:∀l:List (List Nat),(∀s∈l,∀c∈s,c<256)->∃b:List (List UInt8),b.map zAi=l
 |[],_=>⟨[],rfl⟩
 |x::l,h=>by obtain⟨b,hb⟩:=zMx l fun y hy=>h y (by simp[hy]);obtain⟨c,hc⟩:=zMJ x (h x (by simp));exact⟨c::b,by rw[List.map_cons,hb,hc]⟩
section
variable{P:Program}{ρ:Ren}{N:Nat}{w0:World}
theorem zIQ(L:Lays.n190 P ρ){h:AHeap}{G:GM}{argsV:Array Value}{w:World}{Q:AVal×AHeap->Prop}{v:AVal}(hv0:v=.slice none 0\/v=.slice0)(hR:Rel P N w0 G h w)(hv:VsR P G [v] argsV.toList)
  (hq:Q (.tuple [],h)):CallsIn (FR none) 0 P (ρ.f 190) argsV w (PostC P N w0 G h w Q):=by
 obtain⟨x,rfl,h1⟩:=zNE hv;obtain⟨p,cap,rfl⟩:∃p cap,x=.slice p 0 cap:=by
  rcases hv0 with rfl|rfl
  ·exact⟨none,0,(show (0:Nat)=0/\x=.slice none 0 0 from h1).2⟩
  ·obtain⟨a,h1⟩:=(show ∃a:Addr,x=.slice (some a) 0 0 from h1);exact⟨some a,0,h1⟩
 exact zGY hR (v:=.tuple []) ⟨#[],rfl,rfl⟩ hq (Any.slices_Sort_string_none L p cap w)
theorem zTr(L:Lays.n190 P ρ){h:AHeap}{b ver:Nat}{vs:List AVal}{l:List (List Nat)}(hl:∀s∈l,∀c∈s,c<256)(hn:l.length<=2147483648)(hb:h.objs.get b=some (ver,.cells false (ρ.t 9) vs))(hvl:vs.take l.length=l.map AVal.str)
  {G:GM} {argsV:Array Value} {w:World} {Q:AVal×AHeap->Prop} (hR:Rel P N w0 G h w) (hv:VsR P G [.slice (some (b,0)) l.length] argsV.toList)
  (hq:Q (.tuple [],zAX h b (.cells false (ρ.t 9) (((l.mergeSort fun x y=> !zAn y x).map AVal.str)++vs.drop l.length)))):CallsIn (FR none) 0 P (ρ.f 190) argsV w (PostC P N w0 G h w Q):=by
 obtain⟨x,rfl,gi,cap,hg,rfl,hcap,hcap2⟩:=zNE hv;obtain⟨gi',h1,ob,h2,c,t,fr,rfl,hf,hfit,hel,hlb,hvb⟩:=hR.obj b _ _ hb;have hg':G b=some gi:=hg;rw[hg'] at h1;cases h1;obtain⟨hsz,hoff,ht,hfr⟩:=hf rfl;subst ht;subst hfr;rw[hoff,zlZ] at hvb;obtain⟨ss,rfl⟩:=zMx l hl;have hll:ss.length<=vs.length:=by have:=congrArg List.length hvl;simp only[List.length_take,List.length_map] at this;omega
 have htake:c.toList.take ss.length=ss.map encStr:=by
  apply List.ext_getElem?;intro j;by_cases hj:j<ss.length
  ·have hvj:vs[j]?=some (.str (zAi ss[j])):=by
    have:=congrArg (fun q=>q[j]?) hvl;simp only[List.getElem?_take,List.length_map,if_pos hj,zgM,zgG hj,Option.map_some] at this;exact this
   obtain⟨cv,r1,r2⟩:=hvb.get hvj;obtain⟨ba,rfl,r3⟩:=(show ∃b:ByteArray,cv=.string b/\b.data.toList.map UInt8.toNat=zAi ss[j] from r2);rw[List.getElem?_take,if_pos (by omega)] at r1;rw[List.getElem?_take_of_lt hj,r1,zgM,zgG hj,Option.map_some];have:ba.data.toList=ss[j]:=zJC r3;show some (Value.string ba)=some (Value.string ⟨ss[j].toArray⟩);rw[<-this]
  ·rw[List.getElem?_take_eq_none (by omega),List.getElem?_eq_none (by simp;omega)]
 have hN:N<=gi.blk:=hR.own b _ _ gi hb hg' rfl;have hlt:gi.blk<w.heap.size:=(Array.getElem?_eq_some_iff.1 h2).1;simp only[hoff,Nat.add_zero,List.length_map];refine callsIn_wide.2 ((Any.slices_Sort_string L gi.blk 0 cap ss w (holds_of_block h2 htake) hlt (by rw[List.length_map] at hn;omega)).mono fun e' w' hp=>?_);obtain⟨rfl,n,os,rfl⟩:=hp;generalize hts:(ss.mergeSort fun x y=>decide (x<=y))=ts;have htl:ts.length=ss.length:=by rw[<-hts,List.length_mergeSort]
 have hset:(putRow encStr (Sort.ahead w n) gi.blk 0 ts.toArray).heap[gi.blk]?=some (.cells (putCells encStr 0 ts.toArray c) (ρ.t 9) (0,0)):=by simp[putRow,mapBlock,Sort.ahead,Array.getElem?_modify,h2,onCells]
 have hoth:∀k,k≠gi.blk->(putRow encStr (Sort.ahead w n) gi.blk 0 ts.toArray).heap[k]?=w.heap[k]?:=fun k hk=>by simp[putRow,mapBlock,Sort.ahead,Array.getElem?_modify,Ne.symm hk]
 have hput:=hR.put (w':=putRow encStr (Sort.ahead w n) gi.blk 0 ts.toArray) (o':=.cells false (ρ.t 9) ((((ss.map zAi).mergeSort fun x y=> !zAn y x).map AVal.str)++vs.drop (ss.map zAi).length)) hb rfl rfl hg' hset hoth
  ⟨rfl,rfl,rfl,by simp[putRow,mapBlock,Sort.ahead],fun k hk=>hoth k (by omega)⟩
  ⟨_,_,(0,0),rfl,fun _=>⟨by simp[putCells,hsz],hoff,rfl,rfl⟩,by simpa[putCells] using hfit,hel,by simp only[zgL,List.length_map,List.length_mergeSort,List.length_drop];omega,by
   rw[hoff,zlZ,<-zTs,hts];have hlen:((ts.map zAi).map AVal.str++vs.drop (ss.map zAi).length).length=vs.length:=by simp only[zgL,List.length_map,List.length_drop];omega
   rw[hlen];have:(putCells encStr 0 ts.toArray c).toList.take vs.length=ts.map encStr++(c.toList.take vs.length).drop (ss.map zAi).length:=by
    have hcl:vs.length<=c.size:=by omega
    apply List.ext_getElem?;intro j;simp only[List.getElem?_take,List.getElem?_append,List.length_map,List.getElem?_drop,htl];by_cases h1:j<ss.length
    ·rw[if_pos h1,if_pos (by omega)];simp[putCells,show j<c.size by omega,show j<ts.length by omega]
    ·rw[if_neg h1,show ss.length+(j - ss.length)=j by omega];by_cases h2:j<vs.length
     ·rw[if_pos h2,if_pos h2];simp[putCells,show j<c.size by omega,show ¬j<ts.length by omega]
     ·rw[if_neg h2,if_neg h2]
   rw[this,List.map_map];exact VsR.append (VsR.map_mk (P:=P) (G:=G) (fun x=>AVal.str (zAi x)) encStr (fun a=>⟨⟨a.toArray⟩,rfl,by simp[zAi]⟩) ts) (hvb.drop _)⟩
 obtain⟨h2',h3'⟩:=hput.1.grown (w':=grow (putRow encStr (Sort.ahead w n) gi.blk 0 ts.toArray) os) ⟨rfl,rfl,rfl,by simp[grow],fun i hi=>by
  show (_++os)[i]?=_;rw[Array.getElem?_append_left hi]⟩
 exact⟨.tuple [],_,G,.tuple #[],rfl,hq,h2',hput.2.trans h3',⟨#[],rfl,rfl⟩⟩
end
end Go.Ab
end
section
namespace Go.Proofs
open Go Go.Ab Go.Ab.S
noncomputable def tbP(n:Nat):Option AFunc:=(Tryz.prog.funcs[n]?).bind (cFn Tryz.prog)
theorem zUM:tbP 139=some F_goes:=by kernel_rfl
theorem zUH:tbP 116=some F_word:=by kernel_rfl
theorem zUI:tbP 117=some F_IsKey:=by kernel_rfl
theorem tb_88:tbP 88=some F_IsName:=by kernel_rfl
theorem tb_67:tbP 67=some F_grising:=by kernel_rfl
theorem tb_43:tbP 43=some F_arity:=by kernel_rfl
theorem tb_45:tbP 45=some F_may:=by kernel_rfl
theorem tb_66:tbP 66=some F_may1:=by kernel_rfl
theorem tb_19:tbP 19=some F_Check:=by kernel_rfl
theorem tb_44:tbP 44=some F_Check1:=by kernel_rfl
theorem tb_65:tbP 65=some F_CFint:=by kernel_rfl
theorem tb_87:tbP 87=some F_IFint:=by kernel_rfl
theorem tb_46:tbP 46=some F_CFnode:=by kernel_rfl
theorem tb_68:tbP 68=some F_IFnode:=by kernel_rfl
theorem tb_11:tbP 11=some F_Great:=by kernel_rfl
theorem tb_61:tbP 61=some F_Reach:=by kernel_rfl
theorem tb_38:tbP 38=some F_Trim:=by kernel_rfl
theorem tb_18:tbP 18=some F_Same:=by kernel_rfl
theorem tb_41:tbP 41=some F_alike:=by kernel_rfl
theorem tb_42:tbP 42=some F_gfree:=by kernel_rfl
theorem tb_62:tbP 62=some F_CloneStr:=by kernel_rfl
theorem tb_37:tbP 37=some F_CloneInt:=by kernel_rfl
theorem tb_85:tbP 85=some F_Backward:=by kernel_rfl
theorem zUG:tbP 115=some F_Backward1:=by kernel_rfl
theorem tb_64:tbP 64=some F_EqualStr:=by kernel_rfl
theorem tb_14:tbP 14=some F_Equal:=by kernel_rfl
theorem tb_20:tbP 20=some F_Alike:=by kernel_rfl
theorem tb_47:tbP 47=some F_Labels:=by kernel_rfl
theorem tb_15:tbP 15=some F_Ints:=by kernel_rfl
theorem tb_36:tbP 36=some F_CloneNode:=by kernel_rfl
theorem tb_31:tbP 31=some F_rCheck:=by kernel_rfl
theorem tb_57:tbP 57=some F_rmay:=by kernel_rfl
theorem tb_84:tbP 84=some F_rIsName:=by kernel_rfl
theorem zUE:tbP 113=some F_rword:=by kernel_rfl
theorem zUF:tbP 114=some F_rIsKey:=by kernel_rfl
theorem zUJ:tbP 136=some F_rsmall:=by kernel_rfl
theorem zUK:tbP 137=some F_rletter:=by kernel_rfl
theorem zUL:tbP 138=some F_rdigit:=by kernel_rfl
theorem tb_10:tbP 10=some F_alive08:=by kernel_rfl
theorem tb_3:tbP 3=some F_SolveUnifies:=by kernel_rfl
theorem tb_4:tbP 4=some F_SolveMeets:=by kernel_rfl
theorem tb_12:tbP 12=some F_SUnify:=by kernel_rfl
theorem tb_29:tbP 29=some F_SUnify1:=by kernel_rfl
theorem tb_16:tbP 16=some F_SMeet:=by kernel_rfl
theorem tb_24:tbP 24=some F_sstart:=by kernel_rfl
theorem tb_28:tbP 28=some F_sfind:=by kernel_rfl
theorem tb_27:tbP 27=some F_srun:=by kernel_rfl
theorem tb_55:tbP 55=some F_sjoin:=by kernel_rfl
theorem tb_79:tbP 79=some F_sboth:=by kernel_rfl
theorem zUD:tbP 101=some F_sobjects:=by kernel_rfl
theorem tb_30:tbP 30=some F_snode:=by kernel_rfl
theorem tb_81:tbP 81=some F_errNew:=by kernel_rfl
theorem tb_80:tbP 80=some F_errJoin:=by kernel_rfl
theorem tb_13:tbP 13=some F_rUnify08:=by kernel_rfl
theorem tb_17:tbP 17=some F_rMeet08:=by kernel_rfl
theorem tb_32:tbP 32=some F_rNew08:=by kernel_rfl
theorem tb_33:tbP 33=some F_rJoin08:=by kernel_rfl
theorem tb_34:tbP 34=some F_rClose08:=by kernel_rfl
theorem tb_35:tbP 35=some F_rNode08:=by kernel_rfl
theorem tb_58:tbP 58=some F_rstep08:=by kernel_rfl
theorem tb_60:tbP 60=some F_rArg08:=by kernel_rfl
theorem tb_39:tbP 39=some F_rBeside08:=by kernel_rfl
theorem tb_59:tbP 59=some F_rCopy:=by kernel_rfl
theorem tb_40:tbP 40=some F_rTrim06:=by kernel_rfl
theorem tb_25:tbP 25=some F_ClonePr:=by kernel_rfl
theorem tb_63:tbP 63=some F_rReach06:=by kernel_rfl
theorem tb_86:tbP 86=some F_rvisit06:=by kernel_rfl
def tbR(f:Nat)(g:AFunc):Prop:=∃fn,Tryz.prog.funcs[f]?=some fn/\cFn Tryz.prog fn=some g
theorem tbS{f n:Nat}{fn g:AFunc}{r:Option AFunc}(hg:tbP n=some g)(h:(if f=n then some g else r)=some fn)(k:r=some fn->tbR f fn):tbR f fn:=by
 by_cases e:f=n
 ·rw[if_pos e] at h;cases h;rw[e];exact Option.bind_eq_some_iff.1 hg
 ·rw[if_neg e] at h;exact k h
theorem zUC:FnsOK Tryz.prog tab:=by intro f fn h;refine tbS zUM h fun h=>?_;refine tbS zUH h fun h=>?_;refine tbS zUI h fun h=>?_;refine tbS tb_88 h fun h=>?_;refine tbS tb_67 h fun h=>?_;refine tbS tb_43 h fun h=>?_;refine tbS tb_45 h fun h=>?_;refine tbS tb_66 h fun h=>?_;refine tbS tb_19 h fun h=>?_;refine tbS tb_44 h fun h=>?_;refine tbS tb_65 h fun h=>?_;refine tbS tb_87 h fun h=>?_;refine tbS tb_46 h fun h=>?_;refine tbS tb_68 h fun h=>?_;refine tbS tb_11 h fun h=>?_;refine tbS tb_61 h fun h=>?_;refine tbS tb_38 h fun h=>?_;refine tbS tb_18 h fun h=>?_;refine tbS tb_41 h fun h=>?_;refine tbS tb_42 h fun h=>?_;refine tbS tb_62 h fun h=>?_;refine tbS tb_37 h fun h=>?_;refine tbS tb_85 h fun h=>?_;refine tbS zUG h fun h=>?_;refine tbS tb_64 h fun h=>?_;refine tbS tb_14 h fun h=>?_;refine tbS tb_20 h fun h=>?_;refine tbS tb_47 h fun h=>?_;refine tbS tb_15 h fun h=>?_;refine tbS tb_36 h fun h=>?_;refine tbS tb_31 h fun h=>?_;refine tbS tb_57 h fun h=>?_;refine tbS tb_84 h fun h=>?_;refine tbS zUE h fun h=>?_;refine tbS zUF h fun h=>?_;refine tbS zUJ h fun h=>?_;refine tbS zUK h fun h=>?_;refine tbS zUL h fun h=>?_;refine tbS tb_10 h fun h=>?_;refine tbS tb_3 h fun h=>?_;refine tbS tb_4 h fun h=>?_;refine tbS tb_12 h fun h=>?_;refine tbS tb_29 h fun h=>?_;refine tbS tb_16 h fun h=>?_;refine tbS tb_24 h fun h=>?_;refine tbS tb_28 h fun h=>?_;refine tbS tb_27 h fun h=>?_;refine tbS tb_55 h fun h=>?_;refine tbS tb_79 h fun h=>?_;refine tbS zUD h fun h=>?_;refine tbS tb_30 h fun h=>?_;refine tbS tb_81 h fun h=>?_;refine tbS tb_80 h fun h=>?_;refine tbS tb_13 h fun h=>?_;refine tbS tb_17 h fun h=>?_;refine tbS tb_32 h fun h=>?_;refine tbS tb_33 h fun h=>?_;refine tbS tb_34 h fun h=>?_;refine tbS tb_35 h fun h=>?_;refine tbS tb_58 h fun h=>?_;refine tbS tb_60 h fun h=>?_;refine tbS tb_39 h fun h=>?_;refine tbS tb_59 h fun h=>?_;refine tbS tb_40 h fun h=>?_;refine tbS tb_25 h fun h=>?_;refine tbS tb_63 h fun h=>?_;refine tbS tb_86 h fun h=>?_;cases h
end Go.Proofs
end
section
namespace Go.Proofs
open Go.Shelf
def Tryz.lays190_ren:Go.Shelf.Ren:=⟨fun|190=>56|125=>83|258=>82|128=>111|129=>112|302=>102|303=>103|304=>104|305=>105|306=>106|307=>107|308=>108|309=>109|310=>110|333=>130|329=>131|330=>132|334=>133|335=>134|336=>135|344=>161|n=>n,fun|31=>34|9=>9|3=>3|46=>177|0=>0|51=>216|53=>218|4=>4|183=>209|182=>208|131=>64|5=>5|218=>238|222=>242|228=>268|229=>269|n=>n,fun|n=>n⟩
theorem Tryz.lays190:Go.Proofs.Lays.n190 Tryz.prog Tryz.lays190_ren:={
 mixed:=by kernel_rfl
 f125:=Tryz.func83.trans (congrArg some (by kernel_rfl))
 f128:=Tryz.func111.trans (congrArg some (by kernel_rfl))
 f129:=Tryz.func112.trans (congrArg some (by kernel_rfl))
 f190:=Tryz.func56.trans (congrArg some (by kernel_rfl))
 f258:=Tryz.func82.trans (congrArg some (by kernel_rfl))
 f302:=Tryz.func102.trans (congrArg some (by kernel_rfl))
 f303:=Tryz.func103.trans (congrArg some (by kernel_rfl))
 f304:=Tryz.func104.trans (congrArg some (by kernel_rfl))
 f305:=Tryz.func105.trans (congrArg some (by kernel_rfl))
 f306:=Tryz.func106.trans (congrArg some (by kernel_rfl))
 f307:=Tryz.func107.trans (congrArg some (by kernel_rfl))
 f308:=Tryz.func108.trans (congrArg some (by kernel_rfl))
 f309:=Tryz.func109.trans (congrArg some (by kernel_rfl))
 f310:=Tryz.func110.trans (congrArg some (by kernel_rfl))
 f329:=Tryz.func131.trans (congrArg some (by kernel_rfl))
 f330:=Tryz.func132.trans (congrArg some (by kernel_rfl))
 f333:=Tryz.func130.trans (congrArg some (by kernel_rfl))
 f334:=Tryz.func133.trans (congrArg some (by kernel_rfl))
 f335:=Tryz.func134.trans (congrArg some (by kernel_rfl))
 f336:=Tryz.func135.trans (congrArg some (by kernel_rfl))
 f344:=Tryz.func161.trans (congrArg some (by kernel_rfl))
 t0:=Tryz.underlying0
 a0:=Tryz.isAgg0
 z0:=Tryz.sizeOf0
 v0:=Tryz.zeroValue0
 t3:=Tryz.underlying3
 a3:=Tryz.isAgg3
 z3:=Tryz.sizeOf3
 v3:=Tryz.zeroValue3
 t4:=Tryz.underlying4
 a4:=Tryz.isAgg4
 z4:=Tryz.sizeOf4
 v4:=Tryz.zeroValue4
 t5:=Tryz.underlying5
 a5:=Tryz.isAgg5
 z5:=Tryz.sizeOf5
 v5:=Tryz.zeroValue5
 t9:=Tryz.underlying9
 a9:=Tryz.isAgg9
 z9:=Tryz.sizeOf9
 v9:=Tryz.zeroValue9
 t31:=Tryz.underlying34
 a31:=Tryz.isAgg34
 z31:=Tryz.sizeOf34
 v31:=Tryz.zeroValue34
 t46:=Tryz.underlying177
 a46:=Tryz.isAgg177
 z46:=Tryz.sizeOf177
 v46:=Tryz.zeroValue177
 t51:=Tryz.underlying216
 a51:=Tryz.isAgg216
 z51:=Tryz.sizeOf216
 v51:=Tryz.zeroValue216
 t53:=Tryz.underlying218
 a53:=Tryz.isAgg218
 z53:=Tryz.sizeOf218
 v53:=Tryz.zeroValue218
 t131:=Tryz.underlying64
 a131:=Tryz.isAgg64
 z131:=Tryz.sizeOf64
 v131:=Tryz.zeroValue64
 t182:=Tryz.underlying208
 a182:=Tryz.isAgg208
 z182:=Tryz.sizeOf208
 v182:=Tryz.zeroValue208
 t183:=Tryz.underlying209
 a183:=Tryz.isAgg209
 z183:=Tryz.sizeOf209
 v183:=Tryz.zeroValue209
 t218:=Tryz.underlying238
 a218:=Tryz.isAgg238
 z218:=Tryz.sizeOf238
 v218:=Tryz.zeroValue238
 t222:=Tryz.underlying242
 a222:=Tryz.isAgg242
 z222:=Tryz.sizeOf242
 v222:=Tryz.zeroValue242
 t228:=Tryz.underlying268
 a228:=Tryz.isAgg268
 z228:=Tryz.sizeOf268
 v228:=Tryz.zeroValue268
 t229:=Tryz.underlying269
 a229:=Tryz.isAgg269
 z229:=Tryz.sizeOf269
 v229:=Tryz.zeroValue269}
def Tryz.lays144_ren:Go.Shelf.Ren:=⟨fun|144=>140|143=>120|219=>146|217=>164|225=>165|224=>166|267=>167|266=>181|314=>182|n=>n,fun|9=>9|4=>4|3=>3|5=>5|46=>177|146=>287|51=>216|n=>n,fun|1=>2|n=>n⟩
theorem Tryz.lays144:Go.Proofs.Lays.n144 Tryz.prog Tryz.lays144_ren:={
 mixed:=by kernel_rfl
 f143:=Tryz.func120.trans (congrArg some (by kernel_rfl))
 f144:=Tryz.func140.trans (congrArg some (by kernel_rfl))
 f217:=Tryz.func164.trans (congrArg some (by kernel_rfl))
 f219:=Tryz.func146.trans (congrArg some (by kernel_rfl))
 f224:=Tryz.func166.trans (congrArg some (by kernel_rfl))
 f225:=Tryz.func165.trans (congrArg some (by kernel_rfl))
 f266:=Tryz.func181.trans (congrArg some (by kernel_rfl))
 f267:=Tryz.func167.trans (congrArg some (by kernel_rfl))
 f314:=Tryz.func182.trans (congrArg some (by kernel_rfl))
 t3:=Tryz.underlying3
 a3:=Tryz.isAgg3
 z3:=Tryz.sizeOf3
 v3:=Tryz.zeroValue3
 t4:=Tryz.underlying4
 a4:=Tryz.isAgg4
 z4:=Tryz.sizeOf4
 v4:=Tryz.zeroValue4
 t5:=Tryz.underlying5
 a5:=Tryz.isAgg5
 z5:=Tryz.sizeOf5
 v5:=Tryz.zeroValue5
 t9:=Tryz.underlying9
 a9:=Tryz.isAgg9
 z9:=Tryz.sizeOf9
 v9:=Tryz.zeroValue9
 t46:=Tryz.underlying177
 a46:=Tryz.isAgg177
 z46:=Tryz.sizeOf177
 v46:=Tryz.zeroValue177
 t51:=Tryz.underlying216
 a51:=Tryz.isAgg216
 z51:=Tryz.sizeOf216
 v51:=Tryz.zeroValue216
 t146:=Tryz.underlying287
 a146:=Tryz.isAgg287
 z146:=Tryz.sizeOf287
 v146:=Tryz.zeroValue287
 g1:=by kernel_rfl}
def Tryz.laysM171_ren:Go.Shelf.Ren:=⟨fun|171=>186|243=>197|246=>200|283=>203|284=>204|285=>205|286=>206|129=>112|317=>207|318=>208|319=>209|320=>210|337=>211|338=>212|n=>n,fun|3=>3|9=>9|2=>2|4=>4|171=>315|0=>0|53=>218|37=>256|5=>5|173=>317|212=>320|51=>216|20=>20|213=>321|46=>177|232=>322|233=>323|n=>n,fun|17=>8|18=>9|19=>10|n=>n⟩
theorem Tryz.laysM171:Go.Proofs.LaysM.n171 Tryz.prog Tryz.laysM171_ren:={
 mixed:=by kernel_rfl
 f129:=Tryz.func112.trans (congrArg some (by kernel_rfl))
 f171:=Tryz.func186.trans (congrArg some (by kernel_rfl))
 f243:=Tryz.func197.trans (congrArg some (by kernel_rfl))
 f246:=Tryz.func200.trans (congrArg some (by kernel_rfl))
 f283:=Tryz.func203.trans (congrArg some (by kernel_rfl))
 f284:=Tryz.func204.trans (congrArg some (by kernel_rfl))
 f285:=Tryz.func205.trans (congrArg some (by kernel_rfl))
 f286:=Tryz.func206.trans (congrArg some (by kernel_rfl))
 f317:=Tryz.func207.trans (congrArg some (by kernel_rfl))
 f318:=Tryz.func208.trans (congrArg some (by kernel_rfl))
 f319:=Tryz.func209.trans (congrArg some (by kernel_rfl))
 f320:=Tryz.func210.trans (congrArg some (by kernel_rfl))
 f337:=Tryz.func211.trans (congrArg some (by kernel_rfl))
 f338:=Tryz.func212.trans (congrArg some (by kernel_rfl))
 t0:=Tryz.underlying0
 a0:=Tryz.isAgg0
 z0:=Tryz.sizeOf0
 v0:=Tryz.zeroValue0
 t2:=Tryz.underlying2
 a2:=Tryz.isAgg2
 z2:=Tryz.sizeOf2
 v2:=Tryz.zeroValue2
 t3:=Tryz.underlying3
 a3:=Tryz.isAgg3
 z3:=Tryz.sizeOf3
 v3:=Tryz.zeroValue3
 t4:=Tryz.underlying4
 a4:=Tryz.isAgg4
 z4:=Tryz.sizeOf4
 v4:=Tryz.zeroValue4
 t5:=Tryz.underlying5
 a5:=Tryz.isAgg5
 z5:=Tryz.sizeOf5
 v5:=Tryz.zeroValue5
 t9:=Tryz.underlying9
 a9:=Tryz.isAgg9
 z9:=Tryz.sizeOf9
 v9:=Tryz.zeroValue9
 t20:=Tryz.underlying20
 a20:=Tryz.isAgg20
 z20:=Tryz.sizeOf20
 v20:=Tryz.zeroValue20
 t37:=Tryz.underlying256
 a37:=Tryz.isAgg256
 z37:=Tryz.sizeOf256
 v37:=Tryz.zeroValue256
 t46:=Tryz.underlying177
 a46:=Tryz.isAgg177
 z46:=Tryz.sizeOf177
 v46:=Tryz.zeroValue177
 t51:=Tryz.underlying216
 a51:=Tryz.isAgg216
 z51:=Tryz.sizeOf216
 v51:=Tryz.zeroValue216
 t53:=Tryz.underlying218
 a53:=Tryz.isAgg218
 z53:=Tryz.sizeOf218
 v53:=Tryz.zeroValue218
 t171:=Tryz.underlying315
 a171:=Tryz.isAgg315
 z171:=Tryz.sizeOf315
 v171:=Tryz.zeroValue315
 t173:=Tryz.underlying317
 a173:=Tryz.isAgg317
 z173:=Tryz.sizeOf317
 v173:=Tryz.zeroValue317
 t212:=Tryz.underlying320
 a212:=Tryz.isAgg320
 z212:=Tryz.sizeOf320
 v212:=Tryz.zeroValue320
 t213:=Tryz.underlying321
 a213:=Tryz.isAgg321
 z213:=Tryz.sizeOf321
 t232:=Tryz.underlying322
 a232:=Tryz.isAgg322
 z232:=Tryz.sizeOf322
 v232:=Tryz.zeroValue322
 t233:=Tryz.underlying323
 a233:=Tryz.isAgg323
 z233:=Tryz.sizeOf323
 v233:=Tryz.zeroValue323
 g17:=by kernel_rfl
 g18:=by kernel_rfl
 g19:=by kernel_rfl
 i0:=by kernel_rfl
 i2:=by kernel_rfl
 i3:=by kernel_rfl
 i4:=by kernel_rfl
 i5:=by kernel_rfl
 i9:=by kernel_rfl
 i20:=by kernel_rfl
 i37:=by kernel_rfl
 i46:=by kernel_rfl
 i51:=by kernel_rfl
 i53:=by kernel_rfl
 i171:=by kernel_rfl
 i173:=by kernel_rfl
 i212:=by kernel_rfl
 i232:=by kernel_rfl
 i233:=by kernel_rfl
 m17:=by kernel_rfl
 m18:=by kernel_rfl
 m19:=by kernel_rfl}
def Tryz.lays169_ren:Go.Shelf.Ren:=⟨fun|169=>149|n=>n,fun|70=>255|9=>9|0=>0|72=>258|37=>256|127=>279|3=>3|5=>5|n=>n,fun|n=>n⟩
theorem Tryz.lays169:Go.Proofs.Lays.n169 Tryz.prog Tryz.lays169_ren:={
 mixed:=by kernel_rfl
 f169:=Tryz.func149.trans (congrArg some (by kernel_rfl))
 t0:=Tryz.underlying0
 a0:=Tryz.isAgg0
 z0:=Tryz.sizeOf0
 v0:=Tryz.zeroValue0
 t3:=Tryz.underlying3
 a3:=Tryz.isAgg3
 z3:=Tryz.sizeOf3
 v3:=Tryz.zeroValue3
 t9:=Tryz.underlying9
 a9:=Tryz.isAgg9
 z9:=Tryz.sizeOf9
 v9:=Tryz.zeroValue9
 t37:=Tryz.underlying256
 a37:=Tryz.isAgg256
 z37:=Tryz.sizeOf256
 v37:=Tryz.zeroValue256
 t70:=Tryz.underlying255
 a70:=Tryz.isAgg255
 z70:=Tryz.sizeOf255
 v70:=Tryz.zeroValue255
 t72:=Tryz.underlying258
 a72:=Tryz.isAgg258
 z72:=Tryz.sizeOf258
 v72:=Tryz.zeroValue258
 t127:=Tryz.underlying279
 a127:=Tryz.isAgg279
 z127:=Tryz.sizeOf279
 v127:=Tryz.zeroValue279}
def Tryz.lays240_ren:Go.Shelf.Ren:=⟨fun|240=>173|276=>187|n=>n,fun|0=>0|4=>4|9=>9|20=>20|37=>256|70=>255|72=>258|164=>101|n=>n,fun|n=>n⟩
theorem Tryz.lays240:Go.Proofs.Lays.n240 Tryz.prog Tryz.lays240_ren:={
 mixed:=by kernel_rfl
 f240:=Tryz.func173.trans (congrArg some (by kernel_rfl))
 f276:=Tryz.func187.trans (congrArg some (by kernel_rfl))
 t0:=Tryz.underlying0
 a0:=Tryz.isAgg0
 z0:=Tryz.sizeOf0
 v0:=Tryz.zeroValue0
 t4:=Tryz.underlying4
 a4:=Tryz.isAgg4
 z4:=Tryz.sizeOf4
 v4:=Tryz.zeroValue4
 t9:=Tryz.underlying9
 a9:=Tryz.isAgg9
 z9:=Tryz.sizeOf9
 v9:=Tryz.zeroValue9
 t20:=Tryz.underlying20
 a20:=Tryz.isAgg20
 z20:=Tryz.sizeOf20
 v20:=Tryz.zeroValue20
 t70:=Tryz.underlying255
 a70:=Tryz.isAgg255
 z70:=Tryz.sizeOf255
 v70:=Tryz.zeroValue255
 t72:=Tryz.underlying258
 a72:=Tryz.isAgg258
 z72:=Tryz.sizeOf258
 v72:=Tryz.zeroValue258
 t164:=Tryz.underlying101
 a164:=Tryz.isAgg101
 z164:=Tryz.sizeOf101
 v164:=Tryz.zeroValue101}
theorem Tryz.Builder_X72_240:Builder.X72 Tryz.prog Tryz.lays240_ren where
 sizeBuilder:=by kernel_rfl
 liesBuilder:=by kernel_rfl
theorem Tryz.Builder_Extra_169:Builder.Extra Tryz.prog Tryz.lays169_ren:={
 sizeBuilder:=by kernel_rfl
 liesBuilder:=by kernel_rfl
 t5:=Tryz.underlying5
 a5:=Tryz.isAgg5
 z5:=Tryz.sizeOf5
 v5:=Tryz.zeroValue5
 infoByte:=by kernel_rfl
 cellsByte:=by kernel_rfl
 sizeByte:=by kernel_rfl
 neB5:=by decide}
end Go.Proofs
end
section
namespace Go.Proofs
open Go Go.RowKit Go.Extern.Stop Go.Stop Go.Extern
theorem tOc(v:Value)(w:World):(ReflectliteType.typeOf #[.iface 57 v]).run Tryz.prog w=.ok (.iface 157 (.agg #[.pointer (some ⟨12,57,none⟩)])) w:=by kernel_rfl
theorem tOs(v:Value)(w:World):(ReflectliteType.typeOf #[.iface 204 v]).run Tryz.prog w=.ok (.iface 157 (.agg #[.pointer (some ⟨12,204,none⟩)])) w:=by kernel_rfl
theorem tOj(v:Value)(w:World):(ReflectliteType.typeOf #[.iface 201 v]).run Tryz.prog w=.ok (.iface 157 (.agg #[.pointer (some ⟨12,201,none⟩)])) w:=by kernel_rfl
theorem aTc(w:World):(ReflectliteType.relation "AssignableTo" ReflectliteType.assignableTo #[.agg #[.pointer (some ⟨12,57,none⟩)],.iface 157 (.agg #[.pointer (some ⟨12,57,none⟩)])]).run Tryz.prog w=.ok (.bool true) w:=by kernel_rfl
theorem aTs(w:World):(ReflectliteType.relation "AssignableTo" ReflectliteType.assignableTo #[.agg #[.pointer (some ⟨12,204,none⟩)],.iface 157 (.agg #[.pointer (some ⟨12,57,none⟩)])]).run Tryz.prog w=.ok (.bool false) w:=by kernel_rfl
theorem aTj(w:World):(ReflectliteType.relation "AssignableTo" ReflectliteType.assignableTo #[.agg #[.pointer (some ⟨12,201,none⟩)],.iface 157 (.agg #[.pointer (some ⟨12,57,none⟩)])]).run Tryz.prog w=.ok (.bool false) w:=by kernel_rfl
theorem noAs(v:Value)(xT:TypeId)(w:World):(Instr.typeAssert (.iface 204 v) xT 162 true).run Tryz.prog w=.ok (.tuple #[.nilIface,.bool false]) w:=run_typeAssert_lacksB Tryz.underlying162 (by kernel_rfl) (by kernel_rfl) v xT w
theorem noUn(v:Value)(xT:TypeId)(w:World):(Instr.typeAssert (.iface 204 v) xT 165 true).run Tryz.prog w=.ok (.tuple #[.nilIface,.bool false]) w:=run_typeAssert_lacksB Tryz.underlying165 (by kernel_rfl) (by kernel_rfl) v xT w
theorem noUs(v:Value)(xT:TypeId)(w:World):(Instr.typeAssert (.iface 204 v) xT 166 true).run Tryz.prog w=.ok (.tuple #[.nilIface,.bool false]) w:=run_typeAssert_lacksB Tryz.underlying166 (by kernel_rfl) (by kernel_rfl) v xT w
theorem noAsJ(v:Value)(xT:TypeId)(w:World):(Instr.typeAssert (.iface 201 v) xT 162 true).run Tryz.prog w=.ok (.tuple #[.nilIface,.bool false]) w:=run_typeAssert_lacksB Tryz.underlying162 (by kernel_rfl) (by kernel_rfl) v xT w
theorem noUnJ(v:Value)(xT:TypeId)(w:World):(Instr.typeAssert (.iface 201 v) xT 165 true).run Tryz.prog w=.ok (.tuple #[.nilIface,.bool false]) w:=run_typeAssert_lacksB Tryz.underlying165 (by kernel_rfl) (by kernel_rfl) v xT w
theorem zTR(v:Value)(xT:TypeId)(w:World):(Instr.typeAssert (.iface 201 v) xT 166 true).run Tryz.prog w=.ok (.tuple #[.iface 201 v,.bool true]) w:=run_typeAssert_hasB Tryz.underlying166 (by kernel_rfl) v xT w
theorem mAs(h:Value)(w:World):(Go.method 450 157 (.agg #[h]) "AssignableTo").run Tryz.prog w=.ok (239,.agg #[h]) w:=by kernel_rfl
theorem mUs(h:Value)(w:World):(Go.method 450 201 h "Unwrap").run Tryz.prog w=.ok (251,h) w:=by kernel_rfl
set_option maxRecDepth 100000 in
set_option maxHeartbeats 4000000 in
theorem as_no(e:Addr)(x:Value)(p q:Addr)(w:World):Calls Tryz.prog 54 #[.iface 204 (.pointer (some e)),x,.agg #[.pointer (some p),.pointer (some q),.int .u64 150],.iface 157 (.agg #[.pointer (some ⟨12,57,none⟩)])] w fun ev w'=>ev=.returned (.bool false)/\w'=w.alloc (.cells #[.pointer (some p),.pointer (some q),.int .u64 150] 104):=by
 have h76:= @run_callFunc_extern Tryz.prog 76 _ ReflectliteType.typeOf Tryz.func76 (by kernel_rfl) (by kernel_rfl) (by kernel_rfl) (by kernel_rfl);have h239:= @run_callFunc_extern Tryz.prog 239 _ (ReflectliteType.relation "AssignableTo" ReflectliteType.assignableTo) Tryz.func239 (by kernel_rfl) (by kernel_rfl) (by kernel_rfl) (by kernel_rfl);have t1:=tOs;have t2:=aTs;have t3:=mAs;have n1:=noAs;have n2:=noUn;have n3:=noUs
 go_enter Tryz.func54,Tryz.ntmps54
 go_wp2
 refine wp_loop_rounds 1 ?_;rw[rounds_succ]
 go_wp2
 go_ret
 exact⟨rfl,rfl⟩
theorem rlm(z:Sem Value)(f:TypeId->Addr->Nat->Nat->Sem Value)(v:Value):
  ReflectliteValue.method z f #[v]=(do match <-ReflectliteValue.parts v with |none=>z|some (t,a,fl)=>f t a fl (fl % 32)):=rfl
theorem zRf(a:Addr)(w:World):(ReflectliteValue.parts (.agg #[.pointer (some ⟨12,62,none⟩),.pointer (some a),.int .u64 150])).run Tryz.prog w=.ok (some (62,a,150)) w:=by kernel_rfl
theorem zSX(a:Addr)(w:World):(ReflectliteValue.parts (.agg #[.pointer (some ⟨12,57,none⟩),.pointer (some a),.int .u64 406])).run Tryz.prog w=.ok (some (57,a,406)) w:=by kernel_rfl
theorem zTb(a:Addr)(w:World):(ReflectliteValue.parts (.agg #[.pointer (some ⟨12,57,none⟩),.pointer (some a),.int .u64 150])).run Tryz.prog w=.ok (some (57,a,150)) w:=by kernel_rfl
theorem zTM(w:World):(Rtype.elem? 62).run Tryz.prog w=.ok (some 57) w:=by kernel_rfl
theorem mkC(p:Addr)(w:World):(ReflectliteValue.mk 57 p ReflectliteValue.flagAddr).run Tryz.prog w=.ok (.agg #[.pointer (some ⟨12,57,none⟩),.pointer (some p),.int .u64 406]) w:=by kernel_rfl
theorem elemV(a p:Addr)(W:World)(ha:W.cell? a=some (.pointer (some p))):
  (ReflectliteValue.method (ReflectliteValue.valueError "reflectlite.Value.Elem" 0) ReflectliteValue.elem #[.agg #[.pointer (some ⟨12,62,none⟩),.pointer (some a),.int .u64 150]]).run Tryz.prog W
   =.ok (.agg #[.pointer (some ⟨12,57,none⟩),.pointer (some p),.int .u64 406]) W:=by
 rw[rlm];simp only[Sem.run_bind,zRf,Result.andThen];simp[ReflectliteValue.elem,loadVar,isAgg,underlying,Tryz.underlying62,ha,Result.andThen,zTM,mkC]
theorem valC(e:Addr)(w:World):(ReflectliteValue.unpack (.iface 57 (.pointer (some e)))).run Tryz.prog w
  =.ok (.agg #[.pointer (some ⟨12,57,none⟩),.pointer (some ⟨w.heap.size,0,none⟩),.int .u64 150]) (w.alloc (.cells #[.pointer (some e)] 57)):=by kernel_rfl
theorem rls(v x:Value):ReflectliteValue.set #[v,x]=(do
  let (some (dst,a,fl),some (src,b,_)):=(<-ReflectliteValue.parts v,<-ReflectliteValue.parts x)
   |unsupported (.noEntry "extern/(internal/reflectlite.Value).Set.zeroValue")
  if fl / ReflectliteValue.flagAddr % 2==0 then unsupported (.noEntry "extern/(internal/reflectlite.Value).Set.unaddressable")
  let val <-loadVar src b
  if <-Rtype.directlyAssignable dst src then storeVar dst a val
  else if <-Rtype.implements dst src then
   if (<-Rtype.kind src)==20 then
    match val with
    | .nilIface=>unsupported (.noEntry "extern/reflectlite: a nil value of one interface type handed on as a value of another")
    |_=>storeVar dst a val
   else storeVar dst a (.iface src val)
  else panicString ("reflectlite.Set: value of type " ++(<-Rtype.spelt src)++ " is not assignable to type " ++(<-Rtype.spelt dst))
  pure (.tuple #[])):=rfl
theorem zRv(w:World):(Rtype.directlyAssignable 57 57).run Tryz.prog w=.ok true w:=by kernel_rfl
theorem setC(ta b e:Addr)(old:Value)(W:World)(hb:W.cell? b=some (.pointer (some e)))(ht:W.cell? ta=some old)(hf:W.frozen? ta=false):
  (ReflectliteValue.set #[.agg #[.pointer (some ⟨12,57,none⟩),.pointer (some ta),.int .u64 406],.agg #[.pointer (some ⟨12,57,none⟩),.pointer (some b),.int .u64 150]]).run Tryz.prog W
   =.ok (.tuple #[]) (W.setCell ta (.pointer (some e))):=by
 rw[rls];simp only[Sem.run_bind,zSX,zTb,Result.andThen];simp[ReflectliteValue.flagAddr,loadVar,isAgg,underlying,Tryz.underlying57,hb,Result.andThen,zRv,storeVar,Value.cells,storeCells,Addr.add];rw[run_store Tryz.prog W ta _ _ (by rfl)];simp[ht,hf]
def hitW(w:World)(q t e:Addr):World:=((w.alloc (.cells #[.pointer (some ⟨12,62,none⟩),.pointer (some q),.int .u64 150] 104)).alloc (.cells #[.pointer (some e)] 57)).setCell t (.pointer (some e))
set_option maxRecDepth 100000 in
set_option maxHeartbeats 4000000 in
theorem zSt(e q t:Addr)(x old:Value)(w:World)(hq:w.cell? q=some (.pointer (some t)))(ht:w.cell? t=some old)(hf:w.frozen? t=false):Calls Tryz.prog 54 #[.iface 57 (.pointer (some e)),x,.agg #[.pointer (some ⟨12,62,none⟩),.pointer (some q),.int .u64 150],.iface 157 (.agg #[.pointer (some ⟨12,57,none⟩)])] w fun ev w'=>ev=.returned (.bool true)/\w'=hitW w q t e:=by
 have h76:= @run_callFunc_extern Tryz.prog 76 _ ReflectliteType.typeOf Tryz.func76 (by kernel_rfl) (by kernel_rfl) (by kernel_rfl) (by kernel_rfl);have h239:= @run_callFunc_extern Tryz.prog 239 _ (ReflectliteType.relation "AssignableTo" ReflectliteType.assignableTo) Tryz.func239 (by kernel_rfl) (by kernel_rfl) (by kernel_rfl) (by kernel_rfl);have h77:= @run_callFunc_extern Tryz.prog 77 _ (ReflectliteValue.method (ReflectliteValue.valueError "reflectlite.Value.Elem" 0) ReflectliteValue.elem) Tryz.func77 (by kernel_rfl) (by kernel_rfl) (by kernel_rfl) (by kernel_rfl);have h51:= @run_callFunc_extern Tryz.prog 51 _ (fun args=>ReflectliteValue.unpack (args.getD 0 (.tuple #[]))) Tryz.func51 (by kernel_rfl) (by kernel_rfl) (by kernel_rfl) (by kernel_rfl);have h78:= @run_callFunc_extern Tryz.prog 78 _ ReflectliteValue.set Tryz.func78 (by kernel_rfl) (by kernel_rfl) (by kernel_rfl) (by kernel_rfl);have t1:=tOc;have t2:=aTc;have t3:=mAs;have lq:q.block<w.heap.size:=by
  rcases Nat.lt_or_ge q.block w.heap.size with h|h
  ·exact h
  ·simp[World.cell?,Array.getElem?_eq_none h] at hq
 have lt:t.block<w.heap.size:=by
  rcases Nat.lt_or_ge t.block w.heap.size with h|h
  ·exact h
  ·simp[World.cell?,Array.getElem?_eq_none h] at ht
 have v1:=elemV q t (w.alloc (.cells #[.pointer (some ⟨12,62,none⟩),.pointer (some q),.int .u64 150] 104)) (by rw[World.cell?_alloc_lt _ _ q lq];exact hq);have v2:=valC e;have v3:=setC t ⟨w.heap.size+1,0,none⟩ e old ((w.alloc (.cells #[.pointer (some ⟨12,62,none⟩),.pointer (some q),.int .u64 150] 104)).alloc (.cells #[.pointer (some e)] 57))
  (by rw[World.cell?_alloc_at _ _ _ _ (by simp)];rfl)
  (by rw[World.cell?_alloc_lt _ _ t (by simp;omega),World.cell?_alloc_lt _ _ t lt];exact ht)
  (by rw[World.frozen?_alloc_old _ _ t (by simp;omega),World.frozen?_alloc_old _ _ t (Nat.ne_of_lt lt)];exact hf)
 go_enter Tryz.func54,Tryz.ntmps54
 go_wp2
 refine wp_loop_rounds 1 ?_;rw[rounds_succ]
 go_wp2
 go_ret
 exact⟨rfl,rfl⟩
end Go.Proofs
end
section
namespace Go.Proofs
open Go Go.RowKit Go.Extern.Stop Go.Stop Go.Extern
theorem zEV{w:World}{a:Addr}{v:Value}(h:w.cell? a=some v):a.block<w.heap.size:=by
 rcases Nat.lt_or_ge a.block w.heap.size with h1|h1
 ·exact h1
 ·simp[World.cell?,Array.getElem?_eq_none h1] at h
set_option maxRecDepth 100000 in
set_option maxHeartbeats 4000000 in
theorem zUQ(j:Addr)(v:Value)(w:World)(hj:w.cell? j=some v):Calls Tryz.prog 251 #[.pointer (some j)] w fun ev w'=>ev=.returned v/\w'=w:=by
 go_enter Tryz.func251,Tryz.ntmps251
 go_wp2
 go_ret
 exact⟨rfl,rfl⟩
set_option maxRecDepth 100000 in
set_option maxHeartbeats 4000000 in
theorem zRp(e1 e2 j q t:Addr)(bS k:Nat)(x old:Value)(w:World)(hj:w.cell? j=some (.slice (some ⟨bS,0,none⟩) 2 k))(h1:w.cell? ⟨bS,0,none⟩=some (.iface 204 (.pointer (some e1))))(h2:w.cell? ⟨bS,1,none⟩=some (.iface 57 (.pointer (some e2))))
  (hq:w.cell? q=some (.pointer (some t))) (ht:w.cell? t=some old) (hf:w.frozen? t=false):
  Calls Tryz.prog 54 #[.iface 201 (.pointer (some j)),x,.agg #[.pointer (some ⟨12,62,none⟩),.pointer (some q),.int .u64 150],.iface 157 (.agg #[.pointer (some ⟨12,57,none⟩)])] w fun ev w'=>ev=.returned (.bool true)/\w'=hitW ((w.alloc (.cells #[.pointer (some ⟨12,62,none⟩),.pointer (some q),.int .u64 150] 104)).alloc (.cells #[.pointer (some ⟨12,62,none⟩),.pointer (some q),.int .u64 150] 104)) q t e2:=by
 have h76:= @run_callFunc_extern Tryz.prog 76 _ ReflectliteType.typeOf Tryz.func76 (by kernel_rfl) (by kernel_rfl) (by kernel_rfl) (by kernel_rfl);have h239:= @run_callFunc_extern Tryz.prog 239 _ (ReflectliteType.relation "AssignableTo" ReflectliteType.assignableTo) Tryz.func239 (by kernel_rfl) (by kernel_rfl) (by kernel_rfl) (by kernel_rfl);have t1:=tOj;have t2:=aTj;have t3:=mAs;have m1:=mUs;have n1:=noAsJ;have n2:=noUnJ;have n3:=zTR;have lj:=zEV hj;have l1:bS<w.heap.size:=zEV h1;have l2:bS<w.heap.size:=zEV h2;have lq:=zEV hq;have lt:=zEV ht;have hj1:(w.alloc (.cells #[.pointer (some ⟨12,62,none⟩),.pointer (some q),.int .u64 150] 104)).cell? j=some (.slice (some ⟨bS,0,none⟩) 2 k):=by rw[World.cell?_alloc_lt _ _ j lj];exact hj
 have h11:(w.alloc (.cells #[.pointer (some ⟨12,62,none⟩),.pointer (some q),.int .u64 150] 104)).cell? ⟨bS,0,none⟩=some (.iface 204 (.pointer (some e1))):=by rw[World.cell?_alloc_lt _ _ ⟨bS,0,none⟩ l1];exact h1
 have h22:((w.alloc (.cells #[.pointer (some ⟨12,62,none⟩),.pointer (some q),.int .u64 150] 104)).alloc (.cells #[.pointer (some ⟨12,62,none⟩),.pointer (some q),.int .u64 150] 104)).cell? ⟨bS,1,none⟩=some (.iface 57 (.pointer (some e2))):=by rw[World.cell?_alloc_lt _ _ ⟨bS,1,none⟩ (by simp;omega),World.cell?_alloc_lt _ _ ⟨bS,1,none⟩ l2];exact h2
 have hq2:((w.alloc (.cells #[.pointer (some ⟨12,62,none⟩),.pointer (some q),.int .u64 150] 104)).alloc (.cells #[.pointer (some ⟨12,62,none⟩),.pointer (some q),.int .u64 150] 104)).cell? q=some (.pointer (some t)):=by rw[World.cell?_alloc_lt _ _ q (by simp;omega),World.cell?_alloc_lt _ _ q lq];exact hq
 have ht2:((w.alloc (.cells #[.pointer (some ⟨12,62,none⟩),.pointer (some q),.int .u64 150] 104)).alloc (.cells #[.pointer (some ⟨12,62,none⟩),.pointer (some q),.int .u64 150] 104)).cell? t=some old:=by rw[World.cell?_alloc_lt _ _ t (by simp;omega),World.cell?_alloc_lt _ _ t lt];exact ht
 have hf2:((w.alloc (.cells #[.pointer (some ⟨12,62,none⟩),.pointer (some q),.int .u64 150] 104)).alloc (.cells #[.pointer (some ⟨12,62,none⟩),.pointer (some q),.int .u64 150] 104)).frozen? t=false:=by rw[World.frozen?_alloc_old _ _ t (by simp;omega),World.frozen?_alloc_old _ _ t (Nat.ne_of_lt lt)];exact hf
 go_enter Tryz.func54,Tryz.ntmps54
 go_wp2
 refine wp_loop_rounds 1 ?_;rw[rounds_succ]
 go_wp2_with (first|(go_at_call 251;refine(zUQ j _ _ hj1).mono ?_;rintro e w' ⟨rfl,rfl⟩))
 refine wp_loop_rounds 2 ?_;rw[rounds_succ]
 go_wp2_with (go_at_call 54;refine(as_no e1 x ⟨12,62,none⟩ q _).mono ?_;rintro e w' ⟨rfl,rfl⟩)
 rw[rounds_succ]
 go_wp2_with (go_at_call 54;refine(zSt e2 q t x old _ hq2 ht2 hf2).mono ?_;rintro e w' ⟨rfl,rfl⟩)
 go_ret
 exact⟨rfl,rfl⟩
end Go.Proofs
end
section
namespace Go.Proofs
open Go Go.RowKit Go.Extern.Stop Go.Stop Go.Extern
theorem As_nil(t:Value)(w:World):Calls Tryz.prog 26 #[.nilIface,t] w fun e w'=>e=.returned (.bool false)/\w'=w:=by
 go_enter Tryz.func26,Tryz.ntmps26
 go_wp2
 go_ret
 exact⟨rfl,rfl⟩
theorem zRN(t:Addr)(w:World):(ReflectliteValue.unpack (.iface 62 (.pointer (some t)))).run Tryz.prog w
  =.ok (.agg #[.pointer (some ⟨12,62,none⟩),.pointer (some ⟨w.heap.size,0,none⟩),.int .u64 150]) (w.alloc (.cells #[.pointer (some t)] 62)):=by kernel_rfl
theorem typeP(a:Addr)(w:World):(ReflectliteValue.methodAny (ReflectliteValue.valueError "reflectlite.Value.Type" 0) (fun t _ _ _=>ReflectliteType.toType t) #[.agg #[.pointer (some ⟨12,62,none⟩),.pointer (some a),.int .u64 150]]).run Tryz.prog w
  =.ok (.iface 157 (.agg #[.pointer (some ⟨12,62,none⟩)])) w:=by kernel_rfl
theorem mKind(h:Value)(w:World):(Go.method 450 157 (.agg #[h]) "Kind").run Tryz.prog w=.ok (227,h) w:=by kernel_rfl
theorem kindP(w:World):((ReflectliteType.abiMethod fun t=>(fun a:Nat=>Value.int IntKind.u8 (a:Int))<$>Rtype.kind t) #[.pointer (some ⟨12,62,none⟩)]).run Tryz.prog w=.ok (.int .u8 22) w:=by kernel_rfl
theorem kindC(w:World):((ReflectliteType.abiMethod fun t=>(fun a:Nat=>Value.int IntKind.u8 (a:Int))<$>Rtype.kind t) #[.pointer (some ⟨12,57,none⟩)]).run Tryz.prog w=.ok (.int .u8 22) w:=by kernel_rfl
theorem zTT(a p:Addr)(W:World)(ha:W.cell? a=some (.pointer (some p))):
  (ReflectliteValue.method (ReflectliteValue.valueError "reflectlite.Value.IsNil" 0) ReflectliteValue.isNil #[.agg #[.pointer (some ⟨12,62,none⟩),.pointer (some a),.int .u64 150]]).run Tryz.prog W=.ok (.bool false) W:=by
 rw[rlm];simp only[Sem.run_bind,zRf,Result.andThen];simp[ReflectliteValue.isNil,loadVar,isAgg,underlying,Tryz.underlying62,ha,Result.andThen]
theorem mElem(h:Value)(w:World):(Go.method 450 157 (.agg #[h]) "Elem").run Tryz.prog w=.ok (241,.agg #[h]) w:=by kernel_rfl
theorem mImpl(h:Value)(w:World):(Go.method 450 157 (.agg #[h]) "Implements").run Tryz.prog w=.ok (242,.agg #[h]) w:=by kernel_rfl
theorem elemP(w:World):(ReflectliteType.method ReflectliteType.elem #[.agg #[.pointer (some ⟨12,62,none⟩)]]).run Tryz.prog w=.ok (.iface 157 (.agg #[.pointer (some ⟨12,57,none⟩)])) w:=by kernel_rfl
theorem implC(w:World):(ReflectliteType.relation "Implements" ReflectliteType.implements_ #[.agg #[.pointer (some ⟨12,57,none⟩)],.iface 157 (.agg #[.pointer (some ⟨12,60,none⟩)])]).run Tryz.prog w=.ok (.bool true) w:=by kernel_rfl
def asW(w:World)(t:Addr):World:=(w.alloc (.cells #[.pointer (some t)] 62)).alloc (.cells #[.pointer (some ⟨12,62,none⟩),.pointer (some ⟨w.heap.size,0,none⟩),.int .u64 150] 104)
set_option maxRecDepth 100000 in
set_option maxHeartbeats 4000000 in
theorem As_join(e1 e2 j t:Addr)(bS k:Nat)(old:Value)(w:World)(hg:w.cell? ⟨0,0,none⟩=some (.iface 157 (.agg #[.pointer (some ⟨12,60,none⟩)])))(hj:w.cell? j=some (.slice (some ⟨bS,0,none⟩) 2 k))(h1:w.cell? ⟨bS,0,none⟩=some (.iface 204 (.pointer (some e1))))(h2:w.cell? ⟨bS,1,none⟩=some (.iface 57 (.pointer (some e2))))
  (ht:w.cell? t=some old) (hf:w.frozen? t=false):
  Calls Tryz.prog 26 #[.iface 201 (.pointer (some j)),.iface 62 (.pointer (some t))] w fun ev w'=>ev=.returned (.bool true)/\w'=hitW (((asW w t).alloc (.cells #[.pointer (some ⟨12,62,none⟩),.pointer (some ⟨w.heap.size,0,none⟩),.int .u64 150] 104)).alloc (.cells #[.pointer (some ⟨12,62,none⟩),.pointer (some ⟨w.heap.size,0,none⟩),.int .u64 150] 104)) ⟨w.heap.size,0,none⟩ t e2:=by
 have h51:= @run_callFunc_extern Tryz.prog 51 _ (fun args=>ReflectliteValue.unpack (args.getD 0 (.tuple #[]))) Tryz.func51 (by kernel_rfl) (by kernel_rfl) (by kernel_rfl) (by kernel_rfl);have h52:= @run_callFunc_extern Tryz.prog 52 _ (ReflectliteValue.methodAny (ReflectliteValue.valueError "reflectlite.Value.Type" 0) (fun t _ _ _=>ReflectliteType.toType t)) Tryz.func52 (by kernel_rfl) (by kernel_rfl) (by kernel_rfl) (by kernel_rfl);have h53:= @run_callFunc_extern Tryz.prog 53 _ (ReflectliteValue.method (ReflectliteValue.valueError "reflectlite.Value.IsNil" 0) ReflectliteValue.isNil) Tryz.func53 (by kernel_rfl) (by kernel_rfl) (by kernel_rfl) (by kernel_rfl);have hki:= @run_callFunc_extern Tryz.prog 227 _ (ReflectliteType.abiMethod fun t=>do pure (.int .u8 (<-Rtype.kind t))) Tryz.func227 (by kernel_rfl) (by kernel_rfl) (by kernel_rfl) (by kernel_rfl);have hel:= @run_callFunc_extern Tryz.prog 241 _ (ReflectliteType.method ReflectliteType.elem) Tryz.func241 (by kernel_rfl) (by kernel_rfl) (by kernel_rfl) (by kernel_rfl);have him:= @run_callFunc_extern Tryz.prog 242 _ (ReflectliteType.relation "Implements" ReflectliteType.implements_) Tryz.func242 (by kernel_rfl) (by kernel_rfl) (by kernel_rfl) (by kernel_rfl);have f1:=zRN;have f2:=typeP;have f3:=mKind;have f4:=mElem;have f5:=mImpl;have f6:=kindP;have f7:=kindC;have f8:=elemP;have f9:=implC;have l0:0<w.heap.size:=zEV hg;have lj:=zEV hj;have lS:bS<w.heap.size:=zEV h1;have lt:=zEV ht;have old2:∀(a:Addr) (v:Value),a.block<w.heap.size->w.cell? a=some v->(asW w t).cell? a=some v:=fun a v hl h=>by rw[asW,World.cell?_alloc_lt _ _ a (by simp;omega),World.cell?_alloc_lt _ _ a hl];exact h
 have n8:=zTT ⟨w.heap.size,0,none⟩ t (asW w t) (by rw[asW,World.cell?_alloc_lt _ _ ⟨w.heap.size,0,none⟩ (by simp)];simp);have hg2:=old2 _ _ l0 hg;have hj2:=old2 _ _ lj hj;have h12:=old2 ⟨bS,0,none⟩ _ lS h1;have h22:=old2 ⟨bS,1,none⟩ _ lS h2;have ht2:=old2 _ _ lt ht;have hq2:(asW w t).cell? ⟨w.heap.size,0,none⟩=some (.pointer (some t)):=by rw[asW,World.cell?_alloc_lt _ _ ⟨w.heap.size,0,none⟩ (by simp)];simp
 have hf2:(asW w t).frozen? t=false:=by rw[asW,World.frozen?_alloc_old _ _ t (by simp;omega),World.frozen?_alloc_old _ _ t (Nat.ne_of_lt lt)];exact hf
 have key:=zRp e1 e2 j ⟨w.heap.size,0,none⟩ t bS k (.iface 62 (.pointer (some t))) old (asW w t) hj2 h12 h22 hq2 ht2 hf2;unfold asW at n8 hg2 key
 go_enter Tryz.func26,Tryz.ntmps26
 go_wp2_with (go_at_call 54;refine key.mono ?_;rintro e w' ⟨rfl,rfl⟩)
 go_ret
 exact⟨rfl,rfl⟩
end Go.Proofs
end
section
namespace Go.Proofs
open Go Go.Ab
open Go.RowKit (Below)
section
variable{N:Nat}{w0:World}
theorem zQv{h:AHeap}{a:AVal}{G:GM}{argsV:Array Value}{w:World}{Q:AVal×AHeap->Prop}(hR:Rel Tryz.prog N w0 G h w)(hv:VsR Tryz.prog G [.nilIface,a] argsV.toList)(hq:Q (.bool false,h)):CallsIn (FR none) 0 Tryz.prog 26 argsV w (PostC Tryz.prog N w0 G h w Q):=by obtain⟨x,y,rfl,hx,hy⟩:=zRo hv;have hx:x=.nilIface:=hx;subst hx;exact zGY hR (v:=.bool false) (cv:=.bool false) rfl hq (As_nil y w)
theorem zID{G:GM}{h:AHeap}{w:World}(hR:Rel Tryz.prog N w0 G h w){b ver:Nat}{e:TypeId}{vs:List AVal}(hb:h.objs.get b=some (ver,.cells false e vs)):∃(gi:GI) (c:Array Value),G b=some gi/\gi.off=0/\w.heap[gi.blk]?=some (.cells c e (0,0))/\c.size=gi.size/\gi.elem=e/\vs.length<=gi.size/\VsR Tryz.prog G vs (c.toList.take vs.length)∧
  (∀i v,vs[i]?=some v->∃x,w.cell? ⟨gi.blk,i,none⟩=some x/\VR Tryz.prog G v x):=by
 obtain⟨gi,h1,ob,h2,c,t,fr,rfl,hf,af,ac,hl,ab⟩:=hR.obj b _ _ hb;obtain⟨ae,aa,ht,ad⟩:=hf rfl;subst ht;subst ad;rw[aa,zlZ] at ab;refine⟨gi,c,h1,aa,h2,ae,ac,hl,ab,fun i v hv=>?_⟩;obtain⟨x,k1,k2⟩:=ab.get hv;have hi:i<vs.length:=(zgS.1 hv).1;refine⟨x,?_,k2⟩;rw[List.getElem?_take,if_pos hi] at k1;simp[World.cell?,h2];simpa using k1
theorem zDv{n:Nat}{w w':World}(b:Below n w w')(h:n<=w'.heap.size)(ob:Obj):Below n w (w'.alloc ob):=
 ⟨b.os,b.tape,b.output,Nat.le_trans b.size (by
  show w'.heap.size<=(w'.heap.push ob).size;rw[Array.size_push];omega),fun k hk=>by
  rw[<-b.block k hk];show (w'.heap.push ob)[k]?=_;rw[Array.getElem?_push,if_neg (by omega)]⟩
theorem size_alloc(w:World)(ob:Obj):w.heap.size<=(w.alloc ob).heap.size:=by show w.heap.size<=(w.heap.push ob).size;rw[Array.size_push];omega
set_option maxHeartbeats 2000000 in
theorem s_as{h:AHeap}{bj vj be ve bw vw b1 b2:Nat}{vs:List AVal}(h1:h.objs.get bj=some (vj,.cells false 203 [.slice (some (be,0)) 2]))(h2:h.objs.get be=some (ve,.cells false 60 vs))(ht:vs.take 2=[.iface 204 (.ptr (some (b1,0))),.iface 57 (.ptr (some (b2,0)))])
  (h3:h.objs.get bw=some (vw,.cells false 57 [.ptr none])) (hN0:0<N) (he:w0.cell? ⟨0,0,none⟩=some (.iface 157 (.agg #[.pointer (some ⟨12,60,none⟩)])))
  {G:GM} {argsV:Array Value} {w:World} {Q:AVal×AHeap->Prop} (hR:Rel Tryz.prog N w0 G h w) (hv:VsR Tryz.prog G [.iface 201 (.ptr (some (bj,0))),.iface 62 (.ptr (some (bw,0)))] argsV.toList)
  (hq:Q (.bool true,zAX h bw (.cells false 57 [.ptr (some (b2,0))]))):CallsIn (FR none) 0 Tryz.prog 26 argsV w (PostC Tryz.prog N w0 G h w Q):=by
 obtain⟨x,y,rfl,⟨x',rfl,gj,hgj,rfl⟩,y',rfl,gw,hgw,rfl⟩:=zRo hv;obtain⟨gj',cj,k1,k2,k3,_,_,_,_,k8⟩:=zID hR h1;obtain⟨ge,ce,l1,l2,l3,_,_,_,_,l8⟩:=zID hR h2;obtain⟨gw',cw,m1,m2,m3,m4,m5,m6,m7,m8⟩:=zID hR h3;have hgj':G bj=some gj:=hgj;have hgw':G bw=some gw:=hgw;rw[hgj'] at k1;cases k1;rw[hgw'] at m1;cases m1;obtain⟨xs,q1,gse,cap,hge,rfl,_⟩:=k8 0 _ rfl;have hge':G be=some gse:=hge;rw[l1] at hge';cases hge';have v0:vs[0]?=some (.iface 204 (.ptr (some (b1,0)))):=by have:=congrArg (fun l=>l[0]?) ht;simpa using this
 have v1:vs[1]?=some (.iface 57 (.ptr (some (b2,0)))):=by have:=congrArg (fun l=>l[1]?) ht;simpa using this
 obtain⟨y0,r1,z0,rfl,g1,hg1,rfl⟩:=l8 0 _ v0;obtain⟨y1,r2,z1,rfl,g2,hg2,rfl⟩:=l8 1 _ v1;obtain⟨yw,r3,hyw⟩:=m8 0 _ rfl;have hyw:yw=.pointer none:=hyw;subst hyw;have hfz:w.frozen? ⟨gw.blk,0,none⟩=false:=zBc m3;have hg0:w.cell? ⟨0,0,none⟩=some (.iface 157 (.agg #[.pointer (some ⟨12,60,none⟩)])):=by have:=hR.below.block 0 hN0;simp only[World.cell?] at he ⊢;rw[this];exact he
 have hNw:N<=gw.blk:=hR.own bw _ _ gw h3 hgw' rfl;simp only[k2,m2,l2,Nat.add_zero,Nat.zero_add] at q1 ⊢;refine callsIn_wide.2 ((As_join ⟨g1.blk,g1.off+0,none⟩ ⟨g2.blk,g2.off+0,none⟩ ⟨gj.blk,0,none⟩ ⟨gw.blk,0,none⟩ ge.blk cap (.pointer none) w hg0 q1 r1 r2 r3 hfz).mono fun e w' hp=>?_);obtain⟨rfl,rfl⟩:=hp;unfold hitW;generalize hwA:((((asW w ⟨gw.blk,0,none⟩).alloc _).alloc _).alloc _).alloc _=wA;have hbel:Below w.heap.size w wA:=by subst hwA;have b0:Below w.heap.size w w:=⟨rfl,rfl,rfl,Nat.le_refl _,fun _ _=>rfl⟩;have c1:=zDv b0 (Nat.le_refl _);have c2:=fun o1 o2=>zDv (c1 o1) (size_alloc _ _) o2;have c3:=fun o1 o2 o3=>zDv (c2 o1 o2) (Nat.le_trans (size_alloc _ _) (size_alloc _ _)) o3;have c4:=fun o1 o2 o3 o4=>zDv (c3 o1 o2 o3) (Nat.le_trans (Nat.le_trans (size_alloc _ _) (size_alloc _ _)) (size_alloc _ _)) o4;have c5:=fun o1 o2 o3 o4 o5=>zDv (c4 o1 o2 o3 o4) (Nat.le_trans (Nat.le_trans (Nat.le_trans (size_alloc _ _) (size_alloc _ _)) (size_alloc _ _)) (size_alloc _ _)) o5;have c6:=fun o1 o2 o3 o4 o5 o6=>zDv (c5 o1 o2 o3 o4 o5) (Nat.le_trans (Nat.le_trans (Nat.le_trans (Nat.le_trans (size_alloc _ _) (size_alloc _ _)) (size_alloc _ _)) (size_alloc _ _)) (size_alloc _ _)) o6;exact c6 _ _ _ _ _ _
 obtain⟨hR',hE'⟩:=hR.grown hbel;have lw:gw.blk<w.heap.size:=zAy m3;have hA:wA.heap[gw.blk]?=some (.cells cw 57 (0,0)):=(hbel.block _ lw).trans m3;have hset:(wA.setCell ⟨gw.blk,0,none⟩ (.pointer (some ⟨g2.blk,g2.off+0,none⟩))).heap[gw.blk]?=some (.cells (cw.setIfInBounds 0 (.pointer (some ⟨g2.blk,g2.off+0,none⟩))) 57 (0,0)):=by show (wA.heap.modify gw.blk _)[gw.blk]?=_;rw[Array.getElem?_modify];simp[hA]
 have hoth:∀k,k≠gw.blk->(wA.setCell ⟨gw.blk,0,none⟩ (.pointer (some ⟨g2.blk,g2.off+0,none⟩))).heap[k]?=wA.heap[k]?:=fun k hk=>by show (wA.heap.modify gw.blk _)[k]?=_;rw[Array.getElem?_modify];simp[Ne.symm hk]
 have hput:=hR'.put (w':=wA.setCell ⟨gw.blk,0,none⟩ (.pointer (some ⟨g2.blk,g2.off+0,none⟩))) (o':=.cells false 57 [.ptr (some (b2,0))]) (ob':=.cells (cw.setIfInBounds 0 (.pointer (some ⟨g2.blk,g2.off+0,none⟩))) 57 (0,0)) h3 rfl rfl hgw' hset hoth
  ⟨rfl,rfl,rfl,by simp[World.setCell],fun k hk=>hoth k (by omega)⟩
  ⟨_,_,(0,0),rfl,fun _=>⟨by simp[m4],m2,rfl,rfl⟩,by simp[m2,m4],m5,by simpa using m6,by
   rw[m2,zlZ];have m6':1<=cw.size:=by rw[m4];simpa using m6
   have:(cw.setIfInBounds 0 (.pointer (some ⟨g2.blk,g2.off+0,none⟩))).toList.take 1=[.pointer (some ⟨g2.blk,g2.off+0,none⟩)]:=by
    rw[Array.toList_setIfInBounds];obtain⟨x0,r0,hl⟩:∃x r,cw.toList=x::r:=by
     have h0:0<cw.toList.length:=by rw[Array.length_toList];omega
     exact⟨_,_,(List.cons_head_tail (List.ne_nil_of_length_pos h0)).symm⟩
    rw[hl];rfl
   show VsR Tryz.prog G _ (List.take 1 _);rw[this];exact⟨_,_,rfl,⟨g2,hg2,rfl⟩,rfl⟩⟩
 exact⟨.bool true,_,G,.bool true,rfl,hq,hput.1,hE'.trans hput.2,rfl⟩
end
end Go.Proofs
end
