import Derived.Test.YtpmndmiohaaokaaGreatDoorP12
import Derived.Test.YtpmndmiohaaokaaGreatDoorP14
import Derived.Test.YtpmndmiohaaokaaGreatDoorP19
import Derived.Test.YtpmndmiohaaokaaGreatDoorP20
import Derived.Test.YtpmndmiohaaokaaGreatDoorP22
import Derived.Test.YtpmndmiohaaokaaGreatDoorP24
import Derived.Test.YtpmndmiohaaokaaGreatDoorP25
import Derived.Lib.LaidU8
import Derived.Lay
import Derived.Deep.DeepWitnessRowRef
import Derived.ProofKit
import Derived.LaidHandle
/-
  Part 26 of the proof.
-/
set_option linter.all false
set_option maxHeartbeats 8000000
section
namespace Go.Proofs
open Go Go.Ab Go.Ab.S
open Go.RowKit (Below)
def zKG:List Int:=(List.range 256).map fun i=>if i==32||(9<=i&&i<=13) then 1 else 0
theorem zPn:(YtpmndmiohaaokaaGreatDoor.Rows.laid_strings_asciiSpace:DataW Unit)=Lib.tabData .u8 zKG:=by kernel_rfl
theorem zTc:(YtpmndmiohaaokaaGreatDoor.Rows.laid_internal_strconv_uint64pow10:DataW Unit)=Lib.tabData .u64 Lib.pow10Tab:=by kernel_rfl
theorem g1:Tryz.prog.globalNamed "strings.asciiSpace" =some 1:=by kernel_rfl
theorem g8:Tryz.prog.globalNamed "internal/strconv.uint64pow10" =some 8:=by kernel_rfl
theorem g1t:(Tryz.prog.globals[1]?).map (·.type)=some 261:=by kernel_rfl
theorem g8t:(Tryz.prog.globals[8]?).map (·.type)=some 320:=by kernel_rfl
theorem zPW{P:Program}{W:World}{name:String}{k:IntKind}{zs:List Int}{g:Nat}{t e:TypeId}{n:Nat}
  (hg:P.globalNamed name=some g) (hty:(P.globals[g]?).map (·.type)=some t) (ht:P.underlying t=some (.array n e)) (he:P.underlying e=some (.int k)) (hce:P.cellsOf e=1) (hct:P.cellsOf t=n)
  (h:Lib.VarReads P W name (Lib.tabData k zs)):Lib.TabIs P W name k zs:=by
 obtain⟨g',t',cs,ad,p,ab,ac,aa,hd⟩:=h;obtain rfl:=Option.some.inj (hg.symm.trans ab);obtain rfl:=Option.some.inj (hty.symm.trans ac);unfold Lib.TabIs;rw[aa,<-Lib.cells_of_tab ht he hce hct hd]
theorem TabIs.below{P:Program}{W w:World}{N:Nat}{name:String}{k:IntKind}{zs:List Int}{g:Nat}(hg:P.globalNamed name=some g)(hN:g<N)(h:Lib.TabIs P W name k zs)(b:Below N W w):Lib.TabIs P w name k zs:=by unfold Lib.TabIs World.var? at h ⊢;rw[hg] at h ⊢;simp only[Option.bind_some] at h ⊢;rw[b.block g hN];exact h
theorem TabIs.block{P:Program}{W:World}{name:String}{k:IntKind}{zs:List Int}{g:Nat}(hg:P.globalNamed name=some g)(h:Lib.TabIs P W name k zs):∃e fr,W.heap[g]?=some (.cells (zs.map fun z=>Value.int k z).toArray e fr):=by
 unfold Lib.TabIs World.var? at h;rw[hg] at h;simp only[Option.bind_some] at h;split at h
 ·rename_i cs e fr hh;simp only[oI] at h;exact⟨e,fr,by rw[hh,h]⟩
 ·cases h
theorem VsR_ints{P:Program}{G:GM}{k:IntKind}:∀zs:List Int,VsR P G (zs.map fun z=>AVal.int k z) (zs.map fun z=>Value.int k z)
 |[]=>rfl
 |z::zs=>⟨_,_,rfl,rfl,VsR_ints zs⟩
theorem zPV:tabA=zKG.map fun z=>AVal.int .u8 z:=by unfold tabA zKG;rw[List.map_map];refine List.map_congr_left fun i _=>?_;show AVal.int .u8 (if _ then 1 else 0)=AVal.int .u8 (if _ then 1 else 0);rfl
theorem et0:Tryz.prog.globalNamed "errors.errorType" =some 0:=by kernel_rfl
theorem rt0:(Tryz.prog.cutTypes.find? (·.1== "internal/reflectlite.rtype")).map (·.2)=some 157:=by kernel_rfl
theorem zSW:((List.range 350).filter fun t=>Tryz.prog.rowNamed t [101,114,114,111,114])=[60]:=by kernel_rfl
theorem size0:Tryz.prog.types.size=350:=by kernel_rfl
theorem zOc{W:World}(h:handlesMet Tryz.prog (zOm.filter fun x=>x.2.handleName?.isSome) W):W.cell? ⟨0,0,none⟩=some (.iface 157 (.agg #[.pointer (some ⟨12,60,none⟩)])):=by
 obtain⟨name,u,ty,e1,e2,e3,e4,e5⟩:=h _ (List.mem_filter.2 ⟨List.mem_of_getElem? (i:=4) rfl,by kernel_rfl⟩);have en:name=[101,114,114,111,114]:=(Option.some.inj e1).symm;subst en;obtain rfl:=Option.some.inj (rt0.symm.trans e2);have hm:ty∈(List.range 350).filter fun t=>Tryz.prog.rowNamed t [101,114,114,111,114]:=List.mem_filter.2 ⟨List.mem_range.2 (by rw[<-size0];exact e3),e4⟩;rw[zSW] at hm;obtain rfl:=List.mem_singleton.1 hm;have hh:typeHandle Tryz.prog 60=.pointer (some ⟨12,60,none⟩):=by kernel_rfl
 rw[hh] at e5;simpa using World.var?_cell et0 e5 0
theorem wok{W:World}(hL:laidMetH Tryz.prog zOm W)(hS:W.ShapedOpen Tryz.prog)(hN:Tryz.prog.globals.size<=W.heap.size):WOK W:=by
 have hp:=(laidMetH_iff.1 hL).1;have a1:Lib.TabIs Tryz.prog W "strings.asciiSpace" .u8 zKG:=by refine zPW (e:=5) (n:=256) g1 g1t (by kernel_rfl) (by kernel_rfl) (by kernel_rfl) (by kernel_rfl) ?_;rw[<-zPn];exact Lib.laidMet.reads hp (List.mem_filter.2 ⟨List.mem_of_getElem? (i:=8) rfl,by kernel_rfl⟩)
 have a8:Lib.TabIs Tryz.prog W "internal/strconv.uint64pow10" .u64 Lib.pow10Tab:=by refine zPW (e:=218) (n:=20) g8 g8t (by kernel_rfl) (by kernel_rfl) (by kernel_rfl) (by kernel_rfl) ?_;rw[<-zTc];exact Lib.laidMet.reads hp (List.mem_filter.2 ⟨List.mem_of_getElem? (i:=2) rfl,by kernel_rfl⟩)
 refine⟨cell_of_shapedOpen_int (zero:= #[.int .i64 0]) (t:=3) hS (of_decide_eq_true (by kernel_rfl)) (by kernel_rfl) rfl (by kernel_rfl) (by kernel_rfl) Tryz.underlying3,?_,?_,hN,zOc (laidMetH_iff.1 hL).2⟩
 ·obtain⟨e,fr,hb⟩:=TabIs.block g1 a1;refine⟨by rw[zDc];decide,by rw[zDc];decide,hN,by decide,_,e,fr,hb,?_,?_⟩
  ·rw[zPV];simp
  rw[zPV,List.length_map];show VsR _ _ _ (List.take _ (zKG.map _));rw[List.take_of_length_le (by simp)];exact VsR_ints _
 ·exact fun w hb=>TabIs.below g8 (by have:=zDc;omega) a8 hb
end Go.Proofs
end
section
namespace Go.Proofs
open Go Go.Ab Go.Ab.S
open Go.RowKit (Below)
open Go.ChangeShapes Go.WideShapes Go.ChangeAt
theorem zNr(s:List Nat):bigT s<=1000:=by unfold bigT;split<;>omega
theorem zLw:∀l:List (List Nat),l.length<=(l.map fun s=>s.length+1).sum/\sumL bigT l<=1000*(l.map fun s=>s.length+1).sum/\∀s∈l,s.length<=(l.map fun s=>s.length+1).sum
 |[]=>⟨by simp,by simp[sumL],fun s hs=>by cases hs⟩
 |s::l=>by
  obtain⟨h1,h2,h3⟩:=zLw l;have:=zNr s;refine⟨by simp only[List.map_cons,List.sum_cons,zlC];omega,by simp only[List.map_cons,List.sum_cons,sumL];omega,fun t ht=>?_⟩;simp only[List.map_cons,List.sum_cons];rcases List.mem_cons.1 ht with rfl|ht
  ·omega
  ·have:=h3 t ht;omega
theorem zOa(n:Ab.Node):zBm n<=3000*zBk n:=by have:=zLw n.labels;have:=zNr n.name;simp only[zBm,zBk];omega
theorem zMZ:∀ns:List Ab.Node,ns.length<=(ns.map zBk).sum/\sumL zBm ns<=3000*(ns.map zBk).sum/\∀n∈ns,zBk n<=(ns.map zBk).sum
 |[]=>⟨by simp,by simp[sumL],fun s hs=>by cases hs⟩
 |n::l=>by
  obtain⟨h1,h2,h3⟩:=zMZ l;have h4:=zOa n;have h5:1<=zBk n:=by simp only[zBk];omega
  refine⟨by simp only[List.map_cons,List.sum_cons,zlC];omega,by simp only[List.map_cons,List.sum_cons,sumL];omega,fun t ht=>?_⟩;simp only[List.map_cons,List.sum_cons];rcases List.mem_cons.1 ht with rfl|ht
  ·omega
  ·have:=h3 t ht;omega
theorem zPN{g:Graph}(h:zSE g<=1048576):Sane g:=by
 have aa:(2:Nat) ^ 60=1152921504606846976:=by decide
 have h':(g.nodes.map zBk).sum<=1048576:=h;obtain⟨h1,h2,h3⟩:=zMZ g.nodes;refine⟨by simp only[zEv];omega,⟨by omega,fun n hn=>?_⟩⟩;have k:=h3 n hn;obtain⟨j1,j2,j3⟩:=zLw n.labels;simp only[zBk] at k;exact⟨by omega,by omega,fun s hs=>by have:=j3 s hs;omega⟩
theorem zRV:GTypes Tryz.prog 24 22 36 3 9 4 28 34 where
 int:=Tryz.underlying3
 str:=Tryz.underlying9
 bool:=Tryz.underlying4
 ints:=Tryz.underlying28
 strs:=Tryz.underlying34
 nodes:=Tryz.underlying22
 node:=⟨_,_,_,_,_,Tryz.underlying36,⟨rfl,rfl⟩,⟨rfl,rfl⟩,⟨rfl,rfl⟩,⟨rfl,rfl⟩,rfl,rfl⟩
 graph:=⟨_,_,Tryz.underlying24,⟨rfl,rfl⟩,rfl,rfl⟩
 cI:=by kernel_rfl
 cS:=by kernel_rfl
 cB:=by kernel_rfl
 cIs:=by kernel_rfl
 cSs:=by kernel_rfl
 cNs:=by kernel_rfl
 cN:=by kernel_rfl
 cG:=by kernel_rfl
open YtpmndmiohaaokaaGreatDoor.Rows in
theorem zFq{H:Type}:∀l:List (DataW H),uptoBulkAll l=(l.map uptoBulk).sum
 |[]=>rfl
 |d::l=>by rw[uptoBulkAll,zFq l];rfl
open YtpmndmiohaaokaaGreatDoor.Rows in
theorem meas(H:Type):Meas (uptoBulk (H:=H)) where
 agg:=fun l=>by rw[uptoBulk,zFq];exact Nat.le_refl _
 slice:=fun l r=>by rw[uptoBulk,zFq];omega
 str:=fun s=>by rw[uptoBulk];exact Nat.le_refl _
 lit:=fun x=>by unfold uptoBulk;split<;>omega
def zKf:AHeap:={objs:=.leaf,next:=12}
def zTP:GM:=fun g=>if g<12 then some ⟨g,0,0,0⟩ else none
theorem zSm:WF zKf:=fun b _=>T.get_leaf b
theorem zQo{W:World}(hN:Tryz.prog.globals.size<=W.heap.size):Rel Tryz.prog W.heap.size W zTP zKf W where
 obj:=fun id ver o hx=>by simp[zKf,T.get_leaf] at hx
 inj:=fun id id' x x' gi gi' hx=>by simp[zKf,T.get_leaf] at hx
 own:=fun id ver o gi hx=>by simp[zKf,T.get_leaf] at hx
 fresh:=fun id hi=>by
  have:¬id<12:=by simp only[zKf] at hi;omega
  simp[zTP,this]
 vers:=fun id ver o hx=>by simp[zKf,T.get_leaf] at hx
 glob:=fun g hg=>by rw[zDc] at hg;exact⟨_,if_pos hg,rfl,rfl⟩
 low:=by rw[zDc];exact Nat.le_refl _
 below:=Below.refl _ _
 size:=Nat.le_refl _
 rolow:=fun id ver o gi hx=>by simp[zKf,T.get_leaf] at hx
theorem zQO{W:World}(hS:W.ShapedOpen Tryz.prog):Tryz.prog.globals.size<=W.heap.size:=by
 have h1:(((begin Tryz.prog (fun _ _=>0) default).world.heap[11]?).bind Obj.row?).isSome=true:=by kernel_rfl
 obtain⟨⟨z,t⟩,hz⟩:=Option.isSome_iff_exists.1 h1;obtain⟨cs,hh,_⟩:=hS.1 11 z t (by rw[zDc];decide) hz;have:=(Array.getElem?_eq_some_iff.1 hh).1;rw[zDc];omega
def Tells(W:World):Ending->World->Prop:=fun e w'=>e=.returned (.bool true)/\Below W.heap.size W w'
theorem zRJ{W:World}{f:FuncId}{args:List AVal}{argsV:Array Value}{G:GM}{h:AHeap}(K:WOK W)(R:Rel Tryz.prog W.heap.size W G h W)(hv:VsR Tryz.prog G args argsV.toList)(k:Cl tab zEN f args h fun r _=>r=.bool true):Calls Tryz.prog f argsV W (Tells W):=by obtain⟨n,hn⟩:=k;refine(zKR mixed zUC (zRG K) R hv (hn n (Nat.le_refl _))).mono fun e w' hp=>?_;obtain⟨v,h',G',cv,rfl,hv,R',_,hr⟩:=hp;have hv:v=.bool true:=hv;subst hv;have hr:cv=.bool true:=hr;exact⟨by rw[hr],R'.below⟩
theorem zJp{H:Type}{enc:TypeId×Value->H}{P:Program}{f:Func}{s:ChangeSpec}{apart fresh handsOn again:Bool}{W W':World}{args:Array Value}{v:Value}{ds gs:List (DataW H)}{before pa pv:List MemPlace}
  (hW:DataW.Whole enc P f.params.toList s.vars apart W args.toList ds gs before)
  (hres:∀(b:Nat) (sp:Nat->Bool) (hd:Bool),DataW.TrodAll enc P W' b sp hd f.resultTypes.toList (v.resultList f.resultTypes.size) (s.fn H (ds++gs)).results [])
  (hargs:∀sp:Nat->Bool,(∀p∈before,sp p.block=true)->DataW.TrodAll enc P W' 0 sp true f.params.toList args.toList (s.fn H (ds++gs)).args pa)
  (hvars:∀sp:Nat->Bool,(∀p∈before,sp p.block=true)->DataW.TrodVars enc P W' sp s.vars (s.fn H (ds++gs)).vars pv)
  (hps:before=pa++pv) (hb:Below W.heap.size W W')
  (hok:∀(j:Nat) (t:TypeId) (r:Value),f.resultTypes[j]?=some t->(v.resultList f.resultTypes.size)[j]?=some r->Value.okWide P W' .any 0 t r):
  s.post enc P f apart fresh handsOn again W args v W':=by
 have ab:=hW.lt;have aa:∀p∈before,(fun b=>decide (b<W.heap.size)) p.block=true:=fun p hp=>by simpa using ab p hp
 refine⟨ds,gs,before,[],pa,pv,hW,hres _ _ _,hargs _ aa,hvars _ aa,World.keptBut_mono (fun p hp=>⟨hp,?_⟩) (hb.frame _),fun _=>?_⟩
 ·rw[hps,List.mem_append] at hp;exact Or.inr hp
 ·obtain⟨_,_,_,_,_,hz,hn⟩:=hW;refine⟨hok,_,_,([]++pa)++pv,⟨[]++pa,pv,trodAll_append (hargs _ (fun _ _=>rfl)) (hres _ _ _),hvars _ (fun _ _=>rfl),rfl,?_,?_⟩,?_⟩
  ·intro b off hp;have ac:MemPlace.cell b off∈before:=by rw[hps];simpa using hp
   have ad:(⟨b,off,none⟩:Addr).block<W.heap.size:=ab _ ac;rw[hb.frozen ad];exact hz b off ac
  ·intro ha;have:=hn ha;rw[hps] at this;simpa using this
  ·intro p hp _;rw[hps];simpa using hp
end Go.Proofs
end
section
namespace Go.Ab.S
open Go Go.Ab
def RowA(h:AHeap)(base:Nat)(v:AVal)(n:Nat):Prop:=lenO v=some n/\(0<n->∃b ver vs,base<=b/\v=.slice (some (b,0)) n/\h.objs.get b=some (ver,.cells false 3 vs)/\n<=vs.length)
theorem CaseU.zero8{g:Graph}{ps:List Pr}{code:Int}(h:CaseU g ps code)(h0:code=0):zAB g=0:=by
 rcases h with⟨_,a2⟩|⟨a1,_⟩|⟨a1,_⟩|⟨a1,_⟩
 ·exact absurd h0 a2
 ·exact a1
 ·exact a1
 ·exact a1
theorem zero_sm8:GraphSm zEs:=(zGx (g:=zEs) (by decide) (by decide)).toGraphSm
theorem RowA.of{h:AHeap}{base n:Nat}{v:AVal}{l:List AVal}(B:Built h base 3 1 v n l):RowA h base v n:=by
 refine⟨B.len,fun hn=>?_⟩;rcases B with⟨_,h1,_⟩|⟨_,h1,_⟩|⟨b,vs,ver,h0,h1,h2,h3,_⟩
 ·omega
 ·omega
 ·exact⟨b,ver,vs,h0,h1,h2,by omega⟩
theorem RowA.put{h h':AHeap}{base n b ver v':Nat}{v:AVal}{vs ws:List AVal}(k:RowA h base v n)(B:But b h h')(hb:h.objs.get b=some (ver,.cells false 3 vs))(hb':h'.objs.get b=some (v',.cells false 3 ws))(hl:ws.length=vs.length):RowA h' base v n:=by
 refine⟨k.1,fun hn=>?_⟩;obtain⟨c,vc,us,h0,h1,h2,h3⟩:=k.2 hn;by_cases hc:c=b
 ·subst hc;rw[hb] at h2;simp only[oI,Prod.mk.injEq,AObj.cells.injEq] at h2;exact⟨c,v',ws,h0,h1,hb',by rw[hl,h2.2.2.2];exact h3⟩
 ·exact⟨c,vc,us,h0,h1,B.keep c hc _ h2,h3⟩
theorem cell2{vs:List AVal}{o:Nat}{a b c d e:AVal}(h:(vs.drop o).take 5=[a,b,c,d,e]):vs[o+2]?=some c/\o+5<=vs.length:=by have h1:=congrArg (fun l=>l[2]?) h;have h2:=congrArg List.length h;simp[List.getElem?_take,List.getElem?_drop] at h1;simp at h2;exact⟨h1,by omega⟩
structure NodA(h:AHeap)(base:Nat)(v:AVal)(A:Graph)(cs:List (List AVal)):Prop where
 sl:SlAt h 5 v cs
 low:∀k c,v=.slice (some (c,0)) k->base<=c
 blk:Built h base 36 5 v A.nodes.length cs.flatten
 len:cs.length=A.nodes.length
 rows:∀(i:Nat) c n,cs[i]?=some c->A.nodes[i]?=some n->∃av lv,c=[.int .i64 n.kind,.str n.name,av,lv,.bool n.isOpen]/\RowA h base av n.args.length
theorem NodA.of{h:AHeap}{base:Nat}{v:AVal}{r:Int}{A:Graph}(k:OwnG h base (.agg [v,.int .i64 r]) A):∃cs,NodA h base v A cs:=by
 obtain⟨nv,cs,hq,kB,kl,kn⟩:=k;cases hq;refine⟨cs,kB.sl (by decide) rfl (fun c hc=>?_) kl,fun k c hv=>zCo kB hv,kB,kl,fun i c n hc hn=>?_⟩
 ·obtain⟨i,hi,rfl⟩:=List.mem_iff_getElem.1 hc;obtain⟨av,lv,h1,_⟩:=kn i _ _ (zgG hi) (zgG (by omega));rw[h1];rfl
 ·obtain⟨av,lv,h1,h2,_⟩:=kn i c n hc hn;exact⟨av,lv,h1,.of h2⟩
theorem NodA.put{h h':AHeap}{base b ver v':Nat}{v:AVal}{A:Graph}{cs:List (List AVal)}{vs ws:List AVal}(k:NodA h base v A cs)(B:But b h h')(hb:h.objs.get b=some (ver,.cells false 3 vs))(hb':h'.objs.get b=some (v',.cells false 3 ws))(hl:ws.length=vs.length):NodA h' base v A cs:=by
 have kB:Built h' base 36 5 v A.nodes.length cs.flatten:=zAG k.blk B hb fun vs hh=>by cases hh
 refine⟨kB.sl (by decide) rfl (fun c hc=>?_) k.len,k.low,kB,k.len,fun i c n hc hn=>?_⟩
 ·obtain⟨i,hi,rfl⟩:=List.mem_iff_getElem.1 hc;exact(k.sl.2 i _ (zgG hi)).1
 ·obtain⟨av,lv,h1,h2⟩:=k.rows i c n hc hn;exact⟨av,lv,h1,h2.put B hb hb' hl⟩
theorem NodA.grow{h h':AHeap}{base:Nat}{v:AVal}{A:Graph}{cs:List (List AVal)}(k:NodA h base v A cs)(g:Grow h h'):NodA h' base v A cs:=by
 have kB:=k.blk.grow g;refine⟨kB.sl (by decide) rfl (fun c hc=>?_) k.len,k.low,kB,k.len,fun i c n hc hn=>?_⟩
 ·obtain⟨i,hi,rfl⟩:=List.mem_iff_getElem.1 hc;exact(k.sl.2 i _ (zgG hi)).1
 ·obtain⟨av,lv,h1,h2,h3⟩:=k.rows i c n hc hn;refine⟨av,lv,h1,h2,fun hn=>?_⟩;obtain⟨b,ver,vs,q1,q2,q3,q4⟩:=h3 hn;exact⟨b,ver,vs,q1,q2,g.keep _ _ q3,q4⟩
theorem NodA.at{h:AHeap}{base:Nat}{v:AVal}{A:Graph}{cs:List (List AVal)}(k:NodA h base v A cs){i:Nat}(hi:i<A.nodes.length):∃b o ver ro e vs av,slA v 5 i=some (b,o)/\h.objs.get b=some (ver,.cells ro e vs)/\vs[o+2]?=some av/\o+5<=vs.length/\RowA h base av A.nodes[i].args.length:=by
 have hc:i<cs.length:=by rw[k.len];exact hi
 obtain⟨av,lv,h1,h2⟩:=k.rows i _ _ (zgG hc) (zgG hi);obtain⟨_,b,o,ver,ro,e,vs,q1,q2,q3⟩:=k.sl.2 i _ (zgG hc);rw[h1] at q3;obtain⟨q4,q5⟩:=cell2 q3;exact⟨b,o,ver,ro,e,vs,av,q1,q2,q4,q5,h2⟩
theorem zero_own(h:AHeap)(base:Nat):OwnG h base (.agg [.slice none 0,.int .i64 0]) zEs:=⟨.slice none 0,[],rfl,.inl ⟨rfl,rfl,rfl⟩,rfl,fun i c n hc=>by simp at hc⟩
section
variable{fns:FnsT}{summ:SumT}
variable(H:Has fns summ)(HS:HasSort summ)(HA:HasAs summ)
include H HS HA
theorem UnifyO(g:Graph)(hg:GTi g)(ps:List Pr)(hps:ps.length<=2 ^ 20)(hL:zAU [] g.nodes 0<=2 ^ 20)(hsm:(g.nodes.length+1)*(zAU [] g.nodes 0+1)+ps.length<=2 ^ 30){gv pv:AVal}{h0:AHeap}(w0:WF h0)(hv:GraphAt h0 gv g)(hpv:PrsAt h0 pv ps):
  Cl fns summ 12 [gv,pv] h0 fun r h'=>Grow h0 h'/\∃un ur rv code A L,r=.tuple [.agg [un,.int .i64 ur],rv,.int .i64 code]/\one un=true/\lenO rv=some L.length/\Hid (OwnG h' h0.next (.agg [un,.int .i64 ur]) A/\IntsAt h' rv L)/\Hid (CaseU g ps code/\(code≠0->A=zEs/\L=[])/\(code=0->UOut g ps A L)):=by
 refine(Unify_ok H HS HA g hg ps hps hL hsm w0 hv hpv).mono ?_;rintro _ h' ⟨g1,uv,rv,code,rfl,hz,hc⟩;refine⟨g1,?_⟩;have bad:code≠0->CaseU g ps code->∃un ur rv' code' A L,AVal.tuple [uv,rv,.int .i64 code]=.tuple [.agg [un,.int .i64 ur],rv',.int .i64 code']/\one un=true/\lenO rv'=some L.length/\Hid (OwnG h' h0.next (.agg [un,.int .i64 ur]) A/\IntsAt h' rv' L)/\Hid (CaseU g ps code'/\(code'≠0->A=zEs/\L=[])/\(code'=0->UOut g ps A L)):=fun h hca=>by obtain⟨rfl,rfl⟩:=hz h;exact⟨_,_,_,_,zEs,[],rfl,rfl,rfl,⟨zero_own _ _,zDX rfl⟩,⟨hca,fun _=>⟨rfl,rfl⟩,fun h0=>absurd h0 h⟩⟩
 rcases hc with⟨k1,k2⟩|⟨k0,k1,k2⟩|⟨k0,k1,k2,k3⟩|⟨k0,k1,k2,U,R,O,own,Br⟩
 ·exact bad k2 (.inl ⟨k1,k2⟩)
 ·exact bad (by rw[k1];decide) (.inr (.inl ⟨k0,k1,k2⟩))
 ·exact bad (by rw[k1];decide) (.inr (.inr (.inl ⟨k0,k1,k2,k3⟩)))
 ·obtain⟨un,cs,rfl,kB,kl,kn⟩:=own;have own:OwnG h' h0.next (.agg [un,.int .i64 U.root]) U:=⟨un,cs,rfl,kB,kl,kn⟩;exact⟨un,U.root,rv,code,U,R,rfl,zAD kB.len,Br.len,⟨own,zBb Br⟩,⟨.inr (.inr (.inr ⟨k0,k1,k2,O.consi⟩)),fun h=>absurd k1 h,fun _=>O⟩⟩
variable(HR:HasRead summ)
include HR
theorem SolveUnifies_ok(g:Graph)(hg:Sane g)(ps:List Pr)(hpl:ps.length<2 ^ 60)(v pv:AVal)(h0:AHeap)(hw:WF h0)(hv:GraphAt h0 v g)(hp:PrsAt h0 pv ps):Cl fns summ 3 [v,pv] h0 fun r h'=>r=.bool true/\Grow h0 h':=by
 obtain⟨nv,rfl,hN⟩:=hv;have hpart:zAk (some 2) [nv,.int .i64 g.root] 0=some (.agg [nv,.int .i64 g.root]):=rfl;have ht2:∀x y:AVal,List.take 2 [x,y]=[x,y]:=fun _ _=>rfl;have hlen:=hN.len;have hlp:=hp.1;rw[List.length_map] at hlp;refine H.go (fn:=F_SolveUnifies) rfl (by decide) rfl rfl ?_;unfold F_SolveUnifies;dsimp only[qQ,qE,qN,gQ,gE,vi,tm,mt,lo,fa,jk,jv,jb,jl,js,ji,je,jc,jd,jx,jo,jt,jG,jR,jS,jC,jL];refine zAu (zAz ?_);refine zAr e1 cc hw ?_;rintro b2 h1 hb2 g1 o2;repeat refine zR ?_
 refine zAL s1 ((zND H HS HA HR h1 g1.wf).mono ?_);rintro _ h2 ⟨rfl,g2⟩;replace o2:=g2.keep _ _ o2;have G:=g1.trans g2;clear g1 g2;repeat refine zR ?_
 refine zAL s1 ((Great_ok H g hg.great _ h2 G.wf ⟨nv,rfl,hN.mono G⟩).mono ?_);rintro _ h3 ⟨rfl,g3⟩;replace o2:=g3.keep _ _ o2;replace G:=G.trans g3;clear g3;cases c1:decide ((zEv g:Int)>120);rotate_left
 ·repeat refine zG ?_
  exact⟨rfl,G⟩
 have tg:Hid (zEv g<=300):=⟨by have:=of_decide_eq_false c1;omega⟩;cases c2:decide (Int.ofNat ps.length>60);rotate_left
 ·repeat refine zG ?_
  exact⟨rfl,G⟩
 have tl:ps.length<=60:=by have:=of_decide_eq_false c2;simp only[Int.ofNat_eq_natCast] at this;omega
 have T:Hid (GTi g/\g.nodes.length+zAU [] g.nodes 0<=300):=⟨hg.tiny tg.out,by have:=zHm g;have:=tg.out;omega⟩;have szg:Hid ((g.nodes.length+1)*(zAU [] g.nodes 0+1)+60<=2 ^ 30):=⟨by
  have h1:=T.out.2;have:(g.nodes.length+1)*(zAU [] g.nodes 0+1)<=301*301:=Nat.mul_le_mul (by omega) (by omega);have e30:(2:Nat) ^ 30=1073741824:=by decide
  omega⟩
 obtain⟨cs,hsl,hcl,hcn⟩:=hN;have hN:NodesAt h0 nv g.nodes:=⟨cs,hsl,hcl,hcn⟩;have hones:=Hid.mk (zGp cs g.nodes hcl hcn);have hslG:=Hid.mk (hsl.mono G);have wG:=G.wf;have hN300:g.nodes.length<=300:=by have:=T.out.2;omega
 clear hsl;repeat refine zR ?_
 refine zAS (zRA ?_);refine zAK ⟨by simp[zAJ,Nat.testBit,o2],?_⟩;refine zAS (zGJ e1 (v:=nv) e1 hslG.out (by decide) hones.out (zBN H (b:=80) (by decide) (by rw[hcl];omega)) wG ?_);intro wv h4 Bw g4;have o24:=g4.keep _ _ o2;refine zAK ⟨by simp[zAJ,Nat.testBit,o24],?_⟩;have lw:=Bw.len;have onew:=zAD lw;rw[hcl] at lw Bw;have G4:=G.trans g4;have wN:Hid (NodesAt h4 wv g.nodes):=⟨cs,Bw.sl (by decide) rfl (fun c hc=>by
  obtain⟨i,hi,rfl⟩:=List.mem_iff_getElem.1 hc;exact(hslG.out.2 i _ (zgG hi)).1) hcl,hcl,fun i n c hn hc=>(hcn i n c hn hc).mono G4⟩
 clear Bw g4 o2 G c1 c2 hcn;refine dr_q (v:=.agg [wv,.int .i64 g.root]) (by rw[zBF];simp only[zCV,zAl,zAo,zAw,if_true,if_false,Nat.reduceEqDiff,zAO lw];rfl) ?_;refine zAS (zAM G4.wf ?_);rintro b5 h5 hb5 g5 o5;have o25:=g5.keep _ _ o24;refine zAK ⟨by simp[zAJ,Nat.testBit,o25],?_⟩;have l24:=G4.wf.lt o24;refine zAS (zAC (v:=.agg [wv,.int .i64 g.root]) e1 e1 (cs:=[wv,.int .i64 g.root]) rfl rfl g5.wf o5 (by simp) (by simp only[List.all_cons,List.all_nil,onew,Bool.true_and,Bool.and_true];rfl) ?_);rintro v6 h6 p6 o56;have o26:=p6.keep b2 (by omega) _ o25;refine zAK ⟨by simp[zAJ,Nat.testBit,o26],?_⟩;simp only[lL,Nat.reduceAdd] at o56;have g46:Grow h4 h6:=p6.grow h4 G4.wf g5 hb5;have G6:=G4.trans g46;have wN6:Hid (NodesAt h6 wv g.nodes):=⟨wN.out.mono g46⟩;have hpw:zAk (some 2) [wv,.int .i64 g.root] 0=some (.agg [wv,.int .i64 g.root]):=rfl;clear o24 o25 o5 p6 g5 g46 wN G4;repeat refine zR ?_
 refine zAL s1 ((UnifyO H HS HA g T.out.1 ps (by omega) (by have:=T.out.2;omega) (by have:=szg.out;omega) G6.wf ⟨nv,rfl,hN.mono G6⟩ (hp.mono G6)).mono ?_);rintro _ h7 ⟨g7,un,ur,rv,code,A,L,rfl,hone,lrv,at7,aa⟩;have o27:=g7.keep _ _ o26;have o57:=g7.keep _ _ o56;have G7:=G6.trans g7;repeat refine zR ?_
 refine zAM G7.wf ?_;rintro b6 h8 hb6 g8 o6;refine zAC (v:=.agg [un,.int .i64 ur]) e1 e1 (cs:=[un,.int .i64 ur]) rfl rfl g8.wf o6 (by simp) (by simp only[List.all_cons,List.all_nil,hone,Bool.true_and,Bool.and_true];rfl) ?_;rintro v9 h9 p9 o69;simp only[lL,Nat.reduceAdd] at o69;have g79:Grow h7 h9:=p9.grow h7 G7.wf g8 hb6;have o29:=g79.keep _ _ o27;have o59:=g79.keep _ _ o57;have g69:=g7.trans g79;have G9:=G6.trans g69;have at9:Hid (OwnG h9 h6.next (.agg [un,.int .i64 ur]) A/\IntsAt h9 rv L):=⟨at7.out.1.grow g79,at7.out.2.mono g79⟩;have n67:=g7.next;clear o6 p9 g8 g79 o27 o57 G7 g7 at7;repeat refine zR ?_
 refine zAL s1 ((zLk H g T.out.1 ps (by omega) (by have:=T.out.2;omega) G9.wf ⟨nv,rfl,hN.mono G9⟩ (hp.mono G9)).mono ?_);rintro _ hA ⟨gA,un2,ur2,rv2,ab,A2,L2,rfl,hone2,lrv2,atA,lawA⟩;obtain rfl:ab=code:=(CaseU.one Iff.rfl Iff.rfl aa.out.1 lawA.out.1).symm;obtain⟨rfl,rfl⟩:A2=A/\L2=L:=by
  by_cases h0:ab=0
  ·have O1:=aa.out.2.2 h0;have O2:=lawA.out.2.2 h0;have hc0:zAB g=0:=(aa.out.1.zero8 h0);have:=UOut.one hc0 O2 O1 fun _ _=>Iff.rfl;exact⟨this.2,this.1⟩
  ·obtain⟨k1,k2⟩:=aa.out.2.1 h0;obtain⟨k3,k4⟩:=lawA.out.2.1 h0;exact⟨k3.trans k1.symm,k4.trans k2.symm⟩
 have o2A:=gA.keep _ _ o29;have o5A:=gA.keep _ _ o59;have o6A:=gA.keep _ _ o69;have atB:Hid (OwnG hA h6.next (.agg [un,.int .i64 ur]) A2/\IntsAt hA rv L2):=⟨at9.out.1.grow gA,at9.out.2.mono gA⟩;have g6A:=g69.trans gA;have GA:=G6.trans g6A;have Asm:Hid (GraphSm A2/\L2.length<=300/\A2.nodes.length<=4096/\∀n∈A2.nodes,n.args.length<2 ^ 60):=⟨by
  by_cases h0:ab=0
  ·have O:=aa.out.2.2 h0;have F:Few 300 g:=⟨T.out.1,aa.out.1.zero8 h0,T.out.2⟩;have t:=(ord_sm F O).1;exact⟨t.toGraphSm,by rw[O.lenR];exact hN300,t.tinyN,fun n hn=>(t.toGraphSm.all n hn).args⟩
  ·obtain⟨k1,k2⟩:=aa.out.2.1 h0;rw[k1,k2];exact⟨zero_sm8,by simp,by simp[zEs],fun n hn=>by simp[zEs] at hn⟩⟩
 clear o29 o59 o69 at9 gA aa lawA g69 G9;repeat refine zR ?_
 refine zAM GA.wf ?_;rintro b9 hB hb9 gB o9;refine zAC (v:=.agg [un2,.int .i64 ur2]) e1 e1 (cs:=[un2,.int .i64 ur2]) rfl rfl gB.wf o9 (by simp) (by simp only[List.all_cons,List.all_nil,hone2,Bool.true_and,Bool.and_true];rfl) ?_;rintro vC hC pC o9C;simp only[lL,Nat.reduceAdd] at o9C;have gAC:Grow hA hC:=pC.grow hA GA.wf gB hb9;have o2C:=gAC.keep _ _ o2A;have o5C:=gAC.keep _ _ o5A;have o6C:=gAC.keep _ _ o6A;have g6C:=g6A.trans gAC;have GC:=G6.trans g6C;have atC:Hid (OwnG hC h6.next (.agg [un,.int .i64 ur]) A2/\IntsAt hC rv L2/\GraphAt hC (.agg [un2,.int .i64 ur2]) A2/\IntsAt hC rv2 L2):=⟨atB.out.1.grow gAC,atB.out.2.mono gAC,by
  obtain⟨⟨q,hq,hn⟩,hi⟩:=atA.out;exact⟨⟨q,hq,hn.mono gAC⟩,hi.mono gAC⟩⟩
 have hpu:zAk (some 2) [un,.int .i64 ur] 0=some (.agg [un,.int .i64 ur]):=rfl;have hpu2:zAk (some 2) [un2,.int .i64 ur2] 0=some (.agg [un2,.int .i64 ur2]):=rfl;have hne:(ab != ab)=false:=by simp
 clear o9 pC gB gAC o2A o5A o6A atA atB g6A GA;repeat refine zR ?_
 refine zAL s1 ((Equal_ok H A2 Asm.out.1 _ _ hC GC.wf atC.out.1.graph atC.out.2.2.1).mono ?_);rintro _ hD ⟨rfl,gD⟩;have o2D:=gD.keep _ _ o2C;have o5D:=gD.keep _ _ o5C;have o6D:=gD.keep _ _ o6C;have g6D:=g6C.trans gD;have GD:=G6.trans g6D;have atD:Hid (OwnG hD h6.next (.agg [un,.int .i64 ur]) A2/\IntsAt hD rv L2/\IntsAt hD rv2 L2):=⟨atC.out.1.grow gD,atC.out.2.1.mono gD,atC.out.2.2.2.mono gD⟩;clear o2C o5C o6C atC gD g6C GC o9C;repeat refine zR ?_
 refine zBM e1 s1 ((Ints_ok H L2 L2 (by have:=Asm.out.2.1;omega) _ _ hD atD.out.2.1 atD.out.2.2).mono ?_);rintro _ _ ⟨rfl,rfl⟩;rw[zKY];obtain⟨cs2,NA⟩:=NodA.of atD.out.1;have lun:=NA.blk.len;have N0:=Hid.mk NA;have g6D':=Hid.mk g6D;have A4:=Asm.out.2.2.1;clear NA atD g6D GD;repeat refine zR ?_
 refine zAp (N:=A2.nodes.length) (fun i a hp=>Hid (NodA hp h6.next un A2 cs2)/\Hid (Grow h6 hp)/\(∃v,hp.objs.get b6=some (v,.cells false 24 [un,.int .i64 ur]))/\a.defers=[]/\ev a (.tmp 2)=some (.ptr (some (b2,0)))/\ev a (.tmp 5)=some (.ptr (some (b5,0)))/\ev a (.tmp 6)=some (.ptr (some (b6,0)))) ?_ ?_ ⟨N0,g6D',⟨_,o6D⟩,n1,e1,e1,e1⟩
 ·clear o2D o5D o6D N0 g6D';rintro i a hp hi ⟨NA,G,⟨v6,o6⟩,hd,t2',t5',t6'⟩ ti tn;obtain⟨bn,on,vern,ron,en,vsn,av,hixn,hgn,hav,hl5,RA⟩:=NA.out.at hi;have lav:=RA.1;have hal:A2.nodes[i].args.length<2 ^ 60:=Asm.out.2.2.2 _ (List.getElem_mem hi);have e60:(2:Nat) ^ 60=1152921504606846976:=by decide
  have RA':=Hid.mk RA;clear RA;repeat refine zR ?_
  refine zEU (fun a' hq=>Hid (NodA hq h6.next un A2 cs2)/\Hid (Grow h6 hq)/\(∃v,hq.objs.get b6=some (v,.cells false 24 [un,.int .i64 ur]))/\a'.defers=[]/\ev a' (.tmp 2)=some (.ptr (some (b2,0)))/\ev a' (.tmp 5)=some (.ptr (some (b5,0)))/\ev a' (.tmp 6)=some (.ptr (some (b6,0)))/\ev a' (.tmp 63)=some (.int .i64 (i:Nat))/\ev a' (.tmp 62)=some (.int .i64 (A2.nodes.length:Nat))) ?_ ?_
  ·refine zAp (N:=A2.nodes[i].args.length) (fun k a' hq=>Hid (NodA hq h6.next un A2 cs2)/\Hid (Grow h6 hq)/\(∃v,hq.objs.get b6=some (v,.cells false 24 [un,.int .i64 ur]))/\a'.defers=[]/\ev a' (.tmp 2)=some (.ptr (some (b2,0)))/\ev a' (.tmp 5)=some (.ptr (some (b5,0)))/\ev a' (.tmp 6)=some (.ptr (some (b6,0)))/\ev a' (.tmp 12)=some (.int .i64 (i:Nat))/\ev a' (.tmp 63)=some (.int .i64 (i:Nat))/\ev a' (.tmp 62)=some (.int .i64 (A2.nodes.length:Nat))) ?_ ?_ ⟨NA,G,⟨_,o6⟩,n1,e1,e1,e1,e1,e1,e1⟩
   ·clear hixn hgn hav o6 NA G lav RA' hd t2' t5' t6' ti tn hl5;rintro k a' hq hk ⟨NA,G,⟨v6,o6⟩,hd,t2',t5',t6',t12',t63',t62'⟩ tk tkn;obtain⟨bn,on,vern,ron,en,vsn,av,hixn,hgn,hav,hl5,RA⟩:=NA.out.at hi;obtain⟨ba,vera,vsa,hba,rfl,hga,hla⟩:=RA.2 (by omega);have hixa:slA (.slice (some (ba,0)) A2.nodes[i].args.length) 1 k=some (ba,k):=by simp[slA,hk]
    have lav:=RA.1;have wq:=G.out.wf;clear RA;repeat refine zR ?_
    refine zAC e1 e1 (cs:=[.int .i64 (-1)]) rfl rfl wq hga (by simp only[zlC,zlN];omega) rfl ?_;rintro v7 hr pr or;simp only[zlC,zlN,Nat.zero_add] at or;have NA':Hid (NodA hr h6.next un A2 cs2):=⟨NA.out.put pr hga or (by simp only[zgL,List.length_take,zlC,zlN,List.length_drop];omega)⟩;have G':Hid (Grow h6 hr):=⟨pr.grow h6 G6.wf G.out hba⟩;have n6:b6≠ba:=by rintro rfl;rw[hga] at o6;cases o6
    have o6':=pr.keep b6 n6 _ o6;clear or pr hga o6 hixn hgn hav hixa lav;repeat refine zR ?_
    exact⟨⟨NA',G',⟨_,o6'⟩,n1,e1,e1,e1,e1,e1,e1⟩,e1,e1⟩
   ·rintro a' hq ⟨m1,m2,m3,m4,m5,m6,m7,m8,m9,m10⟩;exact⟨m1,m2,m3,m4,m5,m6,m7,m9,m10⟩
  ·rintro a' hq ⟨NA',G',⟨v7,o7⟩,hd',t2'',t5'',t6'',t63',t62'⟩;exact⟨⟨NA',G',⟨v7,o7⟩,hd',t2'',t5'',t6''⟩,t63',t62'⟩
 ·clear o2D o5D o6D N0 g6D';rintro a hp ⟨NA,G,⟨v6,o6⟩,hd,t2',t5',t6'⟩;have k2:=G.out.keep _ _ o26;have k5:=G.out.keep _ _ o56;have GZ:=G6.trans G.out;have wZ:=G.out.wf;have atW:Hid (NodesAt hp wv g.nodes):=⟨wN6.out.mono G.out⟩;clear NA G o6 o26 o56 wN6;refine zAd ?_;repeat refine zR ?_
  refine zAL s1 ((Equal_ok H g T.out.1.toGraphSm _ _ hp wZ ⟨nv,rfl,hN.mono GZ⟩ ⟨wv,rfl,atW.out⟩).mono ?_);rintro _ hY ⟨rfl,gY⟩;have G':=Hid.mk (GZ.trans gY);clear gY GZ k2 k5 atW;repeat refine zG ?_
  exact⟨rfl,G'.out⟩
end
end Go.Ab.S
end
section
namespace Go.Ab
open Go.RowKit (Below)
section
variable{H:Type}{enc:TypeId×Value->H}{P:Program}{W:World}{G:GM}{h:AHeap}
end
end Go.Ab
end
section
namespace Go.Ab
open Go.RowKit (Below)
section
variable{H:Type}{enc:TypeId×Value->H}{P:Program}{W:World}{G:GM}{h:AHeap}
end
end Go.Ab
end
section
namespace Go.Ab
open Go.RowKit (Below)
section
variable{H:Type}{enc:TypeId×Value->H}{P:Program}{W:World}{G:GM}{h:AHeap}
def LayOne(enc:TypeId×Value->H)(P:Program)(W:World)(tE:TypeId)(sz fuel:Nat)(μ:DataW H->Nat){α:Type}(At:AHeap->List AVal->α->Prop)(size:α->Nat):Prop:=
 ∀(G:GM) (h:AHeap) (cs:List Value) (x:DataW H×List MemPlace),DataW.trod enc P W 0 (fun _=>true) true fuel tE cs=some x->Rel P W.heap.size W G h W->WF h →
  Laid P W G h fun G' h'=>∃(n:α) (c:List AVal),VsR P G' c cs/\c.length=sz/\At h' c n/\size n<=μ x.1
theorem lay_elems{tE:TypeId}{sz fuel:Nat}{μ:DataW H->Nat}{α:Type}{At:AHeap->List AVal->α->Prop}{size:α->Nat}(L:LayOne enc P W tE sz fuel μ At size)(hmono:∀{h h':AHeap} {c:List AVal} {n:α},Grow h h'->At h c n->At h' c n)
  {C:Nat->List Value} {D:Nat->DataW H} {Pl:Nat->List MemPlace}:∀(len:Nat),(∀i,i<len->DataW.trod enc P W 0 (fun _=>true) true fuel tE (C i)=some (D i,Pl i))->∀{G:GM} {h:AHeap},Rel P W.heap.size W G h W->WF h →
  Laid P W G h fun G' h'=>∃(ns:List α) (cs:List (List AVal)),ns.length=len/\cs.length=len/\(∀i c,cs[i]?=some c->c.length=sz/\VsR P G' c (C i))/\(∀(i:Nat) n c,ns[i]?=some n->cs[i]?=some c->At h' c n)/\(ns.map size).sum<=((List.range len).map fun i=>μ (D i)).sum
 |0,_,G,h,R,hw=>⟨G,h,R,GLe.refl G,Grow.refl hw,[],[],rfl,rfl,fun i c hc=>by simp at hc,fun i n c hn=>by simp at hn,by simp⟩
 |len+1,hx,G,h,R,hw=>by
  obtain⟨G1,h1,R1,g1,w1,ns,cs,hn,hc,hv,ha,hs⟩:=lay_elems L hmono len (fun i hi=>hx i (by omega)) R hw;obtain⟨G2,h2,R2,g2,w2,n,c,hcv,hcl,hna,hsz⟩:=L G1 h1 _ _ (hx len (by omega)) R1 w1.wf;refine⟨G2,h2,R2,g1.trans g2,w1.trans w2,ns++[n],cs++[c],by simp[hn],by simp[hc],fun i d hd=>?_,fun i m d hm hd=>?_,?_⟩
  ·rcases Nat.lt_or_ge i len with hi|hi
   ·rw[List.getElem?_append_left (by omega)] at hd;obtain⟨q1,q2⟩:=hv i d hd;exact⟨q1,q2.mono g2⟩
   ·rw[List.getElem?_append_right (by omega),hc] at hd;obtain rfl:i=len:=by
     have:=(zgS.1 hd).1;simp at this;omega
    rw[Nat.sub_self,zgZ,oI] at hd;subst hd;exact⟨hcl,hcv⟩
  ·rcases Nat.lt_or_ge i len with hi|hi
   ·rw[List.getElem?_append_left (by omega)] at hd hm;exact hmono w2 (ha i m d hm hd)
   ·rw[List.getElem?_append_right (by omega),hc] at hd;rw[List.getElem?_append_right (by omega),hn] at hm;obtain rfl:i=len:=by
     have:=(zgS.1 hd).1;simp at this;omega
    rw[Nat.sub_self,zgZ,oI] at hd hm;subst hd;subst hm;exact hna
  ·rw[List.map_append,List.sum_append,List.range_succ,List.map_append,List.sum_append];simp only[List.map_cons,List.map_nil,List.sum_cons,List.sum_nil];simp only at hsz;omega
theorem div_sz{k sz:Nat}(hz:0<sz):k / sz*sz+k % sz=k:=by rw[Nat.mul_comm];exact Nat.div_add_mod k sz
theorem flat_getS{sz:Nat}(hz:0<sz){ys:List (List AVal)}(hall:∀c∈ys,c.length=sz){k:Nat}{x:AVal}(hk:ys.flatten[k]?=some x):∃c,ys[k / sz]?=some c/\c[k % sz]?=some x:=by have aa:=(zgS.1 hk).1;rw[zJd ys hall] at aa;have hj:k / sz<ys.length:=Nat.div_lt_of_lt_mul (by rw[Nat.mul_comm];exact aa);refine⟨ys[k / sz],zgG hj,?_⟩;rw[<-zJc ys hall (k / sz) hj,List.getElem?_take,if_pos (Nat.mod_lt _ hz),List.getElem?_drop,div_sz hz];exact hk
def RowAt{α:Type}(h:AHeap)(sz:Nat)(At:AHeap->List AVal->α->Prop)(v:AVal)(l:List α):Prop:=
 ∃cs:List (List AVal),SlAt h sz v cs/\cs.length=l.length/\∀(i:Nat) n c,l[i]?=some n->cs[i]?=some c->At h c n
theorem lay_slice{tR tE:TypeId}{sz:Nat}(hz:0<sz)(ht:P.underlying tR=some (.slice tE))(hcz:P.cellsOf tE=sz){μ:DataW H->Nat}(hμ:Meas μ){α:Type}{At:AHeap->List AVal->α->Prop}{size:α->Nat}(L:∀fuel,LayOne enc P W tE sz fuel μ At size)
  (hmono:∀{h h':AHeap} {c:List AVal} {n:α},Grow h h'->At h c n->At h' c n) {fuel:Nat} {v:Value} {x:DataW H×List MemPlace} (hx:DataW.trod enc P W 0 (fun _=>true) true fuel tR [v]=some x) (R:Rel P W.heap.size W G h W) (hw:WF h):
  Laid P W G h fun G' h'=>∃(nv:AVal) (ns:List α),VR P G' nv v/\RowAt h' sz At nv ns/\(ns.map size).sum<=μ x.1/\(nv=.slice none 0\/nv=.slice0\/∃b ver ro vs,nv=.slice (some (b,0)) ns.length/\h'.objs.get b=some (ver,.cells ro tE vs)):=by
 rcases Go.Deep.open_slice ht hx with⟨h1,rfl⟩|⟨a,len,capx,cap,n,D,Pl,h1,hb,hl,hm,hmm,rfl,hx'⟩
 ·simp only[List.cons.injEq,and_true] at h1;subst h1;exact⟨G,h,R,GLe.refl G,Grow.refl hw,.slice none 0,[],⟨rfl,rfl⟩,⟨[],⟨rfl,fun i x hx=>by simp at hx⟩,rfl,fun i n c hn=>by simp at hn⟩,by simp,.inl rfl⟩
 ·simp only[List.cons.injEq,and_true] at h1;subst h1;simp only[if_true] at hmm;subst hmm;rcases Nat.eq_zero_or_pos cap with h0|h0
  ·subst h0;obtain rfl:len=0:=by omega
   exact⟨G,h,R,GLe.refl G,Grow.refl hw,.slice0,[],⟨a,rfl⟩,⟨[],⟨rfl,fun i x hx=>by simp at hx⟩,rfl,fun i n c hn=>by simp at hn⟩,by simp,.inr (.inl rfl)⟩
  rw[hcz] at hx';obtain⟨C,hC⟩:=Go.Deep.choose_lt hx';have hCs:∀i,i<cap->(C i).length=sz/\∀j,j<sz->W.cell? ((a.add (i*sz)).add j)=(C i)[j]?:=fun i hi=>zOB (hC i hi).1;have hspot:a.spot=none:=by obtain⟨q1,q2⟩:=hCs 0 h0;have:=q2 0 hz;rw[Nat.zero_mul,show a.add 0=a by simp[Addr.add],show a.add 0=a by simp[Addr.add],zgG (by omega)] at this;obtain⟨_,_,_,_,hs,_⟩:=zLT this;exact hs
  obtain⟨c,ty,fr,hc1,ha,hsz,hall⟩:=zIN (w:=W) (a:=a) (m:=cap*sz) (Nat.mul_pos h0 hz) (V:=fun k=>(C (k / sz)).getD (k % sz) default) fun k hk=>by have hkc:k / sz<cap:=Nat.div_lt_of_lt_mul (by rw[Nat.mul_comm];exact hk);obtain⟨q1,q2⟩:=hCs (k / sz) hkc;have hkm:=Nat.mod_lt k hz;have:=q2 (k % sz) hkm;rw[zRn _ _ _ hspot,div_sz hz] at this;rw[this,zgG (by omega),List.getD,zgG (by omega)];rfl
  obtain⟨G1,h1,R1,g1,w1,ns,cs,hn,hc,hv,hna,hs⟩:=lay_elems (L n) hmono len (fun i hi=>(hC i (by omega)).2) R hw;have aa:∀d∈cs,d.length=sz:=fun d hd=>by obtain⟨i,hi,rfl⟩:=List.mem_iff_getElem.1 hd;exact(hv i _ (zgG hi)).1
  have hfl:=zJd cs aa;have hle:len*sz<=cap*sz:=Nat.mul_le_mul_right _ hl;obtain⟨G',R',g2,w2,g3,g4⟩:=R1.addRo w1.wf (e:=tE) (off:=a.off) (size:=cap*sz) (vs:=cs.flatten) hc1 hsz (by rw[hfl,hc];exact hle) (VsR_row (by rw[hfl,hc];omega) fun k x v hx hv'=>by
   have hk:=(zgS.1 hx).1;rw[hfl,hc] at hk;rw[hall k (by omega),oI] at hv';obtain⟨d,hd1,hd2⟩:=flat_getS hz aa hx;obtain⟨_,hd3⟩:=hv _ _ hd1;obtain⟨u,hu1,hu2⟩:=hd3.get hd2;rw[<-hv',List.getD,hu1];exact hu2)
  refine⟨G',_,R',g1.trans g2,w1.trans w2,.slice (some (h1.next,0)) len,ns,⟨_,cap,g3,?_,hl,?_⟩,⟨cs,⟨by simp[lenO,hc],fun i d hd=>?_⟩,by omega,fun i n d hn' hd=>hmono w2 (hna i n d hn' hd)⟩,?_,.inr (.inr ⟨_,_,_,_,by rw[hn],g4⟩)⟩
  ·rw[ha];rfl
  ·rw[hcz];simp
  ·have hi:=(zgS.1 hd).1;have hd':=(zgS.1 hd).2;refine⟨aa d (List.mem_of_getElem? hd),h1.next,i*sz,h1.next,true,tE,_,by simp[slA];omega,g4,?_⟩;rw[zJc cs aa i hi,hd']
  ·refine Nat.le_trans hs ?_;refine Nat.le_trans ?_ (Nat.le_trans (Nat.le_succ _) (hμ.slice ((List.range len).map D) _));rw[List.map_map];exact Nat.le_refl _
end
end Go.Ab
end
section
namespace Go.Ab
open Go.Ab.S
section
variable{H:Type}{enc:TypeId×Value->H}{P:Program}{W:World}
theorem lay_pair{tA tI:TypeId}(hA:P.underlying tA=some (.array 2 tI))(hI:P.underlying tI=some (.int .i64))(cI:P.cellsOf tI=1)(cA:P.cellsOf tA=2){μ:DataW H->Nat}(hμ:Meas μ)(fuel:Nat):LayOne enc P W tA 2 fuel μ (fun _ c (p:Int×Int)=>c=zCB p) (fun _=>1):=by
 intro G h cs x hx R hw;cases fuel with
 |zero=>simp[DataW.trod] at hx
 |succ n=>
  have hx:(if cs.length=P.cellsOf tA then ((List.range 2).mapM fun i=>DataW.trod enc P W 0 (fun _=>true) true n tI ((cs.drop (i*P.cellsOf tI)).take (P.cellsOf tI))).map fun xs=>(DataW.agg (xs.map (·.1)),xs.flatMap (·.2)) else none)=some x:=by simpa only[DataW.trod_step,DataW.trodStep,hA] using hx
  rw[cA,cI] at hx;split at hx;rotate_left
  ·cases hx
  rename_i hl;obtain⟨xs,hp,hd⟩:=Option.map_eq_some_iff.1 hx;have hxl:xs.length=2:=by simpa using mapM_some_length hp
  have k0:=mapM_some_get hp 0 0 rfl;have k1:=mapM_some_get hp 1 1 rfl
  match xs,hxl with
  |[y0,y1],_=>
   match cs,hl with
   |[u0,u1],_=>
    simp only[zgZ,List.getElem?_cons_succ] at k0 k1;obtain⟨m0,q0,_,_⟩:=DataW.trod_int hI k0;obtain⟨m1,q1,_,_⟩:=DataW.trod_int hI k1;obtain rfl:u0=Value.int .i64 m0:=(List.cons.inj (show [u0]=[Value.int .i64 m0] from q0)).1;obtain rfl:u1=Value.int .i64 m1:=(List.cons.inj (show [u1]=[Value.int .i64 m1] from q1)).1;refine⟨G,h,R,GLe.refl G,Grow.refl hw,(m0,m1),zCB (m0,m1),⟨_,_,rfl,rfl,_,_,rfl,rfl,rfl⟩,rfl,rfl,?_⟩;rw[<-hd];exact Nat.le_trans (Nat.le_add_left 1 _) (hμ.agg _)
end
end Go.Ab
namespace Go.Proofs
open Go Go.Ab Go.Ab.S
theorem ones_sum{α:Type}:∀l:List α,(l.map fun _=>1).sum=l.length
 |[]=>rfl
 |_::l=>by rw[List.map_cons,List.sum_cons,ones_sum l,zlC];omega
theorem lay_pairs{H:Type}{enc:TypeId×Value->H}{W:World}{G:GM}{h:AHeap}{v:Value}{fuel:Nat}{x:DataW H×List MemPlace}(hx:DataW.trod enc Tryz.prog W 0 (fun _=>true) true fuel 25 [v]=some x)(R:Rel Tryz.prog W.heap.size W G h W)(hw:WF h):
  Laid Tryz.prog W G h fun G' h'=>∃(pv:AVal) (ps:List (Int×Int)),VR Tryz.prog G' pv v/\PrsAt h' pv ps/\ps.length<=YtpmndmiohaaokaaGreatDoor.Rows.uptoBulk x.1/\Frm h' 40 pv ps.length:=by
 obtain⟨G',h',R',g',w',pv,ps,k1,⟨cs,k2,k3,k4⟩,k5,k6⟩:=lay_slice (by decide) (show Tryz.prog.underlying 25=some (.slice 40) from by kernel_rfl) (by kernel_rfl) (meas H) (fun fuel=>lay_pair (show Tryz.prog.underlying 40=some (.array 2 3) from by kernel_rfl) (by kernel_rfl) (by kernel_rfl) (by kernel_rfl) (meas H) fuel) (fun _ h=>h) hx R hw;obtain rfl:cs=ps.map zCB:=by
  apply List.ext_getElem
  ·simpa using k3
  ·intro i i1 i2;simp only[List.length_map] at i2;have:=k4 i _ _ (zgG i2) (zgG i1);simpa using this
 refine⟨G',h',R',g',w',pv,ps,k1,k2,?_,k6⟩;rw[ones_sum] at k5;exact k5
end Go.Proofs
end
