import Derived.Test.YtpmndmiohaaokaaGreatDoorP12
import Derived.Test.YtpmndmiohaaokaaGreatDoorP14
import Derived.Test.YtpmndmiohaaokaaGreatDoorP18
import Derived.Test.YtpmndmiohaaokaaGreatDoorP20
import Derived.Test.YtpmndmiohaaokaaGreatDoorP21
import Derived.Test.YtpmndmiohaaokaaGreatDoorP24
import Derived.Test.YtpmndmiohaaokaaGreatDoorP25
import Derived.Lib.LaidU8
import Derived.Lay
import Derived.Deep.DeepWitnessRowRef
import Derived.ProofKit
import Derived.LaidHandle
/-
  Part 26 of the proof.
-/
set_option linter.all false
set_option maxHeartbeats 8000000
section
namespace Go.Proofs
open Go Go.Ab Go.Ab.S
open Go.RowKit (Below)
def zKG:List Int:=(List.range 256).map fun i=>if i==32||(9<=i&&i<=13) then 1 else 0
theorem zPn:(YtpmndmiohaaokaaGreatDoor.Rows.laid_strings_asciiSpace:DataW Unit)=Lib.tabData .u8 zKG:=by kernel_rfl
theorem zTc:(YtpmndmiohaaokaaGreatDoor.Rows.laid_internal_strconv_uint64pow10:DataW Unit)=Lib.tabData .u64 Lib.pow10Tab:=by kernel_rfl
theorem g1:Tryz.prog.globalNamed "strings.asciiSpace" =some 1:=by kernel_rfl
theorem g8:Tryz.prog.globalNamed "internal/strconv.uint64pow10" =some 8:=by kernel_rfl
theorem g1t:(Tryz.prog.globals[1]?).map (·.type)=some 261:=by kernel_rfl
theorem g8t:(Tryz.prog.globals[8]?).map (·.type)=some 320:=by kernel_rfl
theorem zPW{P:Program}{W:World}{name:String}{k:IntKind}{zs:List Int}{g:Nat}{t e:TypeId}{n:Nat}
  (hg:P.globalNamed name=some g) (hty:(P.globals[g]?).map (·.type)=some t) (ht:P.underlying t=some (.array n e)) (he:P.underlying e=some (.int k)) (hce:P.cellsOf e=1) (hct:P.cellsOf t=n)
  (h:Lib.VarReads P W name (Lib.tabData k zs)):Lib.TabIs P W name k zs:=by
 obtain⟨g',t',cs,ad,p,ab,ac,aa,hd⟩:=h;obtain rfl:=Option.some.inj (hg.symm.trans ab);obtain rfl:=Option.some.inj (hty.symm.trans ac);unfold Lib.TabIs;rw[aa,<-Lib.cells_of_tab ht he hce hct hd]
theorem TabIs.below{P:Program}{W w:World}{N:Nat}{name:String}{k:IntKind}{zs:List Int}{g:Nat}(hg:P.globalNamed name=some g)(hN:g<N)(h:Lib.TabIs P W name k zs)(b:Below N W w):Lib.TabIs P w name k zs:=by unfold Lib.TabIs World.var? at h ⊢;rw[hg] at h ⊢;simp only[Option.bind_some] at h ⊢;rw[b.block g hN];exact h
theorem TabIs.block{P:Program}{W:World}{name:String}{k:IntKind}{zs:List Int}{g:Nat}(hg:P.globalNamed name=some g)(h:Lib.TabIs P W name k zs):∃e fr,W.heap[g]?=some (.cells (zs.map fun z=>Value.int k z).toArray e fr):=by
 unfold Lib.TabIs World.var? at h;rw[hg] at h;simp only[Option.bind_some] at h;split at h
 ·rename_i cs e fr hh;simp only[oI] at h;exact⟨e,fr,by rw[hh,h]⟩
 ·cases h
theorem VsR_ints{P:Program}{G:GM}{k:IntKind}:∀zs:List Int,VsR P G (zs.map fun z=>AVal.int k z) (zs.map fun z=>Value.int k z)
 |[]=>rfl
 |z::zs=>⟨_,_,rfl,rfl,VsR_ints zs⟩
theorem zPV:tabA=zKG.map fun z=>AVal.int .u8 z:=by unfold tabA zKG;rw[List.map_map];refine List.map_congr_left fun i _=>?_;show AVal.int .u8 (if _ then 1 else 0)=AVal.int .u8 (if _ then 1 else 0);rfl
theorem et0:Tryz.prog.globalNamed "errors.errorType" =some 0:=by kernel_rfl
theorem rt0:(Tryz.prog.cutTypes.find? (·.1== "internal/reflectlite.rtype")).map (·.2)=some 157:=by kernel_rfl
theorem zSW:((List.range 350).filter fun t=>Tryz.prog.rowNamed t [101,114,114,111,114])=[60]:=by kernel_rfl
theorem size0:Tryz.prog.types.size=350:=by kernel_rfl
theorem zOc{W:World}(h:handlesMet Tryz.prog (zOm.filter fun x=>x.2.handleName?.isSome) W):W.cell? ⟨0,0,none⟩=some (.iface 157 (.agg #[.pointer (some ⟨12,60,none⟩)])):=by
 obtain⟨name,u,ty,e1,e2,e3,e4,e5⟩:=h _ (List.mem_filter.2 ⟨List.mem_of_getElem? (i:=4) rfl,by kernel_rfl⟩);have en:name=[101,114,114,111,114]:=(Option.some.inj e1).symm;subst en;obtain rfl:=Option.some.inj (rt0.symm.trans e2);have hm:ty∈(List.range 350).filter fun t=>Tryz.prog.rowNamed t [101,114,114,111,114]:=List.mem_filter.2 ⟨List.mem_range.2 (by rw[<-size0];exact e3),e4⟩;rw[zSW] at hm;obtain rfl:=List.mem_singleton.1 hm;have hh:typeHandle Tryz.prog 60=.pointer (some ⟨12,60,none⟩):=by kernel_rfl
 rw[hh] at e5;simpa using World.var?_cell et0 e5 0
theorem wok{W:World}(hL:laidMetH Tryz.prog zOm W)(hS:W.ShapedOpen Tryz.prog)(hN:Tryz.prog.globals.size<=W.heap.size):WOK W:=by
 have hp:=(laidMetH_iff.1 hL).1;have a1:Lib.TabIs Tryz.prog W "strings.asciiSpace" .u8 zKG:=by refine zPW (e:=5) (n:=256) g1 g1t (by kernel_rfl) (by kernel_rfl) (by kernel_rfl) (by kernel_rfl) ?_;rw[<-zPn];exact Lib.laidMet.reads hp (List.mem_filter.2 ⟨List.mem_of_getElem? (i:=8) rfl,by kernel_rfl⟩)
 have a8:Lib.TabIs Tryz.prog W "internal/strconv.uint64pow10" .u64 Lib.pow10Tab:=by refine zPW (e:=218) (n:=20) g8 g8t (by kernel_rfl) (by kernel_rfl) (by kernel_rfl) (by kernel_rfl) ?_;rw[<-zTc];exact Lib.laidMet.reads hp (List.mem_filter.2 ⟨List.mem_of_getElem? (i:=2) rfl,by kernel_rfl⟩)
 refine⟨cell_of_shapedOpen_int (zero:= #[.int .i64 0]) (t:=3) hS (of_decide_eq_true (by kernel_rfl)) (by kernel_rfl) rfl (by kernel_rfl) (by kernel_rfl) Tryz.underlying3,?_,?_,hN,zOc (laidMetH_iff.1 hL).2⟩
 ·obtain⟨e,fr,hb⟩:=TabIs.block g1 a1;refine⟨by rw[zDc];decide,by rw[zDc];decide,hN,by decide,_,e,fr,hb,?_,?_⟩
  ·rw[zPV];simp
  rw[zPV,List.length_map];show VsR _ _ _ (List.take _ (zKG.map _));rw[List.take_of_length_le (by simp)];exact VsR_ints _
 ·exact fun w hb=>TabIs.below g8 (by have:=zDc;omega) a8 hb
end Go.Proofs
end
section
namespace Go.Proofs
open Go Go.Ab Go.Ab.S
open Go.RowKit (Below)
open Go.ChangeShapes Go.WideShapes Go.ChangeAt
theorem zNr(s:List Nat):bigT s<=1000:=by unfold bigT;split<;>omega
theorem zLw:∀l:List (List Nat),l.length<=(l.map fun s=>s.length+1).sum/\sumL bigT l<=1000*(l.map fun s=>s.length+1).sum/\∀s∈l,s.length<=(l.map fun s=>s.length+1).sum
 |[]=>⟨by simp,by simp[sumL],fun s hs=>by cases hs⟩
 |s::l=>by
  obtain⟨h1,h2,h3⟩:=zLw l;have:=zNr s;refine⟨by simp only[List.map_cons,List.sum_cons,zlC];omega,by simp only[List.map_cons,List.sum_cons,sumL];omega,fun t ht=>?_⟩;simp only[List.map_cons,List.sum_cons];rcases List.mem_cons.1 ht with rfl|ht
  ·omega
  ·have:=h3 t ht;omega
theorem zOa(n:Ab.Node):zBm n<=3000*zBk n:=by have:=zLw n.labels;have:=zNr n.name;simp only[zBm,zBk];omega
theorem zMZ:∀ns:List Ab.Node,ns.length<=(ns.map zBk).sum/\sumL zBm ns<=3000*(ns.map zBk).sum/\∀n∈ns,zBk n<=(ns.map zBk).sum
 |[]=>⟨by simp,by simp[sumL],fun s hs=>by cases hs⟩
 |n::l=>by
  obtain⟨h1,h2,h3⟩:=zMZ l;have h4:=zOa n;have h5:1<=zBk n:=by simp only[zBk];omega
  refine⟨by simp only[List.map_cons,List.sum_cons,zlC];omega,by simp only[List.map_cons,List.sum_cons,sumL];omega,fun t ht=>?_⟩;simp only[List.map_cons,List.sum_cons];rcases List.mem_cons.1 ht with rfl|ht
  ·omega
  ·have:=h3 t ht;omega
theorem zPN{g:Graph}(h:zSE g<=1048576):Sane g:=by
 have aa:(2:Nat) ^ 60=1152921504606846976:=by decide
 have h':(g.nodes.map zBk).sum<=1048576:=h;obtain⟨h1,h2,h3⟩:=zMZ g.nodes;refine⟨by simp only[zEv];omega,⟨by omega,fun n hn=>?_⟩⟩;have k:=h3 n hn;obtain⟨j1,j2,j3⟩:=zLw n.labels;simp only[zBk] at k;exact⟨by omega,by omega,fun s hs=>by have:=j3 s hs;omega⟩
theorem zRV:GTypes Tryz.prog 24 22 36 3 9 4 28 34 where
 int:=Tryz.underlying3
 str:=Tryz.underlying9
 bool:=Tryz.underlying4
 ints:=Tryz.underlying28
 strs:=Tryz.underlying34
 nodes:=Tryz.underlying22
 node:=⟨_,_,_,_,_,Tryz.underlying36,⟨rfl,rfl⟩,⟨rfl,rfl⟩,⟨rfl,rfl⟩,⟨rfl,rfl⟩,rfl,rfl⟩
 graph:=⟨_,_,Tryz.underlying24,⟨rfl,rfl⟩,rfl,rfl⟩
 cI:=by kernel_rfl
 cS:=by kernel_rfl
 cB:=by kernel_rfl
 cIs:=by kernel_rfl
 cSs:=by kernel_rfl
 cNs:=by kernel_rfl
 cN:=by kernel_rfl
 cG:=by kernel_rfl
open YtpmndmiohaaokaaGreatDoor.Rows in
theorem zFq{H:Type}:∀l:List (DataW H),uptoBulkAll l=(l.map uptoBulk).sum
 |[]=>rfl
 |d::l=>by rw[uptoBulkAll,zFq l];rfl
open YtpmndmiohaaokaaGreatDoor.Rows in
theorem meas(H:Type):Meas (uptoBulk (H:=H)) where
 agg:=fun l=>by rw[uptoBulk,zFq];exact Nat.le_refl _
 slice:=fun l r=>by rw[uptoBulk,zFq];omega
 str:=fun s=>by rw[uptoBulk];exact Nat.le_refl _
 lit:=fun x=>by unfold uptoBulk;split<;>omega
def zKf:AHeap:={objs:=.leaf,next:=12}
def zTP:GM:=fun g=>if g<12 then some ⟨g,0,0,0⟩ else none
theorem zSm:WF zKf:=fun b _=>T.get_leaf b
theorem zQo{W:World}(hN:Tryz.prog.globals.size<=W.heap.size):Rel Tryz.prog W.heap.size W zTP zKf W where
 obj:=fun id ver o hx=>by simp[zKf,T.get_leaf] at hx
 inj:=fun id id' x x' gi gi' hx=>by simp[zKf,T.get_leaf] at hx
 own:=fun id ver o gi hx=>by simp[zKf,T.get_leaf] at hx
 fresh:=fun id hi=>by
  have:¬id<12:=by simp only[zKf] at hi;omega
  simp[zTP,this]
 vers:=fun id ver o hx=>by simp[zKf,T.get_leaf] at hx
 glob:=fun g hg=>by rw[zDc] at hg;exact⟨_,if_pos hg,rfl,rfl⟩
 low:=by rw[zDc];exact Nat.le_refl _
 below:=Below.refl _ _
 size:=Nat.le_refl _
 rolow:=fun id ver o gi hx=>by simp[zKf,T.get_leaf] at hx
theorem zQO{W:World}(hS:W.ShapedOpen Tryz.prog):Tryz.prog.globals.size<=W.heap.size:=by
 have h1:(((begin Tryz.prog (fun _ _=>0) default).world.heap[11]?).bind Obj.row?).isSome=true:=by kernel_rfl
 obtain⟨⟨z,t⟩,hz⟩:=Option.isSome_iff_exists.1 h1;obtain⟨cs,hh,_⟩:=hS.1 11 z t (by rw[zDc];decide) hz;have:=(Array.getElem?_eq_some_iff.1 hh).1;rw[zDc];omega
def Tells(W:World):Ending->World->Prop:=fun e w'=>e=.returned (.bool true)/\Below W.heap.size W w'
theorem zRJ{W:World}{f:FuncId}{args:List AVal}{argsV:Array Value}{G:GM}{h:AHeap}(K:WOK W)(R:Rel Tryz.prog W.heap.size W G h W)(hv:VsR Tryz.prog G args argsV.toList)(k:Cl tab zEN f args h fun r _=>r=.bool true):Calls Tryz.prog f argsV W (Tells W):=by obtain⟨n,hn⟩:=k;refine(zKR mixed zUC (zRG K) R hv (hn n (Nat.le_refl _))).mono fun e w' hp=>?_;obtain⟨v,h',G',cv,rfl,hv,R',_,hr⟩:=hp;have hv:v=.bool true:=hv;subst hv;have hr:cv=.bool true:=hr;exact⟨by rw[hr],R'.below⟩
theorem zJp{H:Type}{enc:TypeId×Value->H}{P:Program}{f:Func}{s:ChangeSpec}{apart fresh handsOn again:Bool}{W W':World}{args:Array Value}{v:Value}{ds gs:List (DataW H)}{before pa pv:List MemPlace}
  (hW:DataW.Whole enc P f.params.toList s.vars apart W args.toList ds gs before)
  (hres:∀(b:Nat) (sp:Nat->Bool) (hd:Bool),DataW.TrodAll enc P W' b sp hd f.resultTypes.toList (v.resultList f.resultTypes.size) (s.fn H (ds++gs)).results [])
  (hargs:∀sp:Nat->Bool,(∀p∈before,sp p.block=true)->DataW.TrodAll enc P W' 0 sp true f.params.toList args.toList (s.fn H (ds++gs)).args pa)
  (hvars:∀sp:Nat->Bool,(∀p∈before,sp p.block=true)->DataW.TrodVars enc P W' sp s.vars (s.fn H (ds++gs)).vars pv)
  (hps:before=pa++pv) (hb:Below W.heap.size W W')
  (hok:∀(j:Nat) (t:TypeId) (r:Value),f.resultTypes[j]?=some t->(v.resultList f.resultTypes.size)[j]?=some r->Value.okWide P W' .any 0 t r):
  s.post enc P f apart fresh handsOn again W args v W':=by
 have ab:=hW.lt;have aa:∀p∈before,(fun b=>decide (b<W.heap.size)) p.block=true:=fun p hp=>by simpa using ab p hp
 refine⟨ds,gs,before,[],pa,pv,hW,hres _ _ _,hargs _ aa,hvars _ aa,World.keptBut_mono (fun p hp=>⟨hp,?_⟩) (hb.frame _),fun _=>?_⟩
 ·rw[hps,List.mem_append] at hp;exact Or.inr hp
 ·obtain⟨_,_,_,_,_,hz,hn⟩:=hW;refine⟨hok,_,_,([]++pa)++pv,⟨[]++pa,pv,trodAll_append (hargs _ (fun _ _=>rfl)) (hres _ _ _),hvars _ (fun _ _=>rfl),rfl,?_,?_⟩,?_⟩
  ·intro b off hp;have ac:MemPlace.cell b off∈before:=by rw[hps];simpa using hp
   have ad:(⟨b,off,none⟩:Addr).block<W.heap.size:=ab _ ac;rw[hb.frozen ad];exact hz b off ac
  ·intro ha;have:=hn ha;rw[hps] at this;simpa using this
  ·intro p hp _;rw[hps];simpa using hp
end Go.Proofs
end
section
namespace Go.Ab.S
open Go Go.Ab
section
variable{g h x y:Graph}
theorem zOt(cg:zAB g=0)(ch:zAB h=0)(hs:g.nodes.length+h.nodes.length<=1048576)(m:MR g h x):Consi (zAf h g) (zBC h g)/\∀y,MR h g y->zAB x=0/\zAB y=0/\zGc x y=true:=by
 have aa:h.nodes.length+g.nodes.length<=1048576:=by omega
 have cx:=m.check cg ch hs;obtain⟨i1,i2⟩:=m.both cg ch hs;refine⟨zHT ch cg aa cx i2 i1,fun y n=>?_⟩;have cy:=n.check ch cg aa;obtain⟨j1,j2⟩:=n.both ch cg aa;exact⟨cx,cy,(zMs cx cy).2 ⟨m.most cg ch hs cy j2 j1,n.most ch cg aa cx i2 i1⟩⟩
theorem MR.one(m:MR g h x){U:Graph}{R:List Int}(O:UOut (zAf g h) (zBC g h) U R)(cb:zAB (zAf g h)=0):x=zBS U:=by obtain⟨V,Q,P,rfl⟩:=m;rw[(UOut.one cb P O fun _ _=>Iff.rfl).2]
end
section
variable{g:Graph}
def VisR(g:Graph)(l out out':List Int):Prop:=∀(st:List Int) (m:Nat),l.length+st.length+zAU out g.nodes 0<=m->∃m',st.length+zAU out' g.nodes 0<=m'/\zBK g.nodes m (l++st) out=zBK g.nodes m' st out'
variable{l l' out o1 o2:List Int}{a:Int}
theorem VisR.nil:VisR g [] out out:=fun st m h=>⟨m,by simpa using h,rfl⟩
theorem VisR.app(h:VisR g l out o1)(h':VisR g l' o1 o2):VisR g (l++l') out o2:=fun st m hm=>by obtain⟨m1,k1,k2⟩:=h (l'++st) m (by simp only[zgL] at hm ⊢;omega);obtain⟨m2,k3,k4⟩:=h' st m1 (by simp only[zgL] at k1;omega);exact⟨m2,k3,by rw[List.append_assoc,k2,k4]⟩
theorem VisR.met(h:a∈out):VisR g [a] out out:=fun st m hm=>by simp only[zlC,zlN] at hm;obtain⟨m',rfl⟩:∃m',m=m'+1:=⟨m - 1,by omega⟩;refine⟨m',by omega,?_⟩;rw[zlK,zlA,zBK,if_pos (by simpa using h)]
theorem VisR.node(ha:InG g a)(hn:a∉out)(h:VisR g (zAA g a).args (out++[a]) o1):VisR g [a] out o1:=fun st m hm=>by
 simp only[zlC,zlN] at hm;obtain⟨m',rfl⟩:∃m',m=m'+1:=⟨m - 1,by omega⟩;obtain⟨k,rfl⟩:∃k:Nat,a=k:=⟨a.toNat,by have:=ha.1;omega⟩;have hk:k<g.nodes.length:=by have:=ha.2;omega
 have aa:=(zGS out k g.nodes 0).2 (Nat.zero_le _) (by simpa using hn) g.nodes[k] (by simpa using zgG hk);have ab:zAA g (k:Int)=g.nodes[k]:=by simp[zAA,hk]
 rw[<-ab] at aa;obtain⟨m2,k1,k2⟩:=h st m' (by omega);refine⟨m2,k1,?_⟩;rw[zlK,zlA,zBK,if_neg (by simpa using hn),zLO,k2]
theorem VisR.fin(hc:zAB g=0)(h:VisR g [g.root] [] o1):o1=zAI g:=by obtain⟨m,_,k⟩:=h [] (1+zAU [] g.nodes 0) (by simp);rw[zAI,if_pos hc];rw[zlE] at k;rw[k];cases m<;>rfl
theorem zRM(hok:Ok g.nodes.length out)(hnd:out.Nodup)(ha:InG g a)(hn:a∉out):out.length<g.nodes.length:=by
 have:=zBv (a::out) (zCj g.nodes.length) (List.nodup_cons.2 ⟨hn,hnd⟩) fun b hb=>by
  have aa:0<=b/\b<g.nodes.length:=by
   rcases List.mem_cons.1 hb with rfl|hb
   ·exact ha
   ·exact hok b hb
  exact List.mem_map.2 ⟨b.toNat,List.mem_range.2 (by omega),by omega⟩
 have h2:(zCj g.nodes.length).length=g.nodes.length:=by simp[zCj]
 rw[h2,zlC] at this;omega
end
end Go.Ab.S
end
section
namespace Go.Ab.S
open Go Go.Ab
structure KeepV(h h':AHeap):Prop where
 next:h.next<=h'.next
 keep:∀c p,h.objs.get c=some p->(∀vs,p.2≠.cells false 3 vs)->(∀vs,p.2≠.cells false 4 vs)->h'.objs.get c=some p
section
variable{h h' h'':AHeap}
theorem KeepV.refl:KeepV h h:=⟨Nat.le_refl _,fun _ _ k _ _=>k⟩
theorem KeepV.trans(k:KeepV h h')(k':KeepV h' h''):KeepV h h'':=⟨Nat.le_trans k.next k'.next,fun c p q1 q2 q3=>k'.keep c p (k.keep c p q1 q2 q3) q2 q3⟩
theorem KeepV.grow(g:Grow h h'):KeepV h h':=⟨g.next,fun c p k _ _=>g.keep c p k⟩
theorem KeepV.but{b ver:Nat}{vs:List AVal}(B:But b h h')(hb:h.objs.get b=some (ver,.cells false 4 vs)):KeepV h h':=⟨B.next,fun c p k _ k4=>B.keep c (by
 rintro rfl;rw[hb] at k;simp only[oI] at k;exact k4 vs (by rw[<-k])) p k⟩
structure VisO(g:Graph)(h0:AHeap)(bm base:Nat)(out:List Int)(rv:AVal)(hp:AHeap):Prop where
 ok:Ok g.nodes.length out
 nd:out.Nodup
 row:Built hp base 3 1 rv out.length (out.map (AVal.int .i64))
 met:∃ver,hp.objs.get bm=some (ver,.cells false 4 (metC g.nodes.length out))
 gr:Grow h0 hp
 low:base<=hp.next
theorem VisO.grow{g:Graph}{bm base:Nat}{out:List Int}{rv:AVal}(V:VisO g h bm base out rv h')(k:Grow h' h''):VisO g h bm base out rv h'':=by obtain⟨ver,om⟩:=V.met;exact⟨V.ok,V.nd,V.row.grow k,⟨ver,k.keep _ _ om⟩,V.gr.trans k,Nat.le_trans V.low k.next⟩
end
theorem zTa{N:Nat}{out:List Int}(h:Ok N out){a:Nat}(ha:a<N):Ok N (out++[(a:Int)]):=fun b hb=>by
 rcases List.mem_append.1 hb with hb|hb
 ·exact h b hb
 ·rw[List.mem_singleton.1 hb];omega
theorem zTW{out:List Int}(h:out.Nodup){a:Int}(ha:a∉out):(out++[a]).Nodup:=by rw[List.nodup_append];refine⟨h,by simp,fun x hx y hy=>?_⟩;rw[List.mem_singleton.1 hy];rintro rfl;exact ha hx
section
variable{fns:FnsT}{summ:SumT}
variable(H:Has fns summ)
include H
theorem zPK(g:Graph)(hg:GTi g)(hc:zAB g=0){nv:AVal}{h0:AHeap}(w0:WF h0)(hN:NodesAt h0 nv g.nodes){bm base:Nat}(hbm:h0.next<=bm)(hbase:h0.next<=base):∀(m:Nat) (out:List Int) (a:Nat) (rv:AVal) (hp:AHeap),g.nodes.length - out.length<=m->a<g.nodes.length->VisO g h0 bm base out rv hp →
  Cl fns summ 86 [.agg [nv,.int .i64 g.root],.int .i64 (a:Nat),.slice (some (bm,0)) g.nodes.length,rv] hp fun r h'=>∃out',Hid (VisR g [(a:Int)] out out'/\out.length<=out'.length)/\Hid (VisO g h0 bm base out' r h')/\Hid (KeepV hp h'):=by
 have hlen:=hN.len;have hN4:=hg.tinyN;have hpart:zAk (some 2) [nv,.int .i64 g.root] 0=some (.agg [nv,.int .i64 g.root]):=rfl;intro m;induction m using Nat.strongRecOn with
 |_ m ih=>
 intro out a rv hp hm ha V;have IH:=Hid.mk ih;have VH:=Hid.mk V;have hmh:=Hid.mk hm;obtain⟨ver,om⟩:=V.met;have wp:=V.gr.wf;have lrv:=V.row.len;have hixm:slA (.slice (some (bm,0)) g.nodes.length) 1 a=some (bm,a):=by simp[slA,ha]
 have hmk:=zFS (out:=out) ha;have hlm:lenO (.slice (some (bm,0)) g.nodes.length)=some g.nodes.length:=rfl;clear V ih hm;refine H.go (fn:=F_rvisit06) rfl (by decide) rfl rfl ?_;unfold F_rvisit06;dsimp only[qQ,qE,qN,tm,mt,lo,fa,jv,jl,ji,je,jo,jR,jS,jC,jL];refine zAu (zAz ?_);refine zAr e1 cc wp ?_;rintro b4 h4 hb4 g4 o4;have ac:=g4.keep _ _ om;clear om;cases ab:out.contains (a:Int)
 ·rw[ab] at hmk;have hmkl:(metC g.nodes.length out).length=g.nodes.length:=by simp[metC]
  have w4:=g4.wf;repeat refine zR ?_
  refine zAC e1 e1 cc rfl w4 ac (by simp only[hmkl,zlC,zlN];omega) rfl ?_;rintro v5 h5 p5 o5;simp only[zlC,zlN,Nat.zero_add] at o5;rw[zMh ha] at o5;have K5:=Hid.mk ((KeepV.grow g4).trans (KeepV.but p5 ac));have G5:=Hid.mk (p5.grow h0 w0 (VH.out.gr.trans g4) hbm);have R5:Hid (Built h5 base 3 1 rv out.length (out.map (AVal.int .i64))):=⟨zAG (VH.out.row.grow g4) p5 ac fun vs hh=>by cases hh⟩;have n45:b4≠bm:=by rintro rfl;rw[o4] at ac;cases ac
  have o45:=p5.keep b4 n45 _ o4;have ae:Hid ((a:Int)∉out):=⟨by simpa using ab⟩;have hlt:Hid (out.length<g.nodes.length):=⟨zRM VH.out.ok VH.out.nd ⟨by omega,by omega⟩ ae.out⟩;have w5:=G5.out.wf;have low5:=Nat.le_trans VH.out.low K5.out.next;clear o4 ac p5 hmk g4;repeat refine zR ?_
  refine zAT e1 cc rfl rfl w5 ?_;rintro bx h6 hbx g6 ox;have B6:=R5.out.grow g6;have n6:=g6.next;refine zAZ e1 e1 B6 ox rfl rfl (zBN H (b:=8) (k:=out.length+1) (by decide) (by have:=hlt.out;have e31:(2:Nat) ^ 31=2147483648:=(by decide);omega)) g6.wf (by omega) ?_;rintro rv' h7 B7 f7 w7 n7 gr7 kp7;have o47:=kp7 _ _ (g6.keep _ _ o45) (zAE B6 (g6.keep _ _ o45) fun vs hh=>by cases hh);have K7:Hid (KeepV hp h7):=⟨K5.out.trans ((KeepV.grow g6).trans ⟨n7,fun c p hcc h3 _=>kp7 c p hcc (zAE B6 hcc h3)⟩)⟩;have o57:=kp7 _ _ (g6.keep _ _ o5) (zAE B6 (g6.keep _ _ o5) fun vs hh=>by cases hh);have V7:Hid (VisO g h0 bm base (out++[(a:Int)]) rv' h7):=⟨zTa VH.out.ok ha,zTW VH.out.nd ae.out,by rw[zgL,List.map_append];exact B7,⟨_,o57⟩,gr7 h0 w0 (G5.out.trans g6) hbase,by omega⟩;have lrv':=B7.len;have hck:g.nodes[a]?=some g.nodes[a]:=zgG ha;obtain⟨bn,on,vern,ron,en,vsn,av,lv,hixn,hgn',_,_,_,_,hav,_,_,aa,_⟩:=hN.at hck;have hgn:=V7.out.gr.keep _ _ hgn';have hna:Hid (zAA g (a:Int)=g.nodes[a]):=⟨by simp[zAA,hck]⟩;have lav:=aa.len;have hA4:=hg.tinyA _ (List.getElem_mem ha);have R0:Hid (VisR g ((zAA g (a:Int)).args.take 0) (out++[(a:Int)]) (out++[(a:Int)])/\out.length+1<=(out++[(a:Int)]).length):=⟨by rw[zlY];exact .nil,by simp⟩;have iargs':=Hid.mk aa;have K7':=K7;clear hgn' o5 ox g6 B6 B7 f7 gr7 kp7 o45 o57 R5 K5 G5 aa;repeat refine zR ?_
  refine zAp (N:=g.nodes[a].args.length) (fun j A hq=>∃oj rj,Hid (VisR g ((zAA g (a:Int)).args.take j) (out++[(a:Int)]) oj/\out.length+1<=oj.length)/\Hid (VisO g h0 bm base oj rj hq)/\Hid (KeepV hp hq)/\(∃v,hq.objs.get b4=some (v,.cells false 24 [nv,.int .i64 g.root]))/\A.defers=[]/\ev A (.tmp 2)=some (.slice (some (bm,0)) g.nodes.length)/\ev A (.tmp 3)=some rj/\ev A (.tmp 4)=some (.ptr (some (b4,0)))/\ev A (.tmp 28)=some av) ?_ ?_ ⟨_,_,R0,V7,K7',⟨_,o47⟩,n1,e1,e1,e1,e1⟩
  ·clear R0 V7 K7 K7' o47 hgn hav lrv' hck;rintro j A hq hj ⟨oj,rj,R,V,K,⟨v4,o4⟩,hd,t2',t3',t4',t28'⟩ hi hn;obtain⟨ba,oa,vera,ra,ea,vsa,hixa,hga0,hva⟩:=iargs'.out.at (zgG hj);have hga:=V.out.gr.keep _ _ hga0;have hin:=zAh ((zAs hc).2 _ (List.getElem_mem ha)) _ (List.getElem_mem hj);obtain⟨z,hz⟩:∃z:Nat,g.nodes[a].args[j]=z:=⟨(g.nodes[a].args[j]).toNat,by have:=hin.1;omega⟩;have hzN:z<g.nodes.length:=by have:=hin.2;omega
   have htk:Hid ((zAA g (a:Int)).args.take (j+1)=(zAA g (a:Int)).args.take j++[(z:Int)]):=⟨by
    rw[hna.out,List.take_succ_eq_append_getElem hj,hz]⟩
   rw[hz] at hva;have ljv:=V.out.row.len;have hmm:Hid (m - 1<m/\g.nodes.length - oj.length<=m - 1):=⟨by have:=hlt.out;have:=hmh.out;omega,by have:=R.out.2;have:=hmh.out;have:=hlt.out;omega⟩;clear hz hin hga0;repeat refine zR ?_
   refine zAL s1 ((IH.out (m - 1) hmm.out.1 oj z rj hq hmm.out.2 hzN V.out).mono ?_);rintro r h8 ⟨o',R8,V8,K8⟩;have o48:=K8.out.keep _ _ o4 (fun vs hh=>by cases hh) (fun vs hh=>by cases hh);have K9:Hid (KeepV hp h8):=⟨K.out.trans K8.out⟩;have R9:Hid (VisR g ((zAA g (a:Int)).args.take (j+1)) (out++[(a:Int)]) o'/\out.length+1<=o'.length):=⟨by rw[htk.out];exact R.out.1.app R8.out.1,by have:=R.out.2;have:=R8.out.2;omega⟩;clear K8 R8 o4 K R V hga hva hixa htk;repeat refine zR ?_
   exact⟨⟨_,_,R9,V8,K9,⟨_,o48⟩,n1,e1,e1,e1,e1⟩,e1,e1⟩
  ·clear R0 V7 K7 K7' o47 hgn hav lrv' hck;rintro A hq ⟨oj,rj,R,V,K,⟨v4,o4⟩,hd,t2',t3',t4',t28'⟩;have ad:Hid (VisR g [(a:Int)] out oj/\out.length<=oj.length):=⟨.node ⟨by omega,by omega⟩ ae.out (by
    have:=R.out.1;rw[hna.out,List.take_length] at this;rw[hna.out];exact this),by have:=R.out.2;omega⟩
   clear o4 R;repeat refine zG ?_
   exact⟨oj,ad,V,K⟩
 ·rw[ab] at hmk;have ad:Hid (VisR g [(a:Int)] out out/\out.length<=out.length):=⟨.met (by simpa using ab),Nat.le_refl _⟩;have V4:Hid (VisO g h0 bm base out rv h4):=⟨VH.out.grow g4⟩;have K4:Hid (KeepV hp h4):=⟨.grow g4⟩;clear g4;repeat refine zG ?_
  exact⟨out,ad,V4,K4⟩
theorem zPF(g:Graph)(hg:GTi g)(hc:zAB g=0){nv:AVal}{h:AHeap}(w:WF h)(hN:NodesAt h nv g.nodes):
  Cl fns summ 63 [.agg [nv,.int .i64 g.root]] h fun r h'=>Built h' h.next 3 1 r (zAI g).length ((zAI g).map (AVal.int .i64))/\Grow h h':=by
 have hlen:=hN.len;have ae:=hg.tinyN;have hpart:zAk (some 2) [nv,.int .i64 g.root] 0=some (.agg [nv,.int .i64 g.root]):=rfl;obtain⟨ra,rb,_,_⟩:=zAN hc;obtain⟨x,hx⟩:∃x:Nat,g.root=x:=⟨g.root.toNat,by omega⟩;have hxN:x<g.nodes.length:=by omega
 have ht2:∀x y:AVal,List.take 2 [x,y]=[x,y]:=fun _ _=>rfl;have hck:(zAB g != 0)=false:=by rw[hc];rfl
 have hxh:=Hid.mk hx;have af:=Hid.mk hc;clear hx hc;refine H.go (fn:=F_rReach06) rfl (by decide) rfl rfl ?_;unfold F_rReach06;dsimp only[qQ,qE,tm,mt,lo,fa,jk,jl,je,jc,jo,jR,jS,jC];refine zAu (zAz ?_);refine zAr e1 cc w ?_;rintro b1 h1 hb1 g1 o1;repeat refine zR ?_
 refine zAL s1 ((zGZ H g hg.toGraphSm _ h1 g1.wf ⟨nv,rfl,hN.mono g1⟩).mono ?_);rintro _ h2 ⟨rfl,g2⟩;have ac:=g2.keep _ _ o1;have ab:=g1.trans g2;have w2:=g2.wf;clear o1 g1 g2;repeat refine zR ?_
 have l1:=w2.lt ac;refine zAS (zGw e1 e1 (Nat.le_trans ae (by decide)) (zBN H (b:=1) (k:=g.nodes.length) (by decide) (Nat.le_trans ae (by decide))) w2 ?_);rintro bm h3 hbm g3 om;rw[zMg] at om;have ad:=g3.keep _ _ ac;refine zAK ⟨by simp[zAJ,Nat.testBit,ad],?_⟩;have n2:=ab.next;have n3:=g3.next;have V3:VisO g h2 bm h3.next [] (.slice none 0) h3:=⟨fun b hb=>(by cases hb),List.nodup_nil,.inl ⟨rfl,rfl,rfl⟩,⟨_,om⟩,g3,Nat.le_refl _⟩;have aa:=zPK H g hg af.out w2 (hN.mono ab) hbm n3 g.nodes.length [] x _ h3 (by simp) hxN V3;rw[<-hxh.out] at aa;replace aa:=Hid.mk aa;clear om V3;refine zAS (zAL s1 (aa.out.mono ?_));rintro r h5 ⟨out,R5,V5,K5⟩;have ai:=K5.out.keep _ _ ad (fun vs hh=>by cases hh) (fun vs hh=>by cases hh);refine zAK ⟨by simp[zAJ,Nat.testBit,ai],?_⟩;have ah:Hid (Built h5 h.next 3 1 r (zAI g).length ((zAI g).map (AVal.int .i64))/\Grow h h5):=⟨by
  rw[<-R5.out.1.fin af.out];exact⟨zAW V5.out.row (by omega),ab.trans V5.out.gr⟩⟩
 clear aa R5 V5 K5 ai ad ac g3;repeat refine zG ?_
 exact ah.out
end
end Go.Ab.S
end
section
namespace Go.Ab.S
open Go Go.Ab
def tabL(N:Nat)(l:List Int)(j:Nat):List Int:=(zCj N).map fun a=>(zBV (l.take j) a:Int)
theorem zIY(N:Nat)(l:List Int)(j:Nat):(tabL N l j).length=N:=by simp[tabL,zCj]
theorem zRI(N:Nat)(l:List Int):tabL N l 0=List.replicate N 0:=by refine List.ext_getElem (by simp[zIY]) fun i h1 h2=>?_;simp[tabL,zBV]
theorem zPa{l:List Int}{b:Int}(hb:b∉l)(a:Int):zBV (l++[b]) a=if a=b then l.length else zBV l a:=by
 by_cases h:a=b
 ·subst h;rw[if_pos rfl,zBV,if_pos (by simp),List.idxOf_append,if_neg hb];simp
 ·rw[if_neg h,zBV,zBV];by_cases k:a∈l
  ·rw[if_pos (by simp[k]),if_pos (by simp[k]),List.idxOf_append,if_pos k]
  ·rw[if_neg (by simp[k,h]),if_neg (by simp[k])]
theorem zSh{N:Nat}{l:List Int}(hd:l.Nodup){j:Nat}(hj:j<l.length){z:Nat}(hz:l[j]=z)(hzN:z<N):(tabL N l j).set z (j:Int)=tabL N l (j+1):=by
 have aa:l[j]∉l.take j:=fun h=>by
  obtain⟨i,hi,e⟩:=List.mem_iff_getElem.1 h;rw[List.getElem_take] at e;have hij:i<j:=by simp at hi;omega
  have:=(List.getElem_inj hd).1 e;omega
 refine List.ext_getElem (by simp[zIY]) fun i h1 h2=>?_;rw[List.getElem_set];have ab:i<N:=by rw[zIY] at h2;exact h2
 simp only[tabL,zCj,List.getElem_map,List.getElem_range];rw[List.take_succ_eq_append_getElem hj,zPa aa,hz];by_cases h:z=i
 ·subst h;rw[if_pos rfl,if_pos rfl];simp[Nat.min_eq_left (Nat.le_of_lt hj)]
 ·rw[if_neg h,if_neg (by omega)]
theorem zUB{N:Nat}{l:List Int}{a:Int}(h0:0<=a)(h1:a<N):clAt (tabL N l l.length) a=(zBV l a:Int):=by rw[tabL,zGI h0 (by simpa[zCj] using h1),zGm ⟨h0,h1⟩,List.take_length]
section
variable{fns:FnsT}{summ:SumT}
variable(H:Has fns summ)
include H
theorem zKy(n:Node)(hn:n.args.length<=4096)(hnl:n.labels.length<=4096)(T:List Int)(hT:∀a∈n.args,0<=a/\a<T.length)(av lv tv:AVal)(h:AHeap)(w:WF h)(ha:IntsAt h av n.args)(hl:StrsAt h lv n.labels)(ht:IntsAt h tv T):
  Cl fns summ 59 [zBf n av lv,tv] h fun r h'=>Grow h h'/\∃M av' lv',r=zBf M av' lv'/\Hid (M={n with args:=n.args.map (clAt T)})/\Built h' h.next 3 1 av' M.args.length (M.args.map (AVal.int .i64))/\Built h' h.next 9 1 lv' M.labels.length (M.labels.map AVal.str):=by
 refine(zMp H n (Nat.le_trans hn (by decide)) (Nat.le_trans hnl (by decide)) T hT av lv tv h w ha hl ht).mono ?_;rintro _ h' ⟨g1,av',lv',rfl,B1,B2⟩;exact⟨g1,_,av',lv',rfl,⟨rfl⟩,by rw[List.length_map];exact B1,B2⟩
theorem zQm(g:Graph)(hg:GTi g)(hc:zAB g=0){nv:AVal}{h:AHeap}(w:WF h)(hN:NodesAt h nv g.nodes):
  Cl fns summ 40 [.agg [nv,.int .i64 g.root]] h fun r h'=>Grow h h'/\∃vo,r=.agg [vo,.int .i64 0]/\one vo=true/\Hid (OwnG h' h.next r (zBS g)):=by
 have hlen:=hN.len;have hN4:=hg.tinyN;have hpart:zAk (some 2) [nv,.int .i64 g.root] 0=some (.agg [nv,.int .i64 g.root]):=rfl;have ht2:∀x y:AVal,List.take 2 [x,y]=[x,y]:=fun _ _=>rfl;have hroot:=zAN hc;obtain⟨hOk,hNd⟩:=zCR g;have hlN:(zAI g).length<=g.nodes.length:=by
  have:=zBv (zAI g) (zCj g.nodes.length) hNd fun a ha=>by have:=hOk a ha;exact List.mem_map.2 ⟨a.toNat,List.mem_range.2 (by omega),by omega⟩
  simpa[zCj] using this
 have htrim:Hid ((zBS g).nodes=(zAI g).map fun i=>zCz (zAI g) (zAA g i)):=⟨rfl⟩;have hOkh:=Hid.mk hOk;have hNdh:=Hid.mk hNd;have hargs:Hid (∀a∈zAI g,∀b∈(zAA g a).args,0<=b/\b<g.nodes.length):=⟨fun a ha b hb=>zAh (zAV hc (hOk a ha)) b hb⟩;clear hroot hOk hNd;refine H.go (fn:=F_rTrim06) rfl (by decide) rfl rfl ?_;unfold F_rTrim06;dsimp only[qE,tm,mt,lo,fa,jv,jl,js,ji,je,jc,jd,jo,jG,jN,jR,jS,jL];refine zAu (zAz ?_);refine zAr e1 cc w ?_;rintro b1 h1 hb1 g1 o1;refine zAM g1.wf ?_;rintro b2 h2 hb2 g2 o2;have o12:=g2.keep _ _ o1;have g02:=g1.trans g2;have n1x:=g1.next;have n2x:=g2.next;clear o1 g1 g2;repeat refine zR ?_
 refine zAL s1 ((zPF H g hg hc g02.wf (hN.mono g02)).mono ?_);rintro rv h3 ⟨B3,g3⟩;have o13:=g3.keep _ _ o12;have o23:=g3.keep _ _ o2;have g03:=g02.trans g3;have lrv:=B3.len;have w3:=g03.wf;have l13:=w3.lt o13;have l23:=w3.lt o23;have I3:Hid (IntsAt h3 rv (zAI g)):=⟨zBb B3⟩;clear o12 o2 g02 g3 B3;generalize zAI g=l at*;repeat refine zR ?_
 refine zGw e1 e1 (Nat.le_trans hN4 (by decide)) (zBN H (b:=8) (k:=g.nodes.length) (by decide) (Nat.le_trans hN4 (by decide))) w3 ?_;rintro bt h4 hbt g4 ot;rw[zNo] at ot;have o14:=g4.keep _ _ o13;have o24:=g4.keep _ _ o23;have g04:=g03.trans g4;have n3x:=g03.next;have R4:Hid (RowI h4 bt g.nodes.length (tabL g.nodes.length l 0)):=⟨⟨_,_,ot,by rw[zRI];exact List.take_of_length_le (by simp),by simp⟩⟩;have BB4:=Hid.mk (zES bt h4);have hlt:lenO (.slice (some (bt,0)) g.nodes.length)=some g.nodes.length:=rfl;have w4:=g04.wf;clear ot;repeat refine zR ?_
 refine zAp (N:=l.length) (fun j a hp=>Hid (But bt h4 hp)/\Hid (RowI hp bt g.nodes.length (tabL g.nodes.length l j))/\a.defers=[]/\ev a (.tmp 1)=some (.ptr (some (b1,0)))/\ev a (.tmp 2)=some (.ptr (some (b2,0)))/\ev a (.tmp 3)=some rv/\ev a (.tmp 4)=some (.slice (some (bt,0)) g.nodes.length)/\ev a (.tmp 16)=some rv) ?_ ?_ ⟨BB4,R4,n1,e1,e1,e1,e1,e1⟩
 ·clear BB4 R4;rintro j a hp hj ⟨B,R,hd,t1',t2',t3',t4',t16'⟩ hi hn;obtain⟨ba,oa,vera,ra,ea,vsa,hixa,aa,hva⟩:=I3.out.at (zgG hj);have la:=w3.lt aa;have hga:=B.out.keep ba (by omega) _ (g4.keep _ _ aa);have hin:=hOkh.out _ (List.getElem_mem hj);obtain⟨z,hz⟩:∃z:Nat,l[j]=z:=⟨(l[j]).toNat,by have:=hin.1;omega⟩;have hzN:z<g.nodes.length:=by have:=hin.2;omega
  have hset:=Hid.mk (zSh hNdh.out hj hz hzN);obtain⟨vt,vst,ot,hvt,hvl⟩:=R.out;have hrow:=Hid.mk (zIO hvt hzN hvl (j:Int));have hixt:slA (.slice (some (bt,0)) g.nodes.length) 1 z=some (bt,z):=by simp[slA,hzN]
  have wp:=B.out.wf w4;rw[hz] at hva;clear hz hin aa hvt;repeat refine zR ?_
  refine zAC e1 e1 (cs:=[.int .i64 (j:Nat)]) rfl rfl wp ot (by simp only[zlC,zlN];omega) rfl ?_;rintro v5 h5 p5 o5;simp only[zlC,zlN,Nat.zero_add] at o5;have B5:Hid (But bt h4 h5):=⟨B.out.trans p5⟩;have R5:Hid (RowI h5 bt g.nodes.length (tabL g.nodes.length l (j+1))):=⟨⟨_,_,o5,by rw[hrow.out,hset.out],by
   simp only[zgL,List.length_take,zlC,zlN,List.length_drop];omega⟩⟩
  clear o5 p5 ot hrow hset hixt hixa hva hga;repeat refine zR ?_
  exact⟨⟨B5,R5,n1,e1,e1,e1,e1,e1⟩,e1,e1⟩
 clear BB4 R4;rintro a hA ⟨B,R,hd,t1',t2',t3',t4',t16'⟩;have gA:Grow h hA:=B.out.grow h w g04 (by omega);have gA3:Grow h3 hA:=B.out.grow h3 w3 g4 hbt;have wA:=gA.wf;have k1A:=B.out.keep b1 (by omega) _ o14;have k2A:=B.out.keep b2 (by omega) _ o24;have IA:Hid (IntsAt hA rv l):=⟨I3.out.mono gA3⟩;have TA:Hid (IntsAt hA (.slice (some (bt,0)) g.nodes.length) (tabL g.nodes.length l l.length)):=⟨R.out.ints⟩;have NA:=Hid.mk (hN.mono gA);have n4x:=gA.next;have l1A:=wA.lt k1A;have l2A:=wA.lt k2A;clear B R gA3 o14 o24 g04 g4 I3 o13 o23;refine zAd ?_;repeat refine zR ?_
 refine zAM wA ?_;rintro b7 h6 hb7 g6 o7;have k16:=g6.keep _ _ k1A;have k26:=g6.keep _ _ k2A;have ne7:b1≠b7/\b2≠b7:=by omega
 have G6:=Hid.mk g6;clear g6 k16 k26;repeat refine zR ?_
 refine zAp (N:=l.length) (fun j a hq=>∃vo cs,Hid (Grow hA hq)/\(∃v,hq.objs.get b7=some (v,.cells false 24 [vo,.int .i64 0]))/\Hid (Built hq hA.next 36 5 vo j (List.flatten cs))/\Hid (List.length cs=j)/\Hid (∀(i:Nat) c n,cs[i]?=some c->(l.map fun i=>zCz l (zAA g i))[i]?=some n->OwnN hq hA.next c n)/\a.defers=[]/\ev a (.tmp 1)=some (.ptr (some (b1,0)))/\ev a (.tmp 2)=some (.ptr (some (b2,0)))/\ev a (.tmp 4)=some (.slice (some (bt,0)) g.nodes.length)/\ev a (.tmp 7)=some (.ptr (some (b7,0)))/\ev a (.tmp 28)=some rv) ?_ ?_ ⟨_,[],G6,⟨_,o7⟩,⟨.inl ⟨rfl,rfl,rfl⟩⟩,⟨rfl⟩,⟨fun i c n hh=>by simp at hh⟩,n1,e1,e1,e1,e1,e1⟩
 ·clear o7 G6 hd t1' t2' t3' t4' t16';rintro j a hq hj ⟨vo,cs,G,⟨v7,o7⟩,B,L,ON,hd,t1',t2',t4',t7',t28'⟩ hi hn;have o1:=G.out.keep _ _ k1A;obtain⟨ba,oa,vera,ra,ea,vsa,hixa,aa,hva⟩:=IA.out.at (zgG hj);have hga:=G.out.keep _ _ aa;have hin:=hOkh.out _ (List.getElem_mem hj);obtain⟨z,hz⟩:∃z:Nat,l[j]=z:=⟨(l[j]).toNat,by have:=hin.1;omega⟩;have hzN:z<g.nodes.length:=by have:=hin.2;omega
  rw[hz] at hva;have hnz:zAA g (z:Int)=g.nodes[z]:=by simp[zAA,hzN]
  obtain⟨bn,on,vern,ron,en,vsn,av,lv,hixn,hgn0,hvl,hv5,_,_,_,_,_,iargs,ilabs⟩:=NA.out.at (zgG hzN);have hgn:=G.out.keep _ _ hgn0;have hmem:=List.getElem_mem hzN;have hA4:=hg.tinyA _ hmem;have hL4:g.nodes[z].labels.length<=4096:=by
   rcases zAH ((zAs hc).2 _ hmem) with⟨_,q,_⟩|⟨_,q,_⟩|⟨_,_,q,_⟩
   ·rw[q];simp
   ·rw[q];simp
   ·omega
  have hzin:(z:Int)∈l:=by rw[<-hz];exact List.getElem_mem hj
  have hargz:Hid (∀b∈g.nodes[z].args,0<=b/\b<(tabL g.nodes.length l l.length).length):=⟨fun b hb=>by
   rw[zIY];exact hargs.out _ hzin b (by rw[hnz];exact hb)⟩
  have hM:Hid ((l.map fun i=>zCz l (zAA g i))[j]?=some {g.nodes[z] with args:=g.nodes[z].args.map (clAt (tabL g.nodes.length l l.length))}):=⟨by
   rw[zgM,zgG hj,hz,Option.map_some,hnz,zCz];congr 2;refine List.map_congr_left fun b hb=>?_;have:=hargz.out b hb;rw[zIY] at this;exact(zUB this.1 this.2).symm⟩
  have lvo:=B.out.len;have wq:=G.out.wf;have cp:=Hid.mk (zKy H g.nodes[z] hA4 hL4 (tabL g.nodes.length l l.length) hargz.out av lv _ hq wq (iargs.mono G.out) (ilabs.mono G.out) (TA.out.mono G.out));have hpart5:zAk (some 5) vsn on=some (zBf g.nodes[z] av lv):=by rw[zAk,if_pos hvl,hv5];rfl
  clear aa hgn0 hin hz hnz hmem hzin hargz iargs ilabs;repeat refine zR ?_
  refine zAS (zAL s1 (cp.out.mono ?_));rintro _ h8 ⟨g8,M,ab,lv',rfl,hMe,Ba,Bl⟩;have q1:=g8.keep _ _ o1;have qn:=g8.keep _ _ hgn;have q7:=g8.keep _ _ o7;refine zAK ⟨by simp[zAJ,Nat.testBit,q1,qn,q7],?_⟩;rw[<-hMe.out] at hM;have oa:=zAD Ba.len;have ol:=zAD Bl.len;have nA:=G.out.next;have n8:=g8.next;refine zAS (zAT (v:=zBf M ab lv') e1 (cs:=[.int .i64 M.kind,.str M.name,ab,lv',.bool M.isOpen]) rfl rfl rfl g8.wf ?_);rintro bx h9 hbx g9 ox;have s7:=g9.keep _ _ q7;refine zAK ⟨by simp[zAJ,Nat.testBit,s7],?_⟩;have B9:=(B.out.grow g8).grow g9;have n9:=g9.next;refine zAS (zAZ e1 e1 B9 ox rfl (by simp only[List.all_cons,List.all_nil,oa,ol,Bool.true_and,Bool.and_true];rfl) (zBN H (b:=80) (k:=j+1) (by decide) (le31 (by omega))) g9.wf (by omega) ?_);rintro vo' h10 B10 f10 w10 n10 gr10 kp10;have t7:=kp10 _ _ s7 (zAE B9 s7 fun vs hh=>by cases hh);refine zAK ⟨by simp[zAJ,Nat.testBit,t7],?_⟩;have G10:=gr10 hA wA ((G.out.trans g8).trans g9) (Nat.le_refl _);have lv10:=B10.len;have k10:∀b p,h9.objs.get b=some p->((∃vs,p.2=.cells false 3 vs)\/∃vs,p.2=.cells false 9 vs)->h10.objs.get b=some p:=fun b p hb hp=>kp10 b p hb (zAE B9 hb fun vs hh=>by
   rcases hp with⟨ws,hp⟩|⟨ws,hp⟩<;>rw[hh] at hp<;>cases hp)
  have ON10:Hid (∀(i:Nat) c n,(cs++[[.int .i64 M.kind,.str M.name,ab,lv',.bool M.isOpen]])[i]?=some c->(l.map fun i=>zCz l (zAA g i))[i]?=some n->OwnN h10 hA.next c n):=⟨fun i c n hc hn=>by
   rcases Nat.lt_or_ge i j with hij|hij
   ·rw[List.getElem?_append_left (by rw[L.out];exact hij)] at hc;exact OwnN_stay (ON.out i c n hc hn) fun b p hb hp=>k10 b p (g9.keep _ _ (g8.keep _ _ hb)) hp
   ·rw[List.getElem?_append_right (by rw[L.out];exact hij),L.out] at hc;obtain rfl:i=j:=by
     have:=(zgS.1 hc).1;simp only[zlC,zlN] at this;omega
    rw[Nat.sub_self,zgZ,oI] at hc;rw[hM.out,oI] at hn;subst hc;subst hn;exact OwnN_stay ⟨ab,lv',rfl,zAW Ba nA,zAW Bl nA⟩ fun b p hb hp=>k10 b p (g9.keep _ _ hb) hp⟩
  have B10':Hid (Built h10 hA.next 36 5 vo' (j+1) (List.flatten (cs++[[.int .i64 M.kind,.str M.name,ab,lv',.bool M.isOpen]]))):=⟨by rw[List.flatten_append];simpa using B10⟩;have L10:Hid ((cs++[[.int .i64 M.kind,.str M.name,ab,lv',.bool M.isOpen]]).length=j+1):=⟨by rw[zgL,L.out];rfl⟩;generalize cs++[[.int .i64 M.kind,.str M.name,ab,lv',.bool M.isOpen]]=cs' at*;clear o7 o1 q7 q1 qn s7 ox g8 g9 B9 B10 f10 gr10 kp10 k10 B L ON Ba Bl cp G hga hgn hixa hixn hva hv5 hvl hpart5 hM;repeat refine zR ?_
  refine zAS (zAC e1 e1 (zAO lv10) rfl w10 t7 (by simp) (by simp only[List.all_cons,List.all_nil,zAD lv10,Bool.and_true]) ?_);rintro v11 h11 p11 o11;refine zAK ⟨by simp[zAJ,Nat.testBit],?_⟩;simp only[lL,Nat.reduceAdd] at o11;have G11:Hid (Grow hA h11):=⟨p11.grow hA wA G10 hb7⟩;have B11:Hid (Built h11 hA.next 36 5 vo' (j+1) (List.flatten cs')):=⟨zAG B10'.out p11 t7 fun vs hh=>by cases hh⟩;have ON11:Hid (∀(i:Nat) c n,cs'[i]?=some c->(l.map fun i=>zCz l (zAA g i))[i]?=some n->OwnN h11 hA.next c n):=⟨fun i c n hc hn=>OwnN_stay (ON10.out i c n hc hn) fun b p hb hp=>p11.keep b (by
   rintro rfl;rw[t7] at hb;simp only[oI] at hb;rcases hp with⟨ws,hp⟩|⟨ws,hp⟩<;>rw[<-hb] at hp<;>cases hp) _ hb⟩
  clear t7 p11 B10' ON10 G10;repeat refine zR ?_
  exact⟨⟨_,_,G11,⟨_,o11⟩,B11,L10,ON11,n1,e1,e1,e1,e1,e1⟩,e1,e1⟩
 ·clear o7 G6 hd t1' t2' t3' t4' t16';rintro a hq ⟨vo,cs,G,⟨v7,o7⟩,B,L,ON,hd,t1',t2',t4',t7',t28'⟩;have o2:=G.out.keep _ _ k2A;have lvo:=B.out.len;have onev:=zAD lvo;have wq:=G.out.wf;have hpv:zAk (some 2) [vo,.int .i64 0] 0=some (.agg [vo,.int .i64 0]):=rfl;have own:Hid (OwnG hq hA.next (.agg [vo,.int .i64 0]) (zBS g)):=⟨vo,cs,rfl,by rw[htrim.out,List.length_map];exact B.out,by rw[htrim.out,List.length_map];exact L.out,by rw[htrim.out];exact ON.out⟩;refine zAd ?_;repeat refine zR ?_
  refine zAC (v:=.agg [vo,.int .i64 0]) e1 e1 (cs:=[vo,.int .i64 0]) rfl rfl wq o2 (by simp) (by simp only[List.all_cons,List.all_nil,onev,Bool.true_and,Bool.and_true];rfl) ?_;rintro v9 h9 p9 o9;simp only[lL,Nat.reduceAdd] at o9;have hfin:Hid (Grow h h9/\OwnG h9 h.next (.agg [vo,.int .i64 0]) (zBS g)):=⟨p9.grow h w (gA.trans G.out) (by omega),(own.out.stay fun c p hc hp _=>p9.keep c (by omega) _ hp).base n4x⟩;clear p9 o2 o7 G B ON own;repeat refine zG ?_
  exact⟨hfin.out.1,vo,rfl,onev,⟨hfin.out.2⟩⟩
end
end Go.Ab.S
end
section
namespace Go.Ab.S
open Go Go.Ab
def toL(N j:Nat):List Int:=(zCj j).map fun a=>(N:Int)+a
theorem zKD(N j:Nat):(toL N j).length=j:=by simp[toL,zCj]
theorem zSi(N j:Nat):toL N (j+1)=toL N j++[(N:Int)+(j:Nat)]:=by simp[toL,zCj,List.range_succ]
theorem zUP{N j:Nat}{a:Int}(h0:0<=a)(h1:a<j):clAt (toL N j) a=a+(N:Int):=by rw[toL,zGI h0 (by simpa[zCj] using h1),zGm ⟨h0,h1⟩];omega
def NodeX(hA:AHeap)(base:Nat)(hp:AHeap)(c:List AVal)(n:Node):Prop:=NodeAt hA c n\/OwnN hp base c n
theorem NodeX.at{hA hp:AHeap}{base:Nat}{c:List AVal}{n:Node}(g:Grow hA hp)(k:NodeX hA base hp c n):NodeAt hp c n:=by
 rcases k with k|k
 ·exact k.mono g
 ·exact OwnN_at k
theorem NodeX.stay{hA hp hq:AHeap}{base:Nat}{c:List AVal}{n:Node}(k:NodeX hA base hp c n)(hk:∀b p,hp.objs.get b=some p->((∃vs,p.2=.cells false 3 vs)\/∃vs,p.2=.cells false 9 vs)->hq.objs.get b=some p):NodeX hA base hq c n:=by
 rcases k with k|k
 ·exact .inl k
 ·exact .inr (OwnN_stay k hk)
section
variable{fns:FnsT}{summ:SumT}
variable(H:Has fns summ)
include H
theorem zKx(g h:Graph)(hg:GTi g)(hh:GTi h)(hNM:g.nodes.length+h.nodes.length<=4096)(ch:zAB h=0){gn hn:AVal}{h0:AHeap}(w0:WF h0)(hN:NodesAt h0 gn g.nodes)(hM:NodesAt h0 hn h.nodes):
  Cl fns summ 39 [.agg [gn,.int .i64 g.root],.agg [hn,.int .i64 h.root]] h0 fun r h'=>Grow h0 h'/\∃vo,r=.agg [vo,.int .i64 g.root]/\one vo=true/\Hid (NodesAt h' vo (zAf g h).nodes):=by
 have hlen:=hN.len;have hlenh:=hM.len;have ht2:∀x y:AVal,List.take 2 [x,y]=[x,y]:=fun _ _=>rfl;refine H.go (fn:=F_rBeside08) rfl (by decide) rfl rfl ?_;unfold F_rBeside08;dsimp only[qQ,qE,tm,mt,lo,fa,jn,jv,jl,js,ji,je,jd,jo,jG,jN,jR,jS,jL];refine zAu (zAz ?_);refine zAr e1 cc w0 ?_;rintro b2 h2 hb2 g2 o2;refine zAr e1 cc g2.wf ?_;rintro b3 h3 hb3 g3 o3;refine zAM g3.wf ?_;rintro b4 h4 hb4 g4 o4;replace o2:=g4.keep _ _ (g3.keep _ _ o2);replace o3:=g4.keep _ _ o3;have g04:=(g2.trans g3).trans g4;have w4:=g04.wf;have G0:=Hid.mk (Grow.refl w4);have n2x:=g2.next;have n3x:=g3.next;clear g2 g3 g4;repeat refine zR ?_
 refine zAp (N:=h.nodes.length) (fun j a hp=>∃rv,Hid (Built hp h4.next 3 1 rv j ((toL g.nodes.length j).map (AVal.int .i64)))/\Hid (Grow h4 hp)/\a.defers=[]/\ev a (.tmp 2)=some (.ptr (some (b2,0)))/\ev a (.tmp 3)=some (.ptr (some (b3,0)))/\ev a (.tmp 4)=some (.ptr (some (b4,0)))/\ev a (.tmp 5)=some (.int .i64 (g.nodes.length:Nat))/\ev a (.tmp 6)=some rv) ?_ ?_ ⟨_,⟨.inl ⟨rfl,rfl,rfl⟩⟩,G0,n1,e1,e1,e1,e1,e1⟩
 ·clear G0;rintro j a hp hj ⟨rv,B,G,hd,t2',t3',t4',t5',t6'⟩ hi hn';have hw1:IntKind.i64.wrap (((g.nodes.length:Nat):Int)+((j:Nat):Int))=((g.nodes.length:Nat):Int)+((j:Nat):Int):=zAa (by omega) (by omega);have lrv:=B.out.len;have wp:=G.out.wf;repeat refine zR ?_
  refine zAT e1 (cs:=[.int .i64 (((g.nodes.length:Nat):Int)+((j:Nat):Int))]) rfl rfl rfl wp ?_;rintro bx h6 hbx g6 ox;have B6:=B.out.grow g6;have nG:=G.out.next;have n6:=g6.next;refine zAZ e1 e1 B6 ox rfl rfl (zBN H (b:=8) (k:=j+1) (by decide) (le31 (by omega))) g6.wf (by omega) ?_;rintro rv' h7 B7 f7 w7 n7 gr7 kp7;have G7:Hid (Grow h4 h7):=⟨gr7 h4 w4 (G.out.trans g6) (Nat.le_refl _)⟩;have B7':Hid (Built h7 h4.next 3 1 rv' (j+1) ((toL g.nodes.length (j+1)).map (AVal.int .i64))):=⟨by rw[zSi,List.map_append];exact B7⟩;have lrv':=B7.len;clear ox g6 B6 B7 f7 gr7 kp7 B G;repeat refine zR ?_
  exact⟨⟨_,B7',G7,n1,e1,e1,e1,e1,e1⟩,e1,e1⟩
 rintro a hp ⟨rv,B,G,hd,t2',t3',t4',t5',t6'⟩;have k2:=G.out.keep _ _ o2;have k3:=G.out.keep _ _ o3;have k4:=G.out.keep _ _ o4;have Gh:=Hid.mk (g04.trans G.out);have wp:=G.out.wf;have TA:Hid (IntsAt hp rv (toL g.nodes.length h.nodes.length)):=⟨by
  have hl:=B.out;rw[<-zKD g.nodes.length h.nodes.length] at hl;rw[zKD] at hl;exact zBb (by rw[zKD];exact hl)⟩
 have lrv:=B.out.len;have n4p:=G.out.next;obtain⟨cs,hsl,ac,hcn⟩:=hN;have ad:=Hid.mk (zGp cs g.nodes ac hcn);have hslG:=Hid.mk (hsl.mono Gh.out);have hcnG:=Hid.mk hcn;have l2:=wp.lt k2;have l3:=wp.lt k3;have l4:=wp.lt k4;clear o2 o3 o4 G0 hsl hcn;refine zAd ?_;repeat refine zR ?_
 refine zAS (zRA ?_);refine zAK ⟨by simp[zAJ,Nat.testBit,k2],?_⟩;refine zAS (zGJ e1 (v:=gn) e1 hslG.out (by decide) ad.out (zBN H (b:=80) (by decide) (by rw[ac];exact le31 (by omega))) wp ?_);intro wv h5 Bw g5;have k25:=g5.keep _ _ k2;refine zAK ⟨by simp[zAJ,Nat.testBit,k25],?_⟩;have lw:=Bw.len;have onew:=zAD lw;rw[ac] at lw Bw;refine dr_q (v:=.agg [wv,.int .i64 g.root]) (by rw[zBF];simp only[zCV,zAl,zAo,zAw,if_true,if_false,Nat.reduceEqDiff,zAO lw];rfl) ?_;refine zAS (zAM g5.wf ?_);rintro b8 h6 hb8 g6 o8;have k26:=g6.keep _ _ k25;refine zAK ⟨by simp[zAJ,Nat.testBit,k26],?_⟩;refine zAS (zAC (v:=.agg [wv,.int .i64 g.root]) e1 e1 (cs:=[wv,.int .i64 g.root]) rfl rfl g6.wf o8 (by simp) (by simp only[List.all_cons,List.all_nil,onew,Bool.true_and,Bool.and_true];rfl) ?_);rintro v7 h7 p7 o78;have n5x:=g5.next;have k27:=p7.keep b2 (by omega) _ k26;refine zAK ⟨by simp[zAJ,Nat.testBit,k27],?_⟩;simp only[lL,Nat.reduceAdd] at o78;have g57:Grow h5 h7:=p7.grow h5 g5.wf g6 hb8;have lb8:hp.next<=b8:=by omega
 have G7:=Hid.mk (g5.trans g57);have B7:=Hid.mk (Bw.grow g57);have hBl:Hid (∀i,i<g.nodes.length->(zAf g h).nodes[i]?=g.nodes[i]?):=⟨fun i hi=>by rw[zAf];exact List.getElem?_append_left hi⟩;have hBr:Hid (∀j (hj:j<h.nodes.length),(zAf g h).nodes[g.nodes.length+j]?=some (shN g.nodes.length h.nodes[j])):=⟨fun j hj=>by
  rw[zAf];show (g.nodes++_)[_]?=_;rw[List.getElem?_append_right (by omega),Nat.add_sub_cancel_left,zgM,zgG hj];rfl⟩
 have hbl:Hid ((zAf g h).nodes.length=g.nodes.length+h.nodes.length):=⟨zBh g h⟩;have hbr:Hid ((zAf g h).root=g.root):=⟨rfl⟩;generalize (zAf g h).nodes=Bn at*;have N7:Hid (∀(i:Nat) c n,cs[i]?=some c->Bn[i]?=some n->NodeX h0 hp.next h7 c n):=⟨fun i c n hc hn'=>by
  rw[hBl.out i (by rw[<-ac];exact(zgS.1 hc).1)] at hn';exact .inl (hcnG.out i n c hn' hc)⟩
 have hcl0:Hid (cs.length=g.nodes.length+0):=⟨ac⟩;have k37:=G7.out.keep _ _ k3;have hMp:=Hid.mk (hM.mono Gh.out);clear o8 p7 g6 k25 k26 k27 Bw g5 g57;repeat refine zR ?_
 refine zAp (N:=h.nodes.length) (fun j a hq=>∃vo cs,Hid (Grow hp hq)/\(∃v,hq.objs.get b8=some (v,.cells false 24 [vo,.int .i64 g.root]))/\Hid (Built hq hp.next 36 5 vo (g.nodes.length+j) (List.flatten cs))/\Hid (List.length cs=g.nodes.length+j)/\Hid (∀(i:Nat) c n,cs[i]?=some c->Bn[i]?=some n->NodeX h0 hp.next hq c n)/\a.defers=[]/\ev a (.tmp 4)=some (.ptr (some (b4,0)))/\ev a (.tmp 6)=some rv/\ev a (.tmp 8)=some (.ptr (some (b8,0)))/\ev a (.tmp 35)=some hn) ?_ ?_ ⟨_,cs,G7,⟨_,o78⟩,B7,hcl0,N7,n1,e1,e1,e1,e1⟩
 ·clear o78 G7 B7 N7 hcl0 hd t2' t3' t4' t5' t6' k37 ac hcnG hslG ad;rintro j a hq hj ⟨vo,cs,G,⟨v8,o8⟩,B,L,NX,hd,t4',t6',t8',t35'⟩ hi hn';obtain⟨bn,on,vern,ron,en,vsn,av,lv,hixn,hgn0,hvl,hv5,_,_,_,_,_,ae,af⟩:=hMp.out.at (zgG hj);have hgn:=G.out.keep _ _ hgn0;have hmem:h.nodes[j]∈h.nodes:=List.getElem_mem hj;have hA4:=hh.tinyA _ hmem;have hL4:h.nodes[j].labels.length<=4096:=by
   rcases zAH ((zAs ch).2 _ hmem) with⟨_,q,_⟩|⟨_,q,_⟩|⟨_,_,q,_⟩
   ·rw[q];simp
   ·rw[q];simp
   ·omega
  have ab:Hid (∀b∈h.nodes[j].args,0<=b/\b<(h.nodes.length:Int)):=⟨fun b hb=>zAh ((zAs ch).2 _ hmem) b hb⟩;have hargT:Hid (∀b∈h.nodes[j].args,0<=b/\b<(toL g.nodes.length h.nodes.length).length):=⟨by rw[zKD];exact ab.out⟩;have hM:Hid (Bn[g.nodes.length+j]?=some {h.nodes[j] with args:=h.nodes[j].args.map (clAt (toL g.nodes.length h.nodes.length))}):=⟨by
   rw[hBr.out j hj,shN];congr 2;refine List.map_congr_left fun b hb=>?_;have:=ab.out b hb;exact(zUP this.1 this.2).symm⟩
  have lvo:=B.out.len;have wq:=G.out.wf;have hpart5:zAk (some 5) vsn on=some (zBf h.nodes[j] av lv):=by rw[zAk,if_pos hvl,hv5];rfl
  have hla:=ae.len;have hll:=af.len;have iargs':=Hid.mk ae;have ilabs':=Hid.mk af;clear hgn0 hmem ae af;repeat refine zR ?_
  refine zAM wq ?_;rintro b10 h6 hb10 g6 o10;refine zAC e1 e1 (cs:=[.int .i64 h.nodes[j].kind,.str h.nodes[j].name,av,lv,.bool h.nodes[j].isOpen]) rfl rfl g6.wf o10 (by simp) (zBo hla hll) ?_;rintro v7 h7' p7 o7;simp only[lL,Nat.reduceAdd] at o7;have g7:Grow hq h7':=p7.grow hq wq g6 hb10;have G7:=Hid.mk (G.out.trans g7);have w7:=g7.wf;have o87:=g7.keep _ _ o8;have B7:=Hid.mk (B.out.grow g7);have NX7:Hid (∀(i:Nat) c n,cs[i]?=some c->Bn[i]?=some n->NodeX h0 hp.next h7' c n):=⟨fun i c n hc hn=>(NX.out i c n hc hn).stay fun b p hb _=>g7.keep _ _ hb⟩;have cp:=Hid.mk (zKy H h.nodes[j] hA4 hL4 (toL g.nodes.length h.nodes.length) hargT.out av lv rv h7' w7 (iargs'.out.mono G7.out) (ilabs'.out.mono G7.out) (TA.out.mono G7.out));clear o10 p7 g6 hixn hgn hpart5 hv5 hvl g7 o8 B NX G ab hargT;repeat refine zR ?_
  refine zAS (zAL s1 (cp.out.mono ?_));rintro _ h8 ⟨g8,M,aa,ah,rfl,hMe,Ba,Bl⟩;have q8:=g8.keep _ _ o87;have q10:=g8.keep _ _ o7;refine zAK ⟨by simp[zAJ,Nat.testBit,q8,q10],?_⟩;rw[<-hMe.out] at hM;have oa:=zAD Ba.len;have ol:=zAD Bl.len;have nA:=G7.out.next;have n8:=g8.next;refine zAS (zAT (v:=zBf M aa ah) e1 (cs:=[.int .i64 M.kind,.str M.name,aa,ah,.bool M.isOpen]) rfl rfl rfl g8.wf ?_);rintro bx h9 hbx g9 ox;have s8:=g9.keep _ _ q8;refine zAK ⟨by simp[zAJ,Nat.testBit,s8],?_⟩;have B9:=(B7.out.grow g8).grow g9;have n9:=g9.next;refine zAS (zAZ e1 e1 B9 ox rfl (by simp only[List.all_cons,List.all_nil,oa,ol,Bool.true_and,Bool.and_true];rfl) (zBN H (b:=80) (k:=g.nodes.length+j+1) (by decide) (le31 (by omega))) g9.wf (by omega) ?_);rintro vo' h10 B10 f10 w10 n10 gr10 kp10;have t8:=kp10 _ _ s8 (zAE B9 s8 fun vs hh=>by cases hh);refine zAK ⟨by simp[zAJ,Nat.testBit,t8],?_⟩;have G10:=gr10 hp wp ((G7.out.trans g8).trans g9) (Nat.le_refl _);have lv10:=B10.len;have k10:∀b p,h9.objs.get b=some p->((∃vs,p.2=.cells false 3 vs)\/∃vs,p.2=.cells false 9 vs)->h10.objs.get b=some p:=fun b p hb hp=>kp10 b p hb (zAE B9 hb fun vs hh=>by
   rcases hp with⟨ws,hp⟩|⟨ws,hp⟩<;>rw[hh] at hp<;>cases hp)
  have NX10:Hid (∀(i:Nat) c n,(cs++[[.int .i64 M.kind,.str M.name,aa,ah,.bool M.isOpen]])[i]?=some c->Bn[i]?=some n->NodeX h0 hp.next h10 c n):=⟨fun i c n hc hn=>by
   rcases Nat.lt_or_ge i (g.nodes.length+j) with hij|hij
   ·rw[List.getElem?_append_left (by rw[L.out];exact hij)] at hc;exact(NX7.out i c n hc hn).stay fun b p hb hp=>k10 b p (g9.keep _ _ (g8.keep _ _ hb)) hp
   ·rw[List.getElem?_append_right (by rw[L.out];exact hij),L.out] at hc;obtain rfl:i=g.nodes.length+j:=by
     have:=(zgS.1 hc).1;simp only[zlC,zlN] at this;omega
    rw[Nat.sub_self,zgZ,oI] at hc;rw[hM.out,oI] at hn;subst hc;subst hn;exact .inr (OwnN_stay ⟨aa,ah,rfl,zAW Ba nA,zAW Bl nA⟩ fun b p hb hp=>k10 b p (g9.keep _ _ hb) hp)⟩
  have B10':Hid (Built h10 hp.next 36 5 vo' (g.nodes.length+(j+1)) (List.flatten (cs++[[.int .i64 M.kind,.str M.name,aa,ah,.bool M.isOpen]]))):=⟨by rw[List.flatten_append,<-Nat.add_assoc];simpa using B10⟩;have L10:Hid ((cs++[[.int .i64 M.kind,.str M.name,aa,ah,.bool M.isOpen]]).length=g.nodes.length+(j+1)):=⟨by rw[zgL,L.out];rfl⟩;generalize cs++[[.int .i64 M.kind,.str M.name,aa,ah,.bool M.isOpen]]=cs' at*;clear o7 o87 q8 q10 s8 ox g8 g9 B9 B10 f10 gr10 kp10 k10 B7 L NX7 Ba Bl cp G7 hM hla hll iargs' ilabs';repeat refine zR ?_
  refine zAS (zAC e1 e1 (zAO lv10) rfl w10 t8 (by simp) (by simp only[List.all_cons,List.all_nil,zAD lv10,Bool.and_true]) ?_);rintro v11 h11 p11 o11;refine zAK ⟨by simp[zAJ,Nat.testBit],?_⟩;simp only[lL,Nat.reduceAdd] at o11;have G11:Hid (Grow hp h11):=⟨p11.grow hp wp G10 lb8⟩;have B11:Hid (Built h11 hp.next 36 5 vo' (g.nodes.length+(j+1)) (List.flatten cs')):=⟨zAG B10'.out p11 t8 fun vs hh=>by cases hh⟩;have NX11:Hid (∀(i:Nat) c n,cs'[i]?=some c->Bn[i]?=some n->NodeX h0 hp.next h11 c n):=⟨fun i c n hc hn=>(NX10.out i c n hc hn).stay fun b p hb hp=>p11.keep b (by
   rintro rfl;rw[t8] at hb;simp only[oI] at hb;rcases hp with⟨ws,hp⟩|⟨ws,hp⟩<;>rw[<-hb] at hp<;>cases hp) _ hb⟩
  clear t8 p11 B10' NX10 G10;repeat refine zR ?_
  exact⟨⟨_,_,G11,⟨_,o11⟩,B11,L10,NX11,n1,e1,e1,e1,e1⟩,e1,e1⟩
 ·clear o78 G7 B7 N7 hcl0 hd t2' t3' t4' t5' t6' k37 ac hcnG hslG ad;rintro a hq ⟨vo,cs,G,⟨v8,o8⟩,B,L,NX,hd,t4',t6',t8',t35'⟩;have o4:=G.out.keep _ _ k4;have lvo:=B.out.len;have onev:=zAD lvo;have wq:=G.out.wf;have hpv:zAk (some 2) [vo,.int .i64 g.root] 0=some (.agg [vo,.int .i64 g.root]):=rfl;refine zAd ?_;repeat refine zR ?_
  refine zAC (v:=.agg [vo,.int .i64 g.root]) e1 e1 (cs:=[vo,.int .i64 g.root]) rfl rfl wq o4 (by simp) (by simp only[List.all_cons,List.all_nil,onev,Bool.true_and,Bool.and_true];rfl) ?_;rintro v9 h9 p9 o9;simp only[lL,Nat.reduceAdd] at o9;have G9:=p9.grow h0 w0 (Gh.out.trans G.out) (by omega);have B9:=zAG B.out p9 o4 fun vs hh=>by cases hh
  have NX9:∀(i:Nat) c n,cs[i]?=some c->Bn[i]?=some n->NodeX h0 hp.next h9 c n:=fun i c n hc hn=>(NX.out i c n hc hn).stay fun b p hb hp=>p9.keep b (by
   rintro rfl;rw[o4] at hb;simp only[oI] at hb;rcases hp with⟨ws,hp⟩|⟨ws,hp⟩<;>rw[<-hb] at hp<;>cases hp) _ hb
  have hfin:Hid (Grow h0 h9/\NodesAt h9 vo Bn):=⟨G9,cs,B9.sl (by decide) rfl (fun c hc=>by
   obtain⟨i,hi,rfl⟩:=List.mem_iff_getElem.1 hc;have hi':i<Bn.length:=by rw[hbl.out,<-L.out];exact hi
   exact zFx ((NX9 i _ _ (zgG hi) (zgG hi')).at G9)) L.out,by rw[hbl.out];exact L.out,fun i n c hn hc=>(NX9 i c n hc hn).at G9⟩
  clear p9 o4 o8 G B NX NX9 B9 G9;repeat refine zG ?_
  exact⟨hfin.out.1,vo,rfl,onev,⟨hfin.out.2⟩⟩
end
end Go.Ab.S
end
