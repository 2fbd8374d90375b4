import Derived.Test.YthaemjpmljdlgaaGreatDoorProg
import Derived.WalkKit
import Derived.Shelf.Strings.BuilderK
import Derived.Shelf.Strconv.Itoa3
import Derived.Shelf.Strings.Split
import Derived.Lib.Hide
import Derived.IntWalk
import Derived.Test.YthaemjpmljdlgaaGreatDoorMd
set_option linter.unusedSimpArgs false
set_option linter.unusedVariables false
set_option linter.unusedSectionVars false
open Array renaming getElem?_eq_some_iff->ar6
open Bool renaming and_eq_true->arq,eq_iff_iff->asw,false_eq_true->asf,false_or->asH,not_eq_true->asL,not_eq_true'->aso,not_false->auS,not_true->atc,or_eq_false_iff->auu,true_and->atY,false->arj,true->arf
open ByteArray renaming size_append->auA
open Classical renaming propDecidable->atj
open Go renaming IntKind->aro,Program->arl,Value->arh
open Go.IntKind renaming wrap->art
open Go.Lib renaming OthersKept->auQ,byteCells->asW,byteCells_length->au',cell_of_heap->auf,count->aug,hid->arM,itoa->arD,split->asp
open Go.Lib.IsBuilderF renaming alloc->avj
open Go.Lib.OthersKept renaming refl->avi
open Go.Proofs renaming enters_of->ava,intOf->auR
open Go.Result renaming andThen->at3
open Go.Shelf renaming Ren->auy
open Go.Value renaming int->asM,slice->ast
open Int renaming eq_ofNat_of_zero_le->ar8,lt_trichotomy->avc,natCast_zero->atK,toNat_natCast->asv,toNat_of_nonneg->auT
open List renaming all_cons->asb,all_eq_true->arz,any_cons->ats,any_eq_true->asV,append_assoc->as7,append_nil->asI,contains_eq_mem->auh,drop_length->atf,drop_zero->asn,filter_cons->ati,flatMap_append->au9,flatMap_cons->asl,flatMap_nil->at1,getD->asG,getElem?_append_left->arQ,getElem?_append_right->arP,getElem?_drop->asE,getElem?_eq_getElem->arX,getElem?_eq_none->atG,getElem?_eq_some_iff->arp,getElem?_map->ar4,getElem?_of_mem->asx,getElem?_take->asg,getElem_mem->ate,length_append->arJ,length_cons->arU,length_drop->asD,length_filter_le->aum,length_map->ar9,length_nil->ath,length_range->aud,length_set->asK,length_take->asq,map_append->as9,map_cons->asc,mem_append->arO,mem_append_left->auU,mem_append_right->avb,mem_cons->arA,mem_cons_of_mem->arK,mem_cons_self->arS,mem_flatMap->as0,mem_map->arC,mem_of_getElem?->arI,mem_of_mem_take->atE,mem_range->asF,mem_singleton->ase,nil_append->atd,nodup_append->asY,nodup_cons->atk,not_mem_nil->asU,pairwise_iff_getElem->asy,range->ar2,take_length->asO,take_sublist->auB,take_succ_eq_append_getElem->auz,take_zero->atO
open Nat renaming add_zero->ar3,le_of_lt->asd,le_refl->ars,lt_of_lt_of_le->arT,lt_trichotomy->as1,mul_one->atP,zero_add->arE,zero_le->ass
open Option renaming bind->ark,getD_some->asN,some->arw,none->ari,some->are
open Prod renaming fst->atu
open UInt8 renaming ofNat->asR,toNat->asP
section
namespace Go.aQ
theorem u4:WF (dp.mem ⟨0, .e⟩):=⟨fun b _=>rfl,fun b=>trivial⟩
theorem anA {P:arl} (w:World) (ak:iu P w):Rel P (fun _=>ari) (dp.mem ⟨0, .e⟩) w:=⟨⟨fun b e h=>(by cases h),fun b e h=>(by cases h),fun b bV e bp h=>(by cases h)⟩,ak,fun b e h=>(by cases h)⟩
theorem af6 {P:arl} (hz:P.follows .mixedOrders=arf) (R:Ed P) {n:Nat} {f:FuncId} {v:arh} {bg:dp} (h:Dg P R n f #[] ⟨0, .e⟩=are (v,bg)) (aa:aQ.flat v=arf) (w:World) (ak:iu P w):
  Calls P f #[] w fun e w'=>e= .returned v/\Grown w w':=by
 obtain ⟨_,J⟩:=(zc hz n).2 _ _ _ _ _ (Xr R n f #[] ⟨0, .e⟩ v bg h) (fun _=>ari) w #[] u4 (anA w ak) True.intro;refine J.mono ?_;rintro e w' ⟨aS,bw,rfl,an,MJ⟩;rw[wN aa MJ];exact ⟨rfl,an.dA.os,an.dA.tape,an.dA.output,an.dA.size,fun c ad=>an.dA.block c ad fun b e ab=>by cases ab⟩
noncomputable section
variable {P:arl} {D:Nat->Type} {X:dk P D}
def bZ.cl (D:Nat->Type) (f s:Nat):bZ D:=⟨f,0,[],[],ari,0,[.v s .bool],[],[.tmp s],arf⟩
theorem ajz {f s:Nat} {b:Bool} (cy:kG P f=arf) (U:∀w,iu P w->Calls P f #[] w fun e w'=>e= .returned (.bool b)/\Grown w w') (ad:∀{ae:Type} (y:Bool) (O:List (aG D)) (K:aN D->List (aG D)->Option ae),bZ.call X (bZ.cl D f s) (fun _ _=>are y) [] O K=K (.c (.bool y)) O) (F:(bZ.cl D f s).F) (bM:∀r x,F r x=ari\/F r x=are b):b8 X (bZ.cl D f s) F:=by
 intro bA O ae K r z e m k vs args au b5 h;have aq:bA=[]:=by
  cases bA with
  |nil=>rfl
  |cons _ _=>cases h
 subst aq;have ar:args=[]:=by
  cases args with
  |nil=>rfl
  |cons _ _=>exact b5.elim
 subst ar;have h:ark (F () ()) (fun y=>bZ.call (X:=X) (bZ.cl D f s) (fun _ _=>are y) [] O K)=are r:=by
  rcases bM () () with az|az
  ·exfalso;have:bZ.call (X:=X) (bZ.cl D f s) F [] O K=ari:=by
    have e:F=fun _ _=>F () ():=by funext r x;rfl
    rw[e,az];rfl
   rw[this] at h;cases h
  ·rw[az];have e:F=fun _ _=>F () ():=by funext r x;rfl
   rw[e,az] at h;exact h
 obtain ⟨y,ah,h⟩:=bind_some h;have ab:y=b:=by
  rcases bM () () with az|az<;>rw[az] at ah<;>cases ah
  rfl
 subst ab;have h:K (.c (.bool y)) O=are r:=(ad y O K).symm.trans h;exact fR.sort cy (.flat (.bool y) rfl rfl U) ⟨cF.here au (sv:= .c (.bool y)) rfl h,fun _=>rfl,ari,eY.refl _, .inl rfl⟩
end
end Go.aQ
end
section
namespace Go.W
open Go Go.Proofs Go.RowKit
set_option maxHeartbeats 1000000 in
set_option maxRecDepth 100000 in
theorem ajx (b:Nat) (w:World) (az:w.cell? ⟨b,0,ari⟩=are (.pointer (are ⟨b,0,ari⟩))):
  Calls Tryz.prog 51 #[.pointer (are ⟨b,0,ari⟩)] w fun e w'=>e= .returned (.tuple #[])/\w=w':=by
 have ap:(Tryz.prog.info? 61).isSome=arf:=by kernel_rfl
 obtain ⟨j,ap⟩:=Option.isSome_iff_exists.1 ap
 go_enter Tryz.func51,Tryz.ntmps51
 go_wp2
 rw[Lib.run_neq_ptr_same w _ Tryz.underlying58 ap]
 go_wp2
 go_end0
 exact ⟨rfl,rfl⟩
set_option maxHeartbeats 1000000 in
set_option maxRecDepth 100000 in
theorem air (b:Nat) (w:World) (az:w.cell? ⟨b,0,ari⟩=are (.pointer ari)) (pQ:w.shape? b=are (61,2)) (vI:w.frozen? ⟨b,0,ari⟩=arj):
  Calls Tryz.prog 51 #[.pointer (are ⟨b,0,ari⟩)] w fun e w'=>e= .returned (.tuple #[])/\w'=w.setCell ⟨b,0,ari⟩ (.pointer (are ⟨b,0,ari⟩)):=by
 have ap:(Tryz.prog.info? 61).map (·.size)=are 2:=by kernel_rfl
 obtain ⟨j,ap,Mc⟩:=Option.map_eq_some_iff.1 ap;have ai:liesAt Tryz.prog Tryz.prog.depth 61 (2 / Tryz.prog.cellsOf 61) 0 61 1=arf:=by kernel_rfl
 go_enter Tryz.func51,Tryz.ntmps51
 go_wp2
 rw[Lib.run_to_unsafe w ⟨b,0,ari⟩ Tryz.underlying58 Tryz.underlying187 ap (by rw[Mc];decide) pQ (Nat.zero_lt_succ 1)];simp only[at3];rw[Oper.upon_value]
 go_wp2
 rw[run_callFunc_extern Tryz.func83 (by kernel_rfl) (by kernel_rfl) (by kernel_rfl) (e:=Extern.AbiNoEscape.same) (by kernel_rfl)];rw[Lib.run_noEscape];simp only[at3];rw[Oper.upon_value]
 go_wp2
 rw[Lib.run_from_unsafe w ⟨b,0,ari⟩ Tryz.underlying187 Tryz.underlying58 ap pQ ai];simp only[at3];rw[Oper.upon_value]
 go_wp2
 go_end0
 exact ⟨rfl,rfl⟩
def Ji (B b:Nat) (fu:List arh) (w:World):Prop:=Lib.BuilderAtF 61 5 B b (.pointer (are ⟨b,0,ari⟩)) fu w
def j8 (B b:Nat) (fu:List arh) (w:World):Prop:=Lib.IsBuilderF 61 5 B b fu w
theorem amN (B b:Nat) (fu:List arh) (w:World) (h:j8 B b fu w):Calls Tryz.prog 51 #[.pointer (are ⟨b,0,ari⟩)] w fun e w'=>e= .returned (.tuple #[])/\(Ji B b fu w'/\Below B w w'/\auQ 5 (are b) w w'):=by
 rcases h with h|h
 ·refine (air b w h.cell0 h.shape h.frozen0).mono ?_;rintro e w' ⟨rfl,rfl⟩;exact ⟨rfl,h.used _,(Below.refl B w).setCell (p:=⟨b,0,ari⟩) h.1 _,(avi _ _ w).setCell ⟨b,0,ari⟩ rfl _⟩
 ·refine (ajx b w h.cell0).mono ?_;rintro e w' ⟨rfl,rfl⟩;exact ⟨rfl,h,Below.refl B _,avi _ _ _⟩
def abW (B b:Nat) (fu:List arh) (s:ByteArray) (w:World) (e:Ending) (w':World):Prop:=e= .returned (.tuple #[.int .i64 s.size, .nilIface])/\Ji B b (fu++Lib.strCells s) w'/\Below B w w'/\auQ 5 (are b) w w'
set_option maxHeartbeats 2000000 in
set_option maxRecDepth 100000 in
theorem Qb (B b:Nat) (fu:List arh) (s:ByteArray) (w:World) (h:j8 B b fu w) (hlen:fu.length+s.size<=140737488355328) (Ua:B<=w.heap.size):Calls Tryz.prog 20 #[.pointer (are ⟨b,0,ari⟩), .string s] w (abW B b fu s w):=by
 have adJ:(Tryz.prog.info? 5).map (fun i=>(i.zero,i.size,i.bytes))=are (are (.int .u8 0),1,1):=by kernel_rfl
 obtain ⟨i0,af,mH,kF,yS⟩:=info_parts adJ
 go_enter Tryz.func20,Tryz.ntmps20
 go_wp2_with (go_at_call 51;refine (amN B b fu _ h).mono ?_)
 rintro e bD ⟨rfl,h1,my,o0⟩;obtain ⟨dS,v,tH,jZ,bL⟩:=h1;have iP:bD.cell? ⟨b,0,ari⟩=are (.pointer (are ⟨b,0,ari⟩)):=by rw[auf tH];rfl
 have c1:bD.cell? ⟨b,1,ari⟩=are v:=by rw[auf tH];rfl
 go_wp2_with (at_builtin;refine Lib.wpList_append_own_stringF _ rfl _ _ 59 9 rfl B 5 i0 Tryz.underlying59 Tryz.underlying9 af mH kF yS _ _ _ rfl jZ s rfl ?iw ?lW ?rJ ?_)
 case iw=>unfold maxLen;omega
 case lW=>omega
 case rJ=>have:=my.size;omega
 intro bl dR UW vJ _;have aO:b<bD.heap.size:=by
  rcases Nat.lt_or_ge b bD.heap.size with bq|bq
  ·exact bq
  ·simp[Array.getElem?_eq_none bq] at tH
 have ky:dR.heap[b]? =are (.cells #[.pointer (are ⟨b,0,ari⟩),v] 61 (0,0)):=by rw[vJ.block b aO (fun e=>bL e.symm)];exact tH
 have d0:dR.cell? ⟨b,0,ari⟩=are (.pointer (are ⟨b,0,ari⟩)):=by rw[auf ky];rfl
 have d1:dR.cell? ⟨b,1,ari⟩=are v:=by rw[auf ky];rfl
 have f1:dR.frozen? ⟨b,1,ari⟩=arj:=Lib.frozen_of_heap ky 1;obtain ⟨TF,n',cap,rfl⟩:∃TF n' cap,bl= .slice TF n' cap:=by
  rcases UW.2 with ⟨aa,_⟩|⟨g,cap,cur,a6,aa,_⟩
  ·exact ⟨_,_,_,aa⟩
  ·exact ⟨_,_,_,aa⟩
 go_wp2
 go_ret2
 refine ⟨rfl, ?_, ?_,(o0.grown vJ (Lib.ownsRowF_kind jZ)).setCell ⟨b,1,ari⟩ rfl _⟩
 ·exact Lib.BuilderAtF.put (T:=61) (e:=5) dS ky (bs':=fu++Lib.strCells s) (by simpa[Lib.strCells_length] using UW) (by decide)
 ·exact (my.grown vJ (by have:=my.size;omega) (fun k hk=>(jZ.lt k hk).1)).setCell (p:=⟨b,1,ari⟩) dS _
end Go.W
end
section
set_option maxRecDepth 100000
namespace Go.W
open Go Go.Proofs Go.RowKit Go.aQ
def af':auy:=⟨fun|146=>24|221=>53|268=>85|138=>86|143=>87|195=>117|197=>118|218=>119|219=>120|260=>151|217=>152|225=>153|224=>154|267=>155|266=>195|314=>196|n=>n,fun|9=>9|31=>70|3=>3|4=>4|0=>0|105=>223|21=>21|5=>5|46=>177|119=>293|139=>296|138=>295|146=>297|51=>206|n=>n,fun|1=>1|3=>2|4=>3|n=>n⟩
theorem ahY:Go.Proofs.Lays.n146 Tryz.prog af':={
 mixed:=by kernel_rfl,
 f138:=Tryz.func86.trans (congrArg are (by kernel_rfl)),
 f143:=Tryz.func87.trans (congrArg are (by kernel_rfl)),
 f146:=Tryz.func24.trans (congrArg are (by kernel_rfl)),
 f195:=Tryz.func117.trans (congrArg are (by kernel_rfl)),
 f197:=Tryz.func118.trans (congrArg are (by kernel_rfl)),
 f217:=Tryz.func152.trans (congrArg are (by kernel_rfl)),
 f218:=Tryz.func119.trans (congrArg are (by kernel_rfl)),
 f219:=Tryz.func120.trans (congrArg are (by kernel_rfl)),
 f221:=Tryz.func53.trans (congrArg are (by kernel_rfl)),
 f224:=Tryz.func154.trans (congrArg are (by kernel_rfl)),
 f225:=Tryz.func153.trans (congrArg are (by kernel_rfl)),
 f260:=Tryz.func151.trans (congrArg are (by kernel_rfl)),
 f266:=Tryz.func195.trans (congrArg are (by kernel_rfl)),
 f267:=Tryz.func155.trans (congrArg are (by kernel_rfl)),
 f268:=Tryz.func85.trans (congrArg are (by kernel_rfl)),
 f314:=Tryz.func196.trans (congrArg are (by kernel_rfl)),
 t0:=Tryz.underlying0,
 a0:=Tryz.isAgg0,
 z0:=Tryz.sizeOf0,
 v0:=Tryz.zeroValue0,
 t3:=Tryz.underlying3,
 a3:=Tryz.isAgg3,
 z3:=Tryz.sizeOf3,
 v3:=Tryz.zeroValue3,
 t4:=Tryz.underlying4,
 a4:=Tryz.isAgg4,
 z4:=Tryz.sizeOf4,
 v4:=Tryz.zeroValue4,
 t5:=Tryz.underlying5,
 a5:=Tryz.isAgg5,
 z5:=Tryz.sizeOf5,
 v5:=Tryz.zeroValue5,
 t9:=Tryz.underlying9,
 a9:=Tryz.isAgg9,
 z9:=Tryz.sizeOf9,
 v9:=Tryz.zeroValue9,
 t21:=Tryz.underlying21,
 a21:=Tryz.isAgg21,
 z21:=Tryz.sizeOf21,
 v21:=Tryz.zeroValue21,
 t31:=Tryz.underlying70,
 a31:=Tryz.isAgg70,
 z31:=Tryz.sizeOf70,
 v31:=Tryz.zeroValue70,
 t46:=Tryz.underlying177,
 a46:=Tryz.isAgg177,
 z46:=Tryz.sizeOf177,
 v46:=Tryz.zeroValue177,
 t51:=Tryz.underlying206,
 a51:=Tryz.isAgg206,
 z51:=Tryz.sizeOf206,
 v51:=Tryz.zeroValue206,
 t105:=Tryz.underlying223,
 a105:=Tryz.isAgg223,
 z105:=Tryz.sizeOf223,
 v105:=Tryz.zeroValue223,
 t119:=Tryz.underlying293,
 a119:=Tryz.isAgg293,
 z119:=Tryz.sizeOf293,
 t138:=Tryz.underlying295,
 a138:=Tryz.isAgg295,
 z138:=Tryz.sizeOf295,
 v138:=Tryz.zeroValue295,
 t139:=Tryz.underlying296,
 a139:=Tryz.isAgg296,
 z139:=Tryz.sizeOf296,
 v139:=Tryz.zeroValue296,
 t146:=Tryz.underlying297,
 a146:=Tryz.isAgg297,
 z146:=Tryz.sizeOf297,
 v146:=Tryz.zeroValue297,
 g1:=by kernel_rfl,
 g3:=by kernel_rfl,
 g4:=by kernel_rfl}
def agj:auy:=⟨fun|171=>22|243=>52|246=>84|283=>113|284=>114|285=>115|286=>116|129=>105|317=>147|318=>148|319=>149|320=>150|337=>193|338=>194|n=>n,fun|3=>3|9=>9|2=>2|4=>4|171=>218|0=>0|53=>208|37=>59|5=>5|173=>220|212=>246|51=>206|20=>20|213=>247|46=>177|232=>345|233=>346|n=>n,fun|17=>0|18=>4|19=>5|n=>n⟩
theorem ajs:Go.Proofs.LaysM.n171 Tryz.prog agj:={
 mixed:=by kernel_rfl,
 f129:=Tryz.func105.trans (congrArg are (by kernel_rfl)),
 f171:=Tryz.func22.trans (congrArg are (by kernel_rfl)),
 f243:=Tryz.func52.trans (congrArg are (by kernel_rfl)),
 f246:=Tryz.func84.trans (congrArg are (by kernel_rfl)),
 f283:=Tryz.func113.trans (congrArg are (by kernel_rfl)),
 f284:=Tryz.func114.trans (congrArg are (by kernel_rfl)),
 f285:=Tryz.func115.trans (congrArg are (by kernel_rfl)),
 f286:=Tryz.func116.trans (congrArg are (by kernel_rfl)),
 f317:=Tryz.func147.trans (congrArg are (by kernel_rfl)),
 f318:=Tryz.func148.trans (congrArg are (by kernel_rfl)),
 f319:=Tryz.func149.trans (congrArg are (by kernel_rfl)),
 f320:=Tryz.func150.trans (congrArg are (by kernel_rfl)),
 f337:=Tryz.func193.trans (congrArg are (by kernel_rfl)),
 f338:=Tryz.func194.trans (congrArg are (by kernel_rfl)),
 t0:=Tryz.underlying0,
 a0:=Tryz.isAgg0,
 z0:=Tryz.sizeOf0,
 v0:=Tryz.zeroValue0,
 t2:=Tryz.underlying2,
 a2:=Tryz.isAgg2,
 z2:=Tryz.sizeOf2,
 v2:=Tryz.zeroValue2,
 t3:=Tryz.underlying3,
 a3:=Tryz.isAgg3,
 z3:=Tryz.sizeOf3,
 v3:=Tryz.zeroValue3,
 t4:=Tryz.underlying4,
 a4:=Tryz.isAgg4,
 z4:=Tryz.sizeOf4,
 v4:=Tryz.zeroValue4,
 t5:=Tryz.underlying5,
 a5:=Tryz.isAgg5,
 z5:=Tryz.sizeOf5,
 v5:=Tryz.zeroValue5,
 t9:=Tryz.underlying9,
 a9:=Tryz.isAgg9,
 z9:=Tryz.sizeOf9,
 v9:=Tryz.zeroValue9,
 t20:=Tryz.underlying20,
 a20:=Tryz.isAgg20,
 z20:=Tryz.sizeOf20,
 v20:=Tryz.zeroValue20,
 t37:=Tryz.underlying59,
 a37:=Tryz.isAgg59,
 z37:=Tryz.sizeOf59,
 v37:=Tryz.zeroValue59,
 t46:=Tryz.underlying177,
 a46:=Tryz.isAgg177,
 z46:=Tryz.sizeOf177,
 v46:=Tryz.zeroValue177,
 t51:=Tryz.underlying206,
 a51:=Tryz.isAgg206,
 z51:=Tryz.sizeOf206,
 v51:=Tryz.zeroValue206,
 t53:=Tryz.underlying208,
 a53:=Tryz.isAgg208,
 z53:=Tryz.sizeOf208,
 v53:=Tryz.zeroValue208,
 t171:=Tryz.underlying218,
 a171:=Tryz.isAgg218,
 z171:=Tryz.sizeOf218,
 v171:=Tryz.zeroValue218,
 t173:=Tryz.underlying220,
 a173:=Tryz.isAgg220,
 z173:=Tryz.sizeOf220,
 v173:=Tryz.zeroValue220,
 t212:=Tryz.underlying246,
 a212:=Tryz.isAgg246,
 z212:=Tryz.sizeOf246,
 v212:=Tryz.zeroValue246,
 t213:=Tryz.underlying247,
 a213:=Tryz.isAgg247,
 z213:=Tryz.sizeOf247,
 t232:=Tryz.underlying345,
 a232:=Tryz.isAgg345,
 z232:=Tryz.sizeOf345,
 v232:=Tryz.zeroValue345,
 t233:=Tryz.underlying346,
 a233:=Tryz.isAgg346,
 z233:=Tryz.sizeOf346,
 v233:=Tryz.zeroValue346,
 g17:=by kernel_rfl,
 g18:=by kernel_rfl,
 g19:=by kernel_rfl,
 i0:=by kernel_rfl,
 i2:=by kernel_rfl,
 i3:=by kernel_rfl,
 i4:=by kernel_rfl,
 i5:=by kernel_rfl,
 i9:=by kernel_rfl,
 i20:=by kernel_rfl,
 i37:=by kernel_rfl,
 i46:=by kernel_rfl,
 i51:=by kernel_rfl,
 i53:=by kernel_rfl,
 i171:=by kernel_rfl,
 i173:=by kernel_rfl,
 i212:=by kernel_rfl,
 i232:=by kernel_rfl,
 i233:=by kernel_rfl,
 m17:=by kernel_rfl,
 m18:=by kernel_rfl,
 m19:=by kernel_rfl}
def Wb:auy:=⟨fun|169=>23|n=>n,fun|70=>58|9=>9|0=>0|72=>61|37=>59|127=>152|3=>3|5=>5|n=>n,fun|n=>n⟩
theorem akQ:Go.Proofs.Lays.n169 Tryz.prog Wb:={
 mixed:=by kernel_rfl,
 f169:=Tryz.func23.trans (congrArg are (by kernel_rfl)),
 t0:=Tryz.underlying0,
 a0:=Tryz.isAgg0,
 z0:=Tryz.sizeOf0,
 v0:=Tryz.zeroValue0,
 t3:=Tryz.underlying3,
 a3:=Tryz.isAgg3,
 z3:=Tryz.sizeOf3,
 v3:=Tryz.zeroValue3,
 t9:=Tryz.underlying9,
 a9:=Tryz.isAgg9,
 z9:=Tryz.sizeOf9,
 v9:=Tryz.zeroValue9,
 t37:=Tryz.underlying59,
 a37:=Tryz.isAgg59,
 z37:=Tryz.sizeOf59,
 v37:=Tryz.zeroValue59,
 t70:=Tryz.underlying58,
 a70:=Tryz.isAgg58,
 z70:=Tryz.sizeOf58,
 v70:=Tryz.zeroValue58,
 t72:=Tryz.underlying61,
 a72:=Tryz.isAgg61,
 z72:=Tryz.sizeOf61,
 v72:=Tryz.zeroValue61,
 t127:=Tryz.underlying152,
 a127:=Tryz.isAgg152,
 z127:=Tryz.sizeOf152,
 v127:=Tryz.zeroValue152}
theorem akj {w : World} (ak : iu Tryz.prog w) : Lib.TabIs Tryz.prog w "internal/strconv.uint64pow10" .u64 Lib.pow10Tab := by
 have h:=ak.pow 0 (by kernel_rfl);unfold Lib.TabIs Lib.pow10Tab;rw[h,List.map_map];rfl
def abt (n:Int) (w:World) (e:Ending) (w':World):Prop:=e= .returned (.string ⟨(arD n).toArray⟩)/\aQ.Grown w w'
theorem ahk {n:Int} (az:0<=n) (h1:n<=100000) {w:World} (ak:iu Tryz.prog w):Calls Tryz.prog 22 #[.int .i64 n] w (abt n w):=by
 refine (Any.strconv_Itoa ajs n (by omega) (by omega) w (akj ak)).mono ?_;rintro e w' ⟨he,k,os,rfl⟩;refine ⟨he,rfl,rfl,rfl, ?_,fun c ad=> ?_⟩
 ·show w.heap.size<=(w.heap++os).size;rw[Array.size_append];omega
 ·show (w.heap++os)[c]? =w.heap[c]?;rw[Array.getElem?_append_left ad]
theorem aiV (B b:Nat) (l:List UInt8) (w:World) (h:j8 B b (asW l) w) (Ua:B<=w.heap.size):
  Calls Tryz.prog 23 #[.pointer (are ⟨b,0,ari⟩)] w fun e w'=>e= .returned (.string ⟨l.toArray⟩)/\Below B w w':=by
 have X:Builder.Extra Tryz.prog Wb:={sizeBuilder:=by kernel_rfl,liesBuilder:=by kernel_rfl,t5:=Tryz.underlying5,a5:=Tryz.isAgg5,z5:=Tryz.sizeOf5,v5:=Tryz.zeroValue5,infoByte:=by kernel_rfl,cellsByte:=by kernel_rfl,sizeByte:=by kernel_rfl,neB5:=by decide}
 exact (Any.Builder_String_any_f akQ X B b l w h Ua).mono fun _ _ h=>⟨h.1,h.2.2⟩
theorem aii {k:Int} (hk:k=1\/k=2\/k=3) (w:World):Calls Tryz.prog 19 #[.int .i64 k] w fun e w'=>e= .returned (.tuple #[.string ⟨(jj k).toArray⟩, .int .i64 (if k=3 then 2 else 3)])/\w=w':=by
 rcases hk with rfl|rfl|rfl
 ·go_enter Tryz.func19,Tryz.ntmps19
  go_wp2
  go_ret2
  exact ⟨rfl,rfl⟩
 ·go_enter Tryz.func19,Tryz.ntmps19
  go_wp2
  go_ret2
  exact ⟨rfl,rfl⟩
 ·go_enter Tryz.func19,Tryz.ntmps19
  go_wp2
  go_ret2
  exact ⟨rfl,rfl⟩
def Lf (x:aB):Array arh:=#[.int .i64 x.kind,aQ.str x.name, .int .i64 x.a, .int .i64 x.b, .int .i64 x.c, .int .i64 x.length]
theorem amP {k a b c d:Int} {s:ByteArray} (hk:k=1\/k=3) (w:World):Calls Tryz.prog 21 #[.agg #[.int .i64 k, .string s, .int .i64 a, .int .i64 b, .int .i64 c, .int .i64 d]] w fun e w'=>
  e= .returned (.slice (are ⟨w.heap.size+1,0,ari⟩) 2 2)/\w'=(w.alloc (.cells #[.int .i64 k, .string s, .int .i64 a, .int .i64 b, .int .i64 c, .int .i64 d] 55)).alloc (.cells #[.int .i64 a, .int .i64 b] 3):=by
 rcases hk with rfl|rfl
 ·go_enter Tryz.func21,Tryz.ntmps21
  go_wp2
  go_ret
  exact ⟨rfl,rfl⟩
 ·go_enter Tryz.func21,Tryz.ntmps21
  go_wp2
  go_ret
  exact ⟨rfl,rfl⟩
theorem anO {a b c d:Int} {s:ByteArray} (w:World):Calls Tryz.prog 21 #[.agg #[.int .i64 2, .string s, .int .i64 a, .int .i64 b, .int .i64 c, .int .i64 d]] w fun e w'=>
  e= .returned (.slice (are ⟨w.heap.size+1,0,ari⟩) 3 3)/\w'=(w.alloc (.cells #[.int .i64 2, .string s, .int .i64 a, .int .i64 b, .int .i64 c, .int .i64 d] 55)).alloc (.cells #[.int .i64 a, .int .i64 b, .int .i64 c] 3):=by
 go_enter Tryz.func21,Tryz.ntmps21
 go_wp2
 go_ret
 exact ⟨rfl,rfl⟩
end Go.W
end
section
set_option maxRecDepth 100000
namespace Go.W
open Go Go.Proofs Go.RowKit Go.aQ
theorem We {w w':World} {B:Nat} {e:TypeId} {v:arh} {n:Nat} {xs:List arh} (h:w.ownsRowF B e 1 v n xs) (g:aQ.Grown w w'):w'.ownsRowF B e 1 v n xs:=by
 obtain ⟨h1,J⟩:=h;refine ⟨h1,J.imp id ?_⟩;rintro ⟨q,cap,cur,a6,cr,a2,a3,a4⟩;exact ⟨q,cap,cur,a6,cr,a2,by rw[g.heap q (ar6.1 a3).1];exact a3,a4⟩
theorem j8.grown {B b:Nat} {fu:List arh} {w w':World} (h:j8 B b fu w) (g:aQ.Grown w w'):j8 B b fu w':=by
 rcases h with ⟨dS,v,ab,jZ,bL⟩|⟨dS,v,ab,jZ,bL⟩
 ·exact .inl ⟨dS,v,by rw[g.heap b (ar6.1 ab).1];exact ab,We jZ g,bL⟩
 ·exact .inr ⟨dS,v,by rw[g.heap b (ar6.1 ab).1];exact ab,We jZ g,bL⟩
theorem j8.at {B b:Nat} {fu:List arh} {w:World} (h:j8 B b fu w):∃cs,w.heap[b]? =are (.cells cs 61 (0,0)):=by
 rcases h with ⟨dS,v,ab,_⟩|⟨dS,v,ab,_⟩<;>exact ⟨_,ab⟩
def Row (ns:List Int) (v:arh) (w:World):Prop:=∃g cap cur a6,v= .slice (are ⟨g,0,ari⟩) ns.length cap/\w.heap[g]? =are (.cells cur 3 a6)/\∀(j:Nat) (n:Int),ns[j]? =are n->cur[j]? =are (.int .i64 n)
theorem Row.kept {ns:List Int} {v:arh} {w w':World} {b:Nat} (h:Row ns v w) (ab:∃cs,w.heap[b]? =are (.cells cs 61 (0,0))) (hk:auQ 5 (are b) w w'):Row ns v w':=by
 obtain ⟨g,cap,cur,a6,h1,J,aj⟩:=h;obtain ⟨cs,ab⟩:=ab;refine ⟨g,cap,cur,a6,h1,hk g _ J (fun e=> ?_) (fun c f e=> ?_),aj⟩
 ·cases e;rw[J] at ab;cases ab
 ·cases e
theorem Row.grown {ns:List Int} {v:arh} {w w':World} (h:Row ns v w) (g:aQ.Grown w w'):Row ns v w':=by
 obtain ⟨q,cap,cur,a6,h1,J,aj⟩:=h;exact ⟨q,cap,cur,a6,h1,by rw[g.heap q (ar6.1 J).1];exact J,aj⟩
theorem iu.below {w w':World} (h:iu Tryz.prog w) (ab:Below w.heap.size w w'):iu Tryz.prog w':=h.keep fun g aM=>ab.block g (h.lt aM)
theorem Grown.below {w w':World} {B:Nat} (g:aQ.Grown w w') (dS:B<=w.heap.size):Below B w w':=⟨g.os,g.tape,g.output,g.size,fun k hk=>g.heap k (arT hk dS)⟩
def abc (xs:List aB) (ay o:Nat) (w:World):Prop:=∀(i:Nat) (x:aB),xs[i]? =are x->∀(j:Nat) (v:arh),(Lf x)[j]? =are v->w.cell? ⟨ay,o+i*6+j,ari⟩=are v
def nJ (l:List Int):List UInt8:=l.flatMap fun n=>32::arD n
def abe (xs:List aB) (Q:World->Prop) (e:Ending) (w':World):Prop:=∃bD,Q bD/\e= .returned (.tuple #[.string ⟨(ji xs).toArray⟩, .int .i64 0])/\Below bD.heap.size bD w'
theorem Zy {xs:List aB} (h:q5 xs=arf) {k:Nat} {x:aB} (U:xs[k]? =are x):(x.kind=1\/x.kind=2\/x.kind=3)/\x.name.length<=12/\∀n∈hL x,0<=n/\n<=100000:=by
 unfold q5 at h;simp only[arq,arz] at h;have he:=h.2 x (arI U);unfold Lk at he;simp only[arq,decide_eq_true_eq] at he;obtain ⟨⟨h1,J⟩,aj⟩:=he;refine ⟨h1,J,fun n av=> ?_⟩;unfold hL at av;split at av
 ·simp at av;omega
 ·split at av<;>simp at av<;>omega
def nY (jc:Nat) (bH:Int) (s:ByteArray) (a b c d:Int) (w:World):Prop:=w.heap[jc]? =are (.cells #[.int .i64 bH, .string s, .int .i64 a, .int .i64 b, .int .i64 c, .int .i64 d] 55 (0,0))
theorem nY.cell {jc:Nat} {bH:Int} {s:ByteArray} {a b c d:Int} {w:World} (h:nY jc bH s a b c d w):w.cell? ⟨jc,0,ari⟩=are (.int .i64 bH)/\w.cell? ⟨jc,1,ari⟩=are (.string s)/\w.cell? ⟨jc,2,ari⟩=are (.int .i64 a)/\w.cell? ⟨jc,3,ari⟩=are (.int .i64 b)/\w.cell? ⟨jc,4,ari⟩=are (.int .i64 c)/\w.cell? ⟨jc,5,ari⟩=are (.int .i64 d):=by
 unfold nY at h;refine ⟨?_, ?_, ?_, ?_, ?_, ?_⟩<;>(rw[auf h];rfl)
theorem nY.kept {jc:Nat} {bH:Int} {s:ByteArray} {a b c d:Int} {w w':World} {lh:Nat} (h:nY jc bH s a b c d w) (bL:jc≠lh) (hk:auQ 5 (are lh) w w'):nY jc bH s a b c d w':=hk jc _ h (fun e=>bL (arw.inj e)) (fun _ _ e=>by cases e)
theorem nY.grown {jc:Nat} {bH:Int} {s:ByteArray} {a b c d:Int} {w w':World} (h:nY jc bH s a b c d w) (g:aQ.Grown w w'):nY jc bH s a b c d w':=by
 unfold nY at h⊢;rw[g.heap jc (ar6.1 h).1];exact h
theorem Gd (w:World) (o:Obj):aQ.Grown w (w.alloc o):=⟨rfl,rfl,rfl,by show w.heap.size<=(w.heap.push o).size;rw[Array.size_push];omega,fun c ad=>Lib.alloc_old w o c ad⟩
theorem Grown.trans' {w w' lN:World} (g:aQ.Grown w w') (h:aQ.Grown w' lN):aQ.Grown w lN:=⟨h.os.trans g.os,h.tape.trans g.tape,h.output.trans g.output,Nat.le_trans g.size h.size,fun c ad=>(h.heap c (arT ad g.size)).trans (g.heap c ad)⟩
def abd (B:Nat) (ns:List Int) (w:World) (e:Ending) (w':World):Prop:=∃g,e= .returned (.slice (are ⟨g,0,ari⟩) ns.length ns.length)/\w'.ownsRow B 3 1 (.slice (are ⟨g,0,ari⟩) ns.length ns.length) ns.length (ns.map fun n=> .int .i64 n)/\aQ.Grown w w'
theorem ahf {bH a b c d:Int} {s:ByteArray} (hk:bH=1\/bH=2\/bH=3) {B:Nat} (w:World) (dS:B<=w.heap.size):Calls Tryz.prog 21 #[.agg #[.int .i64 bH, .string s, .int .i64 a, .int .i64 b, .int .i64 c, .int .i64 d]] w (abd B (if bH=2 then [a,b,c] else [a,b]) w):=by
 have a7:∀(cs:Array arh) (o:Obj) (ns:List Int),cs=(ns.map fun n=>asM .i64 n).toArray->ns.length<=3->((w.alloc o).alloc (.cells cs 3)).ownsRow B 3 1 (.slice (are ⟨w.heap.size+1,0,ari⟩) ns.length ns.length) ns.length (ns.map fun n=> .int .i64 n):=by
  intro cs o ns gI ai;have aq:(w.alloc o).heap.size=w.heap.size+1:=by show (w.heap.push o).size=_;exact Array.size_push _
  refine ⟨by simp, .inr ⟨w.heap.size+1,ns.length,cs,rfl,by omega, ?_,ars _,by unfold maxLen;omega,by rw[gI];simp,by rw[gI];simp only[atP,List.take_of_length_le,ar9,ars]⟩⟩;rw[<-aq];show ((w.alloc o).heap.push _)[(w.alloc o).heap.size]? =_;rw[Array.getElem?_push_size]
 by_cases J:bH=2
 ·subst J;refine (anO w).mono ?_;rintro e w' ⟨rfl,rfl⟩;exact ⟨_,rfl,a7 _ _ [a,b,c] rfl (by simp),Grown.trans' (Gd _ _) (Gd _ _)⟩
 ·refine (amP (by omega) w).mono ?_;rintro e w' ⟨rfl,rfl⟩;rw[if_neg J];exact ⟨_,rfl,a7 _ _ [a,b] rfl (by simp),Grown.trans' (Gd _ _) (Gd _ _)⟩
theorem j8.grownBy {B b:Nat} {fu:List arh} {w w':World} {row:Option Nat} (h:j8 B b fu w) (aM:w.grownBy w' row) (ao:∀g,row=are g->∃c a6,w.heap[g]? =are (.cells c 3 a6)):j8 B b fu w':=by
 have key:∀p,Lib.BuilderAtF 61 5 B b p fu w->Lib.BuilderAtF 61 5 B b p fu w':=by
  rintro p ⟨dS,v,ab,jZ,bL⟩;refine ⟨dS,v, ?_,jZ.kept aM ?_,bL⟩
  ·rw[aM.block b (ar6.1 ab).1 fun e=> ?_]
   ·exact ab
   ·obtain ⟨c,a6,ad⟩:=ao b e.symm;rw[ab] at ad;cases ad
  ·cases aa:v.ownBlock with
   |none=>exact .inl rfl
   |some g=>right;intro e;obtain ⟨c,a6,ad⟩:=ao g e.symm;obtain ⟨bg,aqb,oZ⟩:=Lib.ownsRowF_kind jZ g aa;rw[ad] at oZ;cases oZ
 exact h.imp (key _) (key _)
theorem Zj {w:World} {B:Nat} {v:arh} {ns:List Int} (h:w.ownsRow B 3 1 v ns.length (ns.map fun n=> .int .i64 n)) (az:ns≠[]):Row ns v w:=by
 obtain ⟨h1,J|⟨g,cap,cur,rfl,_,aj,aJ,_,bk,dn⟩⟩:=h
 ·exact absurd (List.length_eq_zero_iff.1 J.2) az
 ·refine ⟨g,cap,cur,_,rfl,aj,fun j n ap=> ?_⟩;have aO:=(arp.1 ap).1;have:(ns.map fun n=>asM .i64 n)[j]? =are (.int .i64 n):=by rw[ar4,ap];rfl
  rw[<-dn,asg,if_pos (by omega)] at this;simpa using this
theorem Pg {B b:Nat} {l:List UInt8} {s:ByteArray} {w:World} (h:Ji B b (asW l++Lib.strCells s) w):j8 B b (asW (l++s.data.toList)) w:=by
 rw[Lib.strCells_eq,<-Lib.byteCells_append] at h;exact .inr h
theorem N3 {n:Int} (h:0<=n/\n<=100000):(arD n).length<=6:=by
 unfold arD;rw[if_neg (by omega)];exact G0 5 _ (by omega)
theorem agy {x:aB} (h:(x.kind=1\/x.kind=2\/x.kind=3)/\x.name.length<=12/\∀n∈hL x,0<=n/\n<=100000):(yi x).length<=61:=by
 obtain ⟨hk,av,h1⟩:=h;have ua:∀{n:Int},0<=n/\n<=100000->(arD n).length<=6:=N3;have hw:(jj x.kind).length<=8:=by rcases hk with hk|hk|hk<;>rw[hk]<;>decide
 have aK:((hL x).flatMap fun a=>32::arD a).length<=21:=by
  unfold hL at h1⊢;split at h1
  ·rename_i bq;rw[if_pos bq];have cr:=ua (h1 x.a (by simp));have a2:=ua (h1 x.b (by simp));have a3:=ua (h1 x.length (by simp));simp;omega
  ·rename_i bq;rw[if_neg bq];split at h1
   ·rename_i bq;rw[if_pos bq];have cr:=ua (h1 x.a (by simp));have a2:=ua (h1 x.b (by simp));have a3:=ua (h1 x.c (by simp));simp;omega
   ·rename_i bq;rw[if_neg bq];have cr:=ua (h1 x.a (by simp));have a2:=ua (h1 x.b (by simp));simp;omega
 unfold yi;simp only[arJ,arU,ath];omega
theorem ajN {xs:List aB} (h:q5 xs=arf) (k:Nat) (hk:k<=xs.length):(ji (xs.take k)).length<=61*k:=by
 induction k with
 |zero=>simp[ji]
 |succ k aU=>have U:=arX (l:=xs) (i:=k) (by omega);have:=agy (Zy h U);have:=aU (by omega);unfold ji at this⊢;rw[auz (by omega),au9,arJ,asl,at1,asI];omega
theorem Pe (x y:ByteArray):(x++y).data.toList=x.data.toList++y.data.toList:=by simp
theorem aiw {xs:List aB} {k:Nat} {bH a b c d:Int} {fy:List UInt8} (U:xs[k]? =are ⟨bH,fy,a,b,c,d⟩) {jR nR:List UInt8} {wd s:ByteArray} (ho:jR=ji (xs.take k)) (b5:nR=(wd++⟨#[32]⟩++s).data.toList) (hw:wd=⟨(jj bH).toArray⟩) (aq:s=⟨fy.toArray⟩):
  jR++nR++nJ (hL ⟨bH,fy,a,b,c,d⟩)++[10]=ji (xs.take (k+1)):=by
 have aO:=(arp.1 U).1;have he:xs[k]=⟨bH,fy,a,b,c,d⟩:=(arp.1 U).2;rw[ho,b5,Pe,Pe,hw,aq,auz aO,he];unfold ji;rw[au9,asl,at1,asI];unfold yi nJ;simp
theorem agx {ns:List Int} {j:Nat} {n:Int} (h:ns[j]? =are n):nJ (ns.take (j+1))=nJ (ns.take j)++(32::arD n):=by
 have aO:=(arp.1 h).1;have he:ns[j]=n:=(arp.1 h).2;rw[auz aO,he];unfold nJ;rw[au9,asl,at1,asI]
theorem NW:∀{ns:List Int},(∀n∈ns,0<=n/\n<=100000)->(nJ ns).length<=7*ns.length
 |[],_=>by simp[nJ]
 |n::ns,h=>by have h1:=NW (ns:=ns) fun m hm=>h m (arK _ hm);have J:=N3 (h n arS);unfold nJ at h1⊢;rw[asl,arJ,arU,arU];omega
theorem Row.cell {ns:List Int} {g n c:Nat} {w:World} (h:Row ns (.slice (are ⟨g,0,ari⟩) n c) w) {j:Nat} {m:Int} (ap:ns[j]? =are m):w.cell? ⟨g,j,ari⟩=are (.int .i64 m):=by
 obtain ⟨acm,cap,cur,a6,h1,J,aj⟩:=h;cases h1;rw[auf J];exact aj j m ap
def abu (u2:ByteArray) (w:World) (e:Ending) (w':World):Prop:=e= .returned (.string u2)/\aQ.Grown w w'
theorem akI {n:Int} (av:0<=n/\n<=100000) {u2:ByteArray} (yO:u2=⟨(arD n).toArray⟩) {w:World} (ak:iu Tryz.prog w):Calls Tryz.prog 22 #[.int .i64 n] w (abu u2 w):=(ahk av.1 av.2 ak).mono fun e w' h=>⟨by rw[yO];exact h.1,h.2⟩
set_option maxHeartbeats 4000000 in
theorem aix (xs:List aB) (U:q5 xs=arf) (ay o c:Nat) (cW:World) (Q:World->Prop)
  (aa:Calls Tryz.prog 18 #[.slice (are ⟨ay,o,ari⟩) xs.length c] cW fun e w=>e= .returned (.int .i64 0)/\Q w) (ez:∀w,Q w->iu Tryz.prog w/\abc xs ay o w):
  Calls Tryz.prog 6 #[.slice (are ⟨ay,o,ari⟩) xs.length c] cW (abe xs Q):=by
 have hlen:xs.length<=96:=by unfold q5 at U;simp only[arq,decide_eq_true_eq] at U;exact U.1.2
 have SK:=arM U;clear U;have SF:=arM ez;clear ez
 go_enter Tryz.func6,Tryz.ntmps6
 go_wp2_with (go_at_call 18;refine aa.mono ?_)
 rintro e bD ⟨rfl,aF⟩;have SJ:=arM (SF.out bD aF);have abl:=arM aF;clear aF SF aa
 go_wp2
 go_loopw [20] (fun u wr=>∃k:Nat,k<=xs.length/\u= .int .i64 k/\Hid (j8 bD.heap.size bD.heap.size (asW (ji (xs.take k))) wr)/\Hid (Below bD.heap.size bD wr)) (fun u _=>xs.length - (auR u).toNat)
 case atStart=>exact ⟨0,ass _,rfl,arM (Lib.IsBuilderF.of (Lib.fresh_isBuilder 61 5 bD)),arM ((Below.refl _ bD).alloc (ars _) _)⟩
 case round=>
  obtain ⟨k,hk,rfl,Aw,Az⟩:=hrel
  rename World=>wr
  by_cases aO:k<xs.length
  ·obtain ⟨x,iD⟩:∃x,xs[k]? =are x:=⟨_,arX aO⟩
   have vE:∀(j:Nat) (v:arh),(Lf x)[j]? =are v->wr.cell? ⟨ay,o+k*6+j,ari⟩=are v:=fun j v ap=>by have h1:=SJ.out.2 k x iD j v ap;rw[Az.out.cell (World.block_lt_of_cell? _ _ h1)];exact h1
   obtain ⟨bH,fy,a,b,bg,d⟩:=x;obtain ⟨s,aq⟩:∃s:ByteArray,s=⟨fy.toArray⟩:=⟨_,rfl⟩
   have iP:wr.cell? ⟨ay,o+k*6,ari⟩=are (.int .i64 bH):=vE 0 _ rfl;have c1:wr.cell? ⟨ay,o+k*6+1,ari⟩=are (.string s):=by rw[aq];exact vE 1 _ rfl
   have c2:wr.cell? ⟨ay,o+k*6+2,ari⟩=are (.int .i64 a):=vE 2 _ rfl;have iw:wr.cell? ⟨ay,o+k*6+3,ari⟩=are (.int .i64 b):=vE 3 _ rfl;have lW:wr.cell? ⟨ay,o+k*6+4,ari⟩=are (.int .i64 bg):=vE 4 _ rfl;have rJ:wr.cell? ⟨ay,o+k*6+5,ari⟩=are (.int .i64 d):=vE 5 _ rfl;have SM:=arM iD;have SI:=arM aq;clear vE iD aq;obtain ⟨lp,jE,ly⟩:(bH=1\/bH=2\/bH=3)/\fy.length<=12/\∀n∈hL ⟨bH,fy,a,b,bg,d⟩,0<=n/\n<=100000:=Zy SK.out SM.out;have Jv:=arM ly;clear ly;obtain ⟨wd,FF⟩:∃wd:ByteArray,wd=⟨(jj bH).toArray⟩:=⟨_,rfl⟩
   obtain ⟨wm,Bz⟩:∃wm:Int,wm=if bH=3 then 2 else 3:=⟨_,rfl⟩
   have TL:∀w,Calls Tryz.prog 19 #[.int .i64 bH] w fun e w'=>e= .returned (.tuple #[.string wd, .int .i64 wm])/\w=w':=fun w=>by rw[FF,Bz];exact aii lp w
   clear Bz;have mD:wd.size<=8:=by rw[FF];rcases lp with rfl|rfl|rfl<;>decide
   have aqC:s.size<=12:=by rw[SI.out];exact jE
   have abq:=arM FF;have aba:=arM TL;have abh:=arM lp;clear FF TL jE lp;have ac3:=ajN SK.out k hk;obtain ⟨jR,LD⟩:∃jR,jR=ji (xs.take k):=⟨_,rfl⟩
   rw[<-LD] at Aw ac3;have abo:=arM LD;clear LD;have T9:bD.heap.size<=wr.heap.size:=Az.out.size;have adf:bD.heap.size<wr.heap.size:=by obtain ⟨cs,h⟩:=Aw.out.at;exact (ar6.1 h).1
   go_wp2_with (first|(go_at_call 19;refine (aba.out _).mono ?_;rintro e w' ⟨rfl,rfl⟩)|(go_at_call 20;refine (Qb bD.heap.size bD.heap.size (asW jR) _ _ ?ab ?ai ?aq).mono ?_))
   case ab=>exact avj Aw.out _
   case ai=>
    have iR:(⟨#[32]⟩:ByteArray).size=1:=rfl;rw[au',auA,auA,iR];omega
   case aq=>simp;omega
   rintro e dR ⟨rfl,h1,fe,bm⟩;have AA:Hid (nY wr.heap.size bH s a b bg d dR):=arM (nY.kept (by unfold nY;show (wr.heap.push _)[wr.heap.size]? =_;rw[Array.getElem?_push_size]) (by omega) bm);have Js:Hid (Below bD.heap.size bD dR):=arM ((Az.out.alloc T9 _).trans fe);have Ax:=arM (Pg h1);obtain ⟨nR,E7⟩:∃nR,nR=(wd++⟨#[32]⟩++s).data.toList:=⟨_,rfl⟩
   rw[<-E7] at Ax;have aqf:nR.length<=21:=by have iR:(⟨#[32]⟩:ByteArray).size=1:=rfl;have:(wd++⟨#[32]⟩++s).data.toList.length=(wd++⟨#[32]⟩++s).size:=Array.length_toList;rw[E7,this,auA,auA,iR];omega
   have abi:=arM E7;have yS:bD.heap.size<dR.heap.size:=by obtain ⟨cs,h⟩:=Ax.out.at;exact (ar6.1 h).1
   have FH:wr.heap.size<dR.heap.size:=(ar6.1 AA.out).1;clear h1 fe bm E7 iP c1 c2 iw lW rJ adf T9;obtain ⟨cH,aT,e2,hV,kR,qv⟩:=AA.out.cell;obtain ⟨ns,BB⟩:∃ns:List Int,ns=if bH=2 then [a,b,bg] else [a,b]:=⟨_,rfl⟩
   have aP:=ahf (a:=a) (b:=b) (c:=bg) (d:=d) (s:=s) abh.out dR (B:=bD.heap.size) (by omega);rw[<-BB] at aP;have jE:2<=ns.length/\ns.length<=3:=by rw[BB];split<;>simp
   obtain ⟨yI,UN⟩:=jE;have SC:=arM aP;have Ea:=arM BB;clear aP BB
   go_wp2_with (first|(go_at_call 21;refine SC.out.mono ?_))
   rintro e mi ⟨tF,rfl,a7,A9⟩;clear SC;have D7:=arM (Ax.out.grown A9);have D9:=arM (Js.out.trans (Grown.below A9 (asd yS)));have SL:=arM (AA.out.grown A9);have Ve:dR.heap.size<=mi.heap.size:=A9.size;have xW:=arM a7;clear A9 cH aT e2 hV kR qv a7;obtain ⟨cH,aT,e2,hV,kR,qv⟩:=SL.out.cell;have Fl:(Tryz.prog.info? 3).map (fun i=>(i.zero,i.size,i.bytes))=are (are (.int .i64 0),1,8):=by kernel_rfl
   obtain ⟨i0,af,mH,kF,yS⟩:=info_parts Fl;have af:=arM af;have mH:=arM mH;have kF:=arM kF;have FH:=arM yS;clear Fl yS;by_cases o0:bH=1
   focus
    obtain ⟨k3,qI⟩:∃k3,k3=ns.length+1:=⟨_,rfl⟩
    subst o0
    go_wp2_with (at_builtin;refine wpList_append_own _ rfl _ _ 22 rfl bD.heap.size 3 i0 (.int .i64 0) 1 8 Tryz.underlying22 af.out mH.out kF.out FH.out rfl (by decide) _ _ _ rfl (xW.out.alloc _) ⟨mi.heap.size,0,ari⟩ 1 1 [.int .i64 d] rfl rfl ?c1 ?c2 ?iw ?lW ?rJ ?_)
    case c1=>
     intro j u ap
     match j,ap with
     |0,ap=>simp at ap;subst ap;simp[Addr.add]
    case c2=>intro u hu;simp at hu;subst hu;rfl
    case iw=>unfold maxLen;omega
    case lW=>omega
    case rJ=>simp;omega
    intro bl aaH VC vJ _;have tV:∀q,(ast (are (⟨tF,0,ari⟩:Addr)) ns.length ns.length).ownBlock=are q->∃c a6,(mi.alloc (.cells #[.int .i64 d] 3)).heap[q]? =are (.cells c 3 a6):=by
     intro q aF;obtain ⟨_,h|⟨acm,cap,cur,h1,_,aj,_⟩⟩:=xW.out.alloc (.cells #[.int .i64 d] 3)
     ·exact absurd h.2 (by omega)
     ·cases h1;cases aF;exact ⟨cur,_,aj⟩
    have SB:=arM (j8.grownBy (avj D7.out _) vJ tV);have SE:Hid (Below bD.heap.size bD aaH):=arM ((D9.out.alloc (by omega) _).grown vJ (by simp;omega) fun q aF=>(xW.out.lt q aF).1);obtain ⟨jH,bM⟩:∃jH,jH=ns++[d]:=⟨_,rfl⟩
    have ba:Row jH bl aaH:=Zj (B:=bD.heap.size) (by rw[bM];simpa using VC) (by rw[bM];simp);have Uc:jH=hL ⟨1,fy,a,b,bg,d⟩:=by rw[bM,Ea.out];rfl
    have rY:k3=jH.length:=by rw[bM,qI];simp
    obtain ⟨tF,tw,lB⟩:∃tF tw,bl= .slice (are ⟨tF,0,ari⟩) k3 tw:=by obtain ⟨q,cap,cur,a6,h1,_⟩:=ba;exact ⟨q,cap,by rw[h1,rY]⟩
    subst lB;have SG:=arM ba;have Ay:=arM Uc;have Eb:=arM rY;have aec:k3<=4:=by omega
    clear bM ba Uc rY VC vJ tV qI xW AA SL cH aT e2 hV kR qv D7 D9 Ax Js Ea yI UN af mH kF FH Ve
    go_wp2
   rotate_left
   focus
    obtain ⟨k3,qI⟩:∃k3,k3=ns.length:=⟨_,rfl⟩
    obtain ⟨tw,Up⟩:∃tw,tw=k3:=⟨_,rfl⟩
    have ki:ast (are ⟨tF,0,ari⟩) ns.length ns.length= .slice (are ⟨tF,0,ari⟩) k3 tw:=by rw[Up,qI]
    have SB:=D7;have SE:=D9;obtain ⟨jH,bM⟩:∃jH,jH=ns:=⟨_,rfl⟩
    have SG:Hid (Row jH (.slice (are ⟨tF,0,ari⟩) k3 tw) mi):=arM (by rw[<-ki,bM];exact Zj xW.out (by intro e;rw[e] at yI;simp at yI));have Ay:Hid (jH=hL ⟨bH,fy,a,b,bg,d⟩):=arM (by rw[bM,Ea.out];unfold hL;rw[if_neg (show ¬(aB.mk bH fy a b bg d).kind=1 from o0)]);have Eb:=arM (show k3=jH.length by rw[bM,qI]);have aec:k3<=4:=by omega
    rw[ki];have aqq:(bH==1)=arj:=by simpa using o0
    clear bM qI Up ki xW AA D7 D9 Ax Js Ea yI UN af mH kF FH Ve
    go_wp2
   all_goals
    go_loopw [48] (fun u QU=>∃j:Nat,j<=k3/\u= .int .i64 j/\Hid (j8 bD.heap.size bD.heap.size (asW (jR++nR++nJ (jH.take j))) QU)/\Hid (Below bD.heap.size bD QU)/\Hid (Row jH (.slice (are ⟨tF,0,ari⟩) k3 tw) QU)) (fun u _=>k3 - (auR u).toNat)
    case atStart=>exact ⟨0,ass _,rfl,arM (by rw[atO];show j8 _ _ (asW (jR++nR++[])) _;rw[asI];exact SB.out),SE,SG⟩
    case round=>
     obtain ⟨j,ap,rfl,D8,Jt,SH⟩:=hrel
     rename World=>IE
     have aff:bD.heap.size<IE.heap.size:=by obtain ⟨cs,h⟩:=D8.out.at;exact (ar6.1 h).1
     have UH:(jR++nR++nJ (jH.take j)).length<=10000:=by have h1:=NW (ns:=jH.take j) fun m hm=>Jv.out m (by rw[<-Ay.out];exact atE hm);have J:(jH.take j).length<=j:=List.length_take_le _ _;rw[arJ,arJ];omega
     have abr:=arM UH;clear UH;by_cases hP:j<k3
     ·obtain ⟨n,av⟩:∃n,jH[j]? =are n:=⟨_,arX (by rw[<-Eb.out];exact hP)⟩
      have ad:=SH.out.cell av;have vP:=Jv.out n (by rw[<-Ay.out];exact arI av);obtain ⟨u2,yO⟩:∃u2:ByteArray,u2=⟨(arD n).toArray⟩:=⟨_,rfl⟩
      have lA:u2.size<=6:=by rw[yO];exact N3 vP
      have SD:=arM (akI vP yO (iu.below SJ.out.1 Jt.out));have abk:=arM av;have abp:=arM yO;clear av yO vP
      go_wp2_with (first|(go_at_call 22;refine SD.out.mono ?_))
      rintro e aq7 ⟨rfl,g6⟩;have SA:=arM (D8.out.grown g6);have abj:=arM (Jt.out.trans (Grown.below g6 (asd aff)));have abm:=arM (SH.out.grown g6);have aqG:=g6.size;clear g6 SD ad
      go_wp2_with (first|(go_at_call 20;refine (Qb bD.heap.size bD.heap.size (asW (jR++nR++nJ (jH.take j))) _ _ SA.out ?ai ?aq).mono ?_))
      case ai=>
       have iR:(⟨#[32]⟩:ByteArray).size=1:=rfl;have:=abr.out;rw[au',auA,iR];omega
      case aq=>omega
      rintro e QR ⟨rfl,gz,AQ,FM⟩;have Jr:Hid (j8 bD.heap.size bD.heap.size (asW (jR++nR++nJ (jH.take (j+1)))) QR):=arM (by
       have h:=Pg gz;rw[Pe,abp.out] at h;rw[agx abk.out,<-as7];exact h)
      have Ju:=arM (abj.out.trans AQ);have abn:=arM (abm.out.kept SA.out.at FM);clear gz AQ FM
      go_wp2
      go_roundw
      case rel=>exact ⟨j+1,by omega,by go_num,Jr,Ju,abn⟩
      case measure=>simp[auR];omega
     ·have l2:j=k3:=by omega
      have abg:Hid (j8 bD.heap.size bD.heap.size (asW (jR++nR++nJ jH)) IE):=arM (by
       have:=D8.out;rw[l2,Eb.out,asO] at this;exact this)
      clear D8 l2
      go_wp2_with (first|(go_at_call 20;refine (Qb bD.heap.size bD.heap.size (asW (jR++nR++nJ jH)) _ _ abg.out ?ai ?aq).mono ?_))
      case ai=>
       have iR:(⟨#[10]⟩:ByteArray).size=1:=rfl;have h1:=NW (ns:=jH) fun m hm=>Jv.out m (by rw[<-Ay.out];exact hm);have J:=Eb.out;rw[au',iR,arJ,arJ];omega
      case aq=>omega
      rintro e QR ⟨rfl,gz,AQ,FM⟩;have Jr:Hid (j8 bD.heap.size bD.heap.size (asW (ji (xs.take (k+1)))) QR):=arM (by
       have h:=Pg gz;rw[<-aiw SM.out abo.out abi.out abq.out SI.out,<-Ay.out];exact h)
      have Ju:=arM (Jt.out.trans AQ);clear gz AQ FM
      go_wp2
      go_roundw
      case rel=>exact ⟨k+1,by omega,by go_num,Jr,Ju⟩
      case measure=>simp[auR];omega
  ·have fC:k=xs.length:=by omega
   have abf:Hid (j8 bD.heap.size bD.heap.size (asW (ji xs)) wr):=arM (by
    have:=Aw.out;rw[fC,asO] at this;exact this)
   have aD:bD.heap.size<=wr.heap.size:=Az.out.size;clear Aw fC
   go_wp2_with (first|(go_at_call 23;refine (aiV bD.heap.size bD.heap.size (ji xs) _ abf.out aD).mono ?_;rintro e dR ⟨rfl,hg⟩))
   go_ret2
   exact ⟨bD,abl.out,rfl,Az.out.trans hg⟩
end Go.W
end
section
open Go Go.aQ Go.Proofs
set_option maxRecDepth 1000000
namespace Go.W
def y7:List Nat:=[4,11,15,17,47,48,49,73,74,75,76,77,78,79,80,81,95,104,105,106,107,108,109,110,111,112,121,123,124,127,128,129,130,131,132,133,134,135,136,137,138,139,140,141,142,143,144,145,146,157,158,159,160,161,162,163,164,165,166,167,168,169,170,171,172,173,174,175,176,177,178,180,181,182,183,184,185,186,187,188,189,190,191,192,197,198,199,200,201,202,203,204,205,206,207,208,209,210,211,212,213,214,215,216,218,219,220,221,222,223,224,225,226,227,228,229,230,231,232,233,234,235,236,237,238,239,240,241,242,243,244,245,246,247,248,249,250,251,252,253,254,255,256,257,258,259,260,261,262,263,264,265,266,267,268,269,270,271,272,273,274,275,276,277,278,279,280,281,282,283,284,285,289,290,291,292,293,294,295,296,297,299,300,301,302,303,304,305,306,307,308,309,310,311,312,313,314,315,316,317,318,319,320,321,322,323,324,325,326,327,328]
def Zn:Code->Code
 | .seq A (.seq (.region id ops d) B)=> .seq A (.seq (.region id ops.pop d) B)
 |k=>k
theorem an2:(y7.all fun f=>kG Tryz.prog f)=arf:=by kernel_rfl
theorem ai9:PF Tryz.prog 110:=by
 refine ai' (t3:=3) (t4:=4) (ty:=20) (tz:=20) Tryz.func110 rfl rfl rfl rfl rfl rfl rfl rfl (by decide) (by decide) rfl (fun w=> ?_) (fun w=> ?_)
 ·kernel_rfl
 ·kernel_rfl
theorem akV:p8 Tryz.prog Tryz.f81 (Zn (bF Tryz.f81)):= .inr ⟨_,_,_,_,_,110,10,_,rfl,rfl,rfl,rfl,rfl,rfl,rfl,rfl,rfl,ai9⟩
noncomputable def R:Ed Tryz.prog where
 y7:=y7
 ok:=fun f aK=>arz.1 an2 f aK
 Kd:=[(81,Zn (bF Tryz.f81))]
 TS:=fun x U fn aK=>by rcases ase.1 U with rfl;have:=Tryz.func81;rw[this] at aK;cases aK;exact akV
theorem anB:(match Dg Tryz.prog R 1000000 15 #[] ⟨0, .e⟩ with|some (v,_)=>qw 5 v (.bool arf)|none=>arj)=arf:=by kernel_rfl
theorem ahx (w:World) (ak:iu Tryz.prog w):Calls Tryz.prog 15 #[] w fun e w'=>e= .returned (.bool arf)/\Grown w w':=by
 have h:=anB;split at h
 ·rename_i v c ad;obtain rfl:=Hf 5 _ _ h;exact af6 (by kernel_rfl) R ad rfl w ak
 ·cases h
end Go.W
end
section
set_option maxRecDepth 100000
namespace Go.W
open Go Go.Proofs Go.RowKit Go.aQ
theorem aiC {l:List arh} (h:l.length=2):∃a b,l=[a,b]:=by
 match l,h with
 |[a,b],_=>exact ⟨a,b,rfl⟩
theorem ajb {l:List arh} (h:l.length=1):∃a,l=[a]:=by
 match l,h with
 |[a],_=>exact ⟨a,rfl⟩
theorem aid {j:bb} {a:arh} {fU:Array arh} (h:a1 (bU j) ([a].toArray:Array arh).toList fU.toList):∃c,fU=#[c]/\bU j a c:=by
 obtain ⟨l⟩:=fU
 match l,h with
 |[c],⟨h,_⟩=>exact ⟨c,rfl,h⟩
 |_::_::_,⟨_,h⟩=>exact h.elim
 |[],h=>exact h.elim
theorem ag0 {s c:List UInt8} (ad:c.length=1) (aq:s.length<4294967281) (m:Mem):(asp s c).length<bT/\
  fR Tryz.prog 24 [aQ.str s,aQ.str c].toArray m fun v m'=>v= .slice (are ⟨m.next,0,ari⟩) (asp s c).length (asp s c).length/\m'=m.push (.own ((asp s c).map aQ.str) 9):=by
 have adp:Lib.countB ⟨s.toArray⟩ ⟨c.toArray⟩=aug s c:=rfl;have gI:aug s c<=s.length+1:=Lib.count_le s c;have vY:(Lib.splitB ⟨c.toArray⟩ 0 (aug s c) ⟨s.toArray⟩).map (·.data.toList)=asp s c:=Lib.splitB_data ⟨c.toArray⟩ 0 (aug s c) ⟨s.toArray⟩;have hlen:(asp s c).length=aug s c+1:=by rw[<-vY,ar9];exact Lib.splitB_all ⟨c.toArray⟩ (by show 1<=c.toArray.size;simp;omega) 0 _ ⟨s.toArray⟩ rfl
 have qH:(asp s c).map aQ.str=(Lib.splitB ⟨c.toArray⟩ 0 (aug s c) ⟨s.toArray⟩).map arh.string:=by rw[<-vY,List.map_map];refine List.map_congr_left fun b _=> ?_;show arh.string ⟨b.data.toList.toArray⟩= .string b;rw[Array.toArray_toList]
 have dS:(asp s c).length<bT:=by rw[hlen];unfold bT;omega
 refine ⟨dS,fR.sort (by kernel_rfl) (.fresh ((asp s c).map aQ.str) 9 (asp s c).length (by rfl) (arz.2 fun v aa=> ?_) ?_ dS fun w ak=> ?_) ⟨rfl,rfl⟩⟩
 ·obtain ⟨b,_,rfl⟩:=arC.1 aa;rfl
 ·have:arl.cellsOf Tryz.prog 9=1:=by kernel_rfl
  rw[ar9,this,atP]
 ·obtain ⟨k,hk⟩:=ak.len 1 (by kernel_rfl);refine (Any.strings_Split ahY (by kernel_rfl) ⟨s.toArray⟩ ⟨c.toArray⟩ k w (by show s.toArray.size<_;simpa using aq) hk (by show 1<=c.toArray.size;simp;omega)).mono ?_;rintro e w' ⟨rfl,rfl⟩;rw[adp,qH,<-hlen];exact ⟨rfl,rfl⟩
theorem ajM {xs:List aB} (cy:q5 xs=arf) {T:cb aB} {z:Nat->aV} (dm:∀(i:Nat) (x:aB) (cs:List arh),T.rd z x cs->cs.toArray=Lf x) {m:Mem} {a aS:arh} (aD:je z m) (aq:dW T z xs a) {j:bb} {w:World} (ba:Rel Tryz.prog j m w) (aa:bU j a aS)
  (eN:Calls Tryz.prog 18 #[aS] w fun e w'=>e= .returned (.int .i64 0)/\∃bw,Post Tryz.prog j m w bw m w'):
  Calls Tryz.prog 6 #[aS] w fun e w'=>e= .returned (.tuple #[.string ⟨(ji xs).toArray⟩, .int .i64 0])/\∃bw,Post Tryz.prog j m w bw m w':=by
 have dT:1<=xs.length:=by unfold q5 at cy;simp only[arq,decide_eq_true_eq] at cy;exact cy.1.1
 rcases aq with ⟨_,az⟩|⟨b,off,c,rfl,aK,_,ad⟩
 ·rw[az] at dT;cases dT
 obtain ⟨q,_,ap,fl⟩:=aa.slice;have U:∃cap,aS= .slice (are ⟨q.ay,q.c0+off,ari⟩) xs.length cap:=by
  rcases fl with ⟨_,ad⟩|⟨_,_,_,_,_,_,ad⟩|⟨_,ai,_⟩|⟨_,ai,_⟩|⟨_,_,_,_,_,_,_,_,_,ad⟩
  ·exact ⟨_,ad⟩
  ·exact ⟨_,ad⟩
  ·omega
  ·omega
  ·exact ⟨_,ad⟩
 obtain ⟨cap,rfl⟩:=U;have bu:∀(i:Nat) (x:aB),xs[i]? =are x->T.aW=6:=fun i x af=>by obtain ⟨cs,h1,_⟩:=ad i x af;have J:=dm i x cs h1;rw[<-T.len z x cs h1,<-List.size_toArray,J];rfl
 refine (aix xs cy q.ay (q.c0+off) cap w (fun w'=>∃bw,Post Tryz.prog j m w bw m w') eN ?_).mono ?_
 ·rintro bD ⟨bw,an⟩;have mB:bw b=are q:=an.up ba b q ap;refine ⟨an.rel.iI.val,fun i x af k v hk=> ?_⟩;obtain ⟨cs,h1,J⟩:=ad i x af;have aj:=dm i x cs h1;have aJ:cs[k]? =are v:=by rw[<-aj] at hk;simpa using hk
  obtain ⟨ap4,bk,dn⟩:=an.rel.load b q _ v mB (Ot aD (J k v aJ));have gZ:b7 v=arf:=by
   obtain ⟨bH,fy,cr,a2,a3,a4⟩:=x
   match k,hk with
   |0,hk=>cases hk;rfl
   |1,hk=>cases hk;rfl
   |2,hk=>cases hk;rfl
   |3,hk=>cases hk;rfl
   |4,hk=>cases hk;rfl
   |5,hk=>cases hk;rfl
   |k+6,hk=>cases hk
  rw[zs gZ dn] at bk;rw[bu i x af] at bk;rw[<-bk];congr 2;omega
 ·rintro e w' ⟨bD,⟨bw,an⟩,rfl,ab⟩;exact ⟨rfl,bw,an.trans (an.rel.Lu ab.os ab.tape ab.output ab.size fun c ad=>ab.block c ad)⟩
end Go.W
end
section
set_option maxRecDepth 100000
set_option maxHeartbeats 1000000
namespace Go.W
open Go.aQ Go.Proofs
noncomputable def AM:cb Int:=h7 3 [.int .i64] fun x=>(x,())
noncomputable def abK:cb Bool:=h7 4 [.bool] fun x=>(x,())
noncomputable def abN:cb UInt8:=iN 5
noncomputable def abQ:cb (List UInt8):=h7 9 [.str] fun x=>(x,())
noncomputable def abH:cb (List Int):=h7 22 [.aE Int AM] fun x=>(x,())
noncomputable def Eo:cb aB:=h7 55 [.int .i64, .str, .int .i64, .int .i64, .int .i64, .int .i64] fun x=>(x.kind,x.name,x.a,x.b,x.c,x.length,())
noncomputable def abI:cb (List aB):=h7 25 [.aE aB Eo] fun x=>(x,())
noncomputable def JQ:cb bo:=h7 40 [.int .i64, .int .i64, .int .i64] fun x=>(x.aA,x.b4,x.out,())
noncomputable def abJ:cb (List bo):=h7 34 [.aE bo JQ] fun x=>(x,())
noncomputable def JR:cb bi:=h7 98 [.int .i64, .int .i64] fun x=>(x.aA,x.ed,())
noncomputable def abL:cb (List bi):=h7 45 [.aE bi JR] fun x=>(x,())
noncomputable def abM:cb bQ:=h7 47 [.int .i64, .aE bo JQ, .aE bi JR] fun x=>(x.iV,x.ew,x.e7,())
noncomputable def abO:cb eC:=h7 52 [.aE Int AM, .int .i64] fun x=>(x.l,x.n,())
noncomputable def abP:cb (List (Int×Int)):=h7 87 [.mp Int Int ⟨pW .i64,pW .i64,87⟩] fun x=>(x,())
noncomputable def abR:cb (List (Int×Bool)):=h7 90 [.mp Int Bool ⟨pW .i64,xr,90⟩] fun x=>(x,())
noncomputable def abS:cb (List (bK×Bool)):=h7 92 [.mp bK Bool ⟨fun x=>[.int .i64 x.aA, .int .i64 x.node],xr,92⟩] fun x=>(x,())
noncomputable def abT:cb (Option Nat):=h7 93 [.fn] fun x=>(x,())
noncomputable def abU:cb bK:=h7 95 [.int .i64, .int .i64] fun x=>(x.aA,x.node,())
noncomputable def am7:cb (List ((List UInt8)×Bool)):=h7 150 [.mp (List UInt8) Bool ⟨BW,xr,150⟩] fun x=>(x,())
noncomputable def am8:cb (List (Place×Int)):=h7 162 [.mp Place Int ⟨fun x=>[.int .i64 x.aA, .int .i64 x.b4],pW .i64,162⟩] fun x=>(x,())
noncomputable def amI:cb Place:=h7 166 [.int .i64, .int .i64] fun x=>(x.aA,x.b4,())
noncomputable def amJ:cb (Option Nat):=h7 194 [.fn] fun x=>(x,())
noncomputable def amK:cb (Option Nat):=h7 195 [.fn] fun x=>(x,())
structure abF where
 al:Type
 T:cb al
 bX:al->List arh
noncomputable def QI:Nat->abF
 |3=>⟨Int,AM,pW .i64⟩
 |4=>⟨Bool,abK,xr⟩
 |5=>⟨UInt8,abN,fun _=>[]⟩
 |9=>⟨(List UInt8),abQ,BW⟩
 |22=>⟨(List Int),abH,fun _=>[]⟩
 |55=>⟨aB,Eo,fun _=>[]⟩
 |25=>⟨(List aB),abI,fun _=>[]⟩
 |40=>⟨bo,JQ,fun _=>[]⟩
 |34=>⟨(List bo),abJ,fun _=>[]⟩
 |98=>⟨bi,JR,fun _=>[]⟩
 |45=>⟨(List bi),abL,fun _=>[]⟩
 |47=>⟨bQ,abM,fun _=>[]⟩
 |52=>⟨eC,abO,fun _=>[]⟩
 |87=>⟨(List (Int×Int)),abP,fun _=>[]⟩
 |90=>⟨(List (Int×Bool)),abR,fun _=>[]⟩
 |92=>⟨(List (bK×Bool)),abS,fun _=>[]⟩
 |93=>⟨(Option Nat),abT,fun _=>[]⟩
 |95=>⟨bK,abU,fun x=>[.int .i64 x.aA, .int .i64 x.node]⟩
 |150=>⟨(List ((List UInt8)×Bool)),am7,fun _=>[]⟩
 |162=>⟨(List (Place×Int)),am8,fun _=>[]⟩
 |166=>⟨Place,amI,fun x=>[.int .i64 x.aA, .int .i64 x.b4]⟩
 |194=>⟨(Option Nat),amJ,fun _=>[]⟩
 |195=>⟨(Option Nat),amK,fun _=>[]⟩
 |_=>⟨Bool,De 4,xr⟩
noncomputable def D (t:Nat):Type:=(QI t).al
noncomputable def G:lT D:=⟨fun t=>(QI t).T,fun t=>(QI t).bX⟩
noncomputable def aax:gd Tryz.prog G 3:=jN [.int .i64] (fun (x:Int)=>(x,())) (fun y=>(y.1:Int)) (fun _=>rfl) (fun _=>rfl) (0:Int) Tryz.t3 (.int .i64 0) rfl Tryz.type3 rfl rfl rfl rfl rfl rfl (fun z=>⟨rfl,trivial⟩) rfl
noncomputable def aoo:gd Tryz.prog G 4:=jN [.bool] (fun (x:Bool)=>(x,())) (fun y=>(y.1:Bool)) (fun _=>rfl) (fun _=>rfl) (arj:Bool) Tryz.t4 (.bool arj) rfl Tryz.type4 rfl rfl rfl rfl rfl rfl (fun z=>⟨rfl,trivial⟩) rfl
noncomputable def aos:gd Tryz.prog G 5:=aoB (fun (x:UInt8)=>x) (fun x=>x) (fun x=>x) (fun o=>by cases o<;>rfl) (fun _=>rfl) (fun _=>rfl) Tryz.t5 rfl rfl (fun _ _ _=>Iff.rfl) Tryz.type5 rfl rfl rfl
noncomputable def aow:gd Tryz.prog G 9:=jN [.str] (fun (x:(List UInt8))=>(x,())) (fun y=>(y.1:(List UInt8))) (fun _=>rfl) (fun _=>rfl) ([]:(List UInt8)) Tryz.t9 (.string ⟨#[]⟩) rfl Tryz.type9 rfl rfl rfl rfl rfl rfl (fun z=>⟨rfl,trivial⟩) rfl
noncomputable def aol:gd Tryz.prog G 22:=jN [.aE 3] (fun (x:(List Int))=>(x,())) (fun y=>(y.1:(List Int))) (fun _=>rfl) (fun _=>rfl) ([]:(List Int)) Tryz.t22 (.slice ari 0 0) rfl Tryz.type22 rfl rfl rfl rfl rfl rfl (fun z=>⟨.inl ⟨rfl,rfl⟩,trivial⟩) rfl
noncomputable def aou:gd Tryz.prog G 55:=jN [.int .i64, .str, .int .i64, .int .i64, .int .i64, .int .i64] (fun (x:aB)=>(x.kind,x.name,x.a,x.b,x.c,x.length,())) (fun y=>((aB.mk y.1 y.2.1 y.2.2.1 y.2.2.2.1 y.2.2.2.2.1 y.2.2.2.2.2.1):aB)) (fun _=>rfl) (fun _=>rfl) ((aB.mk 0 [] 0 0 0 0):aB) Tryz.t55 (.agg #[.int .i64 0, .string ⟨#[]⟩, .int .i64 0, .int .i64 0, .int .i64 0, .int .i64 0]) rfl Tryz.type55 rfl rfl rfl rfl rfl rfl (fun z=>⟨rfl,rfl,rfl,rfl,rfl,rfl,trivial⟩) rfl
noncomputable def aom:gd Tryz.prog G 25:=jN [.aE 55] (fun (x:(List aB))=>(x,())) (fun y=>(y.1:(List aB))) (fun _=>rfl) (fun _=>rfl) ([]:(List aB)) Tryz.t25 (.slice ari 0 0) rfl Tryz.type25 rfl rfl rfl rfl rfl rfl (fun z=>⟨.inl ⟨rfl,rfl⟩,trivial⟩) rfl
noncomputable def aop:gd Tryz.prog G 40:=jN [.int .i64, .int .i64, .int .i64] (fun (x:bo)=>(x.aA,x.b4,x.out,())) (fun y=>((bo.mk y.1 y.2.1 y.2.2.1):bo)) (fun _=>rfl) (fun _=>rfl) ((bo.mk 0 0 0):bo) Tryz.t40 (.agg #[.int .i64 0, .int .i64 0, .int .i64 0]) rfl Tryz.type40 rfl rfl rfl rfl rfl rfl (fun z=>⟨rfl,rfl,rfl,trivial⟩) rfl
noncomputable def aon:gd Tryz.prog G 34:=jN [.aE 40] (fun (x:(List bo))=>(x,())) (fun y=>(y.1:(List bo))) (fun _=>rfl) (fun _=>rfl) ([]:(List bo)) Tryz.t34 (.slice ari 0 0) rfl Tryz.type34 rfl rfl rfl rfl rfl rfl (fun z=>⟨.inl ⟨rfl,rfl⟩,trivial⟩) rfl
noncomputable def aoA:gd Tryz.prog G 98:=jN [.int .i64, .int .i64] (fun (x:bi)=>(x.aA,x.ed,())) (fun y=>((bi.mk y.1 y.2.1):bi)) (fun _=>rfl) (fun _=>rfl) ((bi.mk 0 0):bi) Tryz.t98 (.agg #[.int .i64 0, .int .i64 0]) rfl Tryz.type98 rfl rfl rfl rfl rfl rfl (fun z=>⟨rfl,rfl,trivial⟩) rfl
noncomputable def aoq:gd Tryz.prog G 45:=jN [.aE 98] (fun (x:(List bi))=>(x,())) (fun y=>(y.1:(List bi))) (fun _=>rfl) (fun _=>rfl) ([]:(List bi)) Tryz.t45 (.slice ari 0 0) rfl Tryz.type45 rfl rfl rfl rfl rfl rfl (fun z=>⟨.inl ⟨rfl,rfl⟩,trivial⟩) rfl
noncomputable def aor:gd Tryz.prog G 47:=jN [.int .i64, .aE 40, .aE 98] (fun (x:bQ)=>(x.iV,x.ew,x.e7,())) (fun y=>((bQ.mk y.1 y.2.1 y.2.2.1):bQ)) (fun _=>rfl) (fun _=>rfl) ((bQ.mk 0 [] []):bQ) Tryz.t47 (.agg #[.int .i64 0, .slice ari 0 0, .slice ari 0 0]) rfl Tryz.type47 rfl rfl rfl rfl rfl rfl (fun z=>⟨rfl, .inl ⟨rfl,rfl⟩, .inl ⟨rfl,rfl⟩,trivial⟩) rfl
noncomputable def aot:gd Tryz.prog G 52:=jN [.aE 3, .int .i64] (fun (x:eC)=>(x.l,x.n,())) (fun y=>((eC.mk y.1 y.2.1):eC)) (fun _=>rfl) (fun _=>rfl) ((eC.mk [] 0):eC) Tryz.t52 (.agg #[.slice ari 0 0, .int .i64 0]) rfl Tryz.type52 rfl rfl rfl rfl rfl rfl (fun z=>⟨.inl ⟨rfl,rfl⟩,rfl,trivial⟩) rfl
noncomputable def aov:gd Tryz.prog G 87:=jN [.mp 87 3 3] (fun (x:(List (Int×Int)))=>(x,())) (fun y=>(y.1:(List (Int×Int)))) (fun _=>rfl) (fun _=>rfl) ([]:(List (Int×Int))) Tryz.t87 (.map ari) rfl Tryz.type87 rfl rfl rfl rfl rfl rfl (fun z=>⟨.inl ⟨rfl,rfl⟩,trivial⟩) rfl
noncomputable def aox:gd Tryz.prog G 90:=jN [.mp 90 3 4] (fun (x:(List (Int×Bool)))=>(x,())) (fun y=>(y.1:(List (Int×Bool)))) (fun _=>rfl) (fun _=>rfl) ([]:(List (Int×Bool))) Tryz.t90 (.map ari) rfl Tryz.type90 rfl rfl rfl rfl rfl rfl (fun z=>⟨.inl ⟨rfl,rfl⟩,trivial⟩) rfl
noncomputable def aoy:gd Tryz.prog G 92:=jN [.mp 92 95 4] (fun (x:(List (bK×Bool)))=>(x,())) (fun y=>(y.1:(List (bK×Bool)))) (fun _=>rfl) (fun _=>rfl) ([]:(List (bK×Bool))) Tryz.t92 (.map ari) rfl Tryz.type92 rfl rfl rfl rfl rfl rfl (fun z=>⟨.inl ⟨rfl,rfl⟩,trivial⟩) rfl
noncomputable def aoz:gd Tryz.prog G 93:=jN [.fn] (fun (x:(Option Nat))=>(x,())) (fun y=>(y.1:(Option Nat))) (fun _=>rfl) (fun _=>rfl) ((ari:Option Nat):(Option Nat)) Tryz.t93 (.nilFunc) rfl Tryz.type93 rfl rfl rfl rfl rfl rfl (fun z=>⟨rfl,trivial⟩) rfl
noncomputable def aay:gd Tryz.prog G 95:=jN [.int .i64, .int .i64] (fun (x:bK)=>(x.aA,x.node,())) (fun y=>((bK.mk y.1 y.2.1):bK)) (fun _=>rfl) (fun _=>rfl) ((bK.mk 0 0):bK) Tryz.t95 (.agg #[.int .i64 0, .int .i64 0]) rfl Tryz.type95 rfl rfl rfl rfl rfl rfl (fun z=>⟨rfl,rfl,trivial⟩) rfl
noncomputable def anG:gd Tryz.prog G 150:=jN [.mp 150 9 4] (fun (x:(List ((List UInt8)×Bool)))=>(x,())) (fun y=>(y.1:(List ((List UInt8)×Bool)))) (fun _=>rfl) (fun _=>rfl) ([]:(List ((List UInt8)×Bool))) Tryz.t150 (.map ari) rfl Tryz.type150 rfl rfl rfl rfl rfl rfl (fun z=>⟨.inl ⟨rfl,rfl⟩,trivial⟩) rfl
noncomputable def anH:gd Tryz.prog G 162:=jN [.mp 162 166 3] (fun (x:(List (Place×Int)))=>(x,())) (fun y=>(y.1:(List (Place×Int)))) (fun _=>rfl) (fun _=>rfl) ([]:(List (Place×Int))) Tryz.t162 (.map ari) rfl Tryz.type162 rfl rfl rfl rfl rfl rfl (fun z=>⟨.inl ⟨rfl,rfl⟩,trivial⟩) rfl
noncomputable def ZY:gd Tryz.prog G 166:=jN [.int .i64, .int .i64] (fun (x:Place)=>(x.aA,x.b4,())) (fun y=>((Place.mk y.1 y.2.1):Place)) (fun _=>rfl) (fun _=>rfl) ((Place.mk 0 0):Place) Tryz.t166 (.agg #[.int .i64 0, .int .i64 0]) rfl Tryz.type166 rfl rfl rfl rfl rfl rfl (fun z=>⟨rfl,rfl,trivial⟩) rfl
noncomputable def anI:gd Tryz.prog G 194:=jN [.fn] (fun (x:(Option Nat))=>(x,())) (fun y=>(y.1:(Option Nat))) (fun _=>rfl) (fun _=>rfl) ((ari:Option Nat):(Option Nat)) Tryz.t194 (.nilFunc) rfl Tryz.type194 rfl rfl rfl rfl rfl rfl (fun z=>⟨rfl,trivial⟩) rfl
noncomputable def anJ:gd Tryz.prog G 195:=jN [.fn] (fun (x:(Option Nat))=>(x,())) (fun y=>(y.1:(Option Nat))) (fun _=>rfl) (fun _=>rfl) ((ari:Option Nat):(Option Nat)) Tryz.t195 (.nilFunc) rfl Tryz.type195 rfl rfl rfl rfl rfl rfl (fun z=>⟨rfl,trivial⟩) rfl
noncomputable def af7:mu Tryz.prog G 55:=Xa [.int .i64, .str, .int .i64, .int .i64, .int .i64, .int .i64] (fun (x:aB)=>(x.kind,x.name,x.a,x.b,x.c,x.length,())) (fun y=>((aB.mk y.1 y.2.1 y.2.2.1 y.2.2.2.1 y.2.2.2.2.1 y.2.2.2.2.2.1):aB)) (fun _=>rfl) _ (fun (x y:aB)=>decide (x=y)) rfl (fun (x y:aB)=>decide_eq_true_iff) Tryz.underlying55 (by kernel_rfl) (by kernel_rfl) (by kernel_rfl)
noncomputable def af8:mu Tryz.prog G 98:=Xa [.int .i64, .int .i64] (fun (x:bi)=>(x.aA,x.ed,())) (fun y=>((bi.mk y.1 y.2.1):bi)) (fun _=>rfl) _ (fun (x y:bi)=>decide (x=y)) rfl (fun (x y:bi)=>decide_eq_true_iff) Tryz.underlying98 (by kernel_rfl) (by kernel_rfl) (by kernel_rfl)
noncomputable def ab3:Rr Tryz.prog G 5:=⟨fun xs=>xs,fun xs=>xs,fun _ _ _ h=>h,fun _ _ _ _ _ _ h=>h,fun _ _ _ _ _ _ h=>h,Tryz.t5,Tryz.underlying5,Tryz.type5,rfl,fun _ _ _ _ h=>h⟩
noncomputable def M0:tk Tryz.prog G 3:=afz .i64 (fun n=>n) (inferInstance:DecidableEq Int) Tryz.t3 Tryz.underlying3 (akL Tryz.underlying3 Tryz.type3 rfl) (fun _=>rfl)
noncomputable def QO:AN Tryz.prog G 3:=aoM .i64 (fun n=>n) (fun n=>n) (fun _=>rfl) Tryz.t3 Tryz.underlying3 Tryz.type3 (am2 Tryz.underlying3 Tryz.type3 rfl) (fun _=>rfl) rfl
noncomputable def QP:AN Tryz.prog G 4:=aoL (fun n=>n) (fun n=>n) (fun _=>rfl) Tryz.t4 Tryz.underlying4 Tryz.type4 (aj5 Tryz.underlying4 Tryz.type4 rfl) (fun _=>rfl) rfl
noncomputable def afy:tk Tryz.prog G 95:=Vh (inferInstance:DecidableEq bK) aay [.int .i64, .int .i64] (fun (x:bK)=>(x.aA,x.node,())) (fun y=>((bK.mk y.1 y.2.1):bK)) (fun _=>rfl) _ Tryz.t95 rfl Tryz.underlying95 Tryz.type95 (by kernel_rfl) rfl (by kernel_rfl) (fun _=>rfl) (fun _=>rfl)
noncomputable def afx:tk Tryz.prog G 9:=afA (fun n=>n) (inferInstance:DecidableEq (List UInt8)) Tryz.underlying9 (akM Tryz.underlying9 Tryz.type9 rfl) (fun _=>rfl)
noncomputable def anZ:tk Tryz.prog G 166:=Vh (inferInstance:DecidableEq Place) ZY [.int .i64, .int .i64] (fun (x:Place)=>(x.aA,x.b4,())) (fun y=>((Place.mk y.1 y.2.1):Place)) (fun _=>rfl) _ Tryz.t166 rfl Tryz.underlying166 Tryz.type166 (by kernel_rfl) rfl (by kernel_rfl) (fun _=>rfl) (fun _=>rfl)
noncomputable def amL:Rq Tryz.prog G 154:=⟨3,3,aax,Tryz.t154, .agg #[.int .i64 0, .int .i64 0, .int .i64 0],Tryz.underlying154,Tryz.type154,rfl,rfl,rfl,rfl,rfl⟩
noncomputable def ajY:pB Tryz.prog G:=QE (t:=98) [.int .i64, .int .i64] (fun (x:bi)=>(x.aA,x.ed,())) rfl rfl ((bi.mk 0 0):bi) (fun (x:bi)=>x.aA) O8 44 45 rfl (by kernel_rfl) Tryz.isAgg98 Tryz.sizeOf98 (ava Tryz.func45 (by kernel_rfl) rfl) rfl akW
noncomputable def Iz:pB Tryz.prog G:=QE (t:=98) [.int .i64, .int .i64] (fun (x:bi)=>(x.aA,x.ed,())) rfl rfl ((bi.mk 0 0):bi) (fun (x:bi)=>x.aA) O8 44 67 rfl (by kernel_rfl) Tryz.isAgg98 Tryz.sizeOf98 (ava Tryz.func67 (by kernel_rfl) rfl) rfl akX
noncomputable def ajZ:pB Tryz.prog G:=QE (t:=98) [.int .i64, .int .i64] (fun (x:bi)=>(x.aA,x.ed,())) rfl rfl ((bi.mk 0 0):bi) (fun (x:bi)=>x.aA) O8 44 90 rfl (by kernel_rfl) Tryz.isAgg98 Tryz.sizeOf98 (ava Tryz.func90 (by kernel_rfl) rfl) rfl akY
noncomputable def bj:dk Tryz.prog D where
 G:=G
 S:=[ajY,Iz,ajZ]
 I:=fun t=>match t with|3=>are aax|4=>are aoo|5=>are aos|9=>are aow|22=>are aol|55=>are aou|25=>are aom|40=>are aop|34=>are aon|98=>are aoA|45=>are aoq|47=>are aor|52=>are aot|87=>are aov|90=>are aox|92=>are aoy|93=>are aoz|95=>are aay|150=>are anG|162=>are anH|166=>are ZY|194=>are anI|195=>are anJ|_=>ari
 A:=fun t=>match t with|154=>are amL|_=>ari
 Jw:=fun k v=>match k,v with|3,3=>are (B1 M0 QO)|3,4=>are (B1 M0 QP)|9,4=>are (B1 afx QP)|95,4=>are (B1 afy QP)|166,3=>are (B1 anZ QO)|_,_=>ari
 B:=fun t=>match t with|5=>are ab3|_=>ari
 Q:=fun t=>match t with|55=>are af7|98=>are af8|_=>ari
 F:=fun _ _ _=>arj
 C:=fun _ _ _ _ _=>ari
noncomputable def jR (N:Nat):cY bj:=cY.nil
noncomputable def Ld:bZ D:=⟨4,1,[.v 0 (.aE 3)],[],ari,0,[.o 2 (.box 52)],[(2, .box 0 0)],[.tmp 2],arj⟩
noncomputable def Sx (N:Nat):Ld.F:=fun r x=>Rn N x.1
theorem apT (N:Nat):b8 bj Ld (Sx N):=aI.fn (aI.nil:aI (jR N).aL (bF Tryz.f4)) Tryz.func4
noncomputable def SX (N:Nat):cY bj:=(jR N).du Ld (Sx N) (apT N)
noncomputable def KP:bZ D:=⟨16,1,[.v 0 (.int .i64)],[],ari,0,[.v 2 .str],[],[.tmp 2],arf⟩
noncomputable def R8 (N:Nat):KP.F:=fun r x=>xP N x.1
theorem apv (N:Nat):b8 bj KP (R8 N):=aI.fn (aI.nil:aI (SX N).aL (bF Tryz.f16)) Tryz.func16
noncomputable def JI (N:Nat):cY bj:=(SX N).du KP (R8 N) (apv N)
noncomputable def anj (N:Nat):aI (JI N).aL (bF Tryz.f11):=aI.aR aI.nil ⟨[1,1,0,1],[.o 0 (.recv 52), .v 5 (.int .i64), .v 11 .bool],[(0, .box 0 0)],[1],[⟨.normal,[.v 5 (.int .i64)],[]⟩],[0,1]⟩ fun x=>Io N x.1 x.2.1 x.2.2.1
noncomputable def ank (N:Nat):aI (JI N).aL (bF Tryz.f11):=aI.aR (anj N) ⟨[1,1,1,1,1,0,1],[.o 0 (.recv 52), .v 1 (.int .i64), .v 5 (.int .i64), .v 51 .bool],[(0, .box 0 0)],[1],[⟨.normal,[.v 5 (.int .i64)],[]⟩],[0]⟩ fun x=>Qq N x.2.1 x.2.2.1 x.2.2.2.1
noncomputable def KY:bZ D:=⟨11,2,[.v 1 (.int .i64)],[],are (0,52),2,[.v 4 (.int .i64), .u 0 (.recv 52)],[],[.tmp 4],arj⟩
noncomputable def Sh (N:Nat):KY.F:=fun r x=>lO N r x.1
theorem apE (N:Nat):b8 bj KY (Sh N):=aI.fn (ank N) Tryz.func11
noncomputable def S8 (N:Nat):cY bj:=(JI N).du KY (Sh N) (apE N)
noncomputable def KZ:bZ D:=⟨17,2,[.v 1 (.aE 3)],[],are (0,52),2,[.v 4 (.int .i64), .u 0 (.recv 52)],[],[.tmp 4],arj⟩
noncomputable def Si (N:Nat):KZ.F:=fun r x=>Ja N r x.1
theorem apF (N:Nat):b8 bj KZ (Si N):=aI.fn (aI.nil:aI (S8 N).aL (bF Tryz.f17)) Tryz.func17
noncomputable def Ti (N:Nat):cY bj:=(S8 N).du KZ (Si N) (apF N)
noncomputable def rG (N:Nat):oM bj:=(Ti N).aL.oS fun x bf af=>match x,bf,af with| .tmp 42,ari,are (.tmp 43)=>1| .tmp 45,are (.tmp 47),ari=>1| .tmp 80,ari,are (.tmp 83)=>2| .tmp 178,are (.const _),ari=>2|_,_,_=>0
noncomputable def al8 (N:Nat):aI (rG N) (bF Tryz.f5):=aI.aR aI.nil ⟨[1,1,1,0,1],[.o 0 (.recv 52), .o 5 (.aE 55), .o 6 (.aE 3), .v 17 .bool],[(0, .box 0 0),(5, .c (.own 1)),(6, .c (.own 2))],[1,1,0],[⟨.normal,[.o 6 (.aE 3)],[(6, .c (.own 3))]⟩],[0,1,5,7]⟩ fun x=>H9 N x.2.2.1 x.2.2.2.1
noncomputable def al' (N:Nat):aI (rG N) (bF Tryz.f5):=aI.aR (al8 N) ⟨[1,1,1,1,0,0,0,0,0],[.o 0 (.recv 52), .v 1 (.int .i64), .o 5 (.aE 55), .o 6 (.aE 3), .v 7 (.int .i64)],[(0, .box 0 0),(5, .c (.own 1)),(6, .c (.own 2))],[1,1,1],[⟨.normal,[.v 33 .bool],[]⟩],[0,1,5,6,7]⟩ fun x=>Ia N x.2.1 x.2.2.1 x.2.2.2.1 x.2.2.2.2.1
noncomputable def amb (N:Nat):aI (rG N) (bF Tryz.f5):=aI.aR (al' N) ⟨[1,1,1,1,0,0,0,1,0,1,1,1,1,0,1,0,0,1],[.o 0 (.recv 52), .o 5 (.aE 55), .o 6 (.aE 3), .o 10 (.box 55), .v 55 (.int .i64), .v 96 .bool],[(0, .box 0 0),(5, .c (.own 1)),(6, .c (.own 2)),(10, .box 3 0)],[1,1,1,1],[⟨.normal,[.v 96 .bool],[]⟩],[0,1,5,6,7,9,10,55]⟩ fun x=>Ic N x.2.2.2.2.1 x.2.2.2.2.2.1
noncomputable def amc (N:Nat):aI (rG N) (bF Tryz.f5):=aI.aR (amb N) ⟨[1,1,1,1,0,0,0,1,0,1,1,1,1,0,1,0,1,1,1,1,1,1,1,0],[.o 0 (.recv 52), .o 5 (.aE 55), .o 6 (.aE 3), .o 10 (.box 55)],[(0, .box 0 0),(5, .c (.own 1)),(6, .c (.own 2)),(10, .box 3 0)],[2,1,1,1],[⟨.normal,[.u 0 (.recv 52), .v 72 .bool],[]⟩],[0,1,5,6,7,10]⟩ fun x=>P6 N x.1 x.2.2.1
noncomputable def ama (N:Nat):aI (rG N) (bF Tryz.f5):=aI.aR (amc N) ⟨[1,1,1,1,0,0,0,1,0,1,1,1,1,0,1],[.o 0 (.recv 52), .o 5 (.aE 55), .o 6 (.aE 3), .v 7 (.int .i64), .v 9 (.int .i64), .o 10 (.box 55), .v 55 (.int .i64)],[(0, .box 0 0),(5, .c (.own 1)),(6, .c (.own 2)),(10, .box 3 0)],[2,1,0,2],[⟨.normal,[.u 0 (.recv 52), .o 6 (.aE 3), .v 7 (.int .i64), .u 3 (.box 55)],[(6, .c (.own 4))]⟩],[0,1,5,10]⟩ fun x=>Ib N x.1 x.2.2.1 x.2.2.2.1 x.2.2.2.2.1 x.2.2.2.2.2.1 x.2.2.2.2.2.2.1
noncomputable def al9 (N:Nat):aI (rG N) (bF Tryz.f5):=aI.ej (ama N) N ⟨[1,1,1,1,0,0],[.o 0 (.recv 52), .v 1 (.int .i64), .o 5 (.aE 55), .o 6 (.aE 3), .v 7 (.int .i64)],[(0, .box 0 0),(5, .c (.own 1)),(6, .c (.own 2))],[2,0,0],[⟨.exit 0,[.u 0 (.recv 52), .o 5 (.aE 55), .o 6 (.aE 3), .v 7 (.int .i64)],[(5, .c (.own 3)),(6, .c (.own 4))]⟩],[0]⟩ fun n x=>Dt N x.2.1 n x.1 x.2.2.1 x.2.2.2.1 x.2.2.2.2.1
noncomputable def ame (N:Nat):aI (rG N) (bF Tryz.f5):=aI.aR (al9 N) ⟨[1,1,1,1,1,0,0,0,0,0],[.o 0 (.recv 52), .o 5 (.aE 55), .o 6 (.aE 3), .v 7 (.int .i64)],[(0, .box 0 0),(5, .c (.own 1)),(6, .c (.own 2))],[1,1,1],[⟨.normal,[.v 161 .bool],[]⟩],[0,5,6,7]⟩ fun x=>Ie N x.2.1 x.2.2.1 x.2.2.2.1
noncomputable def amf (N:Nat):aI (rG N) (bF Tryz.f5):=aI.aR (ame N) ⟨[1,1,1,1,1,0,0,0,1,0,0,1],[.o 0 (.recv 52), .o 5 (.aE 55), .o 6 (.aE 3), .v 7 (.int .i64), .v 164 .bool],[(0, .box 0 0),(5, .c (.own 1)),(6, .c (.own 2))],[1,0,1],[⟨.normal,[.o 5 (.aE 55), .v 7 (.int .i64)],[(5, .c (.own 3))]⟩],[0,6]⟩ fun x=>Qm N x.2.1 x.2.2.1 x.2.2.2.1 x.2.2.2.2.1
noncomputable def amd (N:Nat):aI (rG N) (bF Tryz.f5):=aI.ej (amf N) N ⟨[1,1,1,1,1,0,0],[.o 0 (.recv 52), .o 5 (.aE 55), .o 6 (.aE 3), .v 7 (.int .i64)],[(0, .box 0 0),(5, .c (.own 1)),(6, .c (.own 2))],[2,0,0],[⟨.exit 3,[.u 0 (.recv 52), .o 5 (.aE 55)],[(5, .c (.own 3))]⟩],[0]⟩ fun n x=>Du N n x.1 x.2.1 x.2.2.1 x.2.2.2.1
noncomputable def KL:bZ D:=⟨5,2,[.v 1 (.int .i64)],[],are (0,52),2,[.o 4 (.aE 55), .u 0 (.recv 52)],[(4, .c (.own 1))],[.tmp 4],arj⟩
noncomputable def R3 (N:Nat):KL.F:=fun r x=>DY N r x.1
theorem apq (N:Nat):b8 bj KL (R3 N):=aI.fn (amd N) Tryz.func5
noncomputable def Tq (N:Nat):cY bj:=(Ti N).du KL (R3 N) (apq N)
noncomputable def ano (N:Nat):aI (Tq N).aL (bF Tryz.f21):=aI.aR aI.nil ⟨[1,0,1,0,0,1],[.o 1 (.box 55), .v 4 (.int .i64), .v 5 .bool],[(1, .box 0 0)],[1],[⟨.normal,[.v 5 .bool],[]⟩],[1,4]⟩ fun x=>Qs N x.2.1 x.2.2.1
noncomputable def K4:bZ D:=⟨21,1,[.v 0 (.agg 55)],[],ari,0,[.o 2 (.aE 3)],[(2, .c (.own 0))],[.tmp 2],arj⟩
noncomputable def Sn (N:Nat):K4.F:=fun r x=>xR N x.1
theorem apK (N:Nat):b8 bj K4 (Sn N):=aI.fn (ano N) Tryz.func21
noncomputable def Ei (N:Nat):cY bj:=(Tq N).du K4 (Sn N) (apK N)
noncomputable def anp (N:Nat):aI (Ei N).aL (bF Tryz.f82):=aI.aR aI.nil ⟨[1,0,0],[.v 0 .str],[],[],[⟨.normal,[.v 11 .bool],[]⟩],[0]⟩ fun x=>Qt N x.1
noncomputable def anr (N:Nat):aI (Ei N).aL (bF Tryz.f82):=aI.aR (anp N) ⟨[1,1,0,1,0,0,1,1,0,0,1,0],[.v 0 .str, .v 3 (.int .i64)],[],[],[⟨.normal,[.v 38 .bool],[]⟩],[0,13,14]⟩ fun x=>Iq N x.1 x.2.1
noncomputable def anq (N:Nat):aI (Ei N).aL (bF Tryz.f82):=aI.ej (anr N) N ⟨[1,1,0,1,0],[.v 0 .str, .v 13 (.int .i64), .v 14 (.int .i64)],[],[],[⟨.exit 0,[],[]⟩,⟨.ret,[.v 2 .bool],[]⟩],[]⟩ fun n x=>uT N x.1 x.2.1 n x.2.2.1
noncomputable def K5:bZ D:=⟨82,1,[.v 0 .str],[],ari,0,[.v 2 .bool],[],[.tmp 2],arf⟩
noncomputable def Sp (N:Nat):K5.F:=fun r x=>Jd N x.1
theorem apL (N:Nat):b8 bj K5 (Sp N):=aI.fn (anq N) Tryz.func82
noncomputable def rC (N:Nat):cY bj:=(Ei N).du K5 (Sp N) (apL N)
noncomputable def amH (N:Nat):aI (rC N).aL (bF Tryz.f50):=aI.aR aI.nil ⟨[1,1,0,0],[.o 1 (.box 55), .o 3 (.aE 3)],[(1, .box 0 0),(3, .c (.own 1))],[1,1],[⟨.normal,[.v 17 .bool],[]⟩],[1,3]⟩ fun x=>P0 N x.1 x.2.1
noncomputable def alU (N:Nat):aI (rC N).aL (bF Tryz.f50):=aI.aR (amH N) ⟨[1,1,1,0,1,0,0,1,1,0,0,1,0,0],[.o 1 (.box 55), .v 5 (.int .i64)],[(1, .box 0 0)],[1],[⟨.normal,[.v 30 .bool],[]⟩],[1,3,4,5,18,19,20]⟩ fun x=>P1 N x.2.1
noncomputable def alV (N:Nat):aI (rC N).aL (bF Tryz.f50):=aI.ej (alU N) N ⟨[1,1,1,0,1,0,0,1,1,0,0,1,1,1,0],[.o 1 (.box 55), .v 5 (.int .i64), .v 33 (.aE 3), .v 34 (.int .i64), .v 35 (.int .i64)],[(1, .box 0 0)],[1],[⟨.exit 2,[],[]⟩,⟨.ret,[.v 2 .bool],[]⟩],[1,3,18,19,20]⟩ fun n x=>sH N x.2.1 x.2.2.1 x.2.2.2.1 n x.2.2.2.2.1
noncomputable def alT (N:Nat):aI (rC N).aL (bF Tryz.f50):=aI.ej (alV N) N ⟨[1,1,1,0,1,0],[.o 1 (.box 55), .v 3 (.aE 3), .v 18 (.aE 3), .v 19 (.int .i64), .v 20 (.int .i64)],[(1, .box 0 0)],[1],[⟨.exit 0,[],[]⟩,⟨.ret,[.v 2 .bool],[]⟩],[1]⟩ fun n x=>sG N x.2.1 x.2.2.1 x.2.2.2.1 n x.2.2.2.2.1
noncomputable def alW (N:Nat):aI (rC N).aL (bF Tryz.f50):=aI.aR (alT N) ⟨[1,1,1,1,0,1,0,0],[.o 1 (.box 55)],[(1, .box 0 0)],[1],[⟨.normal,[.v 2 .bool],[]⟩],[]⟩ fun x=>P2 N x.1
noncomputable def alX (N:Nat):aI (rC N).aL (bF Tryz.f50):=aI.aR (alW N) ⟨[1,1,1,1,1,0],[.o 1 (.box 55)],[(1, .box 0 0)],[1],[⟨.normal,[.v 2 .bool],[]⟩],[]⟩ fun x=>P3 N x.1
noncomputable def KJ:bZ D:=⟨50,1,[.v 0 (.agg 55)],[],ari,0,[.v 2 .bool],[],[.tmp 2],arf⟩
noncomputable def Jo (N:Nat):KJ.F:=fun r x=>I4 N x.1
theorem apm (N:Nat):b8 bj KJ (Jo N):=aI.fn (alX N) Tryz.func50
noncomputable def amq (N:Nat):aI (rC N).aL (bF Tryz.f21):=aI.aR aI.nil ⟨[1,0,1,0,0,1],[.o 1 (.box 55), .v 4 (.int .i64), .v 5 .bool],[(1, .box 0 0)],[1],[⟨.normal,[.v 5 .bool],[]⟩],[1,4]⟩ fun x=>PX N x.2.1 x.2.2.1
noncomputable def KB:bZ D:=⟨21,1,[.v 0 (.agg 55)],[],ari,0,[],[(2, .c .fH)],[.tmp 2],arj⟩
noncomputable def RT (N:Nat):KB.F:=fun r x=>I0 N x.1
theorem apd (N:Nat):b8 bj KB (RT N):=aI.fn (amq N) Tryz.func21
noncomputable def Es (N:Nat):oM bj:=(rC N).sub KB (RT N) (apd N)
noncomputable def amD (N:Nat):aI (Es N) (bF Tryz.f50):=aI.aR aI.nil ⟨[1,1,0,0],[.o 1 (.box 55)],[(1, .box 0 0),(3, .c .fH)],[1],[⟨.normal,[.v 17 .bool],[]⟩],[1,3]⟩ fun x=>PZ N
noncomputable def amE (N:Nat):aI (Es N) (bF Tryz.f50):=aI.ej (amD N) N ⟨[1,1,1,0,1,0],[.o 1 (.box 55), .v 19 (.int .i64), .v 20 (.int .i64)],[(1, .box 0 0),(3, .c .fH),(18, .c .fH)],[1],[⟨.exit 0,[],[]⟩],[1]⟩ fun n x=>aag N x.2.1 n x.2.2.1
noncomputable def amF (N:Nat):aI (Es N) (bF Tryz.f50):=aI.aR (amE N) ⟨[1,1,1,1,0,1,0,0],[.o 1 (.box 55)],[(1, .box 0 0)],[1],[⟨.normal,[.v 2 .bool],[]⟩],[]⟩ fun x=>aah N x.1
noncomputable def amG (N:Nat):aI (Es N) (bF Tryz.f50):=aI.aR (amF N) ⟨[1,1,1,1,1,0],[.o 1 (.box 55)],[(1, .box 0 0)],[1],[⟨.normal,[.v 2 .bool],[]⟩],[]⟩ fun x=>aai N x.1
noncomputable def TU:bZ D:=⟨50,1,[.v 0 (.agg 55)],[],ari,0,[.v 2 .bool],[],[.tmp 2],arf⟩
noncomputable def Jn (N:Nat):TU.F:=fun r x=>Rj N x.1
theorem apl (N:Nat):b8 bj TU (Jn N):=aI.fn (amG N) Tryz.func50
noncomputable def KT:bZ D:=KJ
noncomputable def Sc (N:Nat):KT.F:=fun r x=>F5 (Jn N r x) (Jo N r x)
theorem apz (N:Nat):b8 bj KT (Sc N):=b8.or (As:=Jn N) (Au:=Jo N) rfl (fun r x y h=>alD h) (apl N) (apm N)
noncomputable def JN (N:Nat):cY bj:=(rC N).du KT (Sc N) (apz N)
noncomputable def anf (N:Nat):aI (JN N).aL (bF Tryz.f18):=aI.ej aI.nil N ⟨[1,1,1,1,0,1,0,0,1,1,0,0,1,1,1,1,1,0],[.o 3 (.map 150 9 4), .o 4 (.map 87 3 3), .o 31 (.aE 3), .v 32 (.int .i64), .v 33 (.int .i64)],[(3, .c (.own 0)),(4, .c (.own 1)),(31, .c (.own 2))],[1,2,1],[⟨.exit 2,[.u 1 (.map 87 3 3)],[]⟩,⟨.ret,[.v 2 (.int .i64)],[]⟩],[3,4,14,15,16]⟩ fun n x=>sL N x.2.2.1 x.2.2.2.1 n x.2.1 x.2.2.2.2.1
noncomputable def ane (N:Nat):aI (JN N).aL (bF Tryz.f18):=aI.ej (anf N) N ⟨[1,1,1,1,0,1,0],[.o 3 (.map 150 9 4), .o 4 (.map 87 3 3), .v 14 (.aE 55), .v 15 (.int .i64), .v 16 (.int .i64)],[(3, .c (.own 0)),(4, .c (.own 1))],[0,0],[⟨.exit 0,[],[]⟩,⟨.ret,[.v 2 (.int .i64)],[]⟩],[]⟩ fun n x=>zK N x.2.2.1 x.2.2.2.1 n x.1 x.2.1 x.2.2.2.2.1
noncomputable def EK:bZ D:=⟨18,1,[.v 0 (.aE 55)],[],ari,0,[.v 2 (.int .i64)],[],[.tmp 2],arf⟩
noncomputable def Jp (N:Nat):EK.F:=fun r x=>pu N x.1
theorem aaL (N:Nat):b8 bj EK (Jp N):=aI.fn (ane N) Tryz.func18
noncomputable def abE (N:Nat):cY bj:=(JN N).du EK (Jp N) (aaL N)
noncomputable def EJ:bZ D:=⟨6,1,[.v 0 (.aE 55)],[],ari,0,[.v 2 .str, .v 3 (.int .i64)],[],[.tmp 2, .tmp 3],arf⟩
noncomputable def R5 (N:Nat):EJ.F:=fun r x=>va N x.1
theorem agz (N:Nat) (x:dD D [.v 0 (.aE 55)]) (y:j3 D [.v 2 .str, .v 3 (.int .i64)]) (sv:aN D) (w:arh) {z:Nat->aV} {m:Mem} {args:List arh} {fr:Nat->arh} (bM:va N x.1=are y) (aq:s5 (fO bj [.v 2 .str, .v 3 (.int .i64)] (eK [.v 2 .str, .v 3 (.int .i64)] y)) (j6 mw [.tmp 2, .tmp 3])=are sv) (hw:uM sv=are w) (ar:Dc bj EJ x args z m fr):
  fR Tryz.prog 6 args.toArray m fun v m'=>v=w/\m'=m:=by
 obtain ⟨xs,u⟩:=x;obtain ⟨h1,J,aj,aJ⟩:=ar;obtain ⟨a,rfl⟩:=ajb h1;have EM:rel bj.G z [] (.c (.aE 55 xs)) a:=by rw[<-J 0 a rfl];exact aJ (0, .c (.aE 55 xs)) arS
 have bM:va N xs=are y:=bM;unfold va at bM;obtain ⟨e,he,bM⟩:=bind_some bM;split at bM
 ·rename_i ad;obtain ⟨rfl,cy⟩:=ad;cases bM;cases aq;cases hw;have AW:EK.call bj (Jp N) [.c (.aE 55 xs)] [] (fun sv _=>are sv)=ark (pu N xs) fun y=>are (.c (.int .i64 y)):=by kernel_rfl
  rw[he] at AW;have ho:bj.G.T 55=Eo:=rfl;have dm:dW Eo z xs a:=EM;refine fR.sort (by kernel_rfl) (.ext _ rfl fun j wd fU ac5 ba c9=> ?_) ⟨rfl,rfl⟩;obtain ⟨aS,rfl,aa⟩:=aid c9;refine ajM cy (fun i x cs h=> ?_) aj dm ba aa ?_
  ·obtain ⟨k,fy,a,b,c,d⟩:=x
   match cs,h with
   |[_,_,_,_,_,_],⟨rfl,rfl,rfl,rfl,rfl,rfl,_⟩=>rfl
  ·exact b8.alE (by kernel_rfl) (aaL N) rfl aj (bA:=[.c (.aE 55 xs)]) (args:=[a]) ⟨EM,trivial⟩ (u:= .int .i64 0) rfl AW ac5 ba c9
 ·cases bM
theorem aps (N:Nat):b8 bj EJ (R5 N):=Jm.flat (outs:=[.v 2 .str, .v 3 (.int .i64)]) (kK:=[.tmp 2, .tmp 3]) (f:=6) (np:=1) (fx:=[]) (fun (x:dD D [.v 0 (.aE 55)])=>va N x.1) (agz N)
noncomputable def abB (N:Nat):cY bj:=(abE N).du EJ (R5 N) (aps N)
noncomputable def EH:bZ D:=⟨24,2,[.v 0 .str, .v 1 .str],[],ari,0,[.o 4 (.aE 9)],[(4, .c (.own 0))],[.tmp 4],arj⟩
noncomputable def R2 (N:Nat):EH.F:=fun r x=>rl N x.1 x.2.1
theorem ahl (N:Nat) (x:dD D [.v 0 .str, .v 1 .str]) (y:List (D 9)) {z:Nat->aV} {m:Mem} {args:List arh} {fr:Nat->arh} (bM:rl N x.1 x.2.1=are y) (ar:Dc bj EH x args z m fr):
  ∃cs:List arh,y.length<bT/\y.length*(bj.G.T 9).aW<=cs.length/\(∀(i:Nat) (a:D 9),y[i]? =are a->∃ds,(bj.G.T 9).rd z a ds/\aQ.om cs (i*(bj.G.T 9).aW) ds)/\
   fR Tryz.prog 24 args.toArray m fun v m'=>v= .slice (are ⟨m.next,0,ari⟩) y.length y.length/\m'=m.push (.own cs (bj.G.T 9).tid):=by
 obtain ⟨s,c,u⟩:=x;obtain ⟨h1,J,aj,aJ⟩:=ar;obtain ⟨a,b,rfl⟩:=aiC h1;have EM:a=aQ.str s:=(J 0 a rfl).symm.trans (aJ (0, .c (.str s)) arS);have acf:b=aQ.str c:=(J 1 b rfl).symm.trans (aJ (1, .c (.str c)) (arK _ arS));subst EM acf;unfold rl at bM;split at bM
 ·rename_i ad;cases bM;obtain ⟨g1,g2⟩:=ag0 (s:=s) (c:=c) ad.1 ad.2 m;refine ⟨(asp s c).map aQ.str,g1,by rw[ar9];exact Nat.le_of_eq (atP _),fun i a af=>⟨[aQ.str a],⟨rfl,trivial⟩,fun j u ap=> ?_⟩,g2⟩;cases j with
  |zero=>cases ap;show ((asp s c).map aQ.str)[i*1+0]? =_;rw[atP,ar3,ar4];exact congrArg (Option.map aQ.str) af
  |succ j=>cases ap
 ·cases bM
theorem apo (N:Nat):b8 bj EH (R2 N):=Jm.fresh (t:=9) (s:=4) (f:=24) (np:=2) (fx:=[]) (fun (x:dD D [.v 0 .str, .v 1 .str])=>rl N x.1 x.2.1) (ahl N)
noncomputable def SY (N:Nat):cY bj:=(abB N).du EH (R2 N) (apo N)
noncomputable def K7:bZ D:=⟨19,1,[.v 0 (.int .i64)],[],ari,0,[.v 2 .str, .v 3 (.int .i64)],[],[.tmp 2, .tmp 3],arf⟩
noncomputable def Sr (N:Nat):K7.F:=fun r x=>aa6 N x.1
theorem apN (N:Nat):b8 bj K7 (Sr N):=aI.fn (aI.nil:aI (SY N).aL (bF Tryz.f19)) Tryz.func19
noncomputable def Ee (N:Nat):cY bj:=(SY N).du K7 (Sr N) (apN N)
noncomputable def alK (N:Nat):aI (Ee N).aL (bF Tryz.f54):=aI.aR aI.nil ⟨[1,0,0],[.v 0 .str],[],[],[⟨.normal,[.v 21 .bool],[]⟩],[0]⟩ fun x=>HJ N x.1
noncomputable def alM (N:Nat):aI (Ee N).aL (bF Tryz.f54):=aI.aR (alK N) ⟨[1,1,1,0,1,0,0,1,1,0,0,1,0,0],[.v 0 .str, .v 5 (.int .i64)],[],[],[⟨.normal,[.v 36 .bool],[]⟩],[0,4,5,23,24]⟩ fun x=>HK N x.1 x.2.1
noncomputable def alL (N:Nat):aI (Ee N).aL (bF Tryz.f54):=aI.ej (alM N) N ⟨[1,1,1,0,1,0],[.v 0 .str, .v 4 (.int .i64), .v 23 (.int .i64), .v 24 (.int .i64)],[],[],[⟨.exit 0,[.v 4 (.int .i64)],[]⟩,⟨.ret,[.v 2 (.int .i64), .v 3 .bool],[]⟩],[]⟩ fun n x=>xk N x.1 x.2.2.1 n x.2.1 x.2.2.2.1
noncomputable def KN:bZ D:=⟨54,1,[.v 0 .str],[],ari,0,[.v 2 (.int .i64), .v 3 .bool],[],[.tmp 2, .tmp 3],arf⟩
noncomputable def R6 (N:Nat):KN.F:=fun r x=>oK N x.1
theorem apt (N:Nat):b8 bj KN (R6 N):=aI.fn (alL N) Tryz.func54
noncomputable def xZ (N:Nat):cY bj:=(Ee N).du KN (R6 N) (apt N)
noncomputable def ant (N:Nat):aI (xZ N).aL (bF Tryz.f25):=aI.aR aI.nil ⟨[1,1,1,1,0,1,0,0,1,0],[.o 2 (.box 55), .o 4 (.aE 9), .o 5 (.box 55), .v 6 (.int .i64), .v 7 (.int .i64)],[(2, .box 0 0),(4, .c (.own 1)),(5, .box 2 0)],[1,1,2],[⟨.normal,[.u 2 (.box 55), .v 6 (.int .i64)],[]⟩],[2,4,5,7]⟩ fun x=>aaj N x.2.1 x.2.2.1 x.2.2.2.1 x.2.2.2.2.1
noncomputable def ans (N:Nat):aI (xZ N).aL (bF Tryz.f25):=aI.ej (ant N) N ⟨[1,1,1,1,0,1,0],[.o 2 (.box 55), .o 4 (.aE 9), .o 5 (.box 55), .v 6 (.int .i64), .v 7 (.int .i64)],[(2, .box 0 0),(4, .c (.own 1)),(5, .box 2 0)],[1,1,2],[⟨.exit 0,[.u 2 (.box 55), .v 6 (.int .i64)],[]⟩],[2,4,5]⟩ fun n x=>Ir N x.2.1 n x.2.2.1 x.2.2.2.1 x.2.2.2.2.1
noncomputable def anu (N:Nat):aI (xZ N).aL (bF Tryz.f25):=aI.aR (ans N) ⟨[1,1,1,1,1,0,0],[.o 2 (.box 55), .o 4 (.aE 9), .o 5 (.box 55), .v 6 (.int .i64)],[(2, .box 0 0),(4, .c (.own 1)),(5, .box 2 0)],[1,1,1],[⟨.normal,[.v 48 .bool],[]⟩],[2,4,5,6]⟩ fun x=>uU N x.2.1 x.2.2.1 x.2.2.2.1
noncomputable def anv (N:Nat):aI (xZ N).aL (bF Tryz.f25):=aI.ej (anu N) N ⟨[1,1,1,1,1,1,1,0,1,0],[.o 2 (.box 55), .o 4 (.aE 9), .o 5 (.box 55), .o 10 (.arr 3 154 3), .v 50 (.int .i64), .v 51 (.int .i64)],[(2, .box 0 0),(4, .c (.own 1)),(5, .box 2 0),(10, .arr 3)],[2,1,1,2],[⟨.exit 2,[.u 0 (.box 55), .u 3 (.arr 3 154 3)],[]⟩,⟨.ret,[.u 0 (.box 55), .v 3 .bool],[]⟩],[2,4,5,10]⟩ fun n x=>sN N x.2.1 x.2.2.1 x.2.2.2.2.1 n x.1 x.2.2.2.1 x.2.2.2.2.2.1
noncomputable def anw (N:Nat):aI (xZ N).aL (bF Tryz.f25):=aI.aR (anv N) ⟨[1,1,1,1,1,1,1,1,1,0,1],[.o 2 (.box 55), .o 5 (.box 55), .o 10 (.arr 3 154 3), .v 82 .bool],[(2, .box 0 0),(5, .box 1 0),(10, .arr 2)],[1,2,1],[⟨.normal,[.u 1 (.box 55)],[]⟩],[2,5]⟩ fun x=>aak N x.2.1 x.2.2.1 x.2.2.2.1
noncomputable def K6:bZ D:=⟨25,1,[.v 0 .str],[],ari,0,[.v 1000000 (.agg 55), .v 3 .bool],[],[.cell 2 55, .tmp 3],arf⟩
noncomputable def Sq (N:Nat):K6.F:=fun r x=>Je N x.1
theorem apM (N:Nat):b8 bj K6 (Sq N):=aI.fn (anw N) Tryz.func25
noncomputable def JE (N:Nat):cY bj:=(xZ N).du K6 (Sq N) (apM N)
noncomputable def anb (N:Nat):aI (JE N).aL (bF Tryz.f7):=aI.aR aI.nil ⟨[1,1,1,0,1],[.o 5 (.aE 9), .v 21 .bool],[(5, .c (.own 0))],[0],[⟨.normal,[.v 5 (.aE 9)],[]⟩],[2]⟩ fun x=>Im N x.1 x.2.1
noncomputable def anc (N:Nat):aI (JE N).aL (bF Tryz.f7):=aI.ej (anb N) N ⟨[1,1,1,1,0,1,0],[.o 2 (.aE 55), .v 27 (.aE 9), .v 28 (.int .i64), .v 29 (.int .i64)],[(2, .c (.own 0))],[0],[⟨.exit 0,[.o 2 (.aE 55)],[(2, .c (.own 1))]⟩,⟨.ret,[.v 3 (.int .i64), .v 4 (.int .i64)],[(2, .c .fH)]⟩],[]⟩ fun n x=>xl N x.2.1 x.2.2.1 n x.1 x.2.2.2.1
noncomputable def KS:bZ D:=⟨7,1,[.v 0 .str],[],ari,0,[.o 2 (.aE 55), .v 3 (.int .i64), .v 4 (.int .i64)],[(2, .c (.own 0))],[.tmp 2, .tmp 3, .tmp 4],arj⟩
noncomputable def Sb (N:Nat):KS.F:=fun r x=>I8 N x.1
theorem apy (N:Nat):b8 bj KS (Sb N):=aI.fn (anc N) Tryz.func7
noncomputable def SZ (N:Nat):cY bj:=(JE N).du KS (Sb N) (apy N)
noncomputable def aly (N:Nat):aI (SZ N).aL (bF Tryz.f8):=aI.ej aI.nil N ⟨[1,1,0,1,0],[.v 0 (.aE 55), .v 1 (.aE 55), .v 5 (.int .i64)],[],[],[⟨.exit 0,[],[]⟩,⟨.ret,[.v 4 .bool],[]⟩],[]⟩ fun n x=>sZ N x.1 x.2.1 n x.2.2.1
noncomputable def Kp:bZ D:=⟨8,2,[.v 0 (.aE 55), .v 1 (.aE 55)],[],ari,0,[.v 4 .bool],[],[.tmp 4],arf⟩
noncomputable def RG (N:Nat):Kp.F:=fun r x=>IX N x.1 x.2.1
theorem ao2 (N:Nat):b8 bj Kp (RG N):=aI.fn (aly N) Tryz.func8
noncomputable def JF (N:Nat):cY bj:=(SZ N).du Kp (RG N) (ao2 N)
noncomputable def amv (N:Nat):aI (JF N).aL (bF Tryz.f26):=aI.aR aI.nil ⟨[1,1,0,1,0,0,1,0],[.v 0 (.aE 55), .o 3 (.aE 3), .v 4 (.int .i64)],[(3, .c (.own 0))],[0],[⟨.normal,[.o 3 (.aE 3)],[(3, .c (.own 1))]⟩],[0,4]⟩ fun x=>PY N x.1 x.2.1 x.2.2.1
noncomputable def amu (N:Nat):aI (JF N).aL (bF Tryz.f26):=aI.ej (amv N) N ⟨[1,1,0,1,0],[.v 0 (.aE 55), .o 3 (.aE 3), .v 4 (.int .i64)],[(3, .c (.own 0))],[0],[⟨.exit 0,[.o 3 (.aE 3)],[(3, .c (.own 1))]⟩],[]⟩ fun n x=>zU N x.1 n x.2.1 x.2.2.1
noncomputable def KD:bZ D:=⟨26,1,[.v 0 (.aE 55)],[],ari,0,[.o 2 (.aE 3)],[(2, .c (.own 0))],[.tmp 2],arj⟩
noncomputable def RV (N:Nat):KD.F:=fun r x=>I1 N x.1
theorem apf (N:Nat):b8 bj KD (RV N):=aI.fn (amu N) Tryz.func26
noncomputable def JG (N:Nat):cY bj:=(JF N).du KD (RV N) (apf N)
noncomputable def amY (N:Nat):aI (JG N).aL (bF Tryz.f27):=aI.aR aI.nil ⟨[1,0,0],[.v 0 (.aE 55), .v 1 (.int .i64)],[],[],[⟨.normal,[.v 12 .bool],[]⟩],[0,1]⟩ fun x=>Qv N x.1 x.2.1
noncomputable def amZ (N:Nat):aI (JG N).aL (bF Tryz.f27):=aI.aR (amY N) ⟨[1,1,0,1,0,0,1],[.v 17 (.int .i64), .v 18 .bool],[],[],[⟨.normal,[.v 18 .bool],[]⟩],[0,1,17]⟩ fun x=>Qw N x.1 x.2.1
noncomputable def Lb:bZ D:=⟨27,2,[.v 0 (.aE 55), .v 1 (.int .i64)],[],ari,0,[.o 4 (.aE 3)],[(4, .c (.own 0))],[.tmp 4],arj⟩
noncomputable def Sv (N:Nat):Lb.F:=fun r x=>An N x.1 x.2.1
theorem apR (N:Nat):b8 bj Lb (Sv N):=aI.fn (amZ N) Tryz.func27
noncomputable def S0 (N:Nat):cY bj:=(JG N).du Lb (Sv N) (apR N)
noncomputable def am0 (N:Nat):aI (S0 N).aL (bF Tryz.f55):=aI.ej aI.nil N ⟨[1,0,1,0],[.v 0 (.aE 3), .v 1 (.int .i64), .v 5 (.int .i64)],[],[],[⟨.exit 0,[],[]⟩,⟨.ret,[.v 4 .bool],[]⟩],[]⟩ fun n x=>uW N x.1 x.2.1 n x.2.2.1
noncomputable def Le:bZ D:=⟨55,2,[.v 0 (.aE 3), .v 1 (.int .i64)],[],ari,0,[.v 4 .bool],[],[.tmp 4],arf⟩
noncomputable def Sy (N:Nat):Le.F:=fun r x=>D2 N x.1 x.2.1
theorem apU (N:Nat):b8 bj Le (Sy N):=aI.fn (am0 N) Tryz.func55
noncomputable def JH (N:Nat):cY bj:=(S0 N).du Le (Sy N) (apU N)
noncomputable def alZ (N:Nat):aI (JH N).aL (bF Tryz.f28):=aI.aR aI.nil ⟨[1,0,1,0,0,1,0,0,0],[.v 0 (.aE 55), .v 1 (.int .i64), .v 2 (.int .i64), .v 7 (.int .i64)],[],[],[⟨.normal,[.v 23 .bool],[]⟩],[0,1,2,7]⟩ fun x=>P4 N x.1 x.2.1 x.2.2.1 x.2.2.2.1
noncomputable def alY (N:Nat):aI (JH N).aL (bF Tryz.f28):=aI.ej (alZ N) N ⟨[1,0,1,0],[.v 0 (.aE 55), .v 1 (.int .i64), .v 2 (.int .i64), .v 7 (.int .i64)],[],[],[⟨.exit 0,[],[]⟩,⟨.ret,[.v 6 (.int .i64)],[]⟩],[]⟩ fun n x=>uS N x.1 x.2.1 x.2.2.1 n x.2.2.2.1
noncomputable def KK:bZ D:=⟨28,3,[.v 0 (.aE 55), .v 1 (.int .i64), .v 2 (.int .i64)],[],ari,0,[.v 6 (.int .i64)],[],[.tmp 6],arf⟩
noncomputable def R1 (N:Nat):KK.F:=fun r x=>DX N x.1 x.2.1 x.2.2.1
theorem apn (N:Nat):b8 bj KK (R1 N):=aI.fn (alY N) Tryz.func28
noncomputable def S1 (N:Nat):cY bj:=(JH N).du KK (R1 N) (apn N)
noncomputable def KU:bZ D:=⟨29,3,[.v 0 (.aE 55), .v 1 (.int .i64), .v 2 (.int .i64)],[],ari,0,[.o 6 (.aE 3)],[(6, .c (.own 0))],[.tmp 6],arj⟩
noncomputable def Sd (N:Nat):KU.F:=fun r x=>I9 N x.1 x.2.1 x.2.2.1
theorem apA (N:Nat):b8 bj KU (Sd N):=aI.fn (aI.nil:aI (S1 N).aL (bF Tryz.f29)) Tryz.func29
noncomputable def JJ (N:Nat):cY bj:=(S1 N).du KU (Sd N) (apA N)
noncomputable def alO (N:Nat):aI (JJ N).aL (bF Tryz.f9):=aI.aR aI.nil ⟨[1,1,1,1,1,1,0,1,0,0,1,0,0,1,1,1,1,0,0],[.o 0 (.recv 52), .v 1 (.aE 55), .o 6 (.box 40), .o 8 (.aE 40), .v 10 (.int .i64), .o 11 (.aE 3)],[(0, .box 0 0),(6, .box 1 0),(8, .c (.own 2)),(11, .c (.own 3))],[2,1,1,1],[⟨.normal,[.u 0 (.recv 52), .v 76 .bool],[]⟩],[0,1,6,8,9,11]⟩ fun x=>HL N x.1 x.2.1 x.2.2.2.2.1 x.2.2.2.2.2.1
noncomputable def alN (N:Nat):aI (JJ N).aL (bF Tryz.f9):=aI.ej (alO N) N ⟨[1,1,1,1,1,1,0,1,0],[.o 0 (.recv 52), .v 1 (.aE 55), .o 6 (.box 40), .o 8 (.aE 40), .v 9 (.int .i64)],[(0, .box 0 0),(6, .box 1 0),(8, .c (.own 2))],[2,0,0],[⟨.exit 0,[.u 0 (.recv 52), .o 8 (.aE 40)],[(8, .c (.own 3))]⟩,⟨.ret,[.u 0 (.recv 52), .o 4 (.aE 40)],[(4, .c (.own 3))]⟩],[0]⟩ fun n x=>sI N x.2.1 n x.1 x.2.2.1 x.2.2.2.1 x.2.2.2.2.1
noncomputable def KO:bZ D:=⟨9,2,[.v 1 (.aE 55)],[],are (0,52),2,[.o 4 (.aE 40), .u 0 (.recv 52)],[(4, .c (.own 1))],[.tmp 4],arj⟩
noncomputable def R7 (N:Nat):KO.F:=fun r x=>I7 N r x.1
theorem apu (N:Nat):b8 bj KO (R7 N):=aI.fn (alN N) Tryz.func9
noncomputable def S2 (N:Nat):cY bj:=(JJ N).du KO (R7 N) (apu N)
noncomputable def anh (N:Nat):aI (S2 N).aL (bF Tryz.f59):=aI.aR aI.nil ⟨[1,0],[.v 0 (.aE 55), .v 1 (.int .i64)],[],[],[⟨.normal,[.v 4 .bool],[]⟩],[]⟩ fun x=>Qp N x.1 x.2.1
noncomputable def KW:bZ D:=⟨59,2,[.v 0 (.aE 55), .v 1 (.int .i64)],[],ari,0,[.v 4 .bool],[],[.tmp 4],arf⟩
noncomputable def Sf (N:Nat):KW.F:=fun r x=>xQ N x.1 x.2.1
theorem apC (N:Nat):b8 bj KW (Sf N):=aI.fn (anh N) Tryz.func59
noncomputable def S3 (N:Nat):cY bj:=(S2 N).du KW (Sf N) (apC N)
noncomputable def ann (N:Nat):aI (S3 N).aL (bF Tryz.f61):=aI.aR aI.nil ⟨[1,0,0],[.v 0 (.aE 55), .v 1 (.int .i64)],[],[],[⟨.normal,[.v 12 .bool],[]⟩],[0,1]⟩ fun x=>Qr N x.1 x.2.1
noncomputable def K3:bZ D:=⟨61,2,[.v 0 (.aE 55), .v 1 (.int .i64)],[],ari,0,[.o 4 (.aE 3)],[(4, .c (.own 0))],[.tmp 4],arj⟩
noncomputable def Sm (N:Nat):K3.F:=fun r x=>vb N x.1 x.2.1
theorem apJ (N:Nat):b8 bj K3 (Sm N):=aI.fn (ann N) Tryz.func61
noncomputable def S4 (N:Nat):cY bj:=(S3 N).du K3 (Sm N) (apJ N)
noncomputable def alm (N:Nat):aI (S4 N).aL (bF Tryz.f121):=aI.ej aI.nil N ⟨[1,0,1,0],[.v 0 (.aE 3), .v 1 (.int .i64), .v 7 (.int .i64), .v 8 (.int .i64)],[],[],[⟨.exit 0,[],[]⟩,⟨.ret,[.v 4 (.int .i64)],[]⟩],[]⟩ fun n x=>uQ N x.1 x.2.1 x.2.2.1 n x.2.2.2.1
noncomputable def Km:bZ D:=⟨121,2,[.v 0 (.aE 3), .v 1 (.int .i64)],[],ari,0,[.v 4 (.int .i64)],[],[.tmp 4],arf⟩
noncomputable def RD (N:Nat):Km.F:=fun r x=>Rh N x.1 x.2.1
theorem aoZ (N:Nat):b8 bj Km (RD N):=aI.fn (alm N) Tryz.func121
noncomputable def S5 (N:Nat):cY bj:=(S4 N).du Km (RD N) (aoZ N)
noncomputable def Kk:bZ D:=⟨95,2,[.v 0 (.aE 3), .v 1 (.int .i64)],[],ari,0,[.v 4 .bool],[],[.tmp 4],arf⟩
noncomputable def RB (N:Nat):Kk.F:=fun r x=>Al N x.1 x.2.1
theorem aoX (N:Nat):b8 bj Kk (RB N):=aI.fn (aI.nil:aI (S5 N).aL (bF Tryz.f95)) Tryz.func95
noncomputable def Ef (N:Nat):cY bj:=(S5 N).du Kk (RB N) (aoX N)
noncomputable def amk (N:Nat):aI (Ef N).aL (bF Tryz.f40):=aI.ej aI.nil N ⟨[1,0,1,0,0,1,1,0,0,1,1,1,0],[.v 2 (.int .i64), .v 7 (.int .i64), .o 22 (.aE 3), .v 23 (.int .i64), .v 24 (.int .i64)],[(22, .c (.own 0))],[1],[⟨.exit 2,[],[]⟩,⟨.ret,[.v 6 (.int .i64)],[]⟩],[1,2,11,12,13]⟩ fun n x=>s3 N x.1 x.2.1 x.2.2.1 x.2.2.2.1 n x.2.2.2.2.1
noncomputable def amj (N:Nat):aI (Ef N).aL (bF Tryz.f40):=aI.aR (amk N) ⟨[1,0,1,0,0,1,1,0],[.v 1 (.int .i64), .v 2 (.int .i64), .v 11 (.aE 55), .v 13 (.int .i64)],[],[],[⟨.normal,[],[]⟩,⟨.ret,[.v 6 (.int .i64)],[]⟩],[1,2,11,12,13]⟩ fun x=>Qf N x.1 x.2.1 x.2.2.1 x.2.2.2.1
noncomputable def ami (N:Nat):aI (Ef N).aL (bF Tryz.f40):=aI.ej (amj N) N ⟨[1,0,1,0],[.v 1 (.int .i64), .v 2 (.int .i64), .v 11 (.aE 55), .v 12 (.int .i64), .v 13 (.int .i64)],[],[],[⟨.exit 0,[],[]⟩,⟨.ret,[.v 6 (.int .i64)],[]⟩],[]⟩ fun n x=>uR N x.1 x.2.1 x.2.2.1 x.2.2.2.1 n x.2.2.2.2.1
noncomputable def Kx:bZ D:=⟨40,3,[.v 0 (.aE 55), .v 1 (.int .i64), .v 2 (.int .i64)],[],ari,0,[.v 6 (.int .i64)],[],[.tmp 6],arf⟩
noncomputable def RP (N:Nat):Kx.F:=fun r x=>u9 N x.1 x.2.1 x.2.2.1
theorem ao' (N:Nat):b8 bj Kx (RP N):=aI.fn (ami N) Tryz.func40
noncomputable def S6 (N:Nat):cY bj:=(Ef N).du Kx (RP N) (ao' N)
noncomputable def amC (N:Nat):aI (S6 N).aL (bF Tryz.f63):=aI.ej aI.nil N ⟨[1,1,0,1,0],[.v 2 (.int .i64), .o 7 (.aE 3), .v 14 (.int .i64), .v 15 (.int .i64)],[(7, .c (.own 0)),(13, .c (.own 0))],[0],[⟨.exit 0,[],[]⟩,⟨.ret,[.v 6 (.aE 3)],[]⟩],[]⟩ fun n x=>me N x.1 x.2.2.1 n x.2.1 x.2.2.2.1
noncomputable def KI:bZ D:=⟨63,3,[.v 0 (.aE 55), .v 1 (.int .i64), .v 2 (.int .i64)],[],ari,0,[.v 6 (.aE 3)],[],[.tmp 6],arj⟩
noncomputable def R0 (N:Nat):KI.F:=fun r x=>xO N x.1 x.2.1 x.2.2.1
theorem apk (N:Nat):b8 bj KI (R0 N):=aI.fn (amC N) Tryz.func63
noncomputable def x1 (N:Nat):cY bj:=(S6 N).du KI (R0 N) (apk N)
noncomputable def amT (N:Nat):aI (x1 N).aL (bF Tryz.f70):=aI.aR aI.nil ⟨[1,1,0,0],[.v 0 (.aE 55), .v 1 (.aE 40), .v 5 (.int .i64)],[],[],[⟨.normal,[.v 47 .bool],[]⟩],[0,1,5]⟩ fun x=>zM N x.1 x.2.1 x.2.2.1
noncomputable def amU (N:Nat):aI (x1 N).aL (bF Tryz.f70):=aI.aR (amT N) ⟨[1,1,1,0,0],[.v 0 (.aE 55), .v 1 (.aE 40), .v 5 (.int .i64)],[],[],[⟨.normal,[.v 75 .bool],[]⟩],[0,1,5]⟩ fun x=>Iu N x.1 x.2.1 x.2.2.1
noncomputable def amW (N:Nat):aI (x1 N).aL (bF Tryz.f70):=aI.aR (amU N) ⟨[1,1,1,1,0,1,0,0,1,1,0,0,1,1,0,0],[.v 0 (.aE 55), .o 7 (.box 40), .o 8 (.box 40)],[(7, .box 0 0),(8, .box 1 0)],[1,1],[⟨.normal,[.v 108 .bool],[]⟩],[0,1,5,6,7,77,78,79]⟩ fun x=>Iv N x.1 x.2.1 x.2.2.1
noncomputable def amX (N:Nat):aI (x1 N).aL (bF Tryz.f70):=aI.aR (amW N) ⟨[1,1,1,1,0,1,0,0,1,1,0,0,1,1,1,0],[.v 0 (.aE 55), .v 5 (.int .i64), .v 6 (.int .i64), .o 7 (.box 40)],[(7, .box 0 0)],[1],[⟨.normal,[.v 124 .bool],[]⟩],[0,1,5,77,78,79]⟩ fun x=>Iw N x.1 x.2.1 x.2.2.1 x.2.2.2.1
noncomputable def amV (N:Nat):aI (x1 N).aL (bF Tryz.f70):=aI.ej (amX N) N ⟨[1,1,1,1,0,1,0],[.v 0 (.aE 55), .v 1 (.aE 40), .v 5 (.int .i64), .v 77 (.aE 40), .v 78 (.int .i64), .v 79 (.int .i64)],[],[],[⟨.exit 0,[],[]⟩,⟨.ret,[.v 4 .bool],[]⟩],[]⟩ fun n x=>uV N x.1 x.2.1 x.2.2.1 x.2.2.2.1 x.2.2.2.2.1 n x.2.2.2.2.2.1
noncomputable def La:bZ D:=⟨70,2,[.v 0 (.aE 55), .v 1 (.aE 40)],[],ari,0,[.v 4 .bool],[],[.tmp 4],arf⟩
noncomputable def Su (N:Nat):La.F:=fun r x=>Jg N x.1 x.2.1
theorem apQ (N:Nat):b8 bj La (Su N):=aI.fn (amV N) Tryz.func70
noncomputable def S7 (N:Nat):cY bj:=(x1 N).du La (Su N) (apQ N)
noncomputable def ani (N:Nat):aI (S7 N).aL (bF Tryz.f64):=aI.ej aI.nil N ⟨[1,1,0,1,0],[.o 3 (.map 90 3 4), .v 7 (.aE 40), .v 8 (.int .i64), .v 9 (.int .i64)],[(3, .c (.own 0))],[0],[⟨.exit 0,[],[]⟩,⟨.ret,[.v 2 .bool],[]⟩],[]⟩ fun n x=>sM N x.2.1 x.2.2.1 n x.1 x.2.2.2.1
noncomputable def KX:bZ D:=⟨64,1,[.v 0 (.aE 40)],[],ari,0,[.v 2 .bool],[],[.tmp 2],arf⟩
noncomputable def Sg (N:Nat):KX.F:=fun r x=>D1 N x.1
theorem apD (N:Nat):b8 bj KX (Sg N):=aI.fn (ani N) Tryz.func64
noncomputable def S9 (N:Nat):cY bj:=(S7 N).du KX (Sg N) (apD N)
noncomputable def ang (N:Nat):aI (S9 N).aL (bF Tryz.f36):=aI.aR aI.nil ⟨[1,0],[.v 0 (.aE 55), .v 1 (.aE 40)],[],[],[⟨.normal,[.v 4 .bool],[]⟩],[]⟩ fun x=>Qo N x.1 x.2.1
noncomputable def KV:bZ D:=⟨36,2,[.v 0 (.aE 55), .v 1 (.aE 40)],[],ari,0,[.v 4 .bool],[],[.tmp 4],arf⟩
noncomputable def Se (N:Nat):KV.F:=fun r x=>D0 N x.1 x.2.1
theorem apB (N:Nat):b8 bj KV (Se N):=aI.fn (ang N) Tryz.func36
noncomputable def Ta (N:Nat):cY bj:=(S9 N).du KV (Se N) (apB N)
noncomputable def KE:bZ D:=⟨74,1,[.v 0 (.int .i64)],[],ari,0,[.v 2 .bool],[],[.tmp 2],arf⟩
noncomputable def RW (N:Nat):KE.F:=fun r x=>I2 N x.1
theorem apg (N:Nat):b8 bj KE (RW N):=aI.fn (aI.nil:aI (Ta N).aL (bF Tryz.f74)) Tryz.func74
noncomputable def Tb (N:Nat):cY bj:=(Ta N).du KE (RW N) (apg N)
noncomputable def Ku:bZ D:=⟨46,2,[.v 0 (.int .i64), .v 1 (.int .i64)],[],ari,0,[.v 4 (.int .i64)],[],[.tmp 4],arf⟩
noncomputable def RM (N:Nat):Ku.F:=fun r x=>Am N x.1 x.2.1
theorem ao7 (N:Nat):b8 bj Ku (RM N):=aI.fn (aI.nil:aI (Tb N).aL (bF Tryz.f46)) Tryz.func46
noncomputable def Eg (N:Nat):cY bj:=(Tb N).du Ku (RM N) (ao7 N)
noncomputable def amt (N:Nat):aI (Eg N).aL (bF Tryz.f65):=aI.aR aI.nil ⟨[1,1,1,0,1,0,0,1,1,0,0,1,1,0,1,1,0],[.o 6 (.aE 98), .o 8 (.box 40), .o 9 (.box 55)],[(6, .c (.own 0)),(8, .box 1 0),(9, .box 2 0)],[1,1,1],[⟨.normal,[.v 35 .bool],[]⟩],[0,6,8,9,14,15,16]⟩ fun x=>zT N x.2.1 x.2.2.1
noncomputable def ams (N:Nat):aI (Eg N).aL (bF Tryz.f65):=aI.aR (amt N) ⟨[1,1,1,0,1,0,0,1,1,0],[.v 0 (.aE 55), .o 6 (.aE 98), .v 14 (.aE 40), .v 16 (.int .i64)],[(6, .c (.own 0))],[0],[⟨.normal,[.o 6 (.aE 98)],[(6, .c (.own 1))]⟩],[0,14,15,16]⟩ fun x=>HZ N x.1 x.2.1 x.2.2.1 x.2.2.2.1
noncomputable def amr (N:Nat):aI (Eg N).aL (bF Tryz.f65):=aI.ej (ams N) N ⟨[1,1,1,0,1,0],[.v 0 (.aE 55), .o 6 (.aE 98), .v 14 (.aE 40), .v 15 (.int .i64), .v 16 (.int .i64)],[(6, .c (.own 0))],[0],[⟨.exit 0,[.o 6 (.aE 98)],[(6, .c (.own 1))]⟩],[]⟩ fun n x=>xe N x.1 x.2.2.1 x.2.2.2.1 n x.2.1 x.2.2.2.2.1
noncomputable def KC:bZ D:=⟨65,2,[.v 0 (.aE 55), .v 1 (.aE 40)],[],ari,0,[.o 4 (.aE 98), .v 5 (.int .i64)],[(4, .c (.own 0))],[.tmp 4, .tmp 5],arj⟩
noncomputable def RU (N:Nat):KC.F:=fun r x=>DW N x.1 x.2.1
theorem ape (N:Nat):b8 bj KC (RU N):=aI.fn (amr N) Tryz.func65
noncomputable def Tc (N:Nat):cY bj:=(Eg N).du KC (RU N) (ape N)
noncomputable def amp (N:Nat):aI (Tc N).aL (bF Tryz.f38):=aI.ej aI.nil N ⟨[1,1,0,1,0],[.o 3 (.map 90 3 4), .v 7 (.aE 40), .v 8 (.int .i64), .v 9 (.int .i64)],[(3, .c (.own 0))],[2],[⟨.exit 0,[.u 0 (.map 90 3 4)],[]⟩],[3]⟩ fun n x=>xd N x.2.1 x.2.2.1 n x.1 x.2.2.2.1
noncomputable def Kz:bZ D:=⟨38,1,[.v 0 (.aE 40)],[],ari,0,[.o 2 (.map 90 3 4)],[(2, .c (.own 0))],[.tmp 2],arj⟩
noncomputable def RR (N:Nat):Kz.F:=fun r x=>DU N x.1
theorem apb (N:Nat):b8 bj Kz (RR N):=aI.fn (amp N) Tryz.func38
noncomputable def Td (N:Nat):cY bj:=(Tc N).du Kz (RR N) (apb N)
noncomputable def anm (N:Nat):aI (Td N).aL (bF Tryz.f94):=aI.aR aI.nil ⟨[1,0,0],[.o 2 (.box 55), .o 3 (.box 40)],[(2, .box 0 0),(3, .box 1 0)],[1,1],[⟨.normal,[.v 16 .bool],[]⟩],[2]⟩ fun x=>Ip N x.1 x.2.1
noncomputable def K2:bZ D:=⟨94,2,[.v 0 (.agg 55), .v 1 (.agg 40)],[],ari,0,[.v 4 (.int .i64)],[],[.tmp 4],arf⟩
noncomputable def Sl (N:Nat):K2.F:=fun r x=>Jc N x.1 x.2.1
theorem apI (N:Nat):b8 bj K2 (Sl N):=aI.fn (anm N) Tryz.func94
noncomputable def Te (N:Nat):cY bj:=(Td N).du K2 (Sl N) (apI N)
noncomputable def Ks:gP D:=⟨91,3,[.o 100000000 (.box 25), .o 100000001 (.eH 92 [(0,5)]), .o 100000002 (.eH 90 [(0,6)]), .o 100000003 (.ia 194 91 [7]), .o 100000004 (.ia 195 92 [0,1,2,3,4]), .o 100000005 (.map 92 95 4), .o 100000006 (.map 90 3 4), .v 0 (.int .i64), .v 1 (.int .i64), .o 2 (.eH 87 [(0,8)]), .o 2002000 (.map 87 3 3)],[(2, .box 7 0)],[1,1,1,1,1,1,1,1,2],[.v 5 (.int .i64), .u 8 (.map 87 3 3)],[],[5],arj⟩
noncomputable def RJ (N:Nat):Ks.hZ.F:=fun x=>xM N x.2.2.2.2.2.2.2.1 x.2.2.2.2.2.2.2.2.1 x.2.2.2.2.2.2.2.2.2.2.1
noncomputable def ak5 (N:Nat):aI (Te N).aL (bF Tryz.f91):=aI.aR aI.nil ⟨[1,0,1,0],[.o 100000000 (.box 25), .o 100000001 (.eH 92 [(0,5)]), .o 100000002 (.eH 90 [(0,6)]), .o 100000003 (.ia 194 91 [7]), .o 100000004 (.ia 195 92 [0,1,2,3,4]), .o 100000005 (.map 92 95 4), .o 100000006 (.map 90 3 4), .v 1 (.int .i64), .o 2 (.eH 87 [(0,8)]), .v 6 (.int .i64), .v 7 .bool, .o 2002000 (.map 87 3 3)],[(2, .box 7 0)],[1,1,1,1,1,1,1,1,1],[⟨.normal,[.v 19 .bool],[]⟩],[0,1,2]⟩ fun x=>HT N x.2.2.2.2.2.2.2.1 x.2.2.2.2.2.2.2.2.2.1 x.2.2.2.2.2.2.2.2.2.2.1
theorem ao5 (N:Nat):fa bj Ks (RJ N):=aI.E0 (ak5 N) Tryz.func91
noncomputable def Tf (N:Nat):cY bj:=(Te N).x5 Ks (RJ N) (ao5 N)
noncomputable def K1:bZ D:=⟨93,2,[.v 0 (.agg 55), .v 1 (.int .i64)],[],ari,0,[.v 4 (.int .i64)],[],[.tmp 4],arf⟩
noncomputable def Sk (N:Nat):K1.F:=fun r x=>Rm N x.1 x.2.1
theorem apH (N:Nat):b8 bj K1 (Sk N):=aI.fn (aI.nil:aI (Tf N).aL (bF Tryz.f93)) Tryz.func93
noncomputable def Tg (N:Nat):cY bj:=(Tf N).du K1 (Sk N) (apH N)
noncomputable def tA:gP D:=⟨92,6,[.v 0 (.agg 95), .o 1 (.box 25), .o 2 (.eH 92 [(0,5)]), .o 3 (.eH 90 [(0,6)]), .o 4 (.ia 194 91 [7]), .o 5 (.ia 195 92 [0,1,2,3,4]), .o 2002000 (.map 92 95 4), .o 2003000 (.map 90 3 4), .o 200016385 (.eH 87 [(0,8)]), .o 201048641 (.map 87 3 3)],[(1, .box 0 0),(2, .box 1 0),(3, .box 2 0),(4, .box 3 0),(5, .box 4 0)],[1,1,1,1,1,2,1,1,2],[.v 7 (.int .i64), .u 5 (.map 92 95 4), .u 8 (.map 87 3 3)],[],[7],arf⟩
noncomputable def ve (N cC:Nat):tA.hZ.F:=fun x=>tf N cC x.1 x.2.1 x.2.2.1 x.2.2.2.1 x.2.2.2.2.2.2.1 x.2.2.2.2.2.2.2.1 x.2.2.2.2.2.2.2.2.1 x.2.2.2.2.2.2.2.2.2.1
noncomputable def abG (N cC:Nat) (ao:fa bj tA (ve N cC)):cY bj:=(Tg N).x5 tA (ve N cC) ao
noncomputable def ak6 (N cC:Nat) (ao:fa bj tA (ve N cC)):aI (abG N cC ao).aL (bF Tryz.f92):=aI.aR aI.nil ⟨[1,1,0,0],[.o 1 (.box 25), .o 2 (.eH 92 [(0,5)]), .o 3 (.eH 90 [(0,6)]), .o 4 (.ia 194 91 [7]), .o 5 (.ia 195 92 [0,1,2,3,4]), .v 6 (.gw 95), .v 8 (.int .i64), .o 2002000 (.map 92 95 4), .o 2003000 (.map 90 3 4), .o 200016385 (.eH 87 [(0,8)]), .o 201048641 (.map 87 3 3)],[(1, .box 0 0),(2, .box 1 0),(3, .box 2 0),(4, .box 3 0),(5, .box 4 0)],[1,1,1,1,1,1,1,1,1],[⟨.normal,[.v 28 .bool],[]⟩],[1,2,3,4,5,6,8]⟩ fun x=>HU N (tf N cC) x.2.2.2.2.2.1 x.2.2.2.2.2.2.1 x.2.2.2.2.2.2.2.1 x.2.2.2.2.2.2.2.2.1
theorem afS (N cC:Nat) (ao:fa bj tA (ve N cC)):fa bj tA (ve N (cC+1)):=aI.E0 (ak6 N cC ao) Tryz.func92
theorem aaJ (N:Nat):∀cC:Nat,fa bj tA (ve N cC)
 |0=>fa.none fun x=>rfl
 |cC+1=>afS N cC (aaJ N cC)
noncomputable def Th (N:Nat):cY bj:=(Tg N).x5 tA (ve N N) (aaJ N N)
noncomputable def TD (N:Nat):oM bj:=(Th N).aL.oS fun x bf af=>match x,bf,af with| .func 91,ari,ari=>5| .func 92,ari,ari=>5|_,_,_=>0
noncomputable def ana (N:Nat):aI (TD N) (bF Tryz.f66):=aI.aR aI.nil ⟨[1,1,1,1,1,1,1,0,1,0,0,1,1,0],[.o 2 (.box 25), .o 8 (.eH 87 [(0,3)]), .o 10 (.ia 195 92 [0,4,5,6,2]), .v 21 (.aE 40), .v 23 (.int .i64), .o 2008000 (.map 87 3 3), .o 200040962 (.eH 92 [(0,7)]), .o 200040963 (.eH 90 [(0,8)]), .o 200040964 (.ia 194 91 [1]), .o 202621569 (.map 92 95 4), .o 202621633 (.map 90 3 4)],[(2, .box 0 0),(8, .box 1 0),(10, .box 2 0)],[1,1,1,2,1,1,1,2,1],[⟨.normal,[.u 3 (.map 87 3 3), .u 7 (.map 92 95 4)],[]⟩,⟨.ret,[.v 5 (.int .i64)],[(4, .c .nA)]⟩],[2,8,10,21,22,23]⟩ fun x=>Qn N x.1 x.2.2.2.1 x.2.2.2.2.1 x.2.2.2.2.2.1 x.2.2.2.2.2.2.2.2.2.1 x.2.2.2.2.2.2.2.2.2.2.1
noncomputable def am' (N:Nat):aI (TD N) (bF Tryz.f66):=aI.ej (ana N) N ⟨[1,1,1,1,1,1,1,0,1,0],[.o 2 (.box 25), .o 8 (.eH 87 [(0,3)]), .o 10 (.ia 195 92 [0,4,5,6,2]), .v 21 (.aE 40), .v 22 (.int .i64), .v 23 (.int .i64), .o 2008000 (.map 87 3 3), .o 200040962 (.eH 92 [(0,7)]), .o 200040963 (.eH 90 [(0,8)]), .o 200040964 (.ia 194 91 [1]), .o 202621569 (.map 92 95 4), .o 202621633 (.map 90 3 4)],[(2, .box 0 0),(8, .box 1 0),(10, .box 2 0)],[1,2,1,0,2,1,1,0,1],[⟨.exit 0,[.u 1 (.eH 87 [(0,9)]), .o 2008000 (.map 87 3 3)],[]⟩,⟨.ret,[.v 5 (.int .i64)],[(4, .c .nA)]⟩],[8]⟩ fun n x=>sK N x.1 x.2.2.2.1 x.2.2.2.2.1 x.2.2.2.2.2.2.2.2.2.2.2.1 n x.2.1 x.2.2.2.2.2.1 x.2.2.2.2.2.2.1 x.2.2.2.2.2.2.2.1 x.2.2.2.2.2.2.2.2.2.2.1
noncomputable def KR:bZ D:=⟨66,2,[.v 0 (.aE 55), .v 1 (.aE 40)],[],ari,0,[.v 4 (.mp 87 3 3), .v 5 (.int .i64)],[],[.tmp 4, .tmp 5],arj⟩
noncomputable def Sa (N:Nat):KR.F:=fun r x=>Rk N x.1 x.2.1
theorem apx (N:Nat):b8 bj KR (Sa N):=aI.fn (am' N) Tryz.func66
noncomputable def JK (N:Nat):cY bj:=(Th N).du KR (Sa N) (apx N)
noncomputable def SQ:gb D:=z1 D [1,1,1,1,1] 98 3 3 87
noncomputable def akT (N:Nat):SQ.F:=fun x=>H4 N x.1 x.2.1
noncomputable def amA (N:Nat):aI (JK N).aL (bF Tryz.f33):=aI.add aI.nil SQ (akT N) (ahw (e:=98) (kt:=3) (vt:=3) (t:=87) (JK N).aL.ok (by kernel_rfl) .i64 .i64 rfl rfl (fun (a:Int) (b:Int)=>(bi.mk a b)) ((bi.mk 0 0):bi) (fun (x:bi)=>x.aA) (by kernel_rfl) (by kernel_rfl) (by kernel_rfl) (by kernel_rfl) rfl M0.K QO.V (fun _=>rfl) (fun _=>rfl) (by kernel_rfl) (fun a b a8 wf=>by kernel_rfl) (fun a8 wf=>by kernel_rfl) (fun a8 wf=>by kernel_rfl) Iz.aa Iz.ao Iz.aK (Nat.le_of_ble_eq_true (by kernel_rfl)) (by kernel_rfl) (by kernel_rfl)) (by kernel_rfl)
noncomputable def KG:bZ D:=⟨33,2,[.v 0 (.aE 55), .v 1 (.aE 40)],[],ari,0,[.v 4 (.aE 98), .v 5 (.int .i64)],[],[.tmp 4, .tmp 5],arj⟩
noncomputable def RY (N:Nat):KG.F:=fun r x=>qi N x.1 x.2.1
theorem api (N:Nat):b8 bj KG (RY N):=aI.fn (amA N) Tryz.func33
noncomputable def Tj (N:Nat):cY bj:=(JK N).du KG (RY N) (api N)
noncomputable def alk (N:Nat):aI (Tj N).aL (bF Tryz.f88):=aI.ej aI.nil N ⟨[1,1,0,1,0],[.v 0 (.aE 98), .v 1 (.aE 98), .v 12 (.int .i64), .v 13 (.int .i64)],[],[],[⟨.exit 0,[],[]⟩,⟨.ret,[.v 4 .bool],[]⟩],[]⟩ fun n x=>sU N x.1 x.2.1 x.2.2.1 n x.2.2.2.1
noncomputable def Ki:bZ D:=⟨88,2,[.v 0 (.aE 98), .v 1 (.aE 98)],[],ari,0,[.v 4 .bool],[],[.tmp 4],arf⟩
noncomputable def Rz (N:Nat):Ki.F:=fun r x=>IU N x.1 x.2.1
theorem aoV (N:Nat):b8 bj Ki (Rz N):=aI.fn (alk N) Tryz.func88
noncomputable def x2 (N:Nat):cY bj:=(Tj N).du Ki (Rz N) (aoV N)
noncomputable def alu (N:Nat):aI (x2 N).aL (bF Tryz.f34):=aI.ej aI.nil N ⟨[1,0,1,0,0,1,1,0,0,1,1,0],[.o 2 (.box 47), .o 3 (.box 47), .o 6 (.box 40), .v 21 (.aE 40), .v 22 (.int .i64), .v 23 (.int .i64)],[(2, .box 0 0),(3, .box 1 0),(6, .box 2 0)],[1,1,1],[⟨.exit 2,[],[]⟩,⟨.ret,[.v 4 .bool],[]⟩],[2,3,14,15,16]⟩ fun n x=>sW N x.2.2.1 x.2.2.2.1 x.2.2.2.2.1 n x.2.2.2.2.2.1
noncomputable def als (N:Nat):aI (x2 N).aL (bF Tryz.f34):=aI.ej (alu N) N ⟨[1,0,1,0],[.o 2 (.box 47), .o 3 (.box 47), .v 14 (.aE 40), .v 15 (.int .i64), .v 16 (.int .i64)],[(2, .box 0 0),(3, .box 1 0)],[1,1],[⟨.exit 0,[],[]⟩,⟨.ret,[.v 4 .bool],[]⟩],[2,3]⟩ fun n x=>sV N x.2.1 x.2.2.1 x.2.2.2.1 n x.2.2.2.2.1
noncomputable def alx (N:Nat):aI (x2 N).aL (bF Tryz.f34):=aI.aR (als N) ⟨[1,1,0,1,0,0,1,1,0,0,1,1,0,0,1,1,0,0,1,0],[.o 3 (.box 47), .o 10 (.box 98), .o 12 (.box 98)],[(3, .box 0 0),(10, .box 1 0),(12, .box 2 0)],[1,1,1],[⟨.normal,[.v 59 .bool],[]⟩],[3,10,35,36,37,42,43,44]⟩ fun x=>HS N x.2.1 x.2.2.1
noncomputable def alw (N:Nat):aI (x2 N).aL (bF Tryz.f34):=aI.ej (alx N) N ⟨[1,1,0,1,0,0,1,1,0,0,1,1,0],[.o 3 (.box 47), .o 10 (.box 98), .v 42 (.aE 98), .v 43 (.int .i64), .v 44 (.int .i64)],[(3, .box 0 0),(10, .box 1 0)],[1,1],[⟨.exit 6,[],[]⟩,⟨.ret,[.v 4 .bool],[]⟩],[3,35,36,37]⟩ fun n x=>sY N x.2.1 x.2.2.1 x.2.2.2.1 n x.2.2.2.2.1
noncomputable def alv (N:Nat):aI (x2 N).aL (bF Tryz.f34):=aI.ej (alw N) N ⟨[1,1,0,1,0],[.o 3 (.box 47), .v 35 (.aE 98), .v 36 (.int .i64), .v 37 (.int .i64)],[(3, .box 0 0)],[1],[⟨.exit 4,[],[]⟩,⟨.ret,[.v 4 .bool],[]⟩],[]⟩ fun n x=>sX N x.1 x.2.1 x.2.2.1 n x.2.2.2.1
noncomputable def Ko:bZ D:=⟨34,2,[.v 0 (.agg 47), .v 1 (.agg 47)],[],ari,0,[.v 4 .bool],[],[.tmp 4],arf⟩
noncomputable def RF (N:Nat):Ko.F:=fun r x=>DQ N x.1 x.2.1
theorem ao1 (N:Nat):b8 bj Ko (RF N):=aI.fn (alv N) Tryz.func34
noncomputable def vm (N:Nat):cY bj:=(x2 N).du Ko (RF N) (ao1 N)
noncomputable def ak7 (N:Nat):aI (vm N).aL (bF Tryz.f56):=aI.aR aI.nil ⟨[1,0,0,0],[.v 0 (.aE 55), .v 1 (.aE 47)],[],[],[⟨.normal,[.v 18 .bool],[]⟩],[0,1]⟩ fun x=>HV N x.1 x.2.1
noncomputable def ak' (N:Nat):aI (vm N).aL (bF Tryz.f56):=aI.aR (ak7 N) ⟨[1,0,1,1,0,1,0,0,1,1,0,0,1,1,0,0],[.o 6 (.box 47), .v 7 (.aE 98), .v 8 (.int .i64)],[(6, .box 0 0)],[1],[⟨.normal,[.v 46 .bool],[]⟩],[0,1,5,6,19,20,21]⟩ fun x=>HX N x.1 x.2.1 x.2.2.1
noncomputable def alb (N:Nat):aI (vm N).aL (bF Tryz.f56):=aI.aR (ak' N) ⟨[1,0,1,1,0,1,0,0,1,1,0,0,1,1,1,1,0,0,1,1,0,0,1,1,0],[.o 6 (.box 47), .o 10 (.box 47)],[(6, .box 0 0),(10, .box 1 0)],[1,1],[⟨.normal,[.v 66 .bool],[]⟩],[0,1,5,6,19,20,21,47,48,49]⟩ fun x=>HY N x.1 x.2.1
noncomputable def ala (N:Nat):aI (vm N).aL (bF Tryz.f56):=aI.ej (alb N) N ⟨[1,0,1,1,0,1,0,0,1,1,0,0,1,1,1,1,0],[.v 5 (.int .i64), .o 6 (.box 47), .v 47 (.aE 47), .v 48 (.int .i64), .v 49 (.int .i64)],[(6, .box 0 0)],[1],[⟨.exit 1,[],[]⟩,⟨.exit 2,[],[]⟩,⟨.ret,[.v 4 .bool],[]⟩],[0,1,19,20,21]⟩ fun n x=>xb N x.1 x.2.1 x.2.2.1 x.2.2.2.1 n x.2.2.2.2.1
noncomputable def ak9 (N:Nat):aI (vm N).aL (bF Tryz.f56):=aI.aR (ala N) ⟨[1,0,1,1,0,1,0,0,1,1,0],[.v 0 (.aE 55), .v 1 (.aE 47), .v 19 (.aE 47), .v 21 (.int .i64)],[],[],[⟨.normal,[],[]⟩,⟨.ret,[.v 4 .bool],[]⟩],[0,1,19,20,21]⟩ fun x=>HW N x.1 x.2.1 x.2.2.1 x.2.2.2.1
noncomputable def ak8 (N:Nat):aI (vm N).aL (bF Tryz.f56):=aI.ej (ak9 N) N ⟨[1,0,1,1,0,1,0],[.v 0 (.aE 55), .v 1 (.aE 47), .v 19 (.aE 47), .v 20 (.int .i64), .v 21 (.int .i64)],[],[],[⟨.exit 0,[],[]⟩,⟨.ret,[.v 4 .bool],[]⟩],[]⟩ fun n x=>s0 N x.1 x.2.1 x.2.2.1 x.2.2.2.1 n x.2.2.2.2.1
noncomputable def Kv:bZ D:=⟨56,2,[.v 0 (.aE 55), .v 1 (.aE 47)],[],ari,0,[.v 4 .bool],[],[.tmp 4],arf⟩
noncomputable def RN (N:Nat):Kv.F:=fun r x=>DS N x.1 x.2.1
theorem ao8 (N:Nat):b8 bj Kv (RN N):=aI.fn (ak8 N) Tryz.func56
noncomputable def Tk (N:Nat):cY bj:=(vm N).du Kv (RN N) (ao8 N)
noncomputable def Kw:bZ D:=⟨30,2,[.v 0 (.aE 55), .v 1 (.aE 47)],[],ari,0,[.v 4 (.int .i64)],[],[.tmp 4],arf⟩
noncomputable def RO (N:Nat):Kw.F:=fun r x=>DT N x.1 x.2.1
theorem ao9 (N:Nat):b8 bj Kw (RO N):=aI.fn (aI.nil:aI (Tk N).aL (bF Tryz.f30)) Tryz.func30
noncomputable def Tl (N:Nat):cY bj:=(Tk N).du Kw (RO N) (ao9 N)
noncomputable def Kr:bZ D:=⟨58,2,[.v 0 (.agg 47), .v 1 (.gw 3)],[],ari,0,[.v 3 .bool],[],[.tmp 3],arf⟩
noncomputable def RI (N:Nat):Kr.F:=fun r x=>Ri N x.1 x.2.1
theorem ao4 (N:Nat):b8 bj Kr (RI N):=aI.fn (aI.nil:aI (Tl N).aL (bF Tryz.f58)) Tryz.func58
noncomputable def Tm (N:Nat):cY bj:=(Tl N).du Kr (RI N) (ao4 N)
noncomputable def alj (N:Nat):aI (Tm N).aL (bF Tryz.f57):=aI.ej aI.nil N ⟨[1,0,1,0],[.v 0 (.aE 47), .v 1 (.fn 58 [3]), .v 7 (.int .i64), .v 8 (.int .i64)],[],[],[⟨.exit 0,[],[]⟩,⟨.ret,[.v 4 (.int .i64)],[]⟩],[]⟩ fun n x=>sT N x.1 x.2.1.1 x.2.2.1 n x.2.2.2.1
noncomputable def Kg:bZ D:=⟨57,2,[.v 0 (.aE 47), .v 1 (.fn 58 [3])],[],ari,0,[.v 4 (.int .i64)],[],[.tmp 4],arf⟩
noncomputable def Rx (N:Nat):Kg.F:=fun r x=>Rf N x.1 x.2.1.1
theorem aoT (N:Nat):b8 bj Kg (Rx N):=aI.fn (alj N) Tryz.func57
noncomputable def Tn (N:Nat):cY bj:=(Tm N).du Kg (Rx N) (aoT N)
noncomputable def KA:bZ D:=⟨31,2,[.v 0 (.aE 47), .v 1 (.int .i64)],[],ari,0,[.v 4 (.int .i64)],[],[.tmp 4],arf⟩
noncomputable def RS (N:Nat):KA.F:=fun r x=>DV N x.1 x.2.1
theorem apc (N:Nat):b8 bj KA (RS N):=aI.fn (aI.nil:aI (Tn N).aL (bF Tryz.f31)) Tryz.func31
noncomputable def To (N:Nat):cY bj:=(Tn N).du KA (RS N) (apc N)
noncomputable def Ep (N:Nat):oM bj:=(To N).aL.oS fun x bf af=>match x,bf,af with| .tmp 42,are (.const _),ari=>2|_,_,_=>0
noncomputable def aml (N:Nat):aI (Ep N) (bF Tryz.f60):=aI.ej aI.nil N ⟨[1,1,1,0,1,0],[.v 1 (.int .i64), .o 5 (.map 162 166 3), .o 6 (.aE 166), .o 20 (.aE 3), .v 21 (.int .i64), .v 22 (.int .i64)],[(5, .c (.own 0)),(6, .c (.own 1)),(20, .c (.own 2))],[2,0,1],[⟨.exit 0,[.u 0 (.map 162 166 3), .o 6 (.aE 166)],[(6, .c (.own 3))]⟩],[0,5]⟩ fun n x=>xc N x.1 x.2.2.2.1 x.2.2.2.2.1 n x.2.1 x.2.2.1 x.2.2.2.2.2.1
noncomputable def amo (N:Nat):aI (Ep N) (bF Tryz.f60):=aI.aR (aml N) ⟨[1,1,1,1,0,0,0,1,0,1,1,1,1,0,0,1,1,0],[.o 5 (.map 162 166 3), .o 6 (.aE 166), .o 10 (.box 166), .v 11 (.int .i64), .v 54 (.aE 3), .v 56 (.int .i64)],[(5, .c (.own 0)),(6, .c (.own 1)),(10, .box 2 0)],[2,0,1],[⟨.normal,[.u 0 (.map 162 166 3), .o 6 (.aE 166)],[(6, .c (.own 3))]⟩],[0,5,10,11,54,55,56]⟩ fun x=>Qg N x.1 x.2.1 x.2.2.1 x.2.2.2.1 x.2.2.2.2.1 x.2.2.2.2.2.1
noncomputable def amn (N:Nat):aI (Ep N) (bF Tryz.f60):=aI.ej (amo N) N ⟨[1,1,1,1,0,0,0,1,0,1,1,1,1,0],[.o 5 (.map 162 166 3), .o 6 (.aE 166), .o 10 (.box 166), .v 11 (.int .i64), .v 54 (.aE 3), .v 55 (.int .i64), .v 56 (.int .i64)],[(5, .c (.own 0)),(6, .c (.own 1)),(10, .box 2 0)],[2,0,1],[⟨.exit 4,[.u 0 (.map 162 166 3), .o 6 (.aE 166)],[(6, .c (.own 3))]⟩],[0,5]⟩ fun n x=>sF N x.2.2.1 x.2.2.2.1 x.2.2.2.2.1 x.2.2.2.2.2.1 n x.1 x.2.1 x.2.2.2.2.2.2.1
noncomputable def amm (N:Nat):aI (Ep N) (bF Tryz.f60):=aI.ej (amn N) N ⟨[1,1,1,1,0,0],[.v 0 (.aE 55), .o 5 (.map 162 166 3), .o 6 (.aE 166)],[(5, .c (.own 0)),(6, .c (.own 1))],[2,0],[⟨.exit 2,[.u 0 (.map 162 166 3)],[]⟩],[5]⟩ fun n x=>Ds N x.1 n x.2.1 x.2.2.1
noncomputable def Ky:bZ D:=⟨60,2,[.v 0 (.aE 55), .v 1 (.int .i64)],[],ari,0,[.o 4 (.map 162 166 3)],[(4, .c (.own 0))],[.tmp 4],arj⟩
noncomputable def RQ (N:Nat):Ky.F:=fun r x=>IZ N x.1 x.2.1
theorem apa (N:Nat):b8 bj Ky (RQ N):=aI.fn (amm N) Tryz.func60
noncomputable def Tp (N:Nat):cY bj:=(To N).du Ky (RQ N) (apa N)
noncomputable def anl (N:Nat):aI (Tp N).aL (bF Tryz.f89):=aI.ej aI.nil N ⟨[1,1,0,1,0],[.v 3 (.int .i64), .v 6 (.aE 3), .v 7 (.int .i64), .v 8 (.int .i64)],[],[],[⟨.exit 0,[],[]⟩,⟨.ret,[.v 2 (.int .i64)],[]⟩],[3]⟩ fun n x=>xm N x.1 x.2.1 x.2.2.1 n x.2.2.2.1
noncomputable def K0:bZ D:=⟨89,1,[.v 0 (.aE 3)],[],ari,0,[.v 2 (.int .i64)],[],[.tmp 2],arf⟩
noncomputable def Sj (N:Nat):K0.F:=fun r x=>Jb N x.1
theorem apG (N:Nat):b8 bj K0 (Sj N):=aI.fn (anl N) Tryz.func89
noncomputable def Eh (N:Nat):cY bj:=(Tp N).du K0 (Sj N) (apG N)
noncomputable def amS (N:Nat):aI (Eh N).aL (bF Tryz.f62):=aI.aR aI.nil ⟨[1,1,0,1,0,0,1,1,0,0,1,1,1,1,0],[.v 1 (.mp 162 166 3), .o 9 (.box 166), .v 11 (.int .i64), .o 12 (.box 166), .v 13 .bool, .v 15 (.int .i64), .o 16 (.box 166), .v 17 (.int .i64)],[(9, .box 0 0),(12, .box 1 0),(16, .box 2 0)],[1,1,1],[⟨.normal,[.v 59 .bool],[]⟩],[0,1,2,9,11,12,13,15,16,20,21,22]⟩ fun x=>Qu N x.1 x.2.2.1 x.2.2.2.1 x.2.2.2.2.1 x.2.2.2.2.2.1 x.2.2.2.2.2.2.1 x.2.2.2.2.2.2.2.1
noncomputable def amR (N:Nat):aI (Eh N).aL (bF Tryz.f62):=aI.aR (amS N) ⟨[1,1,0,1,0,0,1,1,0],[.v 0 (.aE 55), .v 1 (.mp 162 166 3), .v 2 (.int .i64), .o 9 (.box 166), .v 11 (.int .i64), .o 12 (.box 166), .v 13 .bool, .v 20 (.aE 3), .v 22 (.int .i64)],[(9, .box 0 0),(12, .box 1 0)],[1,2],[⟨.normal,[.v 11 (.int .i64), .u 1 (.box 166), .v 13 .bool],[]⟩],[0,1,2,9,12,20,21,22]⟩ fun x=>It N x.1 x.2.1 x.2.2.1 x.2.2.2.2.1 x.2.2.2.2.2.1 x.2.2.2.2.2.2.1 x.2.2.2.2.2.2.2.1 x.2.2.2.2.2.2.2.2.1
noncomputable def amQ (N:Nat):aI (Eh N).aL (bF Tryz.f62):=aI.ej (amR N) N ⟨[1,1,0,1,0],[.v 0 (.aE 55), .v 1 (.mp 162 166 3), .v 2 (.int .i64), .o 9 (.box 166), .v 11 (.int .i64), .o 12 (.box 166), .v 13 .bool, .v 20 (.aE 3), .v 21 (.int .i64), .v 22 (.int .i64)],[(9, .box 0 0),(12, .box 1 0)],[1,2],[⟨.exit 0,[.v 11 (.int .i64), .u 1 (.box 166), .v 13 .bool],[]⟩],[9,12]⟩ fun n x=>xn N x.1 x.2.1 x.2.2.1 x.2.2.2.2.2.2.2.1 x.2.2.2.2.2.2.2.2.1 n x.2.2.2.2.1 x.2.2.2.2.2.1 x.2.2.2.2.2.2.1 x.2.2.2.2.2.2.2.2.2.1
noncomputable def K9:bZ D:=⟨62,4,[.v 0 (.aE 55), .v 1 (.mp 162 166 3), .v 2 (.int .i64), .v 3 (.aE 3)],[],ari,0,[.v 8 (.int .i64), .v 1000001 (.agg 166), .v 10 .bool],[],[.tmp 8, .cell 9 166, .tmp 10],arf⟩
noncomputable def St (N:Nat):K9.F:=fun r x=>Jf N x.1 x.2.1 x.2.2.1 x.2.2.2.1
theorem apP (N:Nat):b8 bj K9 (St N):=aI.fn (amQ N) Tryz.func62
noncomputable def JL (N:Nat):cY bj:=(Eh N).du K9 (St N) (apP N)
noncomputable def anx (N:Nat):aI (JL N).aL (bF Tryz.f32):=aI.aR aI.nil ⟨[1,1,0,0],[.v 0 (.aE 55), .v 1 (.int .i64), .v 2 (.int .i64)],[],[],[⟨.normal,[.v 35 .bool],[]⟩],[0,1,2]⟩ fun x=>Is N x.1 x.2.1 x.2.2.1
noncomputable def anz (N:Nat):aI (JL N).aL (bF Tryz.f32):=aI.ej (anx N) N ⟨[1,1,1,1,1,1,0,0],[.v 0 (.aE 55), .o 9 (.map 162 166 3), .o 10 (.aE 40), .v 11 (.aE 3)],[(9, .c (.own 0)),(10, .c (.own 1))],[1,0],[⟨.exit 0,[.o 10 (.aE 40)],[(10, .c (.own 2))]⟩,⟨.ret,[.v 7 (.int .i64)],[(6, .c .fH)]⟩],[]⟩ fun n x=>zL N x.1 x.2.1 n x.2.2.1 x.2.2.2.1
noncomputable def K8:bZ D:=⟨32,3,[.v 0 (.aE 55), .v 1 (.int .i64), .v 2 (.int .i64)],[],ari,0,[.o 6 (.aE 40), .v 7 (.int .i64)],[(6, .c (.own 0))],[.tmp 6, .tmp 7],arj⟩
noncomputable def Ss (N:Nat):K8.F:=fun r x=>jP N x.1 x.2.1 x.2.2.1
theorem apO (N:Nat):b8 bj K8 (Ss N):=aI.fn (anz N) Tryz.func32
noncomputable def Tr (N:Nat):cY bj:=(JL N).du K8 (Ss N) (apO N)
noncomputable def Kj:bZ D:=⟨68,1,[.v 0 (.aE 40)],[],ari,0,[.o 2 (.aE 40)],[(2, .c (.own 0))],[.tmp 2],arj⟩
noncomputable def RA (N:Nat):Kj.F:=fun r x=>IV N x.1
theorem aoW (N:Nat):b8 bj Kj (RA N):=aI.fn (aI.nil:aI (Tr N).aL (bF Tryz.f68)) Tryz.func68
noncomputable def Ts (N:Nat):cY bj:=(Tr N).du Kj (RA N) (aoW N)
noncomputable def Kh:bZ D:=⟨69,1,[.v 0 (.aE 98)],[],ari,0,[.o 2 (.aE 98)],[(2, .c (.own 0))],[.tmp 2],arj⟩
noncomputable def Ry (N:Nat):Kh.F:=fun r x=>IT N x.1
theorem aoU (N:Nat):b8 bj Kh (Ry N):=aI.fn (aI.nil:aI (Ts N).aL (bF Tryz.f69)) Tryz.func69
noncomputable def Tt (N:Nat):cY bj:=(Ts N).du Kh (Ry N) (aoU N)
noncomputable def Kt:bZ D:=⟨35,1,[.v 0 (.agg 47)],[],ari,0,[.v 1000000 (.agg 47)],[],[.cell 2 47],arj⟩
noncomputable def RL (N:Nat):Kt.F:=fun r x=>DR N x.1
theorem ao6 (N:Nat):b8 bj Kt (RL N):=aI.fn (aI.nil:aI (Tt N).aL (bF Tryz.f35)) Tryz.func35
noncomputable def Tu (N:Nat):cY bj:=(Tt N).du Kt (RL N) (ao6 N)
noncomputable def amB (N:Nat):aI (Tu N).aL (bF Tryz.f10):=aI.ej aI.nil N ⟨[1,1,1,1,1,1,1,0,1,0],[.o 13 (.box 47), .o 14 (.aE 47), .v 60 (.aE 47), .v 61 (.int .i64), .v 62 (.int .i64)],[(13, .box 0 0),(14, .c (.own 1))],[1,0],[⟨.exit 1,[.o 14 (.aE 47)],[(14, .c (.own 2))]⟩,⟨.ret,[.v 11 (.int .i64)],[(10, .c .fH)]⟩],[13]⟩ fun n x=>xg N x.1 x.2.2.1 x.2.2.2.1 n x.2.1 x.2.2.2.2.1
noncomputable def KH:bZ D:=⟨10,5,[.v 0 (.aE 55), .v 1 (.aE 47), .v 2 (.int .i64), .v 3 (.int .i64), .v 4 (.int .i64)],[],ari,0,[.o 10 (.aE 47), .v 11 (.int .i64)],[(10, .c (.own 0))],[.tmp 10, .tmp 11],arj⟩
noncomputable def RZ (N:Nat):KH.F:=fun r x=>I3 N x.1 x.2.1 x.2.2.1 x.2.2.2.1 x.2.2.2.2.1
theorem apj (N:Nat):b8 bj KH (RZ N):=aI.fn (amB N) Tryz.func10
noncomputable def JM (N:Nat):cY bj:=(Tu N).du KH (RZ N) (apj N)
noncomputable def ak4 (N:Nat):aI (JM N).aL (bF Tryz.f12):=aI.aR aI.nil ⟨[1,1,1,1,1,0,1,0,0,1,1,0],[.v 9 (.int .i64), .o 10 (.aE 47), .v 24 (.aE 47), .v 26 (.int .i64)],[(10, .c (.own 0))],[0],[⟨.normal,[.o 10 (.aE 47)],[(10, .c (.own 1))]⟩],[9,24,25,26]⟩ fun x=>Qe N x.1 x.2.1 x.2.2.1 x.2.2.2.1
noncomputable def ak3 (N:Nat):aI (JM N).aL (bF Tryz.f12):=aI.ej (ak4 N) N ⟨[1,1,1,1,1,0,1,0],[.v 9 (.int .i64), .o 10 (.aE 47), .v 24 (.aE 47), .v 25 (.int .i64), .v 26 (.int .i64)],[(10, .c (.own 0))],[0],[⟨.exit 0,[.o 10 (.aE 47)],[(10, .c (.own 1))]⟩],[]⟩ fun n x=>xa N x.1 x.2.2.1 x.2.2.2.1 n x.2.1 x.2.2.2.2.1
noncomputable def Kq:bZ D:=⟨12,3,[.v 0 (.aE 55), .v 1 (.aE 47), .v 2 (.int .i64)],[],ari,0,[.o 6 (.aE 47), .v 7 (.int .i64)],[(6, .c (.own 0))],[.tmp 6, .tmp 7],arj⟩
noncomputable def RH (N:Nat):Kq.F:=fun r x=>IY N x.1 x.2.1 x.2.2.1
theorem ao3 (N:Nat):b8 bj Kq (RH N):=aI.fn (ak3 N) Tryz.func12
noncomputable def Tv (N:Nat):cY bj:=(JM N).du Kq (RH N) (ao3 N)
noncomputable def Kl:bZ D:=⟨43,2,[.v 0 (.agg 98), .v 1 (.gw 98)],[],ari,0,[.v 3 .bool],[],[.tmp 3],arf⟩
noncomputable def RC (N:Nat):Kl.F:=fun r x=>Rg N x.1 x.2.1
theorem aoY (N:Nat):b8 bj Kl (RC N):=aI.fn (aI.nil:aI (Tv N).aL (bF Tryz.f43)) Tryz.func43
noncomputable def Tw (N:Nat):cY bj:=(Tv N).du Kl (RC N) (aoY N)
noncomputable def ali (N:Nat):aI (Tw N).aL (bF Tryz.f71):=aI.ej aI.nil N ⟨[1,0,1,0],[.v 0 (.aE 98), .v 1 (.fn 43 [98]), .v 7 (.int .i64), .v 8 (.int .i64)],[],[],[⟨.exit 0,[],[]⟩,⟨.ret,[.v 4 (.int .i64)],[]⟩],[]⟩ fun n x=>sS N x.1 x.2.1.1 x.2.2.1 n x.2.2.2.1
noncomputable def Kf:bZ D:=⟨71,2,[.v 0 (.aE 98), .v 1 (.fn 43 [98])],[],ari,0,[.v 4 (.int .i64)],[],[.tmp 4],arf⟩
noncomputable def Rw (N:Nat):Kf.F:=fun r x=>IS N x.1 x.2.1.1
theorem aoS (N:Nat):b8 bj Kf (Rw N):=aI.fn (ali N) Tryz.func71
noncomputable def Tx (N:Nat):cY bj:=(Tw N).du Kf (Rw N) (aoS N)
noncomputable def Ke:bZ D:=⟨42,2,[.v 0 (.aE 98), .v 1 (.fn 43 [98])],[],ari,0,[.v 4 .bool],[],[.tmp 4],arf⟩
noncomputable def Rv (N:Nat):Ke.F:=fun r x=>IQ N x.1 x.2.1.1
theorem aoR (N:Nat):b8 bj Ke (Rv N):=aI.fn (aI.nil:aI (Tx N).aL (bF Tryz.f42)) Tryz.func42
noncomputable def Ej (N:Nat):cY bj:=(Tx N).du Ke (Rv N) (aoR N)
noncomputable def alr (N:Nat):aI (Ej N).aL (bF Tryz.f14):=aI.aR aI.nil ⟨[1,1,0,1,0,0,1,1,0,0,1,1,0,0,1,1,0],[.o 3 (.aE 98), .v 15 (.aE 98), .v 17 (.int .i64)],[(3, .c (.own 0))],[0],[⟨.normal,[.o 3 (.aE 98)],[(3, .c (.own 1))]⟩],[8,9,10,15,16,17]⟩ fun x=>Qd N x.1 x.2.1 x.2.2.1
noncomputable def alq (N:Nat):aI (Ej N).aL (bF Tryz.f14):=aI.ej (alr N) N ⟨[1,1,0,1,0,0,1,1,0,0,1,1,0],[.o 3 (.aE 98), .v 15 (.aE 98), .v 16 (.int .i64), .v 17 (.int .i64)],[(3, .c (.own 0))],[0],[⟨.exit 2,[.o 3 (.aE 98)],[(3, .c (.own 1))]⟩],[8,9,10]⟩ fun n x=>w9 N x.2.1 x.2.2.1 n x.1 x.2.2.2.1
noncomputable def alp (N:Nat):aI (Ej N).aL (bF Tryz.f14):=aI.ej (alq N) N ⟨[1,1,0,1,0],[.o 3 (.aE 98), .v 8 (.aE 47), .v 9 (.int .i64), .v 10 (.int .i64)],[(3, .c (.own 0))],[0],[⟨.exit 0,[.o 3 (.aE 98)],[(3, .c (.own 1))]⟩],[]⟩ fun n x=>w8 N x.2.1 x.2.2.1 n x.1 x.2.2.2.1
noncomputable def Kn:bZ D:=⟨14,1,[.v 0 (.aE 47)],[],ari,0,[.o 2 (.aE 98)],[(2, .c (.own 0))],[.tmp 2],arj⟩
noncomputable def RE (N:Nat):Kn.F:=fun r x=>IW N x.1
theorem ao0 (N:Nat):b8 bj Kn (RE N):=aI.fn (alp N) Tryz.func14
noncomputable def x3 (N:Nat):cY bj:=(Ej N).du Kn (RE N) (ao0 N)
noncomputable def alQ (N:Nat):aI (x3 N).aL (bF Tryz.f37):=aI.aR aI.nil ⟨[1,1,0,1,0,0,1,1,0,0,1,0,0],[.v 0 (.aE 55), .o 6 (.map 87 3 3), .o 8 (.box 98)],[(6, .c (.own 0)),(8, .box 1 0)],[1,1],[⟨.normal,[.v 35 .bool],[]⟩],[0,6,8,13,14,15]⟩ fun x=>HM N x.1 x.2.1 x.2.2.1
noncomputable def alR (N:Nat):aI (x3 N).aL (bF Tryz.f37):=aI.aR (alQ N) ⟨[1,1,0,1,0,0,1,1,0,0,1,1,0],[.o 6 (.map 87 3 3), .o 8 (.box 98)],[(6, .c (.own 0)),(8, .box 1 0)],[1,1],[⟨.normal,[.v 9 .bool],[]⟩],[0,6,8,13,14,15]⟩ fun x=>HN N x.2.1
noncomputable def alS (N:Nat):aI (x3 N).aL (bF Tryz.f37):=aI.aR (alR N) ⟨[1,1,0,1,0,0,1,1,0,0,1,1,1,0],[.o 6 (.map 87 3 3), .o 8 (.box 98)],[(6, .c (.own 0)),(8, .box 1 0)],[1,1],[⟨.normal,[.v 10 .bool],[]⟩],[0,6,8,9,13,14,15]⟩ fun x=>HO N x.2.1
noncomputable def am9 (N:Nat):aI (x3 N).aL (bF Tryz.f37):=aI.aR (alS N) ⟨[1,1,0,1,0,0,1,1,0,0,1,1,1,1,1,0,0],[.o 6 (.map 87 3 3), .o 8 (.box 98), .v 9 .bool, .v 10 .bool, .v 11 (.int .i64)],[(6, .c (.own 0)),(8, .box 1 0)],[1,1],[⟨.normal,[.v 71 .bool],[]⟩],[0,6,8,13,14,15]⟩ fun x=>HP N x.2.2.1 x.2.2.2.1 x.2.2.2.2.1
noncomputable def alP (N:Nat):aI (x3 N).aL (bF Tryz.f37):=aI.ej (am9 N) N ⟨[1,1,0,1,0],[.v 0 (.aE 55), .o 6 (.map 87 3 3), .v 13 (.aE 98), .v 14 (.int .i64), .v 15 (.int .i64)],[(6, .c (.own 0))],[2],[⟨.exit 0,[.u 0 (.map 87 3 3)],[]⟩,⟨.ret,[.v 5 .bool],[(4, .c .nA)]⟩],[6]⟩ fun n x=>sJ N x.1 x.2.2.1 x.2.2.2.1 n x.2.1 x.2.2.2.2.1
noncomputable def KQ:bZ D:=⟨37,2,[.v 0 (.aE 55), .v 1 (.aE 98)],[],ari,0,[.v 4 (.mp 87 3 3), .v 5 .bool],[],[.tmp 4, .tmp 5],arj⟩
noncomputable def R9 (N:Nat):KQ.F:=fun r x=>DZ N x.1 x.2.1
theorem apw (N:Nat):b8 bj KQ (R9 N):=aI.fn (alP N) Tryz.func37
noncomputable def Ek (N:Nat):cY bj:=(x3 N).du KQ (R9 N) (apw N)
noncomputable def amg (N:Nat):aI (Ek N).aL (bF Tryz.f41):=aI.aR aI.nil ⟨[1,1,0,0,0],[.o 9 (.box 55), .v 10 (.int .i64)],[(9, .box 0 0)],[1],[⟨.normal,[.v 18 .bool],[]⟩],[0,2,3,9,10]⟩ fun x=>HG N x.1 x.2.1
noncomputable def amh (N:Nat):aI (Ek N).aL (bF Tryz.f41):=aI.aR (amg N) ⟨[1,1,0,0,1,1,0],[.v 3 (.int .i64), .o 9 (.box 55), .v 10 (.int .i64)],[(9, .box 0 0)],[1],[⟨.normal,[.v 26 .bool],[]⟩],[0,2,3,9,10]⟩ fun x=>HH N x.1 x.2.1 x.2.2.1
noncomputable def alJ (N:Nat):aI (Ek N).aL (bF Tryz.f41):=aI.aR (amh N) ⟨[1,1,0,0,1,1,1,1,0],[.v 3 (.int .i64), .o 9 (.box 55), .v 10 (.int .i64)],[(9, .box 0 0)],[1],[⟨.normal,[.v 43 .bool],[]⟩],[0,2,3,9]⟩ fun x=>HI N x.1 x.2.1 x.2.2.1
noncomputable def KM:bZ D:=⟨41,4,[.v 0 (.aE 55), .v 1 (.mp 87 3 3), .v 2 (.int .i64), .v 3 (.int .i64)],[],ari,0,[.v 8 (.aE 3)],[],[.tmp 8],arj⟩
noncomputable def R4 (N:Nat):KM.F:=fun r x=>I6 N x.1 x.2.1 x.2.2.1 x.2.2.2.1
theorem apr (N:Nat):b8 bj KM (R4 N):=aI.fn (alJ N) Tryz.func41
noncomputable def Ty (N:Nat):cY bj:=(Ek N).du KM (R4 N) (apr N)
noncomputable def pG:gP D:=⟨39,8,[.o 100000000 (.aE 3), .v 0 (.agg 95), .o 1 (.box 25), .o 2 (.eH 92 [(0,8)]), .o 3 (.eH 90 [(0,9)]), .o 4 (.box 3), .o 5 (.box 3), .o 6 (.box 87), .o 7 (.ia 93 39 [1,2,3,4,5,6,7]), .o 2002000 (.map 92 95 4), .o 2003000 (.map 90 3 4)],[(1, .box 1 0),(2, .box 2 0),(3, .box 3 0),(4, .box 4 0),(5, .box 5 0),(6, .box 6 0),(7, .box 7 0)],[1,1,1,1,1,1,1,1,2,1],[.v 9 .bool, .u 8 (.map 92 95 4)],[],[9],arf⟩
noncomputable def nQ (N cC:Nat):pG.hZ.F:=fun x=>ml N cC x.1 x.2.1 x.2.2.1 x.2.2.2.1 x.2.2.2.2.1 x.2.2.2.2.2.1 x.2.2.2.2.2.2.1 x.2.2.2.2.2.2.2.1 x.2.2.2.2.2.2.2.2.2.1 x.2.2.2.2.2.2.2.2.2.2.1
noncomputable def JP (N cC:Nat) (ao:fa bj pG (nQ N cC)):cY bj:=(Ty N).x5 pG (nQ N cC) ao
noncomputable def aln (N cC:Nat) (ao:fa bj pG (nQ N cC)):aI (JP N cC ao).aL (bF Tryz.f39):=aI.aR aI.nil ⟨[1,1,0,0],[.o 100000000 (.aE 3), .o 1 (.box 25), .o 2 (.eH 92 [(0,8)]), .o 3 (.eH 90 [(0,9)]), .o 4 (.box 3), .o 5 (.box 3), .o 6 (.box 87), .o 7 (.ia 93 39 [1,2,3,4,5,6,7]), .v 8 (.gw 95), .v 10 (.int .i64), .o 2002000 (.map 92 95 4), .o 2003000 (.map 90 3 4)],[(1, .box 1 0),(2, .box 2 0),(3, .box 3 0),(4, .box 4 0),(5, .box 5 0),(6, .box 6 0),(7, .box 7 0)],[1,1,1,1,1,1,1,1,1,1],[⟨.normal,[.v 25 .bool],[]⟩],[1,2,3,4,5,6,7,8,10]⟩ fun x=>HR N (ml N cC) x.2.2.2.2.2.2.2.2.1 x.2.2.2.2.2.2.2.2.2.1 x.2.2.2.2.2.2.2.2.2.2.1
noncomputable def alo (N cC:Nat) (ao:fa bj pG (nQ N cC)):aI (JP N cC ao).aL (bF Tryz.f39):=aI.aR (aln N cC ao) ⟨[1,1,1,1,0,1,0,0],[.o 100000000 (.aE 3), .o 1 (.box 25), .o 2 (.eH 92 [(0,8)]), .o 3 (.eH 90 [(0,9)]), .o 4 (.box 3), .o 5 (.box 3), .o 6 (.box 87), .o 7 (.ia 93 39 [1,2,3,4,5,6,7]), .v 10 (.int .i64), .o 2002000 (.map 92 95 4), .o 2003000 (.map 90 3 4)],[(1, .box 1 0),(2, .box 2 0),(3, .box 3 0),(4, .box 4 0),(5, .box 5 0),(6, .box 6 0),(7, .box 7 0)],[1,1,1,1,1,1,1,1,1,1],[⟨.normal,[.v 9 .bool],[]⟩],[1,2,3,4,5,6,7]⟩ fun x=>Qc N (ml N cC) x.2.2.2.2.1 x.2.2.2.2.2.1 x.2.2.2.2.2.2.2.2.1
noncomputable def Zp (N cC:Nat) (ao:fa bj pG (nQ N cC)):aI (JP N cC ao).aL (bF Tryz.f39):=aI.ej (alo N cC ao) N ⟨[1,1,1,1,1,0,1,0],[.o 100000000 (.aE 3), .o 1 (.box 25), .o 2 (.eH 92 [(0,8)]), .o 3 (.eH 90 [(0,9)]), .o 4 (.box 3), .o 5 (.box 3), .o 6 (.box 87), .o 7 (.ia 93 39 [1,2,3,4,5,6,7]), .v 10 (.int .i64), .v 44 (.aE 3), .v 45 (.int .i64), .v 46 (.int .i64), .o 2002000 (.map 92 95 4), .o 2003000 (.map 90 3 4)],[(1, .box 1 0),(2, .box 2 0),(3, .box 3 0),(4, .box 4 0),(5, .box 5 0),(6, .box 6 0),(7, .box 7 0)],[1,1,1,1,1,1,1,1,2,1],[⟨.exit 0,[.u 8 (.map 92 95 4)],[]⟩,⟨.ret,[.v 9 .bool, .u 8 (.map 92 95 4)],[]⟩],[1,2,3,4,5,6,7]⟩ fun n x=>zS N (ml N cC) x.1 x.2.1 x.2.2.2.2.1 x.2.2.2.2.2.1 x.2.2.2.2.2.2.1 x.2.2.2.2.2.2.2.2.1 x.2.2.2.2.2.2.2.2.2.1 x.2.2.2.2.2.2.2.2.2.2.1 x.2.2.2.2.2.2.2.2.2.2.2.2.2.1 n x.2.2.2.2.2.2.2.2.2.2.2.1 x.2.2.2.2.2.2.2.2.2.2.2.2.1
theorem afR (N cC:Nat) (ao:fa bj pG (nQ N cC)):fa bj pG (nQ N (cC+1)):=aI.E0 (Zp N cC ao) Tryz.func39
theorem QV (N:Nat):∀cC:Nat,fa bj pG (nQ N cC)
 |0=>fa.none fun x=>rfl
 |cC+1=>afR N cC (QV N cC)
noncomputable def abC (N:Nat):cY bj:=(Ty N).x5 pG (nQ N N) (QV N N)
noncomputable def OR:gP D:=⟨39,8,[.o 100000005 (.aE 3), .v 0 (.agg 95), .o 1 (.box 25), .o 2 (.eH 92 [(0,8)]), .o 3 (.eH 90 [(0,9)]), .o 4 (.box 3), .o 5 (.box 3), .o 6 (.box 87), .o 7 (.ia 93 39 [1,2,3,4,5,6,7]), .o 2002000 (.map 92 95 4), .o 2003000 (.map 90 3 4)],[(1, .box 1 0),(2, .box 2 0),(3, .box 3 0),(4, .box 4 0),(5, .box 5 0),(6, .box 6 0),(7, .box 7 0)],[1,1,1,1,1,1,1,1,2,1],[.v 9 .bool, .u 8 (.map 92 95 4)],[],[9],arf⟩
theorem aj' (N cC:Nat) (ao:fa bj pG (nQ N cC)):fa bj OR (nQ N (cC+1)):=aI.E0 (Zp N cC ao) Tryz.func39
theorem aj7 (N:Nat):∀cC:Nat,fa bj OR (nQ N cC)
 |0=>fa.none fun x=>rfl
 |cC+1=>aj' N cC (QV N cC)
noncomputable def Tz (N:Nat):cY bj:=(abC N).x5 OR (nQ N N) (aj7 N N)
noncomputable def Er (N:Nat):oM bj:=(Tz N).aL.oS fun x bf af=>match x,bf,af with| .func 39,ari,ari=>5|_,_,_=>0
noncomputable def amy (N:Nat):aI (Er N) (bF Tryz.f13):=aI.aR aI.nil ⟨[1,1,1,1,1,1,1,0,1,0,0,1,1,0,0,1,0,0],[.o 3 (.box 25), .o 8 (.box 87), .o 10 (.eH 90 [(0,7)]), .o 11 (.box 3), .o 12 (.box 3), .o 13 (.aE 3), .v 14 (.int .i64), .o 15 (.box 55), .o 2010000 (.map 90 3 4)],[(3, .box 0 0),(8, .box 1 0),(10, .box 2 0),(11, .box 3 0),(12, .box 4 0),(13, .c (.own 5)),(15, .box 6 0)],[1,1,1,1,1,1,1,1],[⟨.normal,[.v 57 .bool],[]⟩],[3,8,10,11,12,13,14,15,43,44,45]⟩ fun x=>H2 N x.2.2.2.2.2.2.1 x.2.2.2.2.2.2.2.1 x.2.2.2.2.2.2.2.2.1
noncomputable def amz (N:Nat):aI (Er N) (bF Tryz.f13):=aI.aR (amy N) ⟨[1,1,1,1,1,1,1,0,1,0,0,1,1,0,0,1,1,1,1,1,0],[.o 3 (.box 25), .o 8 (.box 87), .o 10 (.eH 90 [(0,8)]), .o 11 (.box 3), .o 12 (.box 3), .o 13 (.aE 3), .v 14 (.int .i64), .o 15 (.box 55), .o 17 (.ia 93 39 [0,9,2,3,4,1,7]), .o 2010000 (.map 90 3 4), .o 200069634 (.eH 92 [(0,10)]), .o 204456577 (.map 92 95 4)],[(3, .box 0 0),(8, .box 1 0),(10, .box 2 0),(11, .box 3 0),(12, .box 4 0),(13, .c (.own 5)),(15, .box 6 0),(17, .box 7 0)],[1,1,1,1,1,1,0,1,1,1,2],[⟨.normal,[.v 73 .bool],[]⟩],[3,8,10,11,12,13,14,43,44,45]⟩ fun x=>H3 N x.1 x.2.1 x.2.2.2.1 x.2.2.2.2.1 x.2.2.2.2.2.1 x.2.2.2.2.2.2.1 x.2.2.2.2.2.2.2.1 x.2.2.2.2.2.2.2.2.2.1 x.2.2.2.2.2.2.2.2.2.2.2.1
noncomputable def amx (N:Nat):aI (Er N) (bF Tryz.f13):=aI.aR (amz N) ⟨[1,1,1,1,1,1,1,0,1,0,0,1,1,0],[.o 3 (.box 25), .o 8 (.box 87), .o 10 (.eH 90 [(0,6)]), .o 11 (.box 3), .o 12 (.box 3), .o 13 (.aE 3), .v 43 (.aE 55), .v 45 (.int .i64), .o 2010000 (.map 90 3 4)],[(3, .box 0 0),(8, .box 1 0),(10, .box 2 0),(11, .box 3 0),(12, .box 4 0),(13, .c (.own 5))],[1,1,1,1,1,0,1],[⟨.normal,[.o 13 (.aE 3)],[(13, .c (.own 7))]⟩],[3,8,10,11,12,43,44,45]⟩ fun x=>H0 N x.1 x.2.1 x.2.2.2.1 x.2.2.2.2.1 x.2.2.2.2.2.1 x.2.2.2.2.2.2.1 x.2.2.2.2.2.2.2.1 x.2.2.2.2.2.2.2.2.1
noncomputable def amw (N:Nat):aI (Er N) (bF Tryz.f13):=aI.ej (amx N) N ⟨[1,1,1,1,1,1,1,0,1,0],[.o 3 (.box 25), .o 8 (.box 87), .o 10 (.eH 90 [(0,6)]), .o 11 (.box 3), .o 12 (.box 3), .o 13 (.aE 3), .v 43 (.aE 55), .v 44 (.int .i64), .v 45 (.int .i64), .o 2010000 (.map 90 3 4)],[(3, .box 0 0),(8, .box 1 0),(10, .box 2 0),(11, .box 3 0),(12, .box 4 0),(13, .c (.own 5))],[1,1,1,1,1,0,1],[⟨.exit 0,[.o 13 (.aE 3)],[(13, .c (.own 7))]⟩],[]⟩ fun n x=>xf N x.1 x.2.1 x.2.2.2.1 x.2.2.2.2.1 x.2.2.2.2.2.2.1 x.2.2.2.2.2.2.2.1 x.2.2.2.2.2.2.2.2.2.1 n x.2.2.2.2.2.1 x.2.2.2.2.2.2.2.2.1
noncomputable def KF:bZ D:=⟨13,3,[.v 0 (.aE 55), .v 1 (.aE 40), .v 2 (.aE 98)],[],ari,0,[.o 6 (.aE 3), .v 7 (.int .i64)],[(6, .c (.own 0))],[.tmp 6, .tmp 7],arj⟩
noncomputable def RX (N:Nat):KF.F:=fun r x=>xN N x.1 x.2.1 x.2.2.1
theorem aph (N:Nat):b8 bj KF (RX N):=aI.fn (amw N) Tryz.func13
noncomputable def abD (N:Nat):cY bj:=(Tz N).du KF (RX N) (aph N)
noncomputable def Lc:bZ D:=⟨15,0,[],[],ari,0,[.v 0 .bool],[],[.tmp 0],arf⟩
noncomputable def Sw (N:Nat):Lc.F:=fun r x=>aa7 N
theorem apS (N:Nat):b8 bj Lc (Sw N):=ajz (f:=15) (s:=0) (by kernel_rfl) ahx (fun y O K=>rfl) _ (fun _ _=> .inr rfl)
noncomputable def rB (N:Nat):cY bj:=(abD N).du Lc (Sw N) (apS N)
noncomputable def al0 (N:Nat):aI (rB N).aL (bF Tryz.f3):=aI.aR aI.nil ⟨[1,1,1,1,1,0,0],[.o 3 (.box 52), .o 4 (.aE 55), .v 6 (.int .i64), .o 7 (.aE 55), .v 9 (.int .i64)],[(3, .box 0 0),(4, .c (.own 1)),(7, .c (.own 2))],[1,1,1],[⟨.normal,[.v 47 .bool],[]⟩],[3,7]⟩ fun x=>H5 N x.2.1 x.2.2.1 x.2.2.2.1 x.2.2.2.2.1
noncomputable def al3 (N:Nat):aI (rB N).aL (bF Tryz.f3):=aI.aR (al0 N) ⟨[1,1,1,1,1,1,1,0,1,0,0,1,0,0,1,1,0,1],[.o 3 (.box 52), .v 7 (.aE 55), .v 10 (.aE 47), .v 13 (.aE 47), .v 14 (.int .i64), .v 76 .bool],[(3, .box 0 0)],[2],[⟨.normal,[.u 0 (.box 52), .v 13 (.aE 47), .v 14 (.int .i64)],[]⟩],[3,7,10,11]⟩ fun x=>H7 N x.1 x.2.1 x.2.2.1 x.2.2.2.1 x.2.2.2.2.1 x.2.2.2.2.2.1
noncomputable def al5 (N:Nat):aI (rB N).aL (bF Tryz.f3):=aI.aR (al3 N) ⟨[1,1,1,1,1,1,1,0,1,0,0,1,0,0,1,1,1,1,1,1,1,0,0,1,0,0,1,0,0],[.o 3 (.box 52), .o 15 (.aE 4), .o 17 (.aE 3), .v 18 (.int .i64)],[(3, .box 0 0),(15, .c (.own 1)),(17, .c (.own 2))],[1,1,1],[⟨.normal,[.v 115 .bool],[]⟩],[3,7,10,11,15,16]⟩ fun x=>P5 N x.2.2.1 x.2.2.2.1
noncomputable def al7 (N:Nat):aI (rB N).aL (bF Tryz.f3):=aI.aR (al5 N) ⟨[1,1,1,1,1,1,1,0,1,0,0,1,0,0,1,1,1,1,1,1,1,0,0,1,0,0,1,1,1,0,0,1,0,0,1,0,0],[.o 3 (.box 52), .o 15 (.aE 4), .v 20 (.int .i64)],[(3, .box 0 0),(15, .c (.own 1))],[1,1],[⟨.normal,[.v 148 .bool],[]⟩],[3,7,10,11,15,16,19,20]⟩ fun x=>H8 N x.2.1 x.2.2.1
noncomputable def al6 (N:Nat):aI (rB N).aL (bF Tryz.f3):=aI.ej (al7 N) N ⟨[1,1,1,1,1,1,1,0,1,0,0,1,0,0,1,1,1,1,1,1,1,0,0,1,0,0,1,1,1,0],[.o 3 (.box 52), .v 10 (.aE 47), .o 15 (.aE 4), .v 16 (.int .i64), .v 19 (.int .i64)],[(3, .box 0 0),(15, .c (.own 1))],[1,2],[⟨.exit 4,[.u 1 (.aE 4)],[]⟩,⟨.ret,[.v 2 .bool],[]⟩],[3,7,10,11,15,16]⟩ fun n x=>xj N x.2.1 x.2.2.2.1 n x.2.2.1 x.2.2.2.2.1
noncomputable def al4 (N:Nat):aI (rB N).aL (bF Tryz.f3):=aI.ej (al6 N) N ⟨[1,1,1,1,1,1,1,0,1,0,0,1,0,0,1,1,1,1,1,1,1,0],[.o 3 (.box 52), .v 7 (.aE 55), .v 10 (.aE 47), .o 15 (.aE 4), .v 16 (.int .i64)],[(3, .box 0 0),(15, .c (.own 1))],[1,0],[⟨.exit 2,[],[]⟩,⟨.ret,[.v 2 .bool],[]⟩],[3,7,10,11]⟩ fun n x=>xi N x.2.1 x.2.2.1 n x.2.2.2.1 x.2.2.2.2.1
noncomputable def al2 (N:Nat):aI (rB N).aL (bF Tryz.f3):=aI.aR (al4 N) ⟨[1,1,1,1,1,1,1,0,1,0,0,1,0],[.o 3 (.box 52), .v 7 (.aE 55), .v 10 (.aE 47)],[(3, .box 0 0)],[2],[⟨.normal,[.u 0 (.box 52), .v 10 (.aE 47)],[]⟩,⟨.ret,[.v 2 .bool],[]⟩],[3,7,11]⟩ fun x=>H6 N x.1 x.2.1 x.2.2.1
noncomputable def al1 (N:Nat):aI (rB N).aL (bF Tryz.f3):=aI.ej (al2 N) N ⟨[1,1,1,1,1,1,1,0,1,0],[.o 3 (.box 52), .v 7 (.aE 55), .v 10 (.aE 47), .v 11 (.int .i64)],[(3, .box 0 0)],[0],[⟨.exit 0,[],[]⟩,⟨.ret,[.v 2 .bool],[]⟩],[]⟩ fun n x=>xh N x.2.1 n x.1 x.2.2.1 x.2.2.2.1
noncomputable def EI:bZ D:=⟨3,1,[.v 0 (.aE 3)],[],ari,0,[.v 2 .bool],[],[.tmp 2],arf⟩
noncomputable def D6 (N:Nat):EI.F:=fun r x=>I5 N x.1
theorem aaK (N:Nat):b8 bj EI (D6 N):=aI.fn (al1 N) Tryz.func3
noncomputable def ap2 (N:Nat):cY bj:=(rB N).du EI (D6 N) (aaK N)
end Go.W
end
section
namespace Go.W
open Go.aQ
theorem hq {n:Int} (h: -9223372036854775808<=n) (bq:n<=9223372036854775807):art .i64 n=n:=by rw[aro.wrap_i64];omega
theorem aaE {n:Int} (h:0<=n) (bq:n<=255):art .u8 n=n:=by rw[aro.wrap_u8];omega
theorem cR {al bs:Type} (x:al) (f:al->Option bs):aQ.lt x f=f x:=rfl
theorem aH {al bs:Type} (x:al) (f:al->Option bs):ark (are x) f=f x:=rfl
theorem YH {al:Type} {xs:List al} {i:Int} (az:0<=i) (h1:i<xs.length):∃x,bc xs i=are x/\x∈xs/\xs[i.toNat]? =are x:=by
 have aO:i.toNat<xs.length:=by omega
 exact ⟨xs[i.toNat],by simp[bc,az,aO],by simp,by simp[aO]⟩
def hs (c:Int) (s:eC):Prop:=0<=s.n/\s.n<=c
theorem nF (N:Nat) {c:Int} {s:eC} (k:Int) (hk:1<=k) (rV:k<=1000000) (aq:hs c s) (ad:c<=1000000000000):∃r cV,lO N s k=are (r,cV)/\0<=r/\r<k/\hs (c+1) cV:=by
 obtain ⟨az,h1⟩:=aq;have acy:∃y,Io N s 0 (decide (0<(s.l.length:Int)))=are y:=by
  unfold Io;by_cases ai:0<(s.l.length:Int)
  ·rw[if_pos (by simpa using ai)];have bL:(s.l.length:Int)≠0:=by omega
   have hm:sh s.n s.l.length=are (s.n.tmod s.l.length):=by unfold sh;rw[if_neg bL]
   have aw:ye s.n s.l.length=are (s.n.tdiv s.l.length):=by unfold ye;rw[if_neg bL]
   have aeE:0<=s.n.tmod s.l.length:=Int.tmod_nonneg _ az;have yL:s.n.tmod s.l.length<s.l.length:=Int.tmod_lt_of_pos _ ai;obtain ⟨x,U,_,_⟩:=YH aeE yL;rw[hm,aH,U,aH,aw,aH,cR];exact ⟨_,rfl⟩
  ·rw[if_neg (by simpa using ai)];exact ⟨_,rfl⟩
 obtain ⟨y,ah⟩:=acy;unfold lO;rw[ah,aH];have hm:sh y k=are (y.tmod k):=by simp[sh];omega
 have aO:y.tmod k<k:=Int.tmod_lt_of_pos _ (by omega);have Br: -k<y.tmod k:=by have:=Int.lt_tmod_of_pos y (by omega:0<k);omega
 have av:art .i64 (s.n+1)=s.n+1:=hq (by omega) (by omega);simp only[hm,aH,av];unfold Qq;by_cases UQ:y.tmod k<0
 ·rw[if_pos (by simpa using UQ),cR,aH,hq (by omega) (by omega)];exact ⟨_,_,rfl,by omega,by omega,by constructor<;>simp<;>omega⟩
 ·rw[if_neg (by simpa using UQ),aH];exact ⟨_,_,rfl,by omega,by omega,by constructor<;>simp<;>omega⟩
theorem akf (N:Nat) {c:Int} {s:eC} (l:List Int) (ai:1<=l.length) (gU:l.length<=1000) (aq:hs c s) (ad:c<=1000000000000):∃x cV,Ja N s l=are (x,cV)/\x∈l/\hs (c+1) cV:=by
 obtain ⟨r,cV,h1,J,aj,aJ⟩:=nF N (s:=s) (c:=c) (l.length:Int) (by omega) (by omega) aq ad;obtain ⟨x,U,hm,_⟩:=YH J aj;unfold Ja;rw[h1,aH];simp only[U,aH];exact ⟨x,cV,rfl,hm,aJ⟩
end Go.W
end
section
namespace Go.W
open Go.aQ
theorem dM {al:Type} {xs:List al} {i:Nat} {x:al} (h:xs[i]? =are x):bc xs (i:Int)=are x:=by simp[bc,h]
theorem dw {al:Type} {xs:List al} {i:Nat} (h:i<xs.length):xs[i]? =are xs[i]:=by simp[h]
theorem lG {al:Type} {xs:List al} {i:Nat} {x:al} (h:xs[i]? =are x):xs.drop i=x::xs.drop (i+1):=by
 obtain ⟨aO,rfl⟩:=arp.1 h;exact List.drop_eq_getElem_cons aO
theorem eB {i:Nat} (h:i<9223372036854775807):art .i64 ((i:Int)+1)=((i+1:Nat):Int):=by rw[hq (by omega) (by omega)];omega
theorem dP {a b:Int} (h:a<b):decide (a<b)=arf:=decide_eq_true h
theorem dO {a b:Int} (h:¬a<b):¬decide (a<b)=arf:=by simpa using h
theorem ue {a b:Int} (h:a<=b):decide (a<=b)=arf:=decide_eq_true h
theorem wj {a b:Int} (h:¬a<=b):¬decide (a<=b)=arf:=by simpa using h
theorem iX {al:Type} {xs a8:List al} (h:xs.length+a8.length<=4294967296):eh xs a8=are (xs++a8):=if_pos h
theorem Cn {al:Type} {xs:List al} {i:Nat} (h:i<=xs.length):gH xs (i:Int) (xs.length:Int)=are (xs.drop i):=by
 unfold gH;rw[if_pos (by omega)];simp
theorem Gq {al:Type} {xs:List al} {i:Nat} (h:i<=xs.length):gH xs 0 (i:Int)=are (xs.take i):=by
 unfold gH;rw[if_pos (by omega)];simp
theorem hs.le {c bg:Int} {s:eC} (h:hs c s) (ad:c<=bg):hs bg s:=⟨h.1,Int.le_trans h.2 ad⟩
theorem afI (t:List Int):hs 0 (eC.mk t 0):=⟨by simp,by simp⟩
def cv {al bs:Type} (p:Nat->al->Bool) (out:Nat->al->bs):Nat->List al->Sum Unit bs
 |_,[]=> .inl ()
 |i,x::xs=>if p i x=arf then .inr (out i x) else cv p out (i+1) xs
theorem oq {al bs:Type} {l:List al} (p:Nat->al->Bool) (out:Nat->al->bs) (F:Nat->Int->Option (Sum Unit bs)) (az:∀n,F (n+1) (l.length:Int)=are (.inl ()))
  (h1:∀(n i:Nat) (x:al),l[i]? =are x->F (n+1) (i:Int)=if p i x=arf then are (.inr (out i x)) else F n ((i+1:Nat):Int)):∀(k n i:Nat),k<n->i+k=l.length->F n (i:Int)=are (cv p out i (l.drop i))
 |k,0,i,av,_=>by omega
 |0,n+1,i,av,af=>by
  obtain rfl:i=l.length:=by omega
  rw[az,atf,cv]
 |k+1,n+1,i,av,af=>by
  have aO:i<l.length:=by omega
  rw[h1 n i _ (dw aO),lG (dw aO),cv];split
  ·rfl
  ·exact oq p out F az h1 k n (i+1) (by omega) (by omega)
def p7 {al:Type} (p:Nat->al->Bool):Nat->List al->Int
 |_,[]=> -1
 |i,x::xs=>if p i x=arf then (i:Int) else p7 p (i+1) xs
theorem Cd {al:Type} (p:Nat->al->Bool):∀(l:List al) (i:Nat),cv p (fun i _=>(i:Int)) i l= .inl ()/\p7 p i l= -1\/cv p (fun i _=>(i:Int)) i l= .inr (p7 p i l)/\0<=p7 p i l
 |[],i=> .inl ⟨rfl,rfl⟩
 |x::xs,i=>by
  rw[cv,p7];by_cases h:p i x=arf
  ·rw[if_pos h,if_pos h];exact .inr ⟨rfl,by omega⟩
  ·rw[if_neg h,if_neg h];exact Cd p xs (i+1)
theorem Gb {al:Type} (p:Nat->al->Bool):∀(l:List al) (i:Nat),(p7 p i l= -1/\∀(j:Nat) (x:al),l[j]? =are x->p (i+j) x=arj)\/
  ∃(j:Nat) (x:al),p7 p i l=((i+j:Nat):Int)/\l[j]? =are x/\p (i+j) x=arf/\∀(bw:Nat) (y:al),bw<j->l[bw]? =are y->p (i+bw) y=arj
 |[],i=> .inl ⟨rfl,fun j x h=>by simp at h⟩
 |x::xs,i=>by
  rw[p7];by_cases h:p i x=arf
  ·rw[if_pos h];exact .inr ⟨0,x,by simp,by simp,by simpa using h,fun bw y ap=>by omega⟩
  ·rw[if_neg h];have bq:p i x=arj:=by simpa using h
   rcases Gb p xs (i+1) with ⟨h1,J⟩|⟨j,y,h1,J,aj,aJ⟩
   ·refine .inl ⟨h1,fun j y ap=> ?_⟩;cases j with
    |zero=>simp at ap;subst ap;exact bq
    |succ j=>have:=J j y (by simpa using ap);rwa [show i+1+j=i+(j+1) by omega] at this
   ·refine .inr ⟨j+1,y,by rw[h1];omega,by simpa using J,by rwa [show i+1+j=i+(j+1) by omega] at aj,fun bw z ap aD=> ?_⟩;cases bw with
    |zero=>simp at aD;subst aD;exact bq
    |succ bw=>have:=aJ bw z (by omega) (by simpa using aD);rwa [show i+1+bw=i+(bw+1) by omega] at this
theorem jr {al bs:Type} [DecidableEq al] (m:List (al×bs)) (a k:al) (b:bs):bn (eJ m a b) k=if a=k then are b else bn m k:=by
 induction m with
 |nil=>simp[eJ,bn]
 |cons p m aU=>
  simp only[eJ];by_cases h:p.1=a
  ·rw[if_pos h];simp only[bn];by_cases J:a=k
   ·simp[h,J]
   ·simp[h,J]
  ·rw[if_neg h];simp only[bn,aU];by_cases J:p.1=k
   ·have:¬a=k:=fun aj=>h (J.trans aj.symm);simp[J,this]
   ·simp[J]
end Go.W
end
section
namespace Go.W
open Go.aQ
theorem YS {al:Type} (p:al->Bool):∀(l:List al) (i:Nat),cv (fun _ y=>p y) (fun _ _=>arf) i l=if l.any p=arf then .inr arf else .inl ()
 |[],i=>rfl
 |y::l,i=>by
  rw[cv,ats];by_cases h:p y=arf
  ·simp[h]
  ·simp only[asL] at h;rw[h,if_neg (by simp),YS p l (i+1),asH]
theorem Pb {l:List Int} {x:Int}:(l.any fun y=>y==x)=l.contains x:=by
 induction l with
 |nil=>rfl
 |cons y l aU=>
  rw[ats,List.contains_cons,aU];congr 1;by_cases h:y=x
  ·rw[h]
  ·have bq:¬x=y:=fun ax=>h ax.symm;have aT:(y==x)=arj:=by simpa using h
   have e2:(x==y)=arj:=by simpa using bq
   rw[aT,e2]
def b2 (x:aB):List Int:=if x.kind=1\/x.kind=3 then [x.a,x.b] else if x.kind=2 then [x.a,x.b,x.c] else []
def dz (l:List aB) (i:Int):List Int:=if 0<=i then (match l[i.toNat]? with|some x=>b2 x|none=>[]) else []
theorem zf (x:aB):(b2 x).length<=3:=by unfold b2;split<;>(try split)<;>simp
theorem p6 (l:List aB) (i:Int):(dz l i).length<=3:=by
 unfold dz;split
 ·split
  ·exact zf _
  ·simp
 ·simp
theorem wZ {l:List aB} {i:Nat} {x:aB} (h:l[i]? =are x):dz l (i:Int)=b2 x:=by
 unfold dz;rw[if_pos (by omega)];simp[h]
theorem nI {l:List aB} {i n:Int} (h:n∈dz l i):0<=i/\i<l.length/\∃x,l[i.toNat]? =are x/\n∈b2 x:=by
 unfold dz at h;split at h
 ·rename_i az;split at h
  ·rename_i x U;have:=(arp.1 U).1;exact ⟨az,by omega,x,U,h⟩
  ·simp at h
 ·simp at h
theorem GG (N:Nat) (x:aB):xR N x=are (b2 x):=by
 unfold xR b2 Qs;simp only[cR];by_cases h1:x.kind=1
 ·simp[h1,aH]
 ·by_cases aj:x.kind=3
  ·simp[aj,aH]
  ·by_cases J:x.kind=2
   ·simp[J,aH]
   ·simp[h1,J,aj,aH]
theorem GF (N:Nat) (l:List aB) (i:Int):vb N l i=are (dz l i):=by
 unfold vb Qr dz;by_cases az:i<0
 ·rw[if_pos (dP az),aH,if_pos rfl,if_neg (by omega)]
 ·rw[if_neg (dO az),aH,if_pos (by omega:0<=i)];by_cases h1:(l.length:Int)<=i
  ·rw[if_pos (ue h1),atG (by omega)]
  ·rw[if_neg (wj h1)];have aO:i.toNat<l.length:=by omega
   have aM:bc l i=are l[i.toNat]:=by simp[bc,aO];omega
   rw[aM,aH,GG,aH,dw aO]
theorem Of (N:Nat) (l:List aB) (i:Int):An N l i=are (dz l i):=by
 unfold An Qv dz;by_cases az:i<0
 ·rw[if_pos (dP az),aH,if_pos rfl,if_neg (by omega)]
 ·rw[if_neg (dO az),aH,if_pos (by omega:0<=i)];by_cases h1:(l.length:Int)<=i
  ·rw[if_pos (ue h1),atG (by omega)]
  ·rw[if_neg (wj h1)];have aO:i.toNat<l.length:=by omega
   have aM:bc l i=are l[i.toNat]:=by simp[bc,aO];omega
   rw[aM,aH,dw aO];generalize l[i.toNat]=x at*;simp only[aM,aH,cR];unfold b2 Qw;by_cases h1:x.kind=1
   ·simp[h1,aH]
   ·by_cases aj:x.kind=3
    ·simp[aj,aH,cR]
    ·by_cases J:x.kind=2
     ·simp[J,aH,cR]
     ·simp[h1,J,aj,aH,cR]
theorem aji {l:List Int} {x:Int} (F:Nat->Int->Option (Sum Unit Bool)) (az:∀n,F (n+1) (l.length:Int)=are (.inl ())) (h1:∀(n i:Nat) (y:Int),l[i]? =are y->F (n+1) (i:Int)=if (y==x)=arf then are (.inr arf) else F n ((i+1:Nat):Int))
  {n:Nat} (av:l.length<n):F n 0=are (if l.contains x=arf then .inr arf else .inl ()):=by
 have h:=oq (l:=l) (fun _ y=>y==x) (fun _ _=>arf) F az h1 l.length n 0 av (by omega);simp only[atK,asn] at h;rw[h,YS (fun y=>y==x),Pb]
theorem YU (N:Nat) {l:List Int} (bG:l.length<N) (ai:l.length<=1000000) (x:Int):D2 N l x=are (l.contains x):=by
 have h:=aji (l:=l) (x:=x) (fun n i=>uW N l x n i) (fun n=>by
  show uW N l x (n+1) _=_;rw[uW,if_neg (dO (by omega))]) (fun n i y ah=>by
  show uW N l x (n+1) _=_;have aO:=(arp.1 ah).1;rw[uW,if_pos (dP (by omega)),dM ah,aH,cR,eB (by omega)]) bG
 unfold D2;rw[h,aH];cases l.contains x<;>rfl
def qV (i n:Int) (k:Nat) (x:aB):Bool:=((k:Int) !=i)&&(b2 x).contains n
def bS (l:List aB) (i n:Int):Int:=p7 (qV i n) 0 l
theorem an' (N:Nat) (bG:4<=N) (x:aB) (n k:Int):s3 N n k (b2 x) (b2 x).length N 0=are (if (b2 x).contains n=arf then .inr k else .inl ()):=by
 have h:=oq (l:=b2 x) (fun _ y=>y==n) (fun _ _=>k) (fun m i=>s3 N n k (b2 x) (b2 x).length m i) (fun m=>by
  show s3 N n k (b2 x) (b2 x).length (m+1) _=_;rw[s3,if_neg (dO (by omega))]) (fun m i y ah=>by
  show s3 N n k (b2 x) (b2 x).length (m+1) _=_;have aO:=(arp.1 ah).1;have:=zf x;rw[s3,if_pos (dP (by omega)),dM ah];simp only[aH,eB (show i<9223372036854775807 by omega)]) (b2 x).length N 0 (by have:=zf x;omega) (by omega)
 simp only[atK,asn] at h;rw[h];congr 1;rw[<-Pb];generalize b2 x=e;have key:∀(e:List Int) (i:Nat),cv (fun _ y=>y==n) (fun _ _=>k) i e=if (e.any fun y=>y==n)=arf then .inr k else .inl ():=by
  intro e;induction e with
  |nil=>intro i;rfl
  |cons y e aU=>
   intro i;rw[cv,ats];by_cases h:(y==n)=arf
   ·simp[h]
   ·simp only[asL] at h;rw[h,if_neg (by simp),aU,asH]
 exact key e 0
theorem Yv {F:Option (Sum Unit Int)} {l:List aB} {i n:Int} (h:F=are (cv (qV i n) (fun k _=>(k:Int)) 0 l)):(ark F fun y=>match y with| .inl _=>are (-1)| .inr y=>are y)=are (bS l i n):=by
 rw[h,aH];unfold bS;rcases Cd (qV i n) l 0 with ⟨h1,J⟩|⟨h1,J⟩
 ·rw[h1,J]
 ·rw[h1]
theorem CS (N:Nat) {l:List aB} (bG:l.length+4<=N) (ai:l.length<=1000000) (i n:Int):u9 N l i n=are (bS l i n):=by
 unfold u9;refine Yv ?_;have h:=oq (l:=l) (qV i n) (fun k _=>(k:Int)) (fun m j=>uR N i n l l.length m j) (fun m=>by
  show uR N i n l l.length (m+1) _=_;rw[uR,if_neg (dO (by omega))]) (fun m j x U=>by
  show uR N i n l l.length (m+1) _=_;have aO:=(arp.1 U).1;rw[uR,if_pos (dP (by omega))];unfold Qf qV;rw[dM U,aH];by_cases kg:(j:Int)=i
  ·rw[if_pos (by simpa using kg)];simp only[aH,kg,bne_self_eq_false,Bool.false_and,asf,if_false];rw[<-kg,eB (by omega)]
  ·rw[if_neg (by simpa using kg),GG,aH,an' N (by omega),aH];have ab:((j:Int) !=i)=arf:=by simpa using kg
   rw[ab,atY];by_cases ad:(b2 x).contains n=arf
   ·rw[if_pos ad,if_pos ad];rfl
   ·rw[if_neg ad,if_neg ad];simp only[aH];rw[eB (by omega)]) l.length N 0 (by omega) (by omega)
 simpa using h
theorem YV (N:Nat) {l:List aB} (bG:l.length+4<=N) (ai:l.length<=1000000) (i n:Int):DX N l i n=are (bS l i n):=by
 unfold DX;refine Yv ?_;have h:=oq (l:=l) (qV i n) (fun k _=>(k:Int)) (fun m j=>uS N l i n m j) (fun m=>by
  show uS N l i n (m+1) _=_;rw[uS,if_neg (dO (by omega))]) (fun m j x U=>by
  show uS N l i n (m+1) _=_;have aO:=(arp.1 U).1;have hlen:=zf x;rw[uS,if_pos (dP (by omega))];unfold P4 qV;by_cases kg:(j:Int)=i
  ·have ab:((j:Int) !=i)=arj:=by simpa using kg
   rw[ab,Bool.false_and];simp only[asf,if_false,aH,cR];rw[eB (by omega)]
  ·have ab:((j:Int) !=i)=arf:=by simpa using kg
   rw[ab,if_pos rfl,Of,aH,wZ U,YU N (by omega) (by omega),aH,aH,atY,cR,eB (by omega)]) l.length N 0 (by omega) (by omega)
 simpa using h
def iJ (e:List Int) (n:Int):List Int:=if e.contains n=arf then (if e.head? =are n then e.tail else e.take 1) else []
def gm (l:List aB) (i n:Int):List Int:=iJ (dz l i) n
theorem ahK (N:Nat) (n:Int) {e:List Int} (he:e.length<=3):me N n e.length 4 e 0=are (if e.contains n=arf then .inr (iJ e n) else .inl ()):=by
 match e,he with
 |[],_=>rfl
 |[a],_=>
  by_cases h:a=n
  ·subst h;simp[me,bc,aH,cR,gH,iJ,eB]
  ·have bq:¬n=a:=fun ax=>h ax.symm;simp[me,bc,aH,cR,gH,iJ,h,bq,hq]
 |[a,b],_=>
  by_cases h:a=n
  ·subst h;simp[me,bc,aH,cR,gH,iJ,eB]
  ·have bq:¬n=a:=fun ax=>h ax.symm;by_cases J:b=n
   ·subst J;simp[me,bc,aH,cR,gH,iJ,h,bq,hq]
   ·have gg:¬n=b:=fun ax=>J ax.symm;simp[me,bc,aH,cR,gH,iJ,h,bq,J,gg,hq]
 |[a,b,c],_=>
  by_cases h:a=n
  ·subst h;simp[me,bc,aH,cR,gH,iJ,eB]
  ·have bq:¬n=a:=fun ax=>h ax.symm;by_cases J:b=n
   ·subst J;simp[me,bc,aH,cR,gH,iJ,h,bq,hq]
   ·have gg:¬n=b:=fun ax=>J ax.symm;by_cases aj:c=n
    ·subst aj;simp[me,bc,aH,cR,gH,iJ,h,bq,J,gg,hq]
    ·have rS:¬n=c:=fun ax=>aj ax.symm;simp[me,bc,aH,cR,gH,iJ,h,bq,J,gg,aj,rS,hq]
 |a::b::c::d::e,h=>simp at h
theorem Wf {N:Nat} {n m:Int}:∀{k bW:Nat} {e:List Int} {i:Int} {r:Sum Unit (List Int)},k<=bW->me N n m k e i=are r->me N n m bW e i=are r
 |0,_,_,_,_,_,h=>by cases h
 |k+1,0,_,_,_,hk,_=>by omega
 |k+1,bW+1,e,i,r,hk,h=>by
  rw[me] at h⊢;split at h
  ·rename_i ad;rw[if_pos ad];cases h1:bc e i with
   |none=>rw[h1] at h;cases h
   |some a=>
    rw[h1] at h;simp only[aH] at h⊢;split at h
    ·rename_i av;rw[if_pos av];exact Wf (by omega) h
    ·rename_i av;rw[if_neg av];exact h
  ·rename_i ad;rw[if_neg ad];exact h
theorem GX (N:Nat) (bG:4<=N) (l:List aB) (i n:Int):xO N l i n=are (gm l i n):=by
 unfold xO gm;rw[GF,aH,Wf bG (ahK N n (p6 l i)),aH];by_cases ad:(dz l i).contains n=arf
 ·rw[if_pos ad]
 ·rw[if_neg ad,iJ,if_neg ad]
theorem ajV (N:Nat) (bG:4<=N) (l:List aB) (i n:Int):I9 N l i n=are (gm l i n):=by
 unfold I9 gm;have ai:=p6 l i;rw[Of,aH,YU N (by omega) (by omega),aH,cR];generalize dz l i=e at*;unfold iJ;by_cases ad:e.contains n=arf
 ·rw[ad];cases e with
  |nil=>simp at ad
  |cons a e=>
   simp only[atc,asf,if_false,bc,Int.le_refl,if_true,Int.toNat_zero,List.getElem?_cons_zero,aH,cR,List.head?_cons,List.tail_cons];by_cases ar:a=n
   ·subst ar;have:=Cn (xs:=a::e) (i:=1) (by simp);simp only[beq_self_eq_true,if_true];rw[show (1:Int)=((1:Nat):Int) from rfl,this,aH,iX (by simp at ai⊢;omega),aH];simp
   ·have:(a==n)=arj:=by simpa using ar
    rw[this];simp[ar]
 ·simp only[asL] at ad;rw[ad];simp
end Go.W
end
section
namespace Go.W
open Go.aQ
def sq (u:UInt8):Bool:=(decide (97<=u.toNat)&&decide (u.toNat<=122))||(decide (48<=u.toNat)&&decide (u.toNat<=57))
def mK (l:List UInt8):Bool:=l.all sq&&(decide (1<=l.length)&&decide (l.length<=12))
theorem alH (N:Nat) {l:List UInt8} {i:Nat} {u:UInt8} (h:l[i]? =are u):Iq N l i=are (!sq u):=by
 unfold Iq sq;rw[dM h];simp only[aH];by_cases a:97<=u.toNat
 ·rw[if_neg (by simp;omega)];by_cases b:u.toNat<=122
  ·rw[if_neg (by simp;omega)];simp[a,b]
  ·rw[if_pos (by simp;omega),if_neg (by simp;omega)];simp[a,b,show ¬u.toNat<=57 by omega,show (57:Int)<u.toNat by omega]
 ·rw[if_pos (by simp;omega)];by_cases c:u.toNat<48
  ·rw[if_pos (by simp;omega)];simp[a,show ¬48<=u.toNat by omega]
  ·rw[if_neg (by simp;omega)];by_cases d:u.toNat<=57
   ·simp[a,show 48<=u.toNat by omega,d,show ¬(57:Int)<u.toNat by omega]
   ·simp[a,show 48<=u.toNat by omega,d,show (57:Int)<u.toNat by omega]
theorem YR {al bs:Type} (p:al->Bool) (b:bs):∀(l:List al) (i:Nat),cv (fun _ y=> !p y) (fun _ _=>b) i l=if l.all p=arf then .inl () else .inr b
 |[],i=>rfl
 |y::l,i=>by
  rw[cv,asb];by_cases h:p y=arf
  ·rw[h];simp only[atc,asf,if_false,atY];exact YR p b l (i+1)
  ·simp only[asL] at h;rw[h];simp
theorem aiG (N:Nat) {l:List UInt8} (bG:14<=N):Jd N l=are (mK l):=by
 unfold Jd Qt mK;by_cases h1:l.length<1
 ·rw[if_pos (dP (by omega)),aH,if_pos rfl];simp[show ¬1<=l.length by omega]
 ·rw[if_neg (dO (by omega)),aH];by_cases J:12<l.length
  ·rw[if_pos (by simpa using by omega)];simp[show ¬l.length<=12 by omega]
  ·rw[if_neg (by simpa using by omega)];have h:=oq (l:=l) (fun _ y=> !sq y) (fun _ _=>arj) (fun m i=>uT N l l.length m i) (fun m=>by
    show uT N l l.length (m+1) _=_;rw[uT,if_neg (dO (by omega))]) (fun m i y ah=>by
    show uT N l l.length (m+1) _=_;have aO:=(arp.1 ah).1;rw[uT,if_pos (dP (by omega)),alH N ah,aH,eB (by omega)]) l.length N 0 (by omega) (by omega)
   simp only[atK,asn] at h;rw[h,YR sq,aH];by_cases aj:l.all sq=arf
   ·rw[if_pos aj,aj];simp[show 1<=l.length by omega,show l.length<=12 by omega]
   ·rw[if_neg aj];simp only[asL] at aj;rw[aj];simp
def qZ (e:List Int) (i:Nat) (a:Int):Bool:=(decide (a<0)||decide (64<=a))||(e.take i).contains a
def ui (e:List Int):Bool:=match cv (qZ e) (fun _ _=>arj) 0 e with| .inl _=>arf| .inr _=>arj
def hE (x:aB):Bool:=
 (!(b2 x).isEmpty&&mK x.name)&&(ui (b2 x)&&if x.kind=1 then x.c==0&&(decide (1<=x.length)&&decide (x.length<=100000)) else x.length==0&&(x.kind==2||x.c==0))
theorem wF {al bs:Type} {p:Nat->al->Bool} {out:Nat->al->bs}:∀{l:List al} {i:Nat},cv p out i l= .inl ()↔∀(j:Nat) (x:al),l[j]? =are x->p (i+j) x=arj
 |[],i=>by simp[cv]
 |x::l,i=>by
  rw[cv];by_cases h:p i x=arf
  ·rw[if_pos h];constructor
   ·intro ax;cases ax
   ·intro ax;have:=ax 0 x rfl;rw[ar3,h] at this;cases this
  ·rw[if_neg h,wF];simp only[asL] at h;constructor
   ·intro ax j y ap;cases j with
    |zero=>simp at ap;subst ap;exact h
    |succ j=>have:=ax j y (by simpa using ap);rwa [show i+1+j=i+(j+1) by omega] at this
   ·intro ax j y ap;have:=ax (j+1) y (by simpa using ap)
    rwa [show i+(j+1)=i+1+j by omega] at this
theorem GV {e:List Int}:ui e=arf↔e.Nodup/\∀a∈e,0<=a/\a<64:=by
 have h1:ui e=arf↔cv (qZ e) (fun _ _=>arj) 0 e= .inl ():=by
  unfold ui;split
  ·rename_i u h;simp[h]
  ·rename_i u h;simp[h]
 rw[h1,wF];constructor
 ·intro h;refine ⟨?_,fun a ar=> ?_⟩
  ·refine asy.2 fun i j af ap cQ di=> ?_;have Bt:=dw ap;have:=h j _ Bt;rw[arE] at this;simp only[qZ,auu,auh,decide_eq_false_iff_not] at this;apply this.2;refine arI (i:=i) ?_;rw[asg,if_pos cQ,dw af,di]
  ·obtain ⟨j,ap⟩:=asx ar;have:=h j a ap;simp only[qZ,auu,decide_eq_false_iff_not] at this;omega
 ·rintro ⟨J,aj⟩ j x ap;rw[arE];have:=aj x (arI ap);simp only[qZ,auu,decide_eq_false_iff_not];refine ⟨⟨by omega,by omega⟩, ?_⟩;simp only[auh,decide_eq_false_iff_not];intro hm;obtain ⟨i,af⟩:=asx hm;rw[asg] at af;split at af
  ·rename_i cQ;have hP:=(arp.1 ap).1;obtain ⟨jW,af⟩:=arp.1 af;obtain ⟨_,ap⟩:=arp.1 ap;exact asy.1 J i j jW hP cQ (by rw[af,ap])
  ·cases af
theorem akn (N:Nat) {e:List Int} (bG:e.length<N) (ai:e.length<=1000000) (a:Int):sH N a e e.length N 0=are (if e.contains a=arf then .inr arj else .inl ()):=by
 have h:=oq (l:=e) (fun _ y=>y==a) (fun _ _=>arj) (fun m i=>sH N a e e.length m i) (fun m=>by
  show sH N a e e.length (m+1) _=_;rw[sH,if_neg (dO (by omega))]) (fun m i y ah=>by
  show sH N a e e.length (m+1) _=_;have aO:=(arp.1 ah).1;rw[sH,if_pos (dP (by omega)),dM ah,aH,eB (by omega)];by_cases Fe:a=y
  ·rw[if_pos (by simpa using Fe),if_pos (by simpa using Fe.symm)]
  ·rw[if_neg (by simpa using Fe),if_neg (by simpa using fun ax:y=a=>Fe ax.symm)]) e.length N 0 bG (by omega)
 simp only[atK,asn] at h;rw[h];congr 1;have key:∀(e:List Int) (i:Nat),cv (fun _ y=>y==a) (fun _ _=>arj) i e=if (e.any fun y=>y==a)=arf then .inr arj else .inl ():=by
  intro e;induction e with
  |nil=>intro i;rfl
  |cons y e aU=>
   intro i;rw[cv,ats];by_cases h:(y==a)=arf
   ·simp[h]
   ·simp only[asL] at h;rw[h,if_neg (by simp),aU,asH]
 rw[key,Pb]
theorem akm (N:Nat) (bG:10<=N) {e:List Int} (he:e.length<=3):sG N e e e.length N 0=are (cv (qZ e) (fun _ _=>arj) 0 e):=by
 have h:=oq (l:=e) (qZ e) (fun _ _=>arj) (fun m i=>sG N e e e.length m i) (fun m=>by
  show sG N e e e.length (m+1) _=_;rw[sG,if_neg (dO (by omega))]) (fun m i a ar=>by
  show sG N e e e.length (m+1) _=_;have aO:=(arp.1 ar).1;rw[sG,if_pos (dP (by omega)),dM ar,aH];unfold P1 qZ;by_cases az:a<0
  ·rw[if_pos (dP az),aH];simp[az]
  ·rw[if_neg (dO az),aH];by_cases h1:64<=a
   ·simp[h1]
   ·rw[if_neg (by simpa using by omega),Gq (by omega),aH,akn N (by rw[asq];omega) (by rw[asq];omega),aH];have aT:decide (a<0)=arj:=by simpa using by omega
    have e2:decide (64<=a)=arj:=by simpa using by omega
    rw[aT,e2,asH,asH];by_cases ad:(e.take i).contains a=arf
    ·rw[if_pos ad,if_pos ad]
    ·rw[if_neg ad,if_neg ad];simp only[];rw[eB (by omega)]) e.length N 0 (by omega) (by omega)
 simpa using h
theorem agU (N:Nat) (bG:20<=N) (x:aB) (U:b2 x≠[]\/mK x.name=arj):I4 N x=are (hE x):=by
 unfold I4 hE P0;have he:=zf x;rw[GG,aH,aiG N (by omega)];by_cases bL:b2 x=[]
 ·have av:mK x.name=arj:=by rcases U with h|h;exact absurd bL h;exact h
  rw[bL,av];simp[o9,aH]
 ·have nr:∀{bs:Type} (f:Bool->Option bs),o9 (b2 x) f=f arj:=fun f=>by unfold o9;rw[if_neg bL]
  rw[nr];have kC:(b2 x).isEmpty=arj:=by cases h:b2 x with|nil=>exact absurd h bL|cons _ _=>rfl
  simp only[asf,if_false,aH,kC,auS,atY];by_cases av:mK x.name=arf
  ·rw[av];simp only[atc,asf,if_false,atY];rw[akm N (by omega) he,aH];unfold ui;cases ao:cv (qZ (b2 x)) (fun _ _=>arj) 0 (b2 x) with
   |inr b=>
    have:b=arj:=by
     have key:∀(e:List Int) (i:Nat) (b:Bool),cv (qZ (b2 x)) (fun _ _=>arj) i e= .inr b->b=arj:=by
      intro e;induction e with
      |nil=>intro i b h;cases h
      |cons y e aU=>
       intro i b h;rw[cv] at h;split at h
       ·cases h;rfl
       ·exact aU _ _ h
     exact key _ _ _ ao
    subst this;simp
   |inl u=>
    simp only[atY];by_cases h1:x.kind=1
    ·rw[if_pos (by simpa using h1),if_pos h1];unfold P2;by_cases ad:x.c=0
     ·rw[if_pos (by simpa using ad)];by_cases ar:1<=x.length
      ·rw[if_pos (ue ar)];simp[cR,aH,ad,ar]
      ·rw[if_neg (wj ar)];simp[aH,ar]
     ·rw[if_neg (by simpa using ad)];simp[aH,ad]
    ·rw[if_neg (by simpa using h1),if_neg h1];unfold P3;by_cases ar:x.length=0
     ·rw[if_pos (by simpa using ar)];by_cases J:x.kind=2
      ·rw[if_pos (by simpa using J)];simp[aH,ar,J]
      ·rw[if_neg (by simpa using J)];simp[cR,aH,ar,J]
     ·rw[if_neg (by simpa using ar)];simp[aH,ar]
  ·simp only[asL] at av;rw[av];simp
theorem ahG (N:Nat) (x:aB):I0 N x=if b2 x=[] then are () else ari:=by
 unfold I0 PX b2;simp only[cR];by_cases h1:x.kind=1
 ·simp[h1,aH]
 ·by_cases aj:x.kind=3
  ·simp[aj,aH]
  ·by_cases J:x.kind=2
   ·simp[J,aH]
   ·simp[h1,J,aj,aH]
theorem ahJ (N:Nat) (bG:20<=N) (x:aB):Rl N x=are (hE x):=by
 unfold Rl Rj;rw[ahG];by_cases he:b2 x=[]
 ·rw[if_pos he,aH];have az:PZ N=are arf:=rfl;rw[az,aH,if_pos rfl];unfold hE;rw[he];rfl
 ·rw[if_neg he,agU N bG x (.inl he)];rfl
end Go.W
end
section
namespace Go.W
open Go.aQ
def gF (l:List aB) (n:Int):Int:=((l.filter fun x=>(b2 x).contains n).length:Int)
theorem Wo (l:List aB) (n:Int):0<=gF l n:=by unfold gF;omega
theorem ak0 (l:List aB) (n:Int):gF l n<=l.length:=by unfold gF;have:=aum (fun x=>(b2 x).contains n) l;omega
theorem p4 {al:Type} {l:List al} {i:Nat} {x:al} (h:l[i]? =are x):l.take (i+1)=l.take i++[x]:=by
 rw[List.take_add_one,h];rfl
theorem wL (l:List aB) (x:aB) (n:Int):gF (l++[x]) n=gF l n+if n∈b2 x then 1 else 0:=by
 unfold gF;rw[List.filter_append];by_cases h:n∈b2 x
 ·simp[h]
 ·simp[h]
def kn (l:List aB) (i:Nat) (x:aB):Int:=
 if hE x=arj then 1 else if ((l.take i).any fun y=>y.name==x.name)=arf then 8 else if ((b2 x).any fun n=>gF (l.take i) n==2)=arf then 17 else 0
def p1 (l:List aB) (i:Nat) (x:aB):Bool:=kn l i x !=0
def u3 (l:List aB):Int:=if 96<l.length then 3 else match cv (p1 l) (kn l) 0 l with| .inl _=>0| .inr c=>c
structure abV (l:List aB) (i:Nat) (ct:List (List UInt8×Bool)) (c4:List (Int×Int)):Prop where
 fy:∀k,(bn ct k).getD arj=(l.take i).any fun y=>y.name==k
 gG:∀n,(bn c4 n).getD 0=gF (l.take i) n
theorem VV (N:Nat) {e:List Int} (aw:e.Nodup) (ai:e.length<=3):∀(k n i:Nat) (c4:List (Int×Int)),k<n->i+k=e.length->(∀a,0<=(bn c4 a).getD 0/\(bn c4 a).getD 0<=1000+i)->
  (((e.drop i).any fun a=>(bn c4 a).getD 0==2)=arf/\sL N e e.length n c4 i=are (.inr 17))\/
  (((e.drop i).any fun a=>(bn c4 a).getD 0==2)=arj/\∃xJ,sL N e e.length n c4 i=are (.inl xJ)/\∀m,(bn xJ m).getD 0=(bn c4 m).getD 0+if m∈e.drop i then 1 else 0)
 |k,0,i,c4,av,_,_=>by omega
 |0,n+1,i,c4,av,af,ab=>by
  obtain rfl:i=e.length:=by omega
  rw[sL,if_neg (dO (by omega)),atf];exact .inr ⟨rfl,c4,rfl,fun m=>by simp⟩
 |k+1,n+1,i,c4,av,af,ab=>by
  have aO:i<e.length:=by omega
  have ar:=dw aO;rw[sL,if_pos (dP (by omega)),dM ar,lG ar,ats];simp only[aH,cR];have qz:=ab e[i];by_cases J:(bn c4 e[i]).getD 0=2
  ·have gg:((bn c4 e[i]).getD 0==2)=arf:=by simpa using J
   rw[if_pos gg,gg];exact .inl ⟨rfl,rfl⟩
  ·have gg:((bn c4 e[i]).getD 0==2)=arj:=by simpa using J
   rw[if_neg (by rw[gg];simp),eB (by omega),hq (by omega) (by omega),gg,asH];have mC:∀m,(bn (eJ c4 e[i] ((bn c4 e[i]).getD 0+1)) m).getD 0=(bn c4 m).getD 0+if m=e[i] then 1 else 0:=by
    intro m;rw[jr];by_cases hm:m=e[i]
    ·subst hm;simp
    ·rw[if_neg (fun ax=>hm ax.symm),if_neg hm];simp
   have r2:e[i]∉e.drop (i+1):=by intro hm;obtain ⟨j,ap⟩:=asx hm;rw[asE] at ap;obtain ⟨hP,ap⟩:=arp.1 ap;exact asy.1 aw i (i+1+j) aO hP (by omega) ap.symm
   have LM:((e.drop (i+1)).any fun a=>(bn (eJ c4 e[i] ((bn c4 e[i]).getD 0+1)) a).getD 0==2)=((e.drop (i+1)).any fun a=>(bn c4 a).getD 0==2):=by
    rw[asw];simp only[asV];constructor
    ·rintro ⟨a,h1,aj⟩;refine ⟨a,h1, ?_⟩;rw[mC,if_neg (fun ax=>r2 (by rw[<-ax];exact h1)),Int.add_zero] at aj;exact aj
    ·rintro ⟨a,h1,aj⟩;refine ⟨a,h1, ?_⟩;rw[mC,if_neg (fun ax=>r2 (by rw[<-ax];exact h1)),Int.add_zero];exact aj
   have aU:=VV N aw ai k n (i+1) (eJ c4 e[i] ((bn c4 e[i]).getD 0+1)) (by omega) (by omega) (fun a=>by
    rw[mC];have:=ab a;split
    ·rename_i h;subst h;omega
    ·omega)
   rw[LM] at aU;rcases aU with ⟨g1,g2⟩|⟨g1,xJ,g2,g3⟩
   ·exact .inl ⟨g1,g2⟩
   ·refine .inr ⟨g1,xJ,g2,fun m=> ?_⟩;rw[g3 m,mC m];by_cases hm:m=e[i]
    ·subst hm;rw[if_pos rfl,if_neg r2,if_pos arS];omega
    ·rw[if_neg hm];by_cases nq:m∈e.drop (i+1)
     ·rw[if_pos nq,if_pos (arK _ nq)];omega
     ·rw[if_neg nq,if_neg (by simp only[arA,not_or];exact ⟨hm,nq⟩)];omega
theorem ox {x:aB} (h:hE x=arf):(b2 x).Nodup/\(∀a∈b2 x,0<=a/\a<64)/\b2 x≠[]/\mK x.name=arf:=by
 unfold hE at h;simp only[arq,aso] at h;obtain ⟨h1,J⟩:=GV.1 h.2.1;exact ⟨h1,J,fun ax=>by rw[ax] at h;simp at h,h.1.2⟩
theorem Wv (N:Nat) (bG:100<=N) {l:List aB} (ai:l.length<=96):∀(k n i:Nat) (ct:List (List UInt8×Bool)) (c4:List (Int×Int)),k<n->i+k=l.length->abV l i ct c4->
  zK N l l.length n ct c4 i=are (cv (p1 l) (kn l) i (l.drop i))
 |k,0,i,ct,c4,av,_,_=>by omega
 |0,n+1,i,ct,c4,av,af,cA=>by
  obtain rfl:i=l.length:=by omega
  rw[zK,if_neg (dO (by omega)),atf];rfl
 |k+1,n+1,i,ct,c4,av,af,cA=>by
  have aO:i<l.length:=by omega
  have U:=dw aO;rw[zK,if_pos (dP (by omega)),dM U,lG U,cv,aH,ahJ N (by omega) _,aH];unfold p1;by_cases tW:hE l[i]=arf
  case neg=>
   simp only[asL] at tW;have ad:kn l i l[i]=1:=by unfold kn;rw[if_pos tW]
   rw[tW,ad];simp
  obtain ⟨aT,e2,hV,kR⟩:=ox tW;rw[tW];simp only[atc,asf,if_false,cR,cA.fy];by_cases ly:((l.take i).any fun y=>y.name==l[i].name)=arf
  ·have ad:kn l i l[i]=8:=by unfold kn;rw[if_neg (by rw[tW];simp),if_pos ly]
   rw[if_pos ly,ad];simp
  ·rw[if_neg ly,GG,aH];have ab:∀a,0<=(bn c4 a).getD 0/\(bn c4 a).getD 0<=1000+(0:Nat):=fun a=>by
    rw[cA.gG];have h1:=Wo (l.take i) a;have J:=ak0 (l.take i) a;rw[asq] at J;omega
   have LM:((b2 l[i]).any fun a=>(bn c4 a).getD 0==2)=((b2 l[i]).any fun a=>gF (l.take i) a==2):=by simp only[cA.gG]
   have aj:=zf l[i];have:=VV N aT aj (b2 l[i]).length N 0 c4 (by omega) (by omega) ab;rw[asn,LM] at this;rcases this with ⟨g1,g2⟩|⟨g1,xJ,g2,g3⟩
   ·have ad:kn l i l[i]=17:=by unfold kn;rw[if_neg (by rw[tW];simp),if_neg ly,if_pos g1]
    have g2:sL N (b2 l[i]) (b2 l[i]).length N c4 0=are (.inr 17):=g2;rw[g2,ad];simp[aH]
   ·have ad:kn l i l[i]=0:=by unfold kn;rw[if_neg (by rw[tW];simp),if_neg ly,if_neg (by rw[g1];simp)]
    have g2:sL N (b2 l[i]) (b2 l[i]).length N c4 0=are (.inl xJ):=g2;rw[g2,ad];simp only[aH,bne_self_eq_false,asf,if_false];rw[eB (by omega)];refine Wv N bG ai k n (i+1) _ xJ (by omega) (by omega) ⟨fun q=> ?_,fun m=> ?_⟩
    ·rw[jr,p4 U,List.any_append];by_cases aF:l[i].name=q
     ·rw[if_pos aF];simp[aF]
     ·rw[if_neg aF,cA.fy];simp[aF]
    ·rw[g3 m,cA.gG,p4 U,wL]
theorem Xp (N:Nat) (bG:100<=N) {l:List aB}:pu N l=are (u3 l):=by
 unfold pu u3;by_cases ai:96<l.length
 ·rw[if_pos (by simpa using by omega),if_pos ai]
 ·rw[if_neg (by simpa using by omega),if_neg ai];have h:=Wv N bG (l:=l) (by omega) l.length N 0 [] [] (by omega) (by omega) ⟨fun k=>by simp[bn],fun n=>by simp[bn,gF]⟩;simp only[atK,asn] at h;rw[h,aH];cases cv (p1 l) (kn l) 0 l<;>rfl
structure SS (l:List aB) (i:Nat) (ct:List Int):Prop where
 len:ct.length=64
 gG:∀n:Nat,n<64->ct[n]? =are (gF (l.take i) (n:Int))
theorem SS.get {l:List aB} {i:Nat} {ct:List Int} (h:SS l i ct) {a:Int} (az:0<=a) (h1:a<64):bc ct a=are (gF (l.take i) a):=by
 obtain ⟨n,rfl⟩:=ar8 az;have:=h.gG n (by omega);exact dM this
structure fj (l:List aB):Prop where
 len:l.length<=96
 snd:∀x∈l,hE x=arf
 fy:l.Pairwise fun x y=>x.name≠y.name
 gG:∀n,gF l n<=2
theorem fj.err {l:List aB} (h:fj l):u3 l=0:=by
 unfold u3;rw[if_neg (by have:=h.len;omega)];have:cv (p1 l) (kn l) 0 l= .inl ():=by
  rw[wF];intro j x ap;rw[arE];have hP:=(arp.1 ap).1;have ad:kn l j x=0:=by
   unfold kn;rw[if_neg (by rw[h.snd x (arI ap)];simp),if_neg,if_neg]
   ·intro ax;obtain ⟨n,av,yI⟩:=asV.1 ax;have J:gF (l.take j) n=2:=by simpa using yI
    have aj:=wL (l.take j) x n;rw[if_pos av,<-p4 ap,J] at aj;have aJ:gF (l.take (j+1)) n<=gF l n:=by unfold gF;have:=(auB (j+1) l).filter (fun x=>(b2 x).contains n);have:=this.length_le;omega
    have:=h.gG n;omega
   ·intro ax;obtain ⟨y,ah,afc⟩:=asV.1 ax;obtain ⟨i,af⟩:=asx ah;rw[asg] at af;split at af
    ·rename_i cQ;obtain ⟨jW,af⟩:=arp.1 af;obtain ⟨_,ap⟩:=arp.1 ap;have:=asy.1 h.fy i j jW hP cQ;rw[af,ap] at this;exact this (by simpa using afc)
    ·cases af
  unfold p1;rw[ad];rfl
 rw[this]
theorem fj.p (N:Nat) (bG:100<=N) {l:List aB} (h:fj l):pu N l=are 0:=by
 rw[Xp N bG,h.err]
end Go.W
end
section
namespace Go.W
open Go.aQ
theorem Nt {l:List aB} {n:Int} {a b:Nat} (h:a<=b):gF (l.take a) n<=gF (l.take b) n:=by
 unfold gF;have h1:l.take a=(l.take b).take a:=by rw[List.take_take];congr 1;omega
 rw[h1];have:=((auB a (l.take b)).filter (fun x=>(b2 x).contains n)).length_le;omega
theorem OD {l:List aB} {n:Int} {i:Nat} {x:aB} (h:l[i]? =are x) (av:n∈b2 x):gF (l.take (i+1)) n=gF (l.take i) n+1:=by
 rw[p4 h,wL,if_pos av]
theorem ajC {l:List aB} {n:Int} {a:Nat}:gF (l.take a) n<=gF l n:=by
 have:=Nt (l:=l) (n:=n) (Nat.le_max_left a l.length);rw[List.take_of_length_le (Nat.le_max_right _ _)] at this;exact this
theorem yd {l:List aB} {n:Int} {i j k:Nat} {x y z:aB} (U:l[i]? =are x) (ah:l[j]? =are y) (aD:l[k]? =are z) (h1:n∈b2 x) (J:n∈b2 y) (aj:n∈b2 z) (cQ:i<j) (yA:j<k):3<=gF l n:=by
 have cr:=OD U h1;have a2:=OD ah J;have a3:=OD aD aj;have fe:=Nt (l:=l) (n:=n) (show i+1<=j by omega);have hg:=Nt (l:=l) (n:=n) (show j+1<=k by omega);have qs:=ajC (l:=l) (n:=n) (a:=k+1);have vo:=Wo (l.take i) n;omega
theorem fj.of {l:List aB} (h:u3 l=0):fj l:=by
 unfold u3 at h;split at h
 ·cases h
 rename_i ai;have pP:cv (p1 l) (kn l) 0 l= .inl ():=by
  cases ao:cv (p1 l) (kn l) 0 l with
  |inl u=>rfl
  |inr c=>
   rw[ao] at h;simp only at h;have key:∀(e:List aB) (i:Nat) (c:Int),cv (p1 l) (kn l) i e= .inr c->c≠0:=by
    intro e;induction e with
    |nil=>intro i c h;cases h
    |cons y e aU=>
     intro i c h;rw[cv] at h;split at h
     ·rename_i an;cases h;unfold p1 at an;simpa using an
     ·exact aU _ _ h
   exact absurd h (key _ _ _ ao)
 have ad:∀(j:Nat) (x:aB),l[j]? =are x->kn l j x=0:=fun j x ap=>by have:=(wF.1 pP) j x ap;rw[arE] at this;unfold p1 at this;simpa using this
 have aj:∀(j:Nat) (x:aB),l[j]? =are x->hE x=arf/\((l.take j).any fun y=>y.name==x.name)=arj/\((b2 x).any fun n=>gF (l.take j) n==2)=arj:=fun j x ap=>by
  have:=ad j x ap;unfold kn at this;split at this
  ·cases this
  ·rename_i a;split at this
   ·cases this
   ·rename_i b;split at this
    ·cases this
    ·rename_i c;exact ⟨by simpa using a,by simpa using b,by simpa using c⟩
 refine ⟨by omega,fun x U=> ?_, ?_,fun n=> ?_⟩
 ·obtain ⟨j,ap⟩:=asx U;exact (aj j x ap).1
 ·rw[asy];intro i j af ap cQ bL;have ab:=(aj j _ (dw ap)).2.1;rw[List.any_eq_false] at ab;have hm:l[i]∈l.take j:=by
   refine arI (i:=i) ?_;rw[asg,if_pos cQ];exact dw af
  exact ab _ hm (by simpa using bL)
 ·have key:∀(i:Nat),i<=l.length->gF (l.take i) n<=2:=by
   intro i;induction i with
   |zero=>intro _;simp[gF]
   |succ i aU=>
    intro af;have U:=dw (xs:=l) (i:=i) (by omega);rw[p4 U,wL];have:=aU (by omega);split
    ·rename_i hm;have ab:=(aj i _ U).2.2;rw[List.any_eq_false] at ab;have:=ab n hm;simp at this;omega
    ·omega
  have:=key l.length (ars _);rw[asO] at this;exact this
theorem fj.two {l:List aB} (h:fj l) {n:Int} {i j k:Nat} {x y z:aB} (U:l[i]? =are x) (ah:l[j]? =are y) (aD:l[k]? =are z) (h1:n∈b2 x) (J:n∈b2 y) (aj:n∈b2 z):i=j\/j=k\/i=k:=by
 have ad:=h.gG n;rcases as1 i j with a|a|a
 ·rcases as1 j k with b|b|b
  ·have:=yd U ah aD h1 J aj a b;omega
  ·exact .inr (.inl b)
  ·rcases as1 i k with c|c|c
   ·have:=yd U aD ah h1 aj J c b;omega
   ·exact .inr (.inr c)
   ·have:=yd aD U ah aj h1 J c a;omega
 ·exact .inl a
 ·rcases as1 i k with b|b|b
  ·have:=yd ah U aD J h1 aj a b;omega
  ·exact .inr (.inr b)
  ·rcases as1 j k with c|c|c
   ·have:=yd ah aD U J aj h1 c b;omega
   ·exact .inr (.inl c)
   ·have:=yd aD ah U aj J h1 c a;omega
theorem GA (l:List aB) (i n:Int):(bS l i n= -1/\∀(j:Nat) (x:aB),l[j]? =are x->(j:Int)≠i->n∉b2 x)\/
  ∃(j:Nat) (x:aB),bS l i n=(j:Int)/\l[j]? =are x/\(j:Int)≠i/\n∈b2 x:=by
 rcases Gb (qV i n) l 0 with ⟨h1,J⟩|⟨j,x,h1,J,aj,_⟩
 ·refine .inl ⟨h1,fun j x ap kg av=> ?_⟩;have:=J j x ap;rw[arE] at this;unfold qV at this;have aT:((j:Int) !=i)=arf:=by simpa using kg
  rw[aT] at this;simp[av] at this
 ·rw[arE] at h1 aj;unfold qV at aj;simp only[arq,bne_iff_ne,ne_eq] at aj;exact .inr ⟨j,x,h1,J,aj.1,by simpa using aj.2⟩
theorem CR {l:List aB} {i n:Int} (h:0<=bS l i n):n∈dz l (bS l i n)/\bS l i n≠i:=by
 rcases GA l i n with ⟨h1,_⟩|⟨j,x,h1,J,aj,aJ⟩
 ·omega
 ·rw[h1,wZ J];exact ⟨aJ,aj⟩
theorem fj.y2 {l:List aB} (h:fj l) {i n:Int} (av:n∈dz l i) (hk:0<=bS l i n):bS l (bS l i n) n=i:=by
 obtain ⟨az,h1,x,U,Vd⟩:=nI av;obtain ⟨a,rfl⟩:=ar8 az;rw[asv] at U;rcases GA l (a:Int) n with ⟨g1,_⟩|⟨j,y,g1,g2,g3,g4⟩
 ·omega
 ·rw[g1];rcases GA l (j:Int) n with ⟨bm,br⟩|⟨c,z,bm,br,dj,gk⟩
  ·exact absurd Vd (br a x U (by omega))
  ·rw[bm];rcases h.two U g2 br Vd g4 gk with e|e|e
   ·omega
   ·omega
   ·omega
theorem fj.nodup {l:List aB} (h:fj l) (i:Int):(dz l i).Nodup:=by
 unfold dz;split
 ·split
  ·rename_i x U;exact (ox (h.snd x (arI U))).1
  ·exact List.nodup_nil
 ·exact List.nodup_nil
theorem GJ {e:List Int} {n m:Int} (h:m∈iJ e n):n∈e/\m∈e:=by
 unfold iJ at h;split at h
 ·rename_i ad;refine ⟨by simpa using ad, ?_⟩;split at h
  ·exact List.mem_of_mem_tail h
  ·exact atE h
 ·simp at h
theorem aiB {e:List Int} (aw:e.Nodup) {n m:Int} (h:m∈iJ e n):n∈iJ e m/\n≠m:=by
 obtain ⟨h1,J⟩:=GJ h;unfold iJ at h⊢;rw[if_pos (by simpa using h1)] at h;rw[if_pos (by simpa using J)];cases e with
 |nil=>simp at h1
 |cons a e=>
  have jU:=atk.1 aw;simp only[List.head?_cons,List.tail_cons,arw.injEq,List.take_succ_cons,atO,arA,asU,or_false] at h⊢;split at h
  ·rename_i ar;subst ar;have bL:¬a=m:=fun ax=>jU.1 (ax▸h);rw[if_neg bL];exact ⟨by simp,bL⟩
  ·rename_i ar;simp only[arA,asU,or_false] at h;subst h;rw[if_pos rfl];refine ⟨?_,fun ax=>ar ax.symm⟩;rcases arA.1 h1 with ax|ax
   ·exact absurd ax.symm ar
   ·exact ax
theorem CM {l:List aB} {i n m:Int} (h:m∈gm l i n):n∈dz l i/\m∈dz l i:=GJ h
theorem fj.aaw {l:List aB} (h:fj l) {i n m:Int} (hm:m∈gm l i n):n∈gm l i m/\n≠m:=aiB (h.nodup i) hm
theorem wT (l:List aB) (i n:Int):(gm l i n).length<=3:=by
 have:=p6 l i;unfold gm iJ;split
 ·split
  ·rw[List.length_tail];omega
  ·rw[asq];omega
 ·simp
end Go.W
end
section
namespace Go.W
open Go.aQ
def lK (i:Nat):List UInt8:=[112,asR (48+i / 10%10),asR (48+i%10)]
theorem OW {n:Nat} (h:n<256):oF (n:Int)=are (asR n):=by
 unfold oF;rw[if_pos (by omega)];simp
theorem OL (N:Nat) {i:Nat} (h:i<1000):xP N (i:Int)=are (lK i):=by
 unfold xP lK;have aT:art .i64 (Int.tdiv (i:Int) 10)=((i / 10:Nat):Int):=by rw[Int.tdiv_eq_ediv_of_nonneg (by omega),hq (by omega) (by omega)];omega
 have e2:Int.tmod ((i / 10:Nat):Int) 10=((i / 10%10:Nat):Int):=by rw[Int.tmod_eq_emod_of_nonneg (by omega)];omega
 have hV:Int.tmod (i:Int) 10=((i%10:Nat):Int):=by rw[Int.tmod_eq_emod_of_nonneg (by omega)];omega
 rw[aT,e2,hV,hq (by omega) (by omega),hq (by omega) (by omega),aaE (by omega) (by omega),aaE (by omega) (by omega)];have f1:=OW (n:=112) (by omega);have f2:=OW (n:=48+i / 10%10) (by omega);have f3:=OW (n:=48+i%10) (by omega);rw[show ((48:Int)+((i / 10%10:Nat):Int))=((48+i / 10%10:Nat):Int) by omega,show ((48:Int)+((i%10:Nat):Int))=((48+i%10:Nat):Int) by omega,f2,f3];have f1:oF 112=are (asR 112):=f1;rw[f1];rfl
theorem ahc {i j:Nat} (af:i<100) (ap:j<100) (h:lK i=lK j):i=j:=by
 unfold lK at h;simp only[List.cons.injEq,and_true,true_and] at h;have cr:=congrArg asP h.1;have a2:=congrArg asP h.2;simp only[UInt8.toNat_ofNat'] at cr a2;omega
theorem Oy (i:Nat):mK (lK i)=arf:=by
 have key:∀d:Nat,d<10->sq (asR (48+d))=arf:=by intro d aw;unfold sq;rw[UInt8.toNat_ofNat'];simp;omega
 unfold mK lK;simp only[asb,List.all_nil,key (i / 10%10) (by omega),key (i%10) (by omega)];rfl
structure nV (l:List aB) (op:List Int) (ec:Int):Prop where
 snd:∀x∈l,hE x=arf
 fy:∀(i:Nat) (x:aB),l[i]? =are x->x.name=lK i
 gG:∀n,gF l n<=2
 fY:∀n∈op,gF l n<=1
 gX:op.Nodup
 rg:∀n∈op,0<=n/\n<ec
 ha:∀n,ec<=n->gF l n=0
 wi:(op.length:Int)<=ec
 Nc:ec<=64
 y5:0<=ec
 fst:∃x,l[0]? =are x/\x.kind=1
theorem nV.add {l:List aB} {op nB:List Int} {ec l8:Int} {x:aB} (h:nV l op ec) (aq:hE x=arf) (av:x.name=lK l.length) (h1:∀n∈b2 x,n∈op\/(ec<=n/\n<l8)) (J:∀n∈nB,(n∈op/\n∉b2 x)\/(ec<=n/\n<l8))
  (aj:nB.Nodup) (aJ:ec<=l8) (bk:l8<=64) (dn:(nB.length:Int)<=l8):nV (l++[x]) nB l8 where
 snd:=fun y ah=>by
  rcases arO.1 ah with ah|ah
  ·exact h.snd y ah
  ·simp at ah;subst ah;exact aq
 fy:=fun i y ah=>by
  by_cases af:i<l.length
  ·rw[arQ af] at ah;exact h.fy i y ah
  ·rw[arP (by omega)] at ah;have jm:=(arp.1 ah).1;simp at jm;have:i=l.length:=by omega
   subst this;simp at ah;subst ah;exact av
 gG:=fun n=>by
  rw[wL];have a:=h.gG n;split
  ·rename_i hm;rcases h1 n hm with hm|⟨hm,_⟩
   ·have:=h.fY n hm;omega
   ·have:=h.ha n hm;omega
  ·omega
 fY:=fun n hm=>by
  rw[wL];rcases J n hm with ⟨a,b⟩|⟨a,b⟩
  ·have:=h.fY n a;rw[if_neg b];omega
  ·have:=h.ha n a;split<;>omega
 gX:=aj
 rg:=fun n hm=>by
  rcases J n hm with ⟨a,b⟩|⟨a,b⟩
  ·have:=h.rg n a;omega
  ·have:=h.y5;omega
 ha:=fun n hm=>by
  rw[wL,if_neg,h.ha n (by omega)]
  ·rfl
  ·intro ax;rcases h1 n ax with a|a
   ·have:=h.rg n a;omega
   ·omega
 wi:=dn
 Nc:=bk
 y5:=by have:=h.y5;omega
 fst:=by obtain ⟨y,ah,hk⟩:=h.fst;exact ⟨y,by rw[arQ (arp.1 ah).1];exact ah,hk⟩
theorem nV.ok {l:List aB} {op:List Int} {ec:Int} (h:nV l op ec) (ai:l.length<=96):fj l where
 len:=ai
 snd:=h.snd
 fy:=asy.2 fun i j af ap cQ ax=>by rw[h.fy i _ (dw af),h.fy j _ (dw ap)] at ax;have:=ahc (by omega) (by omega) ax;omega
 gG:=h.gG
theorem Ci {m:List UInt8} {a b len:Int} (hm:mK m=arf) (ar:0<=a/\a<64) (ab:0<=b/\b<64) (eD:a≠b) (ai:1<=len/\len<=100000):hE (aB.mk 1 m a b 0 len)=arf:=by
 have he:ui [a,b]=arf:=GV.2 ⟨by simp[eD],by simp;omega⟩;unfold hE;have:b2 (aB.mk 1 m a b 0 len)=[a,b]:=by simp[b2]
 rw[this];simp[hm,he,ai]
theorem agX {m:List UInt8} {a b:Int} (hm:mK m=arf) (ar:0<=a/\a<64) (ab:0<=b/\b<64) (eD:a≠b):hE (aB.mk 3 m a b 0 0)=arf:=by
 have he:ui [a,b]=arf:=GV.2 ⟨by simp[eD],by simp;omega⟩;unfold hE;have:b2 (aB.mk 3 m a b 0 0)=[a,b]:=by simp[b2]
 rw[this];simp[hm,he]
theorem WC {m:List UInt8} {a b c:Int} (hm:mK m=arf) (ar:0<=a/\a<64) (ab:0<=b/\b<64) (ad:0<=c/\c<64) (eD:a≠b) (LJ:a≠c) (ada:b≠c):hE (aB.mk 2 m a b c 0)=arf:=by
 have he:ui [a,b,c]=arf:=GV.2 ⟨by simp[eD,LJ,ada],by simp;omega⟩;unfold hE;have:b2 (aB.mk 2 m a b c 0)=[a,b,c]:=by simp[b2]
 rw[this];simp[hm,he]
theorem XQ {op:List Int} {r:Nat} {a:Int} (ar:op[r]? =are a) (aw:op.Nodup):a∉op.take r++op.drop (r+1)/\(∀n∈op.take r++op.drop (r+1),n∈op)/\(op.take r++op.drop (r+1)).Nodup/\(op.take r++op.drop (r+1)).length+1=op.length:=by
 have ao:=(arp.1 ar).1;have MF:op=op.take r++a::op.drop (r+1):=by
  conv=>lhs;rw[<-List.take_append_drop r op,lG ar]
 have jU:=aw;rw[MF,asY] at jU;obtain ⟨d1,d2,d3⟩:=jU;have TP:=atk.1 d2;refine ⟨?_, ?_, ?_, ?_⟩
 ·intro hm;rcases arO.1 hm with hm|hm
  ·exact d3 a hm a arS rfl
  ·exact TP.1 hm
 ·intro n av;rcases arO.1 av with av|av
  ·exact atE av
  ·exact List.mem_of_mem_drop av
 ·rw[asY];exact ⟨d1,TP.2,fun x U y ah=>d3 x U y (arK _ ah)⟩
 ·rw[arJ,asq,asD];omega
theorem afU (N:Nat) (k:Int) (b:Bool):Ic N k b=are (b||(k==1)):=by
 unfold Ic;cases b<;>simp[cR]
theorem akg (N:Nat) {c:Int} {s:eC} {l:List aB} {op:List Int} {ec:Int} {r:Nat} {a:Int} {k:Int} (cA:nV l op ec) (ai:l.length<96) (aq:hs c s) (ad:c<=1000000) (l4:ec<62) (ar:op[r]? =are a) (hy:0<=k) (hk:k<6):
  ∃cV nB l8 x,Ib N s (op.take r++op.drop (r+1)) ec a (aB.mk 0 (lK l.length) 0 0 0 0) k=are (cV,nB,l8,x)/\hs (c+5) cV/\nV (l++[x]) nB l8:=by
 obtain ⟨t1,t2,t3,t4⟩:=XQ ar cA.gX;generalize jG:op.take r++op.drop (r+1)=q at*;have ly:=Oy l.length;have yr:=arI ar;obtain ⟨a0,cr⟩:=cA.rg a yr;have aF:(q.length:Int)+1<=ec:=by have:=cA.wi;omega
 have vR:=cA.y5;have fresh:∀n∈q,n<ec:=fun n av=>(cA.rg n (t2 n av)).2;have f1:ec∉q:=fun h=>by have:=fresh _ h;omega
 have f2:ec+1∉q:=fun h=>by have:=fresh _ h;omega
 have bD:art .i64 (ec+1)=ec+1:=hq (by omega) (by omega);have dR:art .i64 (ec+2)=ec+2:=hq (by omega) (by omega);have Vq:(q++[ec]).Nodup:=by rw[asY];exact ⟨t3,by simp,fun x U y ah=>by simp at ah;subst ah;exact fun ax=>f1 (ax▸U)⟩
 have Vr:(q++[ec,ec+1]).Nodup:=by
  rw[asY];refine ⟨t3,by simp;omega,fun x U y ah=> ?_⟩;simp at ah;rcases ah with rfl|rfl
  ·exact fun ax=>f1 (ax▸U)
  ·exact fun ax=>f2 (ax▸U)
 have abZ:eh q [ec]=are (q++[ec]):=iX (by simp;omega);have ab0:eh q [ec,ec+1]=are (q++[ec,ec+1]):=iX (by simp;omega);have cK:∀n∈q,n∈op/\n≠a:=fun n av=>⟨t2 n av,fun ax=>t1 (ax▸av)⟩
 have LA:hs (c+5) s:=aq.le (by omega);unfold Ib;simp only[cR,afU,aH,bD,dR,abZ,ab0];by_cases afr:k=0\/k=1
 ·have ab:((k==0)||(k==1))=arf:=by simpa using afr
  rw[if_pos ab];refine ⟨s,_,_,_,rfl,LA,cA.add (WC ly ⟨a0,by omega⟩ ⟨vR,by omega⟩ ⟨by omega,by omega⟩ (by omega) (by omega) (by omega)) rfl ?_ ?_ Vr (by omega) (by omega) (by simp;omega)⟩
  ·intro n av;simp[b2] at av;rcases av with rfl|rfl|rfl
   ·exact .inl yr
   ·exact .inr (by omega)
   ·exact .inr (by omega)
  ·intro n av;rcases arO.1 av with av|av
   ·obtain ⟨ek,eV⟩:=cK n av;have:=fresh n av;refine .inl ⟨ek, ?_⟩;simp[b2];omega
   ·simp at av;right;omega
 ·have ab:((k==0)||(k==1))=arj:=by simp;omega
  rw[if_neg (by rw[ab];simp)];by_cases br:k=2
  ·rw[if_pos (by simpa using br)];refine ⟨s,_,_,_,rfl,LA,cA.add (WC ly ⟨vR,by omega⟩ ⟨a0,by omega⟩ ⟨by omega,by omega⟩ (by omega) (by omega) (by omega)) rfl ?_ ?_ Vr (by omega) (by omega) (by simp;omega)⟩
   ·intro n av;simp[b2] at av;rcases av with rfl|rfl|rfl
    ·exact .inr (by omega)
    ·exact .inl yr
    ·exact .inr (by omega)
   ·intro n av;rcases arO.1 av with av|av
    ·obtain ⟨ek,eV⟩:=cK n av;have:=fresh n av;refine .inl ⟨ek, ?_⟩;simp[b2];omega
    ·simp at av;right;omega
  ·rw[if_neg (by simpa using br)];by_cases dj:k=3
   ·rw[if_pos (by simpa using dj)];refine ⟨s,_,_,_,rfl,LA,cA.add (agX ly ⟨a0,by omega⟩ ⟨vR,by omega⟩ (by omega)) rfl ?_ ?_ Vq (by omega) (by omega) (by simp;omega)⟩
    ·intro n av;simp[b2] at av;rcases av with rfl|rfl
     ·exact .inl yr
     ·exact .inr (by omega)
    ·intro n av;rcases arO.1 av with av|av
     ·obtain ⟨ek,eV⟩:=cK n av;have:=fresh n av;refine .inl ⟨ek, ?_⟩;simp[b2];omega
     ·simp at av;right;omega
   ·rw[if_neg (by simpa using dj)];obtain ⟨len,s1,g1,g2,g3⟩:=akf N (s:=s) (c:=c) [1,300,100000] (by simp) (by simp) aq (by omega);have hlen:1<=len/\len<=100000:=by simp at g2;omega
    rw[g1,aH];unfold P6;obtain ⟨y,s2,h1,J,aj,aJ⟩:=nF N (s:=s1) (c:=c+1) 3 (by omega) (by omega) g3 (by omega);simp only[h1,aH];by_cases ah:y=0/\0<q.length
    ·obtain ⟨ah,yJ⟩:=ah;rw[if_pos (by simpa using ah),aH,if_pos (dP (by omega))];obtain ⟨p,an⟩:∃p,q.length=p+1:=⟨q.length - 1,by omega⟩
     have hw:art .i64 ((q.length:Int) - 1)=(p:Int):=by rw[hq (by omega) (by omega)];omega
     have oa:p<q.length:=by omega
     rw[hw,dM (dw oa)];simp only[aH];rw[Gq (by omega),aH];have adg:=ate oa;obtain ⟨cM,fe⟩:=cK _ adg;obtain ⟨Qx,gv⟩:=cA.rg _ cM;have Mv:q=q.take p++[q[p]]:=by
      conv=>lhs;rw[<-List.take_append_drop p q,lG (dw oa)]
      rw[List.drop_of_length_le (by omega)]
     have r2:q[p]∉q.take p:=by intro ax;have aw:=t3;rw[Mv,asY] at aw;exact aw.2.2 _ ax q[p] (by simp) rfl
     refine ⟨s2,_,_,_,rfl,aJ.le (by omega),cA.add (Ci ly ⟨a0,by omega⟩ ⟨Qx,by omega⟩ (fun ax=>fe ax.symm) hlen) rfl ?_ ?_ (t3.sublist (auB p q)) (by omega) (by omega) (by rw[asq];omega)⟩
     ·intro n av;simp[b2] at av;rcases av with rfl|rfl
      ·exact .inl yr
      ·exact .inl cM
     ·intro n av;obtain ⟨ek,eV⟩:=cK n (atE av);refine .inl ⟨ek, ?_⟩;simp[b2];exact ⟨eV,fun ax=>r2 (ax▸av)⟩
    ·have yx:∀{bs:Type} (f:eC×Bool->Option bs),(ark (if (y==0)=arf then are (s2,decide (0<(q.length:Int))) else are (s2,arj)) f)=f (s2,arj):=by
      intro bs f;by_cases az:y=0
      ·rw[if_pos (by simpa using az),aH];have T3:¬0<q.length:=fun h=>ah ⟨az,h⟩;have:decide (0<(q.length:Int))=arj:=by rw[decide_eq_false_iff_not];omega
       rw[this]
      ·rw[if_neg (by simpa using az),aH]
     rw[yx];simp only[asf,if_false];obtain ⟨bE,lL,i1,i2,i3,i4⟩:=nF N (s:=s2) (c:=c+1+1) 2 (by omega) (by omega) aJ (by omega);rw[i1,aH];have Fj:∀n∈b2 (aB.mk 1 (lK l.length) a ec 0 len),n∈op\/(ec<=n/\n<ec+1):=by
      intro n av;simp[b2] at av;rcases av with rfl|rfl
      ·exact .inl yr
      ·exact .inr (by omega)
     have hold:∀n∈q,n∈op/\n∉b2 (aB.mk 1 (lK l.length) a ec 0 len):=by intro n av;obtain ⟨ek,eV⟩:=cK n av;have:=fresh n av;refine ⟨ek, ?_⟩;simp[b2];omega
     by_cases BR:bE=0
     ·rw[if_pos (by simpa using BR)];refine ⟨lL,_,_,_,rfl,i4.le (by omega),cA.add (Ci ly ⟨a0,by omega⟩ ⟨vR,by omega⟩ (by omega) hlen) rfl Fj ?_ Vq (by omega) (by omega) (by simp;omega)⟩;intro n av;rcases arO.1 av with av|av
      ·exact .inl (hold n av)
      ·simp at av;right;omega
     ·rw[if_neg (by simpa using BR)];exact ⟨lL,_,_,_,rfl,i4.le (by omega),cA.add (Ci ly ⟨a0,by omega⟩ ⟨vR,by omega⟩ (by omega) hlen) rfl Fj (fun n av=> .inl (hold n av)) t3 (by omega) (by omega) (by omega)⟩
theorem afT (N:Nat) (k:Int) (l:List aB) (op:List Int) (ec:Int):Ia N k l op ec=are (decide ((l.length:Int)<k/\0<op.length/\ec<62)):=by
 unfold Ia;by_cases h1:(l.length:Int)<k
 ·rw[if_pos (dP h1)];by_cases J:0<op.length
  ·rw[if_pos (dP (by omega))];simp[h1,J]
  ·rw[if_neg (dO (by omega))];simp[J]
 ·rw[if_neg (dO h1)];simp[h1]
theorem XF (N:Nat) {b:Int} (iz:0<=b) (ab:b<=900000) {k:Int} (hk:k<=60):∀(f n:Nat) (c:Int) (s:eC) (l:List aB) (op:List Int) (ec:Int),f<n->k<=(l.length:Int)+f->(l.length:Int)<=61->c<=b+10000->(l.length:Int)*100+c<=b+9000+(l.length:Int)*107->hs c s->nV l op ec->
  ∃cV iW nB l8,Dt N k n s l op ec=are (cV,iW,nB,l8)/\hs (b+20000) cV/\(iW.length:Int)<=61/\nV iW nB l8
 |f,0,c,s,l,op,ec,av,_,_,_,_,_,_=>by omega
 |f,n+1,c,s,l,op,ec,av,aK,ai,ad,adi,aq,cA=>by
  rw[Dt,afT,aH];by_cases qC:(l.length:Int)<k/\0<op.length/\ec<62
  ·rw[decide_eq_true qC,if_pos rfl];obtain ⟨c1,c2,iw⟩:=qC;have iT:=cA.wi;obtain ⟨r,s1,h1,J,aj,aJ⟩:=nF N (s:=s) (c:=c) (op.length:Int) (by omega) (by omega) aq (by omega);obtain ⟨q,rfl⟩:=ar8 J;have aF:q<op.length:=by omega
   have ar:=dw aF;rw[h1,aH];simp only[];rw[dM ar,aH,aH,Gq (by omega),aH,eB (by omega),Cn (by omega),aH];have aT:List.take (Int.toNat (op.length:Int)) op=op:=by rw[asv,asO]
   rw[aT,asv,asv,iX (by rw[asq,asD];omega),aH,OL N (by omega),aH];obtain ⟨bH,s2,g1,g2,g3,g4⟩:=nF N (s:=s1) (c:=c+1) 6 (by omega) (by omega) aJ (by omega);rw[g1,aH];simp only[];obtain ⟨lL,nB,l8,x,en,fo,hC⟩:=akg N (c:=c+1+1) cA (by omega) g4 (by omega) iw ar g2 g3;rw[en,aH];simp only[];rw[iX (by simp;omega),aH];cases f with
   |zero=>omega
   |succ f=>exact XF N iz ab hk f n (c+7) lL (l++[x]) nB l8 (by omega) (by simp;omega) (by simp;omega) (by simp at*;omega) (by simp;omega) (fo.le (by omega)) hC
  ·rw[decide_eq_false qC,if_neg (by simp)];exact ⟨s,l,op,ec,rfl,aq.le (by omega),ai,cA⟩
theorem afV (N:Nat) (l:List aB) (op:List Int) (ec:Int):Ie N l op ec=are (decide (0<op.length/\l.length<96/\ec<64)):=by
 unfold Ie;by_cases h1:0<op.length
 ·rw[if_pos (dP (by omega))];by_cases J:l.length<96
  ·rw[if_pos (dP (by omega))];simp[h1,J]
  ·rw[if_neg (dO (by omega))];simp[J]
 ·rw[if_neg (dO (by omega))];simp[h1]
theorem Oe (N:Nat) {b:Int} (iz:0<=b) (ab:b<=900000):∀(f n:Nat) (c:Int) (s:eC) (l:List aB) (op:List Int) (ec:Int),f<n->op.length<=f->l.length<=96->c+op.length<=b+30000->hs c s->nV l op ec->
  ∃cV iW,Du N n s l op ec=are (cV,iW)/\hs (b+30000) cV/\iW.length<=96/\∃nB l8,nV iW nB l8
 |f,0,c,s,l,op,ec,av,_,_,_,_,_=>by omega
 |f,n+1,c,s,l,op,ec,av,aK,ai,ad,aq,cA=>by
  rw[Du,afV,aH];by_cases qC:0<op.length/\l.length<96/\ec<64
  ·rw[decide_eq_true qC,if_pos rfl];obtain ⟨c1,c2,iw⟩:=qC;obtain ⟨r,s1,h1,J,aj,aJ⟩:=nF N (s:=s) (c:=c) 5 (by omega) (by omega) aq (by omega);rw[h1,aH];simp only[];have ar:=dw c1;have vR:=cA.y5;obtain ⟨t1,t2,t3,t4⟩:=XQ ar cA.gX;rw[atO,atd] at t1 t2 t3 t4;have yt:gH op 1 (op.length:Int)=are (op.drop 1):=Cn (i:=1) (by omega);obtain ⟨a0,cr⟩:=cA.rg _ (ate c1);have UK:=cA.wi;have fresh:∀n∈op.drop 1,n<ec:=fun n av=>(cA.rg n (t2 n av)).2;cases f with
   |zero=>omega
   |succ f=>
    unfold Qm;by_cases ao:0<r
    ·rw[if_pos (dP ao),OL N (by omega),aH];have aM:bc op 0=are op[0]:=dM ar;rw[aM,aH,aH,iX (by simp;omega),aH,cR,hq (by omega) (by omega),aH,yt,aH];refine Oe N iz ab f n (c+1) s1 _ _ _ (by omega) (by rw[asD];omega) (by simp;omega) (by rw[asD];omega) aJ (cA.add (Ci (Oy _) ⟨a0,by omega⟩ ⟨vR,by omega⟩ (by omega) (by omega)) rfl ?_ ?_ t3 (by omega) (by omega) (by rw[asD];omega))
     ·intro n av;simp[b2] at av;rcases av with rfl|rfl
      ·exact .inl (ate c1)
      ·exact .inr (by omega)
     ·intro n av;have:=fresh n av;refine .inl ⟨t2 n av, ?_⟩;simp[b2];exact ⟨fun ax=>t1 (ax▸av),by omega⟩
    ·rw[if_neg (dO ao),aH,yt,aH];refine Oe N iz ab f n (c+1) s1 _ _ _ (by omega) (by rw[asD];omega) ai (by rw[asD];omega) aJ ?_;exact {cA with fY:=fun n av=>cA.fY n (t2 n av),gX:=t3,rg:=fun n av=>cA.rg n (t2 n av),wi:=by rw[asD];omega}
  ·rw[decide_eq_false qC,if_neg (by simp)];exact ⟨s,l,rfl,aq.le (by omega),ai,op,ec,cA⟩
structure AE (l:List aB):Prop where
 ok:fj l
 fst:∃x,l[0]? =are x/\x.kind=1
theorem aiE (N:Nat) (bG:200<=N) {b:Int} (iz:0<=b) (ab:b<=900000) {s:eC} (aq:hs b s) {k:Int} (hk:k<=60):∃l cV,DY N s k=are (l,cV)/\hs (b+30000) cV/\AE l:=by
 unfold DY;have ly:xP N 0=are (lK 0):=OL N (i:=0) (by omega);obtain ⟨y,s1,h1,J,aj,aJ⟩:=nF N (s:=s) (c:=b) 2 (by omega) (by omega) aq (by omega);rw[ly,aH,h1,aH];simp only[];have LX:∀n,gF [aB.mk 1 (lK 0) 0 1 0 500] n=if n=0\/n=1 then 1 else 0:=by
  intro n;unfold gF;have:(b2 (aB.mk 1 (lK 0) 0 1 0 500))=[0,1]:=by simp[b2]
  rw[ati,this];by_cases av:n=0\/n=1
  ·rw[if_pos (by simpa using av),if_pos av];rfl
  ·rw[if_neg (by simpa using av),if_neg av];rfl
 have az:∀op:List Int,(∀n∈op,n=0\/n=1)->op.Nodup->op.length<=2->nV [aB.mk 1 (lK 0) 0 1 0 500] op 2:=fun op ag aw ai=>
  {snd:=fun x U=>by simp at U;subst U;exact Ci (Oy 0) (by omega) (by omega) (by omega) (by omega)
   fy:=fun i x U=>by have:=(arp.1 U).1;simp at this;subst this;simp at U;subst U;rfl
   gG:=fun n=>by rw[LX];split<;>omega
   fY:=fun n _=>by rw[LX];split<;>omega
   gX:=aw
   rg:=fun n av=>by rcases ag n av with h|h<;>omega
   ha:=fun n av=>by rw[LX,if_neg (by omega)]
   wi:=by omega
   Nc:=by omega
   y5:=by omega
   fst:=⟨_,rfl,rfl⟩}
 have jG:∃op,H9 N [1] (y==0)=are op/\nV [aB.mk 1 (lK 0) 0 1 0 500] op 2:=by
  unfold H9;by_cases ah:y=0
  ·rw[if_pos (by simpa using ah),iX (by simp),aH];exact ⟨_,rfl,az _ (by simp) (by simp) (by simp)⟩
  ·rw[if_neg (by simpa using ah)];exact ⟨_,rfl,az _ (by simp) (by simp) (by simp)⟩
 obtain ⟨op,g1,g2⟩:=jG;rw[g1,aH];obtain ⟨s2,uc,afP,afL,en,fo,hC,iF⟩:=XF N iz ab hk 100 N (b+1) s1 _ op 2 (by omega) (by simp;omega) (by simp) (by omega) (by simp;omega) aJ g2;rw[en,aH];simp only[];have:=iF.wi;have:=iF.Nc;obtain ⟨lL,M1,cI,cL,eQ,aqR,aqO,gu⟩:=Oe N iz ab 64 N (b+20000) s2 uc afP afL (by omega) (by omega) (by omega) (by omega) fo iF;rw[cI,aH];exact ⟨M1,lL,rfl,cL,gu.ok eQ,gu.fst⟩
theorem aiF (N:Nat) (bG:200<=N) {s:eC} (aq:hs 0 s) {k:Int} (hk:k<=60):∃l cV,DY N s k=are (l,cV)/\hs 30000 cV/\AE l:=aiE N bG (b:=0) (by omega) (by omega) aq hk
end Go.W
end
section
namespace Go.W
open Go.aQ
abbrev jv:=List (Place×Int)
def kc (l:List aB) (i n:Int):Place:=Place.mk (bS l i n) n
structure iK (l:List aB) (to:Int) (d:jv):Prop where
 key:∀p v,bn d p=are v->p.b4∈dz l p.aA
 zero:∀p,bn d p=are 0->p.aA=to
 pos:∀p v,bn d p=are v->v≠0->0<v/\∃n∈gm l p.aA p.b4,bn d (kc l p.aA n)=are (v - 1)
 keys:(d.map atu).Nodup
theorem Cq {al bs:Type} [DecidableEq al]:∀{m:List (al×bs)} {k:al},(∃v,bn m k=are v)↔k∈m.map atu
 |[],k=>by simp[bn]
 |p::m,k=>by
  simp only[bn,asc,arA];by_cases h:p.1=k
  ·rw[if_pos h];simp[h]
  ·rw[if_neg h,Cq];constructor
   ·exact .inr
   ·rintro (ax|ax)
    ·exact absurd ax.symm h
    ·exact ax
theorem wJ {al bs:Type} [DecidableEq al]:∀{m:List (al×bs)} {k:al} {v:bs},bn m k=ari->eJ m k v=m++[(k,v)]
 |[],k,v,_=>rfl
 |p::m,k,v,h=>by
  simp only[bn] at h;split at h
  ·cases h
  ·rename_i hk;rw[eJ,if_neg hk,wJ h];rfl
def j9 (d df:jv):Prop:=∀p v,bn d p=are v->bn df p=are v
theorem j9.refl (d:jv):j9 d d:=fun _ _ h=>h
theorem j9.trans {a b c:jv} (h:j9 a b) (k:j9 b c):j9 a c:=fun p v an=>k p v (h p v an)
theorem j9.set {d:jv} {p:Place} {v:Int} (h:bn d p=ari):j9 d (eJ d p v):=fun q w aF=>by
 rw[jr,if_neg (fun ax=>by rw[ax,aF] at h;cases h)];exact aF
theorem iK.add {l:List aB} {to:Int} {d:jv} (h:iK l to d) {p:Place} {v:Int} (an:bn d p=ari) (h1:p.b4∈dz l p.aA) (J:v=0->p.aA=to) (aj:v≠0->0<v/\∃n∈gm l p.aA p.b4,bn d (kc l p.aA n)=are (v - 1)):iK l to (eJ d p v):=by
 have hle:=j9.set (v:=v) an;refine ⟨fun q w aF=> ?_,fun q aF=> ?_,fun q w aF hw=> ?_, ?_⟩
 ·rw[jr] at aF;split at aF
  ·rename_i ax;cases aF;subst ax;exact h1
  ·exact h.key q w aF
 ·rw[jr] at aF;split at aF
  ·rename_i ax;cases aF;subst ax;exact J rfl
  ·exact h.zero q aF
 ·rw[jr] at aF;split at aF
  ·rename_i ax;cases aF;subst ax;obtain ⟨a,n,b,c⟩:=aj hw;exact ⟨a,n,b,hle _ _ c⟩
  ·obtain ⟨a,n,b,c⟩:=h.pos q w aF hw;exact ⟨a,n,b,hle _ _ c⟩
 ·rw[wJ an,as9,asY];refine ⟨h.keys,by simp,fun x U y ah=> ?_⟩;simp at ah;subst ah;intro ax;subst ax;obtain ⟨w,hw⟩:=Cq.2 U;rw[hw] at an;cases an
def AP (l:List aB):List Place:=(ar2 l.length).flatMap fun (i:Nat)=>(dz l (i:Int)).map fun n=>Place.mk (i:Int) n
theorem aij (l:List aB):(AP l).length<=3*l.length:=by
 unfold AP;have key:∀(q:List Nat),(q.flatMap fun (i:Nat)=>(dz l (i:Int)).map fun n=>Place.mk (i:Int) n).length<=3*q.length:=by
  intro q;induction q with
  |nil=>simp
  |cons a q aU=>rw[asl,arJ,ar9,arU];have:=p6 l (a:Int);omega
 have:=key (ar2 l.length);rw[aud] at this;exact this
theorem aik {l:List aB} {p:Place} (h:p.b4∈dz l p.aA):p∈AP l:=by
 obtain ⟨az,h1,x,U,av⟩:=nI h;unfold AP;rw[as0];refine ⟨p.aA.toNat,asF.2 (by omega),arC.2 ⟨p.b4, ?_, ?_⟩⟩
 ·rw[auT az];exact h
 ·rw[auT az]
theorem wD {al:Type} [DecidableEq al]:∀{a b:List al},a.Nodup->(∀x∈a,x∈b)->a.length<=b.length
 |[],b,_,_=>by simp
 |x::a,b,aw,aq=>by have jU:=atk.1 aw;have U:=aq x arS;have:=wD (a:=a) (b:=b.erase x) jU.2 fun y ah=>(List.mem_erase_of_ne (by rintro rfl;exact jU.1 ah)).2 (aq y (arK _ ah));rw[List.length_erase_of_mem U] at this;have dt:=List.length_pos_of_mem U;simp only[arU];omega
theorem iK.len {l:List aB} {to:Int} {d:jv} (h:iK l to d):d.length<=3*l.length:=by
 have h1:=wD (b:=AP l) h.keys fun p an=>by obtain ⟨v,aa⟩:=Cq.2 an;exact aik (h.key p v aa)
 have:=aij l;rw[ar9] at h1;omega
theorem iK.chain {l:List aB} {to:Int} {d:jv} (h:iK l to d):∀(v:Nat) (p:Place),bn d p=are (v:Int)->∃ks:List Place,ks.length=v+1/\ks.Nodup/\∀q∈ks,∃w,bn d q=are w/\w<=v
 |0,p,an=>⟨[p],rfl,by simp,fun q aF=>by simp at aF;subst aF;exact ⟨_,an,Int.le_refl _⟩⟩
 |v+1,p,an=>by
  obtain ⟨_,n,_,av⟩:=h.pos p _ an (by omega);obtain ⟨ks,h1,J,aj⟩:=h.chain v (kc l p.aA n) (by rw[av];congr 1;omega);refine ⟨p::ks,by simp[h1],atk.2 ⟨fun hm=> ?_,J⟩,fun q aF=> ?_⟩
  ·obtain ⟨w,hw,oe⟩:=aj p hm;rw[an] at hw;cases hw;omega
  ·rcases arA.1 aF with rfl|aF
   ·exact ⟨_,an,Int.le_refl _⟩
   ·obtain ⟨w,hw,oe⟩:=aj q aF;exact ⟨w,hw,by omega⟩
theorem iK.Nb {l:List aB} {to:Int} {d:jv} (h:iK l to d) {p:Place} {v:Int} (an:bn d p=are v):0<=v:=by
 by_cases az:v=0
 ·omega
 ·have:=(h.pos p v an az).1;omega
theorem iK.val {l:List aB} {to:Int} {d:jv} (h:iK l to d) {p:Place} {v:Int} (an:bn d p=are v):v<d.length:=by
 obtain ⟨n,rfl⟩:=ar8 (h.Nb an);obtain ⟨ks,h1,J,aj⟩:=h.chain n p an;have:=wD (b:=d.map atu) J fun q aF=>by obtain ⟨w,hw,_⟩:=aj q aF;exact Cq.1 ⟨w,hw⟩
 rw[ar9] at this;omega
structure mu (d:jv) (q:List Place) (c:Int):Prop where
 mem:∀p∈q,∃v,bn d p=are v/\c<=v
 top:∀p v,bn d p=are v->v<=c+1
 ord:q.Pairwise fun a b=>∀x y,bn d a=are x->bn d b=are y->x<=y
theorem mu.push {d:jv} {q:List Place} {c:Int} (h:mu d q c) {p:Place} {v:Int} (an:bn d p=ari) (h1:c<=v) (J:v<=c+1) (aj:∀a∈q,∀x,bn d a=are x->x<=v):mu (eJ d p v) (q++[p]) c:=by
 have hle:=j9.set (v:=v) an;have iC:∀{x},bn (eJ d p v) p=are x->x=v:=fun U=>by rw[jr,if_pos rfl] at U;cases U;rfl
 have hold:∀a∈q,∀x,bn (eJ d p v) a=are x->bn d a=are x:=fun a ar x U=>by obtain ⟨y,ah,_⟩:=h.mem a ar;have:=hle _ _ ah;rw[U] at this;cases this;exact ah
 refine ⟨fun r ao=> ?_,fun r w hw=> ?_, ?_⟩
 ·rcases arO.1 ao with ao|ao
  ·obtain ⟨w,hw,ad⟩:=h.mem r ao;exact ⟨w,hle _ _ hw,ad⟩
  ·simp at ao;subst ao;exact ⟨v,by rw[jr,if_pos rfl],h1⟩
 ·rw[jr] at hw;split at hw
  ·cases hw;exact J
  ·exact h.top r w hw
 ·rw[List.pairwise_append];refine ⟨h.ord.imp_of_mem fun {a b} ar ab ba x y U ah=>ba x y (hold a ar x U) (hold b ab y ah),by simp,fun a ar b ab x y U ah=> ?_⟩;simp at ab;subst ab;rw[iC ah];exact aj a ar x (hold a ar x U)
def Jj (l:List aB) (d:jv) (p:Place) (v:Int):Prop:=∀m∈gm l (bS l p.aA p.b4) p.b4,∃w,bn d (Place.mk (bS l p.aA p.b4) m)=are w/\w<=v+1
def Rt (l:List aB) (d:jv) (q:List Place):Prop:=∀p v,bn d p=are v->p∈q\/Jj l d p v
def e5 (l:List aB) (d:jv):Prop:=∀p v,bn d p=are v->Jj l d p v
theorem ZT (N:Nat) {l:List aB} {to:Int} {e:List Int} (he:e=dz l to) (aw:e.Nodup):∀(k n i:Nat) (d:jv) (q:List Place),k<n->i+k=e.length->iK l to d->mu d q 0->(∀p v,bn d p=are v->v=0/\p∈q)->(∀m∈e.drop i,bn d (Place.mk to m)=ari)->d.length=q.length->d.length+k<=1000->
  ∃df dL,xc N to e e.length n d q i=are (df,dL)/\iK l to df/\mu df dL 0/\Rt l df dL/\df.length=dL.length/\j9 d df/\∀m∈e.drop i,bn df (Place.mk to m)=are 0
 |k,0,i,d,q,av,_,_,_,_,_,_,_=>by omega
 |0,n+1,i,d,q,av,af,fg,ez,Be,hm,ai,ab=>by
  obtain rfl:i=e.length:=by omega
  rw[xc,if_neg (dO (by omega)),atf];exact ⟨d,q,rfl,fg,ez,fun p v an=> .inl (Be p v an).2,ai,j9.refl d,by simp⟩
 |k+1,n+1,i,d,q,av,af,fg,ez,Be,hm,ai,ab=>by
  have aO:i<e.length:=by omega
  have ar:=dw aO;have aqn:=p6 l to;rw[xc,if_pos (dP (by omega)),dM ar];simp only[aH,cR];rw[iX (by simp;omega),aH,eB (by rw[he] at aO;omega)];rw[lG ar] at hm⊢;have BA:=hm _ arS;have Lx:=fg.add (v:=0) BA (by rw[<-he];exact ate aO) (fun _=>rfl) (fun ax=>absurd rfl ax);have hle:=j9.set (v:=0) BA;have r2:e[i]∉e.drop (i+1):=by intro hm;obtain ⟨j,ap⟩:=asx hm;rw[asE] at ap;obtain ⟨hP,ap⟩:=arp.1 ap;exact asy.1 aw i (i+1+j) aO hP (by omega) ap.symm
  obtain ⟨df,dL,g1,g2,g3,g7,g4,g5,g6⟩:=ZT N he aw k n (i+1) (eJ d (Place.mk to e[i]) 0) (q++[Place.mk to e[i]]) (by omega) (by omega) Lx (ez.push BA (by omega) (by omega) fun a ar x U=>by rw[(Be a x U).1];omega) (fun p v an=>by
   rw[jr] at an;split at an
   ·rename_i ax;cases an;subst ax;exact ⟨rfl,avb _ (by simp)⟩
   ·exact ⟨(Be p v an).1,auU _ (Be p v an).2⟩) (fun m fm=>by
   rw[jr,if_neg (fun ax=>r2 (by have:=congrArg Place.b4 ax;simp at this;rw[this];exact fm))];exact hm m (arK _ fm)) (by rw[wJ BA];simp[ai]) (by rw[wJ BA];simp;omega)
  refine ⟨df,dL,g1,g2,g3,g7,g4,hle.trans g5,fun m fm=> ?_⟩;rcases arA.1 fm with rfl|fm
  ·exact g5 _ _ (by rw[jr,if_pos rfl])
  ·exact g6 m fm
theorem PT (N:Nat) {l:List aB} {to:Int} (b0:fj l) {p:Place} {v:Int} (nu:p.b4∈dz l p.aA) (hy:0<=bS l p.aA p.b4) {t:List Int} (ak:t=gm l (bS l p.aA p.b4) p.b4):∀(k n i:Nat) (d:jv) (q:List Place),k<n->i+k=t.length->iK l to d->mu d q v->bn d p=are v->0<=v->v<=1000->d.length+k<=1000->q.length<=1000+i->
  ∃df dL,sF N p (bS l p.aA p.b4) t t.length n d q i=are (df,dL)/\iK l to df/\mu df dL v/\(∀r w,bn df r=are w->bn d r=are w\/r∈dL)/\(∀r∈q,r∈dL)/\df.length+q.length=d.length+dL.length/\j9 d df/\(∀m∈t.drop i,∃w,bn df (Place.mk (bS l p.aA p.b4) m)=are w)/\df.length<=d.length+k
 |k,0,i,d,q,av,_,_,_,_,_,_,_,_=>by omega
 |0,n+1,i,d,q,av,af,fg,ez,aa,ic,kZ,ab,aF=>by
  obtain rfl:i=t.length:=by omega
  rw[sF,if_neg (dO (by omega)),atf];exact ⟨d,q,rfl,fg,ez,fun _ _ h=> .inl h,fun _ h=>h,by omega,j9.refl d,by simp,by omega⟩
 |k+1,n+1,i,d,q,av,af,fg,ez,aa,ic,kZ,ab,aF=>by
  have aO:i<t.length:=by omega
  have ar:=dw aO;have aeS:=wT l (bS l p.aA p.b4) p.b4;rw[sF,if_pos (dP (by omega))];unfold Qg;rw[dM ar,lG ar];simp only[aH,cR];have pM:t[i]∈gm l (bS l p.aA p.b4) p.b4:=by rw[<-ak];exact ate aO
  cases aM:bn d (Place.mk (bS l p.aA p.b4) t[i]) with
  |some w=>
   simp only[Option.isSome_some,atc,asf,if_false,aH];rw[eB (by rw[ak] at aO;omega)];obtain ⟨df,dL,g1,g2,g3,g8,g9,g4,g5,g6,g7⟩:=PT N b0 nu hy ak k n (i+1) d q (by omega) (by omega) fg ez aa ic kZ (by omega) (by omega);refine ⟨df,dL,g1,g2,g3,g8,g9,g4,g5,fun m hm=> ?_,by omega⟩;rcases arA.1 hm with rfl|hm
   ·exact ⟨w,g5 _ _ aM⟩
   ·exact g6 m hm
  |none=>
   simp only[Option.isSome_none,auS,if_true,aa,asN];rw[hq (by omega) (by omega),iX (by simp;rw[ak] at aO;omega),aH,aH];simp only[];rw[eB (by rw[ak] at aO;omega)];obtain ⟨m1,m2⟩:=CM pM;have aeQ:=b0.aaw pM;have adb:kc l (bS l p.aA p.b4) p.b4=p:=by unfold kc;rw[b0.y2 nu hy]
   have Lx:=fg.add (v:=v+1) aM m2 (fun ax=>by omega) (fun _=>⟨by omega,p.b4,aeQ.1,by rw[adb,aa];congr 1;omega⟩);have hle:=j9.set (v:=v+1) aM;obtain ⟨df,dL,g1,g2,g3,g8,g9,g4,g5,g6,g7⟩:=PT N b0 nu hy ak k n (i+1) (eJ d (Place.mk (bS l p.aA p.b4) t[i]) (v+1)) (q++[Place.mk (bS l p.aA p.b4) t[i]]) (by omega) (by omega) Lx (ez.push aM (by omega) (by omega) fun a ar x U=>ez.top a x U) (hle _ _ aa) ic kZ (by rw[wJ aM];simp;omega) (by simp;omega);refine ⟨df,dL,g1,g2,g3,fun r w ao=> ?_,fun r ao=>g9 r (auU _ ao), ?_,hle.trans g5,fun m hm=> ?_, ?_⟩
   ·rcases g8 r w ao with h|h
    ·rw[jr] at h;split at h
     ·rename_i ax;subst ax;exact .inr (g9 _ (avb _ (by simp)))
     ·exact .inl h
    ·exact .inr h
   ·rw[wJ aM] at g4;simp at g4;omega
   ·rcases arA.1 hm with rfl|hm
    ·exact ⟨v+1,g5 _ _ (by rw[jr,if_pos rfl])⟩
    ·exact g6 m hm
   ·rw[wJ aM] at g7;simp at g7;omega
theorem ZU (N:Nat) (bG:1000<=N) {l:List aB} {to:Int} (b0:fj l):∀(k n:Nat) (d:jv) (q:List Place) (c:Int),k<n->q.length+3*l.length<=k+d.length->iK l to d->mu d q c->Rt l d q->q.length<=d.length->
  ∃df,Ds N l n d q=are df/\iK l to df/\j9 d df/\e5 l df
 |k,0,d,q,c,av,_,_,_,_,_=>by omega
 |k,n+1,d,q,c,av,hk,fg,ez,Ug,aF=>by
  have LY:=fg.len;have r0:=b0.len;rw[Ds];cases q with
  |nil=>
   rw[if_neg (dO (by simp))];exact ⟨d,rfl,fg,j9.refl d,fun p v an=>by
    rcases Ug p v an with h|h
    ·cases h
    ·exact h⟩
  |cons p q=>
   rw[if_pos (dP (by simp))];have aM:bc (p::q) 0=are p:=rfl;have yt:gH (p::q) 1 ((p::q).length:Int)=are q:=Cn (xs:=p::q) (i:=1) (by simp);obtain ⟨v,l5,fl⟩:=ez.mem p arS;have nu:=fg.key p v l5;have ic:=fg.Nb l5;have kZ:=fg.val l5;rw[aM,aH,aH,yt,aH,CS N (by omega) (by omega),aH,GX N (by omega),aH];simp only[arU] at hk aF;have BE:=List.pairwise_cons.1 ez.ord;have Uj:mu d q v:=⟨fun r ao=>by
    obtain ⟨w,hw,_⟩:=ez.mem r (arK _ ao);exact ⟨w,hw,BE.1 r ao v w l5 hw⟩,fun r w hw=>by have:=ez.top r w hw;omega,BE.2⟩
   have aeS:=wT l (bS l p.aA p.b4) p.b4;have key:∃df dL,sF N p (bS l p.aA p.b4) (gm l (bS l p.aA p.b4) p.b4) (gm l (bS l p.aA p.b4) p.b4).length N d q 0=are (df,dL)/\iK l to df/\mu df dL v/\(∀r w,bn df r=are w->bn d r=are w\/r∈dL)/\(∀r∈q,r∈dL)/\df.length+q.length=d.length+dL.length/\j9 d df/\Jj l df p v:=by
    by_cases hy:0<=bS l p.aA p.b4
    ·obtain ⟨df,dL,g1,g2,g3,g8,g9,g4,g5,g6,g7⟩:=PT N b0 nu hy rfl (gm l (bS l p.aA p.b4) p.b4).length N 0 d q (by omega) (by omega) fg Uj l5 ic (by omega) (by omega) (by omega);exact ⟨df,dL,g1,g2,g3,g8,g9,g4,g5,fun m hm=>by
      obtain ⟨w,hw⟩:=g6 m (by simpa using hm);exact ⟨w,hw,g3.top _ _ hw⟩⟩
    ·have nr:gm l (bS l p.aA p.b4) p.b4=[]:=by
      unfold gm dz;rw[if_neg hy];rfl
     rw[nr];have:sF N p (bS l p.aA p.b4) [] (([]:List Int).length:Int) N d q 0=are (d,q):=by
      obtain ⟨M,rfl⟩:∃M,N=M+1:=⟨N - 1,by omega⟩
      rw[sF,if_neg (by simp)]
     exact ⟨d,q,this,fg,Uj,fun _ _ h=> .inl h,fun _ h=>h,by omega,j9.refl d,fun m hm=>by rw[nr] at hm;simp at hm⟩
   obtain ⟨df,dL,g1,g2,g3,g8,g9,g4,g5,g6⟩:=key;rw[g1,aH];have aql:=g2.len;cases k with
   |zero=>omega
   |succ k=>
    obtain ⟨d2,h1,J,aj,aJ⟩:=ZU N bG b0 k n df dL v (by omega) (by omega) g2 g3 (fun r w ao=>by
     rcases g8 r w ao with h|h
     ·rcases Ug r w h with bq|bq
      ·rcases arA.1 bq with rfl|bq
       ·rw[l5] at h;cases h;exact .inr g6
       ·exact .inl (g9 r bq)
      ·exact .inr fun m hm=>by obtain ⟨x,U,v7⟩:=bq m hm;exact ⟨x,g5 _ _ U,v7⟩
     ·exact .inl h) (by omega)
    exact ⟨d2,h1,J,g5.trans aj,aJ⟩
theorem iK.nil (l:List aB) (to:Int):iK l to []:=⟨by simp[bn],by simp[bn],by simp[bn],by simp⟩
theorem ajG (N:Nat) (bG:1000<=N) {l:List aB} {to:Int} (b0:fj l):∃d,IZ N l to=are d/\iK l to d/\(∀m∈dz l to,bn d (Place.mk to m)=are 0)/\e5 l d:=by
 unfold IZ;have he:=p6 l to;have r0:=b0.len;rw[GF,aH];obtain ⟨d,q,h1,J,aj,gz,aJ,bk,dn⟩:=ZT N rfl (b0.nodup to) (dz l to).length N 0 [] [] (by omega) (by omega) (iK.nil l to) ⟨by simp,by simp[bn],by simp⟩ (by simp[bn]) (by simp[bn]) rfl (by simp;omega);have h1:xc N to (dz l to) (dz l to).length N [] [] 0=are (d,q):=h1;rw[h1,aH];have LY:=J.len;obtain ⟨df,g1,g2,g3,g4⟩:=ZU N bG b0 (q.length+3*l.length) N d q 0 (by omega) (by omega) J aj gz (by omega);rw[g1,aH];refine ⟨df,rfl,g2,fun m hm=>g3 _ _ (dn m (by simpa using hm)),g4⟩
end Go.W
end
section
set_option maxRecDepth 100000
namespace Go.W
open Go.aQ
end Go.W
end
section
namespace Go.W
open Go.aQ
def hF (l:List aB) (i:Int):Prop:=0<=i/\∃x,l[i.toNat]? =are x/\x.kind=1
instance (l:List aB) (i:Int):Decidable (hF l i):=by
 unfold hF;cases h:l[i.toNat]? with
 |none=>exact isFalse (by rintro ⟨_,x,U,_⟩;cases U)
 |some y=>exact if J:0<=i/\y.kind=1 then isTrue ⟨J.1,y,rfl,J.2⟩ else isFalse (by rintro ⟨a,x,U,b⟩;cases U;exact J ⟨a,b⟩)
theorem Y5 (N:Nat) (l:List aB) (i:Int):xQ N l i=are (decide (hF l i)):=by
 unfold xQ Qp;by_cases az:0<=i
 ·rw[if_pos (ue az)];by_cases h1:i<l.length
  ·rw[if_pos (dP h1)];have aO:i.toNat<l.length:=by omega
   have aM:bc l i=are l[i.toNat]:=by simp[bc,az,aO]
   rw[aM,aH,cR,aH];congr 1;by_cases hk:l[i.toNat].kind=1
   ·rw[decide_eq_true (show hF l i from ⟨az,_,dw aO,hk⟩)];simpa using hk
   ·rw[decide_eq_false (show ¬hF l i from by rintro ⟨_,x,U,hX⟩;rw[dw aO] at U;cases U;exact hk hX)];simpa using hk
  ·rw[if_neg (dO h1),aH,decide_eq_false (show ¬hF l i from by rintro ⟨_,x,U,_⟩;have:=(arp.1 U).1;omega)]
 ·rw[if_neg (wj az),aH,decide_eq_false (show ¬hF l i from fun h=>az h.1)]
theorem Nu (N:Nat) {l:List Int} (bG:l.length<N) (ai:l.length<=1000000) (x:Int):Al N l x=are (l.contains x):=by
 unfold Al Rh;have h:=oq (l:=l) (fun _ y=>x==y) (fun i _=>(i:Int)) (fun m i=>uQ N l x l.length m i) (fun m=>by
  show uQ N l x l.length (m+1) _=_;rw[uQ,if_neg (dO (by omega))]) (fun m i y ah=>by
  show uQ N l x l.length (m+1) _=_;have aO:=(arp.1 ah).1;rw[uQ,if_pos (dP (by omega)),dM ah,aH,eB (by omega)]) l.length N 0 bG (by omega)
 simp only[atK,asn] at h;rw[h,aH];have key:(∃u,cv (fun _ y=>x==y) (fun i _=>(i:Int)) 0 l= .inl u)↔l.contains x=arj:=by
  have:cv (fun _ y=>x==y) (fun i (_:Int)=>(i:Int)) 0 l= .inl ()↔_:=wF;constructor
  ·rintro ⟨u,hu⟩;have J:=this.1 hu;rw[Bool.eq_false_iff];intro ad;have hm:x∈l:=by simpa using ad
   obtain ⟨j,ap⟩:=asx hm;have:=J j x ap;simp at this
  ·intro ad;refine ⟨(),this.2 fun j y ap=> ?_⟩;have hm:x∉l:=by simpa using ad
   simp only[beq_eq_false_iff_ne,ne_eq];rintro rfl;exact hm (arI ap)
 rcases Cd (fun _ y=>x==y) l 0 with ⟨h1,J⟩|⟨h1,J⟩
 ·rw[h1];have:=key.1 ⟨(),h1⟩;rw[this];rfl
 ·rw[h1];have:l.contains x=arf:=by
   cases ad:l.contains x with
   |true=>rfl
   |false=>obtain ⟨u,hu⟩:=key.2 ad;rw[h1] at hu;cases hu
  rw[this];simp only[aH,cR];rw[decide_eq_true J]
def cg (r:List bo):List Int:=r.map bo.aA
theorem WL (N:Nat) {r:List bo} (ai:r.length<=9223372036854775807):∀(k n i:Nat) (ct:List (Int×Bool)),k<n->i+k=r.length->(∀a,(bn ct a).getD arj=(cg (r.take i)).contains a)->(cg (r.take i)).Nodup->
  (sM N r r.length n ct i=are (.inl ())/\(cg r).Nodup)\/(sM N r r.length n ct i=are (.inr arf)/\¬(cg r).Nodup)
 |k,0,i,ct,av,_,_,_=>by omega
 |0,n+1,i,ct,av,af,h1,J=>by
  obtain rfl:i=r.length:=by omega
  rw[sM,if_neg (dO (by omega))];rw[asO] at J;exact .inl ⟨rfl,J⟩
 |k+1,n+1,i,ct,av,af,h1,J=>by
  have aO:i<r.length:=by omega
  have ar:=dw aO;rw[sM,if_pos (dP (by omega)),dM ar,aH,cR,h1];have kY:cg (r.take (i+1))=cg (r.take i)++[r[i].aA]:=by unfold cg;rw[p4 ar,as9];rfl
  by_cases ad:(cg (r.take i)).contains r[i].aA=arf
  ·rw[if_pos ad];refine .inr ⟨rfl,fun aw=> ?_⟩;have aq:(cg (r.take (i+1))).Nodup:=aw.sublist ((auB (i+1) r).map _);rw[kY,asY] at aq;exact aq.2.2 _ (by simpa using ad) _ (by simp) rfl
  ·rw[if_neg ad,cR,eB (by omega)];refine WL N ai k n (i+1) _ (by omega) (by omega) (fun a=> ?_) ?_
   ·rw[jr,kY];by_cases ax:r[i].aA=a
    ·rw[if_pos ax];simp[ax]
    ·rw[if_neg ax,h1];have adH:¬a=r[i].aA:=fun q=>ax q.symm;simp[adH]
   ·rw[kY,asY];refine ⟨J,by simp,fun x U y ah=> ?_⟩;simp at ah;subst ah;rintro rfl;exact ad (by simpa using U)
theorem XS (N:Nat) {r:List bo} (bG:r.length<N) (ai:r.length<=9223372036854775807):∃b,D1 N r=are b/\(b=arj↔(cg r).Nodup):=by
 unfold D1;have h:=WL N ai r.length N 0 [] bG (by omega) (fun a=>by simp[bn,cg]) (by simp[cg]);rcases h with ⟨h1,J⟩|⟨h1,J⟩
 ·have h1:sM N r r.length N [] 0=are (.inl ()):=h1;rw[h1,aH];exact ⟨arj,rfl,by simp[J]⟩
 ·have h1:sM N r r.length N [] 0=are (.inr arf):=h1;rw[h1,aH];exact ⟨arf,rfl,by simp[J]⟩
structure lV (l:List aB) (r:List bo):Prop where
 two:2<=r.length
 aR:∀v,r[0]? =are v->hF l v.aA/\v.b4= -1/\v.out∈dz l v.aA
 hW:∀v,r[r.length - 1]? =are v->hF l v.aA/\v.out= -1
 step:∀(i:Nat) v w,r[i]? =are v->r[i+1]? =are w->w.b4=v.out/\0<=w.aA/\w.aA=bS l v.aA v.out
 mid:∀(i:Nat) v,0<i->i+1<r.length->r[i]? =are v->v.out∈gm l v.aA v.b4
theorem lV.ins {l:List aB} {r:List bo} (h:lV l r) {i:Nat} {v:bo} (af:0<i) (aa:r[i]? =are v):v.b4∈dz l v.aA:=by
 obtain ⟨j,rfl⟩:∃j,i=j+1:=⟨i - 1,by omega⟩
 have aO:=(arp.1 aa).1;have ap:=dw (xs:=r) (i:=j) (by omega);obtain ⟨a,b,c⟩:=h.step j _ v ap aa;rw[c,a];exact (CR (by rw[<-c];exact b)).1
theorem lV.outs {l:List aB} {r:List bo} (h:lV l r) {i:Nat} {v:bo} (af:i+1<r.length) (aa:r[i]? =are v):v.out∈dz l v.aA:=by
 cases i with
 |zero=>exact (h.aR v aa).2.2
 |succ i=>exact (CM (h.mid (i+1) v (by omega) af aa)).2
theorem uC {a:Bool} {x:Option Bool} {p q:Prop} (ar:a=arj↔p) (U:∃b,x=are b/\(b=arj↔q)):∃b,(if a=arf then are arf else x)=are b/\(b=arj↔p/\q):=by
 cases a with
 |true=>exact ⟨arf,rfl,by simp at ar;simp[ar]⟩
 |false=>obtain ⟨b,h1,J⟩:=U;refine ⟨b,by simpa using h1, ?_⟩;rw[J];simp at ar;simp[ar]
theorem Ht {p:Prop} [Decidable p]:(!decide p)=arj↔p:=by simp
theorem PJ {l:List Int} {x:Int}:(!l.contains x)=arj↔x∈l:=by simp
theorem HC {a b:Int}:(a !=b)=arj↔a=b:=by simp
theorem amO {a b:Int}:decide (a<b)=arj↔b<=a:=by simp
theorem ako (N:Nat) {l:List aB} {r:List bo} (bG:r.length+l.length+10<=N) (ai:l.length<=1000000) (ao:r.length<=9223372036854775807):∃b,Jg N l r=are b/\(b=arf↔lV l r):=by
 unfold Jg;rw[cR];by_cases J:r.length<2
 ·have h:zM N l r (art .i64 ((r.length:Int) - 1))=are arf:=by
   unfold zM;rw[if_pos (dP (by rw[hq (by omega) (by omega)];omega))]
  rw[h,aH,if_pos rfl];exact ⟨arj,rfl,by simp;intro hw;have:=hw.two;omega⟩
 have hw:art .i64 ((r.length:Int) - 1)=((r.length - 1:Nat):Int):=by rw[hq (by omega) (by omega)];omega
 rw[hw];have az:=dw (xs:=r) (i:=0) (by omega);have aD:=dw (xs:=r) (i:=r.length - 1) (by omega);generalize ic:r[0]'(by omega)=v at az;generalize aqE:r[r.length - 1]'(by omega)=w at aD;have g0:bc r 0=are v:=dM az;have T2:bc r ((r.length - 1:Nat):Int)=are w:=dM aD;have aT:=p6 l v.aA;have e2:=p6 l w.aA;have iP:∃b,zM N l r ((r.length - 1:Nat):Int)=are b/\(b=arj↔hF l v.aA/\hF l w.aA/\v.b4= -1/\w.out= -1):=by unfold zM;rw[if_neg (dO (by omega))];simp only[g0,T2,aH,Y5];exact uC Ht (uC Ht (uC HC ⟨_,rfl,HC⟩))
 have c1:∃b,Iu N l r ((r.length - 1:Nat):Int)=are b/\(b=arj↔v.out∈dz l v.aA/\w.b4∈dz l w.aA):=by unfold Iu;simp only[g0,T2,aH,GF];rw[Nu N (by omega) (by omega),Nu N (by omega) (by omega)];simp only[aH];exact uC PJ ⟨_,rfl,PJ⟩
 obtain ⟨cM,pb,l9⟩:=iP;obtain ⟨fe,en,cI⟩:=c1;rw[pb,aH];have dE:∀{x},r[0]? =are x->x=v:=fun U=>by rw[az] at U;cases U;rfl
 have ach:∀{x},r[r.length - 1]? =are x->x=w:=fun U=>by rw[aD] at U;cases U;rfl
 cases cM with
 |true=>rw[if_pos rfl];refine ⟨arj,rfl, ?_⟩;simp only[asf,false_iff];intro hw;have a:=hw.aR v az;have b:=hw.hW w aD;have:=l9.2 ⟨a.1,b.1,a.2.1,b.2⟩;cases this
 |false=>
  rw[if_neg (by simp),en,aH];have l9:=l9.1 rfl;cases fe with
  |true=>rw[if_pos rfl];refine ⟨arj,rfl, ?_⟩;simp only[asf,false_iff];intro hw;have:=cI.2 ⟨(hw.aR v az).2.2,hw.ins (by omega) aD⟩;cases this
  |false=>
   rw[if_neg (by simp)];have cI:=cI.1 rfl;have yt:gH r 1 (r.length:Int)=are (r.drop 1):=Cn (i:=1) (by omega);rw[yt,aH];have hlen:(r.drop 1).length=r.length - 1:=asD
   let bad:Nat->bo->Prop:=fun i y=>¬((y.b4=(r.getD i (bo.mk 0 0 0)).out/\0<=y.aA/\bS l (r.getD i (bo.mk 0 0 0)).aA (r.getD i (bo.mk 0 0 0)).out=y.aA)/\(i+2<r.length->y.out∈gm l y.aA y.b4))
   have UL:=oq (l:=r.drop 1) (fun i y=> @decide (bad i y) (atj _)) (fun _ _=>arj) (fun m i=>uV N l r ((r.length - 1:Nat):Int) (r.drop 1) (r.drop 1).length m i) (fun m=>by
    show uV N l r _ (r.drop 1) (r.drop 1).length (m+1) _=_;rw[uV,if_neg (dO (by omega))]) (fun m i y ah=>by
    show uV N l r _ (r.drop 1) (r.drop 1).length (m+1) _=_;have aO:=(arp.1 ah).1;have af:=dw (xs:=r) (i:=i) (by omega);rw[uV,if_pos (dP (by omega)),dM ah,aH,dM af,aH];have Bq:r.getD i (bo.mk 0 0 0)=r[i]'(by omega):=by simp[asG,af]
    have d3:∃b,Iv N l y (r[i]'(by omega))=are b/\(b=arj↔y.b4=(r.getD i (bo.mk 0 0 0)).out/\0<=y.aA/\bS l (r.getD i (bo.mk 0 0 0)).aA (r.getD i (bo.mk 0 0 0)).out=y.aA):=by unfold Iv;rw[Bq,CS N (by omega) (by omega),aH];exact uC HC (uC amO ⟨_,rfl,HC⟩)
    have d4:∃b,Iw N l ((r.length - 1:Nat):Int) i y=are b/\(b=arj↔(i+2<r.length->y.out∈gm l y.aA y.b4)):=by
     unfold Iw;rw[eB (by omega)];by_cases ax:i+2<r.length
     ·rw[if_pos (dP (by omega)),GX N (by omega),aH,Nu N (by have:=wT l y.aA y.b4;omega) (by have:=wT l y.aA y.b4;omega),aH];exact ⟨_,rfl,by rw[PJ];simp[ax]⟩
     ·rw[if_neg (dO (by omega))];exact ⟨arj,rfl,by simp[ax]⟩
    obtain ⟨qs,Qy,lL⟩:=d3;obtain ⟨vo,Dw,DC⟩:=d4;rw[Qy,aH];cases qs with
    |true=>
     have ab:bad i y:=fun ax=>by have:=lL.2 ax.1;cases this
     rw[if_pos rfl, @decide_eq_true _ (atj _) ab,if_pos rfl]
    |false=>
     rw[if_neg (by simp),Dw,aH];cases vo with
     |true=>
      have ab:bad i y:=fun ax=>by have:=DC.2 ax.2;cases this
      rw[if_pos rfl, @decide_eq_true _ (atj _) ab,if_pos rfl]
     |false=>
      have ab:¬bad i y:=fun ax=>ax ⟨lL.1 rfl,DC.1 rfl⟩;rw[if_neg (by simp), @decide_eq_false _ (atj _) ab,if_neg (by simp),eB (by omega)]) (r.drop 1).length N 0 (by omega) (by omega)
   simp only[atK,asn] at UL;rw[UL,aH];have n3:lV l r↔∀(j:Nat) (y:bo),(r.drop 1)[j]? =are y->¬bad j y:=by
    constructor
    ·intro hw j y ap ab;rw[asE,Nat.add_comm] at ap;have aO:=(arp.1 ap).1;have af:=dw (xs:=r) (i:=j) (by omega);have Bq:r.getD j (bo.mk 0 0 0)=r[j]'(by omega):=by simp[asG,af]
     obtain ⟨a,b,c⟩:=hw.step j _ y af ap;refine ab ⟨by rw[Bq];exact ⟨a,b,c.symm⟩,fun ax=>hw.mid (j+1) y (by omega) (by omega) ap⟩
    ·intro ax;refine ⟨by omega,fun x U=> ?_,fun x U=> ?_,fun i x y U ah=> ?_,fun i x af jm U=> ?_⟩
     ·rw[dE U];exact ⟨l9.1,l9.2.2.1,cI.1⟩
     ·rw[ach U];exact ⟨l9.2.1,l9.2.2.2⟩
     ·have:=Classical.not_not.1 (ax i y (by rw[asE,Nat.add_comm];exact ah));have Bq:r.getD i (bo.mk 0 0 0)=x:=by simp[asG,U]
      rw[Bq] at this;exact ⟨this.1.1,this.1.2.1,this.1.2.2.symm⟩
     ·obtain ⟨j,rfl⟩:∃j,i=j+1:=⟨i - 1,by omega⟩
      have:=Classical.not_not.1 (ax j x (by rw[asE,Nat.add_comm];exact U));exact this.2 (by omega)
   have pP:=wF (p:=fun i y=> @decide (bad i y) (atj _)) (out:=fun _ _=>arj) (l:=r.drop 1) (i:=0);cases kX:cv (fun i y=> @decide (bad i y) (atj _)) (fun _ _=>arj) 0 (r.drop 1) with
   |inl u=>refine ⟨arf,rfl, ?_⟩;simp only[true_iff];refine n3.2 fun j y ap=> ?_;have:=(pP.1 kX) j y ap;rw[arE] at this;exact @of_decide_eq_false _ (atj _) this
   |inr b=>
    have Un:b=arj:=by
     have key:∀(e:List bo) (i:Nat) (b:Bool),cv (fun i y=> @decide (bad i y) (atj _)) (fun _ _=>arj) i e= .inr b->b=arj:=by
      intro e;induction e with
      |nil=>intro i b h;cases h
      |cons y e aU=>
       intro i b h;rw[cv] at h;split at h
       ·cases h;rfl
       ·exact aU _ _ h
     exact key _ _ _ kX
    subst Un;refine ⟨arj,rfl, ?_⟩;simp only[asf,false_iff];intro hw;have:=pP.2 fun j y ap=>by rw[arE];exact @decide_eq_false _ (atj _) (n3.1 hw j y ap)
    rw[this] at kX;cases kX
end Go.W
end
section
namespace Go.W
open Go.aQ
def kP (l:List aB) (r:List bo):Prop:=u3 l=0/\lV l r/\(cg r).Nodup
theorem Y4 (N:Nat) {l:List aB} {r:List bo} (bG:r.length+l.length+200<=N) (ai:l.length<=1000000) (ao:r.length<=9223372036854775807):∃b,D0 N l r=are b/\(b=arf↔kP l r):=by
 unfold D0 Qo kP;rw[Xp N (by omega),aH];by_cases az:u3 l=0
 ·rw[if_pos (by simpa using az)];obtain ⟨b,h1,J⟩:=ako N (l:=l) (r:=r) (by omega) ai ao;obtain ⟨c,aj,aJ⟩:=XS N (r:=r) (by omega) ao;rw[h1,aH];cases b with
  |true=>rw[if_pos rfl,aj];simp only[aH,cR];refine ⟨!c,rfl, ?_⟩;simp only[aso,aJ];exact ⟨fun h=>⟨az,J.1 rfl,h⟩,fun h=>h.2.2⟩
  |false=>rw[if_neg (by simp),aH];refine ⟨arj,rfl, ?_⟩;simp only[asf,false_iff];intro h;have:=J.2 h.2.1;cases this
 ·rw[if_neg (by simpa using az),aH];exact ⟨arj,rfl,by simp[az]⟩
end Go.W
end
section
namespace Go.W
open Go.aQ
def oR (a b:Int):Int:=if a<b then -1 else if b<a then 1 else 0
theorem akZ (N:Nat) (a b:Int):Am N a b=are (oR a b):=by
 unfold Am I2 oR;simp only[cR,bne_self_eq_false,aH,asf,if_false];by_cases h:a<b
 ·rw[if_pos (dP h),if_pos h]
 ·rw[if_neg (dO h),if_neg h];by_cases J:b<a
  ·rw[if_pos (dP J),if_pos J]
  ·rw[if_neg (dO J),if_neg J]
theorem alC (N:Nat) (bG:4<=N) (a b c:Int):Jb N [a,b,c]=are (if a≠0 then a else if b≠0 then b else c):=by
 obtain ⟨M,rfl⟩:∃M,N=M+4:=⟨N - 4,by omega⟩
 unfold Jb;have ai:(([a,b,c]:List Int).length:Int)=3:=rfl;have g0:bc [a,b,c] 0=are a:=rfl;have g1:bc [a,b,c] 1=are b:=rfl;have g2:bc [a,b,c] 2=are c:=rfl;have cW:art .i64 (0+1)=1:=by rw[hq]<;>omega
 have bD:art .i64 (1+1)=2:=by rw[hq]<;>omega
 have dR:art .i64 (2+1)=3:=by rw[hq]<;>omega
 have d0:decide ((0:Int)<3)=arf:=rfl;have d1:decide ((1:Int)<3)=arf:=rfl;have d2:decide ((2:Int)<3)=arf:=rfl;have d3:decide ((3:Int)<3)=arj:=rfl;rw[ai,xm,d0,if_pos rfl,g0,aH];by_cases ar:a=0
 ·subst ar;rw[if_neg (by simp),cW,xm,d1,if_pos rfl,g1,aH];by_cases ab:b=0
  ·subst ab;rw[if_neg (by simp),bD,xm,d2,if_pos rfl,g2,aH];by_cases ad:c=0
   ·subst ad;rw[if_neg (by simp),dR,xm,d3,if_neg (by simp)];rfl
   ·rw[if_pos (by simpa using ad)];rfl
  ·rw[if_pos (by simpa using ab)];simp[aH,ab]
 ·rw[if_pos (by simpa using ar)];simp[aH,ar]
def ph (v1 aT iE v2 e2 hQ:Int):Prop:=v1<v2\/(v1=v2/\(aT<e2\/(aT=e2/\iE<hQ)))
instance (v1 aT iE v2 e2 hQ:Int):Decidable (ph v1 aT iE v2 e2 hQ):=by unfold ph;infer_instance
theorem OP {a b:Int} (h:a<b):oR a b= -1:=if_pos h
theorem OO {a b:Int} (h:b<a):oR a b=1:=by unfold oR;rw[if_neg (by omega),if_pos h]
theorem ON (a:Int):oR a a=0:=by unfold oR;rw[if_neg (by omega),if_neg (by omega)]
theorem Yo (v1 aT iE v2 e2 hQ:Int):(if oR v1 v2≠0 then oR v1 v2 else if oR aT e2≠0 then oR aT e2 else oR iE hQ)<0↔ph v1 aT iE v2 e2 hQ:=by
 unfold ph;rcases avc v1 v2 with h|h|h
 ·rw[OP h];simp[h]
 ·subst h;rw[ON];simp only[ne_eq,not_true_eq_false,if_false,Int.lt_irrefl,false_or,true_and];rcases avc aT e2 with h|h|h
  ·rw[OP h];simp[h]
  ·subst h;rw[ON];simp only[ne_eq,not_true_eq_false,if_false,Int.lt_irrefl,false_or,true_and];rcases avc iE hQ with h|h|h
   ·rw[OP h];simp[h]
   ·subst h;rw[ON];simp
   ·rw[OO h];simp;omega
  ·rw[OO h];simp;omega
 ·rw[OO h];simp;omega
structure AG (l:List aB) (d:jv) (e:Int) (q:List Int) (out:Int) (gQ:Place) (found:Bool):Prop where
 no:found=arj->∀m∈q,bn d (kc l e m)=ari
 yes:found=arf->out∈q/\gQ=kc l e out/\∃v,bn d gQ=are v/\∀m∈q,∀w,bn d (kc l e m)=are w->¬ph w (bS l e m) m v (bS l e out) out
theorem Xi (N:Nat) {l:List aB} (bG:l.length+10<=N) (ai:l.length<=1000000) {d:jv} {e:Int} {o:List Int} (ag:o.length<=1000):∀(k n i:Nat) (out:Int) (gQ:Place) (found:Bool),k<n->i+k=o.length->AG l d e (o.take i) out gQ found->
  ∃y8 ya yj,xn N l d e o o.length n out gQ found i=are (y8,ya,yj)/\AG l d e o y8 ya yj
 |k,0,i,out,gQ,found,av,_,_=>by omega
 |0,n+1,i,out,gQ,found,av,af,cA=>by
  obtain rfl:i=o.length:=by omega
  rw[xn,if_neg (dO (by omega))];rw[asO] at cA;exact ⟨_,_,_,rfl,cA⟩
 |k+1,n+1,i,out,gQ,found,av,af,cA=>by
  have aO:i<o.length:=by omega
  have ar:=dw aO;rw[xn,if_pos (dP (by omega))];have kY:o.take (i+1)=o.take i++[o[i]]:=p4 ar;have key:∃y8 ya yj,It N l d e out gQ found o i=are (y8,ya,yj)/\AG l d e (o.take (i+1)) y8 ya yj:=by
   unfold It;rw[dM ar,aH,CS N (by omega) ai,aH,cR,cR];have ab:Place.mk (bS l e o[i]) o[i]=kc l e o[i]:=rfl;rw[ab];cases aM:bn d (kc l e o[i]) with
   |none=>
    refine ⟨out,gQ,found,by simp,⟨fun aK m hm=> ?_,fun aK=> ?_⟩⟩
    ·rw[kY] at hm;rcases arO.1 hm with hm|hm
     ·exact cA.no aK m hm
     ·simp at hm;subst hm;exact aM
    ·obtain ⟨a,b,v,c,nf⟩:=cA.yes aK;refine ⟨by rw[kY];exact auU _ a,b,v,c,fun m hm w hw=> ?_⟩;rw[kY] at hm;rcases arO.1 hm with hm|hm
     ·exact nf m hm w hw
     ·simp at hm;subst hm;rw[aM] at hw;cases hw
   |some w=>
    simp only[Option.isSome_some,atc,asf,if_false,asN];unfold Qu;have taken:(found=arf->∀v,bn d gQ=are v->ph w (bS l e o[i]) o[i] v gQ.aA out)->AG l d e (o.take (i+1)) o[i] (kc l e o[i]) arf:=by
     intro vM;refine ⟨fun aK=>(by cases aK),fun _=>⟨by rw[kY];exact avb _ (ase.2 rfl),rfl,w,aM,fun m hm w' iU=> ?_⟩⟩;rw[kY] at hm;rcases arO.1 hm with hm|hm
     ·cases found with
      |false=>have:=cA.no rfl m hm;rw[iU] at this;cases this
      |true=>obtain ⟨a,b,v,c,nf⟩:=cA.yes rfl;have h1:=vM rfl v c;have J:=nf m hm w' iU;rw[b] at h1;have Bg:(kc l e out).aA=bS l e out:=rfl;rw[Bg] at h1;unfold ph at*;omega
     ·simp at hm;subst hm;rw[aM] at iU;cases iU;unfold ph;omega
    cases found with
    |false=>simp only[auS,if_true,aH];exact ⟨_,_,_,rfl,taken (fun h=>by cases h)⟩
    |true=>
     obtain ⟨a,b,v,c,nf⟩:=cA.yes rfl;rw[if_neg (by simp),c];simp only[cR,asN,akZ,aH];rw[alC N (by omega),aH,aH];have Bg:(kc l e o[i]).aA=bS l e o[i]:=rfl;by_cases vM:ph w (bS l e o[i]) o[i] v gQ.aA out
     ·rw[decide_eq_true ((Yo w (kc l e o[i]).aA o[i] v gQ.aA out).2 (by rw[Bg];exact vM)),if_pos rfl];exact ⟨_,_,_,rfl,taken fun _ bl lB=>by rw[c] at lB;cases lB;exact vM⟩
     ·rw[decide_eq_false (fun ax=>vM (by rw[<-Bg];exact (Yo w (kc l e o[i]).aA o[i] v gQ.aA out).1 ax)),if_neg (by simp)];refine ⟨out,gQ,arf,rfl,⟨fun aK=>(by cases aK),fun _=>⟨by rw[kY];exact auU _ a,b,v,c,fun m hm w' iU=> ?_⟩⟩⟩;rw[kY] at hm;rcases arO.1 hm with hm|hm
      ·exact nf m hm w' iU
      ·simp at hm;subst hm;rw[aM] at iU;cases iU;rw[b] at vM;exact vM
  obtain ⟨y8,ya,yj,g1,g2⟩:=key;rw[g1,aH];simp only[];rw[eB (by omega)];exact Xi N bG ai ag k n (i+1) _ _ _ (by omega) (by omega) g2
theorem aia (N:Nat) {l:List aB} (bG:l.length+1010<=N) (ai:l.length<=1000000) (d:jv) (e:Int) {o:List Int} (ag:o.length<=1000):∃out gQ found,Jf N l d e o=are (out,gQ,found)/\AG l d e o out gQ found:=by
 unfold Jf;obtain ⟨out,gQ,found,h1,J⟩:=Xi N (l:=l) (d:=d) (e:=e) (by omega) ai ag o.length N 0 0 (Place.mk 0 0) arj (by omega) (by omega) ⟨fun _ m hm=>by simp at hm,fun h=>by cases h⟩;have h1:xn N l d e o o.length N 0 (Place.mk 0 0) arj 0=are (out,gQ,found):=h1;rw[h1,aH];exact ⟨_,_,_,rfl,J⟩
def Hw (l:List aB) (e n:Int):List Int:=if n<0 then dz l e else gm l e n
def Aq (l:List aB) (g:Int->Int->Option Int) (e:Int) (o:List Int) (out:Int):Prop:=out∈o/\∃v,g (bS l e out) out=are v/\∀m∈o,∀w,g (bS l e m) m=are w->¬ph w (bS l e m) m v (bS l e out) out
theorem Aq.xD {l:List aB} {g:Int->Int->Option Int} {e:Int} {o:List Int} {a b:Int} (h:Aq l g e o a) (k:Aq l g e o b):a=b:=by
 obtain ⟨h1,v,J,aj⟩:=h;obtain ⟨bm,w,br,dj⟩:=k;have p:=aj b bm w br;have q:=dj a h1 v J;unfold ph at p q;omega
structure nW (l:List aB) (g:Int->Int->Option Int) (fr:Int) (r:List bo):Prop where
 gQ:∀(i:Nat) v,i+1<r.length->r[i]? =are v->Aq l g v.aA (Hw l v.aA v.b4) v.out
 B5:∀(i:Nat) v,0<i->i+1<r.length->r[i]? =are v->g v.aA v.b4≠are 0
 ne:1<=r.length
 aR:∀v,r[0]? =are v->v.aA=fr/\v.b4= -1
 step:∀(i:Nat) v w,r[i]? =are v->r[i+1]? =are w->w.b4=v.out/\0<=w.aA/\w.aA=bS l v.aA v.out/\v.out∈dz l v.aA
 mid:∀(i:Nat) v,0<i->i+1<r.length->r[i]? =are v->v.out∈gm l v.aA v.b4
theorem nW.add {l:List aB} {g:Int->Int->Option Int} {fr:Int} {r:List bo} {v:bo} {out:Int} (h:nW l g fr r) (aa:r[r.length - 1]? =are v) (az:0<=bS l v.aA out) (ag:out∈dz l v.aA) (ak:1<r.length->out∈gm l v.aA v.b4) (ab:Aq l g v.aA (Hw l v.aA v.b4) out) (aD:1<r.length->g v.aA v.b4≠are 0):
  nW l g fr (r.set (r.length - 1) (bo.mk v.aA v.b4 out)++[bo.mk (bS l v.aA out) out (-1)]):=by
 have bL:=h.ne;have hlen:(r.set (r.length - 1) (bo.mk v.aA v.b4 out)).length=r.length:=asK;have get:∀(i:Nat) x,(r.set (r.length - 1) (bo.mk v.aA v.b4 out)++[bo.mk (bS l v.aA out) out (-1)])[i]? =are x->(i+1<r.length/\r[i]? =are x)\/(i+1=r.length/\x=bo.mk v.aA v.b4 out)\/(i=r.length/\x=bo.mk (bS l v.aA out) out (-1)):=by
  intro i x U;by_cases af:i<r.length
  ·rw[arQ (by omega),List.getElem?_set] at U;by_cases he:r.length - 1=i
   ·rw[if_pos he,if_pos (by omega)] at U;exact .inr (.inl ⟨by omega,by cases U;rfl⟩)
   ·rw[if_neg he] at U;exact .inl ⟨by omega,U⟩
  ·rw[arP (by omega)] at U;have:=(arp.1 U).1;simp at this;have jm:i=r.length:=by omega
   subst jm;rw[hlen] at U;simp at U;exact .inr (.inr ⟨rfl,U.symm⟩)
 refine ⟨fun i x jm U=> ?_,fun i x af jm U=> ?_,by simp,fun x U=> ?_,fun i x y U ah=> ?_,fun i x af jm U=> ?_⟩
 ·simp only[arJ,asK,arU,ath] at jm;rcases get i x U with ⟨a,b⟩|⟨a,rfl⟩|⟨a,_⟩
  ·exact h.gQ i x a b
  ·exact ab
  ·omega
 ·simp only[arJ,asK,arU,ath] at jm;rcases get i x U with ⟨a,b⟩|⟨a,rfl⟩|⟨a,_⟩
  ·exact h.B5 i x af a b
  ·exact aD (by omega)
  ·omega
 ·rcases get 0 x U with ⟨_,a⟩|⟨a,rfl⟩|⟨a,_⟩
  ·exact h.aR x a
  ·have:r.length - 1=0:=by omega
   rw[this] at aa;have:=h.aR v aa;exact this
  ·omega
 ·rcases get i x U with ⟨a,b⟩|⟨a,rfl⟩|⟨a,_⟩
  ·rcases get (i+1) y ah with ⟨c,nf⟩|⟨c,rfl⟩|⟨c,_⟩
   ·exact h.step i x y b nf
   ·have lB:r[i+1]? =are v:=by rw[<-aa];congr 1;omega
    exact h.step i x v b lB
   ·omega
  ·rcases get (i+1) y ah with ⟨c,_⟩|⟨c,_⟩|⟨c,rfl⟩
   ·omega
   ·omega
   ·exact ⟨rfl,az,rfl,ag⟩
  ·rcases get (i+1) y ah with ⟨c,_⟩|⟨c,_⟩|⟨c,_⟩<;>omega
 ·simp only[arJ,asK,arU,ath] at jm;rcases get i x U with ⟨a,b⟩|⟨a,rfl⟩|⟨a,_⟩
  ·exact h.mid i x af (by omega) b
  ·exact ak (by omega)
  ·omega
theorem nW.same {l:List aB} {g:Int->Int->Option Int} {fr:Int} {gv fQ:List bo} (h1:nW l g fr gv) (J:nW l g fr fQ) (two:2<=fQ.length) (aD:∀z,fQ[fQ.length - 1]? =are z->g z.aA z.b4=are 0):
  ∀i,i<gv.length->i<fQ.length/\∀v1 v2,gv[i]? =are v1->fQ[i]? =are v2->v1.aA=v2.aA/\v1.b4=v2.b4/\(i+1<gv.length->i+1<fQ.length/\v1.out=v2.out):=by
 have Vv:∀(i:Nat) v1 v2,gv[i]? =are v1->fQ[i]? =are v2->v1.aA=v2.aA->v1.b4=v2.b4->i+1<gv.length->i+1<fQ.length/\v1.out=v2.out:=by
  intro i v1 v2 a b aT e2 af;have jm:=(arp.1 b).1;have aO:i+1<fQ.length:=by
   by_cases ax:i+1=fQ.length
   ·have e:i=fQ.length - 1:=by omega
    have bV:=b;rw[e] at bV;have:=aD v2 bV;have bL:=h1.B5 i v1 (by omega) af a;rw[aT,e2] at bL;exact absurd this bL
   ·omega
  refine ⟨aO, ?_⟩;have p:=h1.gQ i v1 af a;have q:=J.gQ i v2 aO b;rw[aT,e2] at p;exact p.xD q
 intro i;induction i with
 |zero=>
  intro af;refine ⟨by omega,fun v1 v2 a b=> ?_⟩;obtain ⟨en,fo⟩:=h1.aR v1 a;obtain ⟨cI,cL⟩:=J.aR v2 b;have aT:v1.aA=v2.aA:=by rw[en,cI]
  have e2:v1.b4=v2.b4:=by rw[fo,cL]
  exact ⟨aT,e2,fun ax=>Vv 0 v1 v2 a b aT e2 ax⟩
 |succ i aU=>
  intro af;obtain ⟨g1,g2⟩:=aU (by omega);have a:=dw (xs:=gv) (i:=i) (by omega);have b:=dw (xs:=fQ) (i:=i) g1;obtain ⟨aT,e2,hV⟩:=g2 _ _ a b;obtain ⟨kR,qv⟩:=hV af;refine ⟨kR,fun v1 v2 c nf=> ?_⟩;obtain ⟨en,fo,hC,iF⟩:=h1.step i _ v1 a c;obtain ⟨cI,cL,eQ,gu⟩:=J.step i _ v2 b nf;have f1:v1.aA=v2.aA:=by rw[hC,eQ,aT,qv]
  have f2:v1.b4=v2.b4:=by rw[en,cI,qv]
  exact ⟨f1,f2,fun ax=>Vv (i+1) v1 v2 c nf f1 f2 ax⟩
theorem nW.aqQ {l:List aB} {g:Int->Int->Option Int} {fr:Int} {gv fQ:List bo} (h1:nW l g fr gv) (J:nW l g fr fQ) (two:2<=fQ.length) (aD:∀z,fQ[fQ.length - 1]? =are z->g z.aA z.b4=are 0) (aw:(cg fQ).Nodup):(cg gv).Nodup:=by
 have s1:=h1.same J two aD;have:cg gv=(cg fQ).take gv.length:=by
  refine List.ext_getElem? fun i=> ?_;unfold cg;rw[asg];by_cases af:i<gv.length
  ·have a:=dw (xs:=gv) (i:=i) af;have b:=dw (xs:=fQ) (i:=i) (s1 i af).1;rw[if_pos af,ar4,ar4,a,b];simp only[Option.map_some];rw[((s1 i af).2 _ _ a b).1]
  ·rw[if_neg af,ar4,atG (by omega)];rfl
 rw[this];exact aw.sublist (auB _ _)
theorem WN (N:Nat) (bG:4000<=N) {l:List aB} (b0:fj l) {d:jv} {fr to:Int} (fg:iK l to d):∀(k n:Nat) (r:List bo) (o:List Int) (v:bo),k<n->nW l (fun i n=>bn d (Place.mk i n)) fr r->r[r.length - 1]? =are v->
  ((r.length=1/\o=dz l fr/\d.length<=k)\/(1<r.length/\o=gm l v.aA v.b4/\∃w,bn d (Place.mk v.aA v.b4)=are w/\w≠0/\w<=k))->r.length+k<=2000->
  (∃j7,zL N l d n r o=are (.inl j7)/\nW l (fun i n=>bn d (Place.mk i n)) fr j7/\2<=j7.length/\(∃z,j7[j7.length - 1]? =are z/\z.aA=to/\z.out= -1/\bn d (Place.mk z.aA z.b4)=are 0)/\j7.length<=2001/\∀m∈o,∀w,bn d (kc l v.aA m)=are w->(j7.length:Int)<=r.length+1+w)\/
  (zL N l d n r o=are (.inr 15)/\r.length=1/\∀m∈o,bn d (kc l v.aA m)=ari)
 |k,0,r,o,v,av,_,_,_,_=>by omega
 |k,n+1,r,o,v,av,Fb,aa,hinv,hlen=>by
  have bL:=Fb.ne;have r0:=b0.len;have LY:=fg.len;have hw:art .i64 ((r.length:Int) - 1)=((r.length - 1:Nat):Int):=by rw[hq (by omega) (by omega)];omega
  have aqx:o.length<=3:=by
   rcases hinv with ⟨_,rfl,_⟩|⟨_,rfl,_⟩
   ·exact p6 l fr
   ·exact wT _ _ _
  rw[zL,hw,dM aa];simp only[aH];obtain ⟨out,gQ,found,h1,J⟩:=aia N (l:=l) (by omega) (by omega) d v.aA (o:=o) (by omega);rw[h1,aH];simp only[];cases found with
  |false=>
   simp only[auS,if_true];refine .inr ⟨trivial, ?_,J.no rfl⟩;rcases hinv with ⟨a,_⟩|⟨_,rfl,w,hY,oe,_⟩
   ·exact a
   ·obtain ⟨_,m,tP,nq⟩:=fg.pos _ w hY oe;have:=J.no rfl m tP;rw[this] at nq;cases nq
  |true=>
   obtain ⟨cI,cL,v1,eQ,gu⟩:=J.yes rfl;rw[if_neg (by simp),cR];have UF:=fg.key gQ v1 eQ;rw[cL] at UF;have az:0<=bS l v.aA out:=(nI UF).1;have kZ:=fg.Nb eQ;have aqD:=fg.val eQ;have pO:out∈dz l v.aA:=by
    rcases hinv with ⟨a,rfl,_⟩|⟨_,rfl,_⟩
    ·have:r.length - 1=0:=by omega
     rw[this] at aa;rw[(Fb.aR v aa).1];exact cI
    ·exact (CM cI).2
   have Ui:=Fb.add aa az pO (fun ax=>by
    rcases hinv with ⟨a,_⟩|⟨_,rfl,_⟩
    ·omega
    ·exact cI) (by
    have ag:o=Hw l v.aA v.b4:=by
     unfold Hw;rcases hinv with ⟨a,b,_⟩|⟨_,b,w,hY,_⟩
     ·have cH:r.length - 1=0:=by omega
      rw[cH] at aa;obtain ⟨c1,c2⟩:=Fb.aR v aa;rw[c1,c2,if_pos (by omega)];exact b
     ·have hk:=fg.key _ _ hY;obtain ⟨_,_,x,U,hm⟩:=nI hk;have:=((ox (b0.snd x (arI U))).2.1 _ hm).1;rw[if_neg (by simpa using this)];exact b
    rw[<-ag];exact ⟨cI,v1,by rw[cL] at eQ;exact eQ,gu⟩) (fun ax=>by
    rcases hinv with ⟨a,_⟩|⟨_,_,w,hY,oe,_⟩
    ·omega
    ·rw[hY];intro ad;cases ad;exact oe rfl)
   have mC:(r.set (((r.length - 1:Nat):Int)).toNat (bo.mk v.aA v.b4 out))=r.set (r.length - 1) (bo.mk v.aA v.b4 out):=by rw[asv]
   have my:gQ.aA=bS l v.aA out:=by rw[cL];rfl
   have ky:gQ.b4=out:=by rw[cL];rfl
   rw[mC,my,ky,iX (by simp;omega),aH,cR,eQ];simp only[asN];have yG:(r.set (r.length - 1) (bo.mk v.aA v.b4 out)++[bo.mk (bS l v.aA out) out (-1)]).length=r.length+1:=by simp
   have qG:(r.set (r.length - 1) (bo.mk v.aA v.b4 out)++[bo.mk (bS l v.aA out) out (-1)])[r.length+1 - 1]? =are (bo.mk (bS l v.aA out) out (-1)):=by rw[arP (by simp)];simp
   have vO:∀m∈o,∀w,bn d (kc l v.aA m)=are w->v1<=w:=by intro m hm w hw;have:=gu m hm w hw;unfold ph at this;omega
   by_cases aD:v1=0
   ·rw[if_pos (by simpa using aD)];refine .inl ⟨_,rfl,Ui,by omega,⟨_,by rw[yG];exact qG, ?_,rfl, ?_⟩,by omega,fun m hm w hw=> ?_⟩
    ·have:=fg.zero gQ (by rw[eQ,aD]);rw[my] at this;exact this
    ·have:gQ=Place.mk (bS l v.aA out) out:=cL;rw[<-this,eQ,aD]
    ·have:=vO m hm w hw;rw[yG];omega
   ·rw[if_neg (by simpa using aD),GX N (by omega),aH];have o0:v1+1<=k:=by
     rcases hinv with ⟨_,_,a⟩|⟨_,rfl,w,hY,oe,aqF⟩
     ·omega
     ·obtain ⟨_,m,tP,nq⟩:=fg.pos _ w hY oe;have:=vO m tP _ nq;omega
    cases k with
    |zero=>omega
    |succ k=>
     have ade:gQ=Place.mk (bS l v.aA out) out:=cL;have aU:=WN N bG b0 fg k n (r.set (r.length - 1) (bo.mk v.aA v.b4 out)++[bo.mk (bS l v.aA out) out (-1)]) (gm l (bS l v.aA out) out) (bo.mk (bS l v.aA out) out (-1)) (by omega) Ui (by rw[yG];exact qG)
      (.inr ⟨by omega,rfl,v1,by rw[<-ade];exact eQ,aD,by omega⟩) (by omega)
     rcases aU with ⟨j7,g1,g2,g3,g4,g5,g6⟩|⟨g1,g2,_⟩
     ·refine .inl ⟨j7,g1,g2,g3,g4,g5,fun m hm w hw=> ?_⟩;obtain ⟨_,m0,tP,nq⟩:=fg.pos gQ v1 eQ aD;rw[my,ky] at tP;rw[my] at nq;have:=g6 m0 tP _ nq;have:=vO m hm w hw;omega
     ·omega
theorem aiv (N:Nat) (bG:4000<=N) {l:List aB} (b0:fj l) (fr to:Int):
  (jP N l fr to=are ([],2)/\(¬hF l fr\/¬hF l to\/fr=to))\/(hF l fr/\hF l to/\fr≠to/\∃d,iK l to d/\(∀m∈dz l to,bn d (Place.mk to m)=are 0)/\e5 l d/\
   ((jP N l fr to=are ([],15)/\∀m∈dz l fr,bn d (kc l fr m)=ari)\/(jP N l fr to=are ([],17)/\∃r,nW l (fun i n=>bn d (Place.mk i n)) fr r/\2<=r.length/\(∀z,r[r.length - 1]? =are z->bn d (Place.mk z.aA z.b4)=are 0/\z.out= -1)/\¬(cg r).Nodup)\/∃r,jP N l fr to=are (r,0)/\(nW l (fun i n=>bn d (Place.mk i n)) fr r/\∀z,r[r.length - 1]? =are z->bn d (Place.mk z.aA z.b4)=are 0/\z.out= -1)/\kP l r/\r.length<=2001/\(∀v,r[0]? =are v->v.aA=fr)/\(∀v,r[r.length - 1]? =are v->v.aA=to)/\∀m∈dz l fr,∀w,bn d (kc l fr m)=are w->(r.length:Int)<=2+w)):=by
 unfold jP;rw[b0.p N (by omega),aH,if_neg (by simp)];have az:∃b,Is N l fr to=are b/\(b=arj↔hF l fr/\hF l to/\fr≠to):=by unfold Is;simp only[Y5,aH];exact uC Ht (uC Ht ⟨_,rfl,by simp⟩)
 obtain ⟨b,h1,J⟩:=az;rw[h1,aH];cases b with
 |true=>
  rw[if_pos rfl];refine .inl ⟨rfl, ?_⟩;by_cases a:hF l fr
  ·by_cases c:hF l to
   ·right;right;by_cases e:fr=to
    ·exact e
    ·have:=J.2 ⟨a,c,e⟩;cases this
   ·exact .inr (.inl c)
  ·exact .inl a
 |false=>
  rw[if_neg (by simp)];obtain ⟨t1,t2,t3⟩:=J.1 rfl;obtain ⟨d,g1,g2,g3,g4⟩:=ajG N (by omega) (to:=to) b0;rw[g1,aH,GF,aH];have LY:=g2.len;have r0:=b0.len;refine .inr ⟨t1,t2,t3,d,g2,g3,g4, ?_⟩;have ai:=WN N bG b0 (fr:=fr) g2 d.length N [bo.mk fr (-1) 0] (dz l fr) (bo.mk fr (-1) 0) (by omega)
   ⟨fun i v af=>by simp at af,fun i v af jm=>by simp at jm,by simp,fun v aa=>by simp at aa;subst aa;exact ⟨rfl,rfl⟩,fun i v w aa hw=>by simp at hw,fun i v af jm aa=>by simp at jm⟩ (by simp) (.inl ⟨by simp,rfl,by omega⟩) (by simp;omega)
  rcases ai with ⟨j7,cI,cL,eQ,⟨z,gu,ma,lF,VX⟩,Nr,kI⟩|⟨cI,_,afZ⟩
  ·rw[cI,aH];simp only[];obtain ⟨c,c1,c2⟩:=XS N (r:=j7) (by omega) (by omega);rw[c1,aH];cases c with
   |true=>right;left;rw[if_pos rfl];refine ⟨rfl,j7,cL,eQ,fun y ah=> ?_,fun aw=>by have:=c2.2 aw;cases this⟩;rw[gu] at ah;cases ah;exact ⟨VX,lF⟩
   |false=>
    right;right;rw[if_neg (by simp)];have aqo:=dw (xs:=j7) (i:=0) (by omega);have nw:∀v,j7[j7.length - 1]? =are v->v=z:=fun v aa=>by rw[gu] at aa;cases aa;rfl
    refine ⟨j7,rfl,⟨cL,fun y ah=>by rw[gu] at ah;cases ah;exact ⟨VX,lF⟩⟩,⟨b0.err,⟨eQ,fun v aa=> ?_,fun v aa=> ?_,fun i v w aa hw=> ?_,cL.mid⟩,c2.1 rfl⟩,Nr,fun v aa=>(cL.aR v aa).1,fun v aa=>by rw[nw v aa];exact ma,fun m hm w hw=>by have:=kI m hm w hw;simp at this;omega⟩
    ·obtain ⟨a,b⟩:=cL.aR v aa;have:=cL.step 0 v _ aa (dw (xs:=j7) (i:=1) (by omega));exact ⟨by rw[a];exact t1,b,this.2.2.2⟩
    ·rw[nw v aa,ma];exact ⟨t2,lF⟩
    ·obtain ⟨a,b,c,nf⟩:=cL.step i v w aa hw;exact ⟨a,b,c⟩
  ·rw[cI,aH];exact .inl ⟨rfl,afZ⟩
theorem ajK (N:Nat) (bG:4000<=N) {l:List aB} (b0:fj l) (fr to:Int):
  (jP N l fr to=are ([],2)/\(¬hF l fr\/¬hF l to\/fr=to))\/(hF l fr/\hF l to/\fr≠to/\
   (jP N l fr to=are ([],15)\/jP N l fr to=are ([],17)\/∃r,jP N l fr to=are (r,0)/\kP l r/\r.length<=2001/\(∀v,r[0]? =are v->v.aA=fr)/\∀v,r[r.length - 1]? =are v->v.aA=to)):=by
 rcases aiv N bG b0 fr to with h|⟨a,b,c,d,_,_,_,h⟩
 ·exact .inl h
 ·refine .inr ⟨a,b,c, ?_⟩;rcases h with ⟨h,_⟩|⟨h,_⟩|⟨r,h1,_,J,aj,aJ,bk,_⟩
  ·exact .inl h
  ·exact .inr (.inl h)
  ·exact .inr (.inr ⟨r,h1,J,aj,aJ,bk⟩)
end Go.W
end
section
namespace Go.W
open Go.aQ
def lb (l:List aB):Nat->List aB->List Int
 |_,[]=>[]
 |i,x::xs=>if x.kind=1 then (i:Int)::lb l (i+1) xs else lb l (i+1) xs
theorem XR (l:List aB):∀(q:List aB) (i:Nat),(lb l i q).length<=q.length
 |[],i=>by simp[lb]
 |x::q,i=>by rw[lb];have:=XR l q (i+1);split<;>simp<;>omega
theorem OK {l:List aB} {a:Int}:∀{q:List aB} {i:Nat},a∈lb l i q->∃(j:Nat) (x:aB),a=((i+j:Nat):Int)/\q[j]? =are x/\x.kind=1
 |[],i,h=>by simp[lb] at h
 |x::q,i,h=>by
  rw[lb] at h;split at h
  ·rename_i hk;rcases arA.1 h with rfl|h
   ·exact ⟨0,x,by simp,rfl,hk⟩
   ·obtain ⟨j,y,h1,J,aj⟩:=OK h;exact ⟨j+1,y,by rw[h1];omega,by simpa using J,aj⟩
  ·obtain ⟨j,y,h1,J,aj⟩:=OK h;exact ⟨j+1,y,by rw[h1];omega,by simpa using J,aj⟩
theorem NR (N:Nat) {l:List aB} (ai:l.length<=1000000):∀(k n i:Nat) (q:List Int),k<n->i+k=l.length->q.length<=i->zU N l n q i=are (q++lb l i (l.drop i))
 |k,0,i,q,av,_,_=>by omega
 |0,n+1,i,q,av,af,aF=>by
  obtain rfl:i=l.length:=by omega
  rw[zU,if_neg (dO (by omega)),atf,lb,asI]
 |k+1,n+1,i,q,av,af,aF=>by
  have aO:i<l.length:=by omega
  have ar:=dw aO;rw[zU,if_pos (dP (by omega))];unfold PY;rw[dM ar,aH,lG ar,lb];by_cases hk:l[i].kind=1
  ·rw[if_pos (by simpa using hk),if_pos hk,iX (by simp;omega),aH,aH,cR,eB (by omega),NR N ai k n (i+1) _ (by omega) (by omega) (by simp;omega)];simp
  ·rw[if_neg (by simpa using hk),if_neg hk,aH,cR,eB (by omega),NR N ai k n (i+1) _ (by omega) (by omega) (by omega)]
theorem ahp (N:Nat) {l:List aB} (ai:l.length<=1000000) (bG:l.length<N):I1 N l=are (lb l 0 l):=by
 unfold I1;have h:=NR N ai l.length N 0 [] bG (by omega) (by simp);simp only[atK,asn,atd] at h;rw[h,aH]
end Go.W
end
section
namespace Go.W
open Go.aQ
theorem ahe {x:aB} (h:b2 x≠[]):2<=(b2 x).length:=by
 unfold b2 at*;split
 ·simp
 ·split
  ·simp
  ·rename_i h1 J;rw[if_neg h1,if_neg J] at h;exact absurd rfl h
theorem aj3 {l:List aB} (b0:fj l) {i n:Int} (h:n∈dz l i):0<(gm l i n).length:=by
 obtain ⟨az,h1,x,U,av⟩:=nI h;obtain ⟨j,rfl⟩:=ar8 az;rw[asv] at U;have J:=ahe (ox (b0.snd x (arI U))).2.2.1;unfold gm iJ;rw[wZ U,if_pos (by simpa using av)];split
 ·rw[List.length_tail];omega
 ·rw[asq];omega
structure pC (l:List aB) (w:List bo) (v:bo):Prop where
 ne:1<=w.length
 last:w[w.length - 1]? =are v
 aR:∀v,w[0]? =are v->hF l v.aA/\v.b4= -1/\v.out∈dz l v.aA
 out:v.out∈dz l v.aA
 step:∀(i:Nat) v w',w[i]? =are v->w[i+1]? =are w'->w'.b4=v.out/\0<=w'.aA/\w'.aA=bS l v.aA v.out
 mid:∀(i:Nat) v,0<i->w[i]? =are v->v.out∈gm l v.aA v.b4
theorem zG {al:Type} {w:List al} {y:al} {i:Nat} {x:al} (h:(w++[y])[i]? =are x):(i<w.length/\w[i]? =are x)\/(i=w.length/\x=y):=by
 by_cases af:i<w.length
 ·rw[arQ af] at h;exact .inl ⟨af,h⟩
 ·have:=(arp.1 h).1;simp at this;have:i=w.length:=by omega
  subst this;simp at h;exact .inr ⟨rfl,h.symm⟩
theorem pC.aas {l:List aB} {w:List bo} {v y:bo} (h:pC l w v) (h1:y.b4=v.out) (az:0<=bS l v.aA v.out) (J:y.aA=bS l v.aA v.out):∀(i:Nat) a b,(w++[y])[i]? =are a->(w++[y])[i+1]? =are b->b.b4=a.out/\0<=b.aA/\b.aA=bS l a.aA a.out:=by
 intro i a b ar ab;rcases zG ab with ⟨p,q⟩|⟨p,rfl⟩
 ·rcases zG ar with ⟨r,s⟩|⟨r,_⟩
  ·exact h.step i a b s q
  ·omega
 ·rcases zG ar with ⟨r,s⟩|⟨r,_⟩
  ·have:=h.last;rw[show w.length - 1=i by omega,s] at this;cases this;exact ⟨h1,by rw[J];exact az,J⟩
  ·omega
theorem pC.dE {l:List aB} {w:List bo} {v y:bo} (h:pC l w v):∀a,(w++[y])[0]? =are a->hF l a.aA/\a.b4= -1/\a.out∈dz l a.aA:=by
 intro a ar;rcases zG ar with ⟨_,q⟩|⟨p,_⟩
 ·exact h.aR a q
 ·have:=h.ne;omega
theorem pC.add {l:List aB} {w:List bo} {v:bo} {o:Int} (h:pC l w v) (az:0<=bS l v.aA v.out) (ag:o∈gm l (bS l v.aA v.out) v.out):pC l (w++[bo.mk (bS l v.aA v.out) v.out o]) (bo.mk (bS l v.aA v.out) v.out o) where
 ne:=by simp
 last:=by simp
 aR:=h.dE
 out:=(CM ag).2
 step:=h.aas rfl az rfl
 mid:=fun i a af ar=>by
  rcases zG ar with ⟨_,q⟩|⟨_,rfl⟩
  ·exact h.mid i a af q
  ·exact ag
theorem pC.fin {l:List aB} {w:List bo} {v:bo} (h:pC l w v) (az:0<=bS l v.aA v.out) (ak:hF l (bS l v.aA v.out)):lV l (w++[bo.mk (bS l v.aA v.out) v.out (-1)]) where
 two:=by have:=h.ne;simp;omega
 aR:=h.dE
 hW:=fun a ar=>by simp at ar;subst ar;exact ⟨ak,rfl⟩
 step:=h.aas rfl az rfl
 mid:=fun i a af jm ar=>by
  rcases zG ar with ⟨_,q⟩|⟨p,_⟩
  ·exact h.mid i a af q
  ·simp at jm;omega
theorem alg {l:List aB} {i n:Int} (h:0<=bS l i n):bS l i n<l.length:=by
 rcases GA l i n with ⟨a,_⟩|⟨j,x,a,b,_⟩
 ·omega
 ·have:=(arp.1 b).1;omega
theorem anN (N:Nat) (bG:4000<=N) {l:List aB} (b0:fj l) {c:Int} {s:eC} (aq:hs c s) (ad:c<=1000000) {e n:Int} (az:0<=e) (h1:e<l.length) {o:List Int} (ag:0<o.length):∃b cV,HL N s l e o=are (cV,b)/\hs (c+1) cV/\(b=arf->hF l e):=by
 have r0:=b0.len;obtain ⟨j,rfl⟩:=ar8 az;have ap:=dw (xs:=l) (i:=j) (by omega);have g0:bc o 0=are o[0]:=dM (dw (xs:=o) (i:=0) ag);unfold HL;rw[dM ap,aH];by_cases hk:l[j].kind=1
 ·have ak:hF l (j:Int):=⟨by omega,_,ap,hk⟩
  rw[if_pos (by simpa using hk)];obtain ⟨r,cV,en,fo,hC,iF⟩:=nF N (s:=s) (c:=c) 2 (by omega) (by omega) aq (by omega);rw[en,aH];by_cases ao:r=0
  ·rw[if_pos (by simpa using ao)];exact ⟨_,_,rfl,iF,fun _=>ak⟩
  ·rw[if_neg (by simpa using ao),g0,aH,aH,YV N (by omega) (by omega),aH];exact ⟨_,_,rfl,iF,fun _=>ak⟩
 ·rw[if_neg (by simpa using hk)];exact ⟨_,_,rfl,aq.le (by omega),fun h=>by cases h⟩
theorem W8 (N:Nat) (bG:4000<=N) {l:List aB} (b0:fj l):∀(k n i:Nat) (c:Int) (s:eC) (v:bo) (w:List bo),k<n->i+k=12->hs c s->c+2*k<=1000000->pC l w v->w.length=i+1->
  ∃cV w',(sI N l n s v w i=are (.inl (cV,w'))\/sI N l n s v w i=are (.inr (cV,w')))/\hs (c+2*k) cV/\1<=w'.length/\w'.length<=13/\(lV l w'\/∀v,w'[w'.length - 1]? =are v->v.out≠ -1)
 |k,0,i,c,s,v,w,av,_,_,_,_,_=>by omega
 |k,n+1,i,c,s,v,w,av,af,aq,ad,cA,ai=>by
  have r0:=b0.len;have stop:∀bl,w[w.length - 1]? =are bl->bl.out≠ -1:=fun bl lB=>by rw[cA.last] at lB;cases lB;obtain ⟨_,_,x,U,av⟩:=nI cA.out;have:=(ox (b0.snd x (arI U))).2.1 _ av;omega
  cases k with
  |zero=>rw[sI,if_neg (dO (by omega))];exact ⟨s,w, .inl rfl,aq.le (by omega),by omega,by omega, .inr stop⟩
  |succ k=>
   rw[sI,if_pos (dP (by omega)),YV N (by omega) (by omega),aH];by_cases az:bS l v.aA v.out<0
   ·rw[if_pos (dP az)];exact ⟨s,w, .inl rfl,aq.le (by omega),by omega,by omega, .inr stop⟩
   ·rw[if_neg (dO az),ajV N (by omega),aH];have vv:0<=bS l v.aA v.out:=by omega
    have dt:=aj3 b0 (CR vv).1;have aj:=wT l (bS l v.aA v.out) v.out;obtain ⟨b,s1,cI,cL,eQ⟩:=anN N bG b0 aq (by omega) vv (alg vv) (n:=v.out) dt;rw[cI,aH];simp only[];cases b with
    |true=>rw[if_pos rfl,iX (by simp;omega),aH];exact ⟨_,_, .inr rfl,cL.le (by omega),by simp,by simp;omega, .inl (cA.fin vv (eQ rfl))⟩
    |false=>rw[if_neg (by simp)];obtain ⟨r,s2,en,fo,hC,iF⟩:=nF N (s:=s1) (c:=c+1) ((gm l (bS l v.aA v.out) v.out).length:Int) (by omega) (by omega) cL (by omega);obtain ⟨r,rfl⟩:=ar8 fo;have ao:=dw (xs:=gm l (bS l v.aA v.out) v.out) (i:=r) (by omega);rw[en,aH];simp only[];rw[dM ao,aH,aH,iX (by simp;omega),aH,cR,eB (by omega)];have acL:=cA.add vv (arI ao);obtain ⟨cV,w',g1,g2,g3,g4,g5⟩:=W8 N bG b0 k n (i+1) (c+1+1) s2 _ _ (by omega) (by omega) iF (by omega) acL (by simp;omega);exact ⟨cV,w',g1,g2.le (by omega),g3,g4,g5⟩
theorem aj6 (N:Nat) (bG:4000<=N) {l:List aB} (b0:AE l) {c:Int} {s:eC} (aq:hs c s) (ad:c<=900000):
  ∃w cV,I7 N s l=are (w,cV)/\hs (c+30) cV/\1<=w.length/\w.length<=13/\(lV l w\/∀v,w[w.length - 1]? =are v->v.out≠ -1):=by
 have r0:=b0.ok.len;unfold I7;rw[ahp N (by omega) (by omega),aH];have hlen:=XR l l 0;have dt:0<(lb l 0 l).length:=by
  obtain ⟨x,U,hk⟩:=b0.fst;cases l with
  |nil=>simp at U
  |cons y l=>simp at U;subst U;rw[lb,if_pos hk];simp
 have aeW:∀a∈lb l 0 l,hF l a:=by intro a ar;obtain ⟨j,x,h1,J,aj⟩:=OK ar;rw[arE] at h1;subst h1;exact ⟨by omega,x,by simpa using J,aj⟩
 obtain ⟨r,s1,en,fo,hC,iF⟩:=nF N (s:=s) (c:=c) ((lb l 0 l).length:Int) (by omega) (by omega) aq (by omega);obtain ⟨r,rfl⟩:=ar8 fo;have ao:=dw (xs:=lb l 0 l) (i:=r) (by omega);have ak:=aeW _ (arI ao);rw[en,aH];simp only[];rw[dM ao,aH,aH,Of,aH];generalize (lb l 0 l)[r]'(by omega)=e at*;have aqz:0<(dz l e).length:=by obtain ⟨a,x,b,fk⟩:=ak;unfold dz;rw[if_pos a,b];simp[b2,fk]
 have aj:=p6 l e;obtain ⟨q,s2,cI,cL,eQ,gu⟩:=nF N (s:=s1) (c:=c+1) ((dz l e).length:Int) (by omega) (by omega) iF (by omega);obtain ⟨q,rfl⟩:=ar8 cL;have aF:=dw (xs:=dz l e) (i:=q) (by omega);rw[cI,aH];simp only[];rw[dM aF,aH,aH];have jn:=arI aF;generalize (dz l e)[q]'(by omega)=o at*;have cA:pC l [bo.mk e (-1) o] (bo.mk e (-1) o):=⟨by simp,by simp,fun v aa=>by simp at aa;subst aa;exact ⟨ak,rfl,jn⟩,jn,fun i v w aa hw=>by simp at hw,fun i v af aa=>by
  have:=(arp.1 aa).1;simp at this;omega⟩
 obtain ⟨cV,w',g1,g2,g3,g4,g5⟩:=W8 N bG b0.ok 12 N 0 (c+1+1) s2 _ _ (by omega) (by omega) gu (by omega) cA rfl;refine ⟨w',cV, ?_,g2.le (by omega),g3,g4,g5⟩;rcases g1 with g1|g1
 ·have g1:sI N l N s2 (bo.mk e (-1) o) [bo.mk e (-1) o] 0=are (.inl (cV,w')):=g1;rw[g1];rfl
 ·have g1:sI N l N s2 (bo.mk e (-1) o) [bo.mk e (-1) o] 0=are (.inr (cV,w')):=g1;rw[g1];rfl
end Go.W
end
section
namespace Go.W
open Go.aQ
end Go.W
end
section
namespace Go.W
open Go.aQ
end Go.W
end
section
namespace Go.W
open Go.aQ
def z7 (x:aB) (v:bo):List bi:=
 if x.kind=3 then [bi.mk v.aA 3] else if x.kind=2 then (if v.b4=x.b\/v.out=x.b then [bi.mk v.aA 1] else [bi.mk v.aA 2]) else []
def s7 (l:List aB) (v:bo):List bi:=match l[v.aA.toNat]? with|some x=>z7 x v|none=>[]
def kJ (l:List aB) (r:List bo):List bi:=r.flatMap (s7 l)
theorem aiR (x:aB) (v:bo):(z7 x v).length<=1:=by
 unfold z7;split
 ·simp
 ·split
  ·split<;>simp
  ·simp
theorem YX {l:List aB} {v:bo} {s:bi} (h:s∈s7 l v):s.aA=v.aA:=by
 unfold s7 at h;split at h
 ·unfold z7 at h;split at h
  ·simp at h;subst h;rfl
  ·split at h
   ·split at h<;>(simp at h;subst h;rfl)
   ·simp at h
 ·simp at h
theorem OH (l:List aB) (v:bo):(s7 l v).length<=1:=by
 unfold s7;split
 ·exact aiR _ _
 ·simp
theorem NF (l:List aB):∀(r:List bo),(kJ l r).length<=r.length
 |[]=>by simp[kJ]
 |v::r=>by have:=NF l r;have h1:=OH l v;unfold kJ at*;rw[asl,arJ,arU];omega
theorem anD (N:Nat) {l:List aB} {r:List bo} {i:Nat} {v:bo} (aa:r[i]? =are v) (az:0<=v.aA) (h1:v.aA<l.length) {acc:List bi} (ar:acc.length<=1000000):HZ N l acc r i=are (acc++s7 l v):=by
 obtain ⟨j,ap⟩:=ar8 az;have hP:=dw (xs:=l) (i:=j) (by omega);unfold HZ s7;have aM:bc l v.aA=are (l[j]'(by omega)):=by rw[ap];exact dM hP
 have qF:l[v.aA.toNat]? =are (l[j]'(by omega)):=by rw[ap,asv];exact hP
 rw[dM aa,aH,aM,aH,cR,qF];generalize l[j]'(by omega)=x at*;simp only[];unfold z7;by_cases aj:x.kind=3
 ·rw[if_pos (by simpa using aj),if_pos aj,iX (by simp;omega),aH]
 ·rw[if_neg (by simpa using aj),if_neg aj];by_cases J:x.kind=2
  ·have MB:zT N v x=are (decide (v.b4=x.b\/v.out=x.b)):=by
    unfold zT;rw[if_pos (by simpa using J)];by_cases a:v.b4=x.b
    ·rw[if_pos (by simpa using a)];simp[a]
    ·rw[if_neg (by simpa using a),cR];congr 1;exact asw.2 (by simp[a])
   rw[MB,aH,if_pos J];by_cases ab:v.b4=x.b\/v.out=x.b
   ·rw[if_pos (by simpa using ab),if_pos ab,iX (by simp;omega),aH]
   ·rw[if_neg (by simpa using ab),if_neg ab,cR,if_pos (by simpa using J),iX (by simp;omega),aH]
  ·have MB:zT N v x=are arj:=by
    unfold zT;rw[if_neg (by simpa using J)]
   rw[MB,aH,if_neg (by simp),cR,if_neg (by simpa using J),if_neg J,asI]
theorem WZ (N:Nat) {l:List aB} {r:List bo} (ao:∀v∈r,0<=v.aA/\v.aA<l.length) (ai:r.length<=100000):∀(k n i:Nat) (acc:List bi),k<n->i+k=r.length->acc.length<=i->xe N l r r.length n acc i=are (acc++kJ l (r.drop i))
 |k,0,i,acc,av,_,_=>by omega
 |0,n+1,i,acc,av,af,ar=>by
  obtain rfl:i=r.length:=by omega
  rw[xe,if_neg (dO (by omega)),atf];simp[kJ]
 |k+1,n+1,i,acc,av,af,ar=>by
  have aO:i<r.length:=by omega
  have aa:=dw aO;obtain ⟨az,h1⟩:=ao _ (arI aa);have J:=OH l r[i];rw[xe,if_pos (dP (by omega)),anD N aa az h1 (by omega),aH,eB (by omega),WZ N ao ai k n (i+1) _ (by omega) (by omega) (by simp;omega),lG aa];unfold kJ;rw[asl,as7]
theorem lV.ok {l:List aB} {r:List bo} (h:lV l r):∀v∈r,0<=v.aA/\v.aA<l.length:=by
 intro v aa;obtain ⟨i,af⟩:=asx aa;have aO:=(arp.1 af).1;have two:=h.two;by_cases az:i+1<r.length
 ·have:=nI (h.outs az af);exact ⟨this.1,this.2.1⟩
 ·have:=nI (h.ins (by omega) af);exact ⟨this.1,this.2.1⟩
instance instSet:Inhabited bi:=⟨bi.mk 0 0⟩
noncomputable def mR (q:List bi):List bi:= @gM bi instSet (fun (a b:bi)=>gf a.aA b.aA) q
theorem NG {q:List bi} {x:bi}:x∈mR q↔x∈q:=(@zk bi instSet (fun (a b:bi)=>gf a.aA b.aA) (q1 bi.aA) q).mem_iff
theorem WD (q:List bi):(mR q).length=q.length:=(@zk bi instSet (fun (a b:bi)=>gf a.aA b.aA) (q1 bi.aA) q).length_eq
theorem Oa {q:List bi} (h:(q.map bi.aA).Nodup):(mR q).Pairwise fun a b=>a.aA<b.aA:=by
 have h1:(mR q).Pairwise fun a b=>a.aA<=b.aA:= @Ny bi instSet bi.aA q;have an:(mR q).Perm q:= @zk bi instSet (fun (a b:bi)=>gf a.aA b.aA) (q1 bi.aA) q;have J:((mR q).map bi.aA).Nodup:=(an.map bi.aA).nodup_iff.2 h;rw[List.nodup_iff_pairwise_ne,List.pairwise_map] at J;exact (h1.and J).imp fun ⟨a,b⟩=>by omega
theorem Nx (l:List aB):∀(r:List bo),((kJ l r).map bi.aA).Sublist (cg r)
 |[]=>by simp[kJ,cg]
 |v::r=>by
  have aU:=Nx l r;have h1:=OH l v;have J:=fun s=>YX (l:=l) (v:=v) (s:=s);unfold kJ cg at*;rw[asl,as9,asc];generalize s7 l v=q at*
  match q,h1 with
  |[],_=>exact (List.Sublist.cons _ aU)
  |[s],_=>have:=J s (by simp);simp only[asc,List.map_nil,List.cons_append,atd];rw[this];exact List.Sublist.cons_cons _ aU
end Go.W
end
section
namespace Go.W
open Go.aQ
end Go.W
end
section
namespace Go.W
open Go.aQ
def JD (l:List aB):Prop:=∀x∈l,x.name.length<=13
theorem JD.set {l:List aB} (h:JD l) {i:Nat} {x:aB} (U:x.name.length<=13):JD (l.set i x):=fun y ah=>by
 rcases List.mem_or_eq_of_mem_set ah with ah|ah
 ·exact h y ah
 ·rw[ah];exact U
end Go.W
end
section
namespace Go.W
open Go.aQ
theorem lV.inner {l:List aB} {r:List bo} (h:lV l r) {i:Nat} {v:bo} {x:aB} (aa:r[i]? =are v) (U:l[v.aA.toNat]? =are x) (hk:x.kind≠1):v.out∈iJ (b2 x) v.b4:=by
 have aO:=(arp.1 aa).1;have two:=h.two;by_cases az:i=0
 ·subst az;obtain ⟨_,y,ah,hX⟩:=(h.aR v aa).1;rw[U] at ah;cases ah;exact absurd hX hk
 ·by_cases h1:i+1<r.length
  ·have hm:=h.mid i v (by omega) h1 aa;unfold gm at hm;have he:=(h.ok v (arI aa)).1;obtain ⟨j,ap⟩:=ar8 he;rw[ap] at U hm;rw[asv] at U;rw[wZ U] at hm;exact hm
  ·have e:i=r.length - 1:=by omega
   rw[e] at aa;obtain ⟨_,y,ah,hX⟩:=(h.hW v aa).1;rw[U] at ah;cases ah;exact absurd hX hk
theorem Nz {x:aB} (U:hE x=arf) (hk:x.kind=2) {n m:Int} (h:m∈iJ (b2 x) n):x.a≠x.b/\x.a≠x.c/\x.b≠x.c/\((n=x.a/\iJ (b2 x) n=[x.b,x.c]/\(m=x.b\/m=x.c))\/(n=x.b/\m=x.a)\/(n=x.c/\m=x.a)):=by
 have aw:=(ox U).1;have he:b2 x=[x.a,x.b,x.c]:=by unfold b2;rw[if_neg (by omega),if_pos hk]
 rw[he] at h aw⊢;simp at aw;refine ⟨aw.1.1,aw.1.2,aw.2, ?_⟩;obtain ⟨h1,J⟩:=GJ h;unfold iJ at h⊢;rw[if_pos (by simpa using h1)] at h;rw[if_pos (by simpa using h1)];simp only[List.head?_cons,arw.injEq,List.tail_cons,List.take_succ_cons,atO] at h⊢;by_cases ar:x.a=n
 ·rw[if_pos ar] at h⊢;simp at h;exact .inl ⟨ar.symm,rfl,h⟩
 ·rw[if_neg ar] at h;simp at h h1;rcases h1 with h1|h1|h1
  ·exact absurd h1.symm ar
  ·exact .inr (.inl ⟨h1,h⟩)
  ·exact .inr (.inr ⟨h1,h⟩)
end Go.W
end
section
namespace Go.W
end Go.W
end
section
namespace Go.W
open Go.aQ
section
variable {V K:Type} [DecidableEq K]
def sf (f:V->List (K×Bool)->Option (Bool×List (K×Bool))):List V->List (K×Bool)->Option (Bool×List (K×Bool))
 |[],s=>are (arj,s)
 |u::us,s=>ark (f u s) fun r=>if r.1=arf then are (arf,r.2) else sf f us r.2
structure xY (V K:Type) where
 dead:V->Bool
 fin:V->Bool
 hit:V->Bool
 oE:V->List V
 key:V->K
variable (S:xY V K)
inductive ka:V->Prop
 |here {v:V}:S.dead v=arj->S.fin v=arf->S.hit v=arf->ka v
 |step {v u:V}:S.dead v=arj->S.fin v=arj->u∈S.oE v->ka u->ka v
def ft (s:List (K×Bool)) (v:V):Prop:=(bn s (S.key v)).getD arj=arf
instance (s:List (K×Bool)) (v:V):Decidable (ft S s v):=by unfold ft;infer_instance
def xV (s:List (K×Bool)) (v:V):Prop:=S.dead v=arj/\(S.fin v=arf->S.hit v=arj)/\(S.fin v=arj->∀u∈S.oE v,S.dead u=arf\/ft S s u)
variable {S}
theorem xV.mono {s cV:List (K×Bool)} {v:V} (h:xV S s v) (aq:∀u,ft S s u->ft S cV u):xV S cV v:=⟨h.1,h.2.1,fun aK u hu=>(h.2.2 aK u hu).imp id (aq u)⟩
theorem C5 {s:List (K×Bool)} {v u:V}:ft S (eJ s (S.key v) arf) u↔(S.key v=S.key u\/ft S s u):=by
 unfold ft;rw[jr];by_cases h:S.key v=S.key u
 ·simp[h]
 ·simp[h]
theorem Gs {al:Type} {p q:al->Bool} (h:∀y,q y=arf->p y=arf):∀{l:List al},(l.filter q).length<=(l.filter p).length
 |[]=>by simp
 |y::l=>by
  have aU:=Gs h (l:=l);rw[ati,ati];cases ah:q y with
  |true=>rw[h y ah];simpa using aU
  |false=>
   cases BR:p y with
   |true=>simp;omega
   |false=>simpa using aU
def pY (S:xY V K) (dq:List V) (s:List (K×Bool)):Nat:=(dq.filter fun u=> !decide (ft S s u)).length
theorem ah1 {dq:List V} {s cV:List (K×Bool)} (aq:∀u,ft S s u->ft S cV u):pY S dq cV<=pY S dq s:=by
 unfold pY;refine Gs fun u hu=> ?_;simp only[aso,decide_eq_false_iff_not] at hu⊢;exact fun h=>hu (aq u h)
theorem filter_lt {al:Type} {p q:al->Bool}:∀{l:List al} {x:al},x∈l->(∀y,q y=arf->p y=arf)->p x=arf->q x=arj->(l.filter q).length<(l.filter p).length
 |[],_,h,_,_,_=>by cases h
 |y::l,x,h,o1,an,aF=>by
  have hle:(l.filter q).length<=(l.filter p).length:=Gs o1;rcases arA.1 h with rfl|h
  ·rw[ati,ati,an,aF];simp only[if_true,arU];exact Nat.lt_succ_of_le hle
  ·have aU:=filter_lt h o1 an aF;rw[ati,ati];cases ah:q y with
   |true=>rw[o1 y ah];simpa using aU
   |false=>
    cases BR:p y with
    |true=>simp;omega
    |false=>simpa using aU
theorem aju {dq:List V} {s:List (K×Bool)} {v:V} (aa:v∈dq) (av:¬ft S s v):pY S dq (eJ s (S.key v) arf)<pY S dq s:=by
 unfold pY;refine filter_lt aa (fun u hu=> ?_) (by simpa using av) ?_
 ·simp only[aso,decide_eq_false_iff_not] at hu⊢;exact fun h=>hu (C5.2 (.inr h))
 ·simp only[Bool.not_eq_false',decide_eq_true_eq];exact C5.2 (.inl rfl)
structure Out (S:xY V K) (dq:List V) (s:List (K×Bool)) (b:Bool) (cV:List (K×Bool)) (P:Prop) (T:Prop):Prop where
 sub:∀u,ft S s u->ft S cV u
 yes:b=arf->T
 no:b=arj->P/\∀u∈dq,ft S cV u->¬ft S s u->xV S cV u
theorem TR {dq:List V} (qy:∀v∈dq,∀u∈S.oE v,u∈dq) (hk:∀v∈dq,∀u∈dq,S.dead v=arj->S.dead u=arj->S.key v=S.key u->v=u) (Uq:∀v∈dq,∀u∈dq,S.key v=S.key u->S.dead v=S.dead u)
  (F:Nat->V->List (K×Bool)->Option (Bool×List (K×Bool)))
  (bM:∀cC v s,v∈dq->F (cC+1) v s=if S.dead v=arf\/ft S s v then are (arj,s) else if S.fin v=arf then are (S.hit v,eJ s (S.key v) arf) else sf (F cC) (S.oE v) (eJ s (S.key v) arf)):
  ∀(cC:Nat) (v:V) (s:List (K×Bool)),v∈dq->pY S dq s<cC->∃b cV,F cC v s=are (b,cV)/\Out S dq s b cV (S.dead v=arf\/ft S cV v) (ka S v)
 |0,_,_,_,h=>by omega
 |cC+1,v,s,aa,h=>by
  rw[bM cC v s aa];by_cases h1:S.dead v=arf\/ft S s v
  ·rw[if_pos h1];exact ⟨arj,s,rfl,fun _ h=>h,(by simp),fun _=>⟨h1,fun u _ J aj=>absurd J aj⟩⟩
  ·rw[if_neg h1];have aw:S.dead v=arj:=by simpa using fun ax=>h1 (.inl ax)
   have av:¬ft S s v:=fun ax=>h1 (.inr ax);obtain ⟨oD,BL⟩:∃oD,oD=eJ s (S.key v) arf:=⟨_,rfl⟩
   rw[<-BL];have BN:∀u,ft S s u->ft S oD u:=fun u hu=>by rw[BL];exact C5.2 (.inr hu)
   have ic:ft S oD v:=by rw[BL];exact C5.2 (.inl rfl)
   have iC:∀u∈dq,ft S oD u->¬ft S s u->u=v:=fun u hu J aj=>by
    rw[BL] at J;rcases C5.1 J with aJ|aJ
    ·have adx:S.dead u=arj:=by rw[<-Uq v aa u hu aJ];exact aw
     exact (hk v aa u hu aw adx aJ).symm
    ·exact absurd aJ aj
   by_cases J:S.fin v=arf
   ·rw[if_pos J];refine ⟨_,_,rfl,BN,fun ax=> .here aw J ax,fun ax=>⟨.inr ic,fun u hu g1 g2=> ?_⟩⟩;rw[iC u hu g1 g2];exact ⟨aw,fun _=>ax,(fun aj=>by rw[J] at aj;cases aj)⟩
   ·rw[if_neg J];have aK:S.fin v=arj:=by simpa using J
    have aO:pY S dq oD<cC:=by have:=aju aa av;rw[<-BL] at this;omega
    have loop:∀(q:List V) (t:List (K×Bool)),(∀u∈q,u∈dq)->(∀u,ft S oD u->ft S t u)->
      ∃b cV,sf (F cC) q t=are (b,cV)/\Out S dq t b cV (∀u∈q,S.dead u=arf\/ft S cV u) (∃u∈q,ka S u):=by
     intro q;induction q with
     |nil=>intro t _ _;exact ⟨arj,t,rfl,fun _ h=>h,(by simp),fun _=>⟨by simp,fun u _ J aj=>absurd J aj⟩⟩
     |cons u q aU=>
      intro t aF ak;have yH:pY S dq t<cC:=Nat.lt_of_le_of_lt (ah1 ak) aO;obtain ⟨b,s1,g1,g2⟩:=TR qy hk Uq F bM cC u t (aF u arS) yH;rw[sf,g1,aH];cases b with
      |true=>exact ⟨arf,s1,rfl,g2.sub,fun _=>⟨u,arS,g2.yes rfl⟩,by simp⟩
      |false=>
       rw[if_neg (by simp)];obtain ⟨b,s2,g3,g4⟩:=aU s1 (fun x U=>aF x (arK _ U)) (fun x U=>g2.sub x (ak x U));refine ⟨b,s2,g3,fun x U=>g4.sub x (g2.sub x U),fun ab=> ?_,fun ab=> ?_⟩
       ·obtain ⟨x,U,ao⟩:=g4.yes ab;exact ⟨x,arK _ U,ao⟩
       ·obtain ⟨bm,br⟩:=g2.no rfl;obtain ⟨dj,gk⟩:=g4.no ab;refine ⟨fun x U=> ?_,fun x U cr a2=> ?_⟩
        ·rcases arA.1 U with rfl|U
         ·exact bm.imp id (g4.sub x)
         ·exact dj x U
        ·by_cases a3:ft S s1 x
         ·exact (br x U a3 a2).mono g4.sub
         ·exact gk x U cr a3
    obtain ⟨b,cV,g1,g2⟩:=loop (S.oE v) oD (qy v aa) (fun _ h=>h);refine ⟨b,cV,g1,fun u hu=>g2.sub u (BN u hu),fun ab=> ?_,fun ab=> ?_⟩
    ·obtain ⟨u,hu,ao⟩:=g2.yes ab;exact .step aw aK hu ao
    ·obtain ⟨bm,br⟩:=g2.no ab;refine ⟨.inr (g2.sub v ic),fun u hu cr a2=> ?_⟩;by_cases a3:ft S oD u
     ·rw[iC u hu a3 a2];exact ⟨aw,(fun aj=>by rw[aK] at aj;cases aj),fun _=>bm⟩
     ·exact br u hu cr a3
theorem Zb {dq:List V} (qy:∀v∈dq,∀u∈S.oE v,u∈dq) {s:List (K×Bool)} (ad:∀u∈dq,ft S s u->xV S s u) {v:V} (ao:ka S v):v∈dq->ft S s v->False:=by
 induction ao with
 |here aw aK ax=>intro aa aq;have:=(ad _ aa aq).2.1 aK;rw[ax] at this;cases this
 |step aw aK hu ao aU=>
  intro aa aq;rcases (ad _ aa aq).2.2 aK _ hu with h1|h1
  ·cases ao with
   |here jU=>rw[jU] at h1;cases h1
   |step jU=>rw[jU] at h1;cases h1
  ·exact aU (qy _ aa _ hu) h1
theorem ka.live {v:V} (h:ka S v):S.dead v=arj:=by cases h<;>assumption
end
end Go.W
end
section
namespace Go.W
open Go.aQ
def sk (x:aB) (p n:Int):List Int:=if x.kind=3/\p=4 then [] else if x.kind=2/\n=x.a/\p=1 then [x.b] else if x.kind=2/\n=x.a/\p=2 then [x.c] else iJ (b2 x) n
def uj (l:List aB) (p:Int->Int) (i n:Int):List Int:=if 0<=i then (match l[i.toNat]? with|some x=>sk x (p i) n|none=>[]) else []
def gN {K:Type} (l:List aB) (on:List Int) (p:Int->Int) (dG de:Int) (key:bK->K):xY bK K where
 dead:=fun v=>decide (bS l v.aA v.node<0)
 fin:=fun v=>on.contains (bS l v.aA v.node)
 hit:=fun v=>(bS l v.aA v.node !=dG)&&(bS l v.aA v.node !=de)
 oE:=fun v=>(uj l p (bS l v.aA v.node) v.node).map (bK.mk (bS l v.aA v.node))
 key:=key
def iv (l:List aB):List bK:=(ar2 l.length).flatMap fun (i:Nat)=>(dz l (i:Int)).map fun n=>bK.mk (i:Int) n
theorem aau (l:List aB):∀(k:List Nat),(k.flatMap fun (i:Nat)=>(dz l (i:Int)).map fun n=>bK.mk (i:Int) n).length<=3*k.length
 |[]=>by simp
 |i::k=>by have:=aau l k;have:=p6 l (i:Int);rw[asl,arJ,ar9,arU];omega
theorem qp (l:List aB):(iv l).length<=3*l.length:=by
 have:=aau l (ar2 l.length)
 rwa [aud] at this
theorem zp {l:List aB} {v:bK}:v∈iv l↔v.node∈dz l v.aA:=by
 constructor
 ·intro h;obtain ⟨i,_,h⟩:=as0.1 h;obtain ⟨n,av,rfl⟩:=arC.1 h;exact av
 ·intro h;obtain ⟨az,h1,_⟩:=nI h;refine as0.2 ⟨v.aA.toNat,asF.2 (by omega),arC.2 ⟨v.node, ?_, ?_⟩⟩
  ·rw[auT az];exact h
  ·rw[auT az]
theorem G2 {l:List aB} {i:Int} {x:aB} (az:0<=i) (h:l[i.toNat]? =are x):bc l i=are x:=by
 obtain ⟨a,rfl⟩:=ar8 az;exact dM (by simpa using h)
theorem Pm {l:List aB} {i n:Int} (h:0<=bS l i n):∃x,l[(bS l i n).toNat]? =are x/\bc l (bS l i n)=are x/\n∈b2 x/\x∈l:=by
 obtain ⟨h1,_⟩:=CR h;obtain ⟨az,J,x,U,av⟩:=nI h1;exact ⟨x,U,G2 az U,av,arI U⟩
theorem uP {l:List aB} {i:Int} {x:aB} (az:0<=i) (h:l[i.toNat]? =are x):dz l i=b2 x:=by
 unfold dz;rw[if_pos az,h]
theorem Yc {x:aB} {p n m:Int} (h:m∈sk x p n):m∈b2 x:=by
 unfold sk at h;split at h
 ·cases h
 ·split at h
  ·rename_i h1 J;have:=ase.1 h;subst this;unfold b2;rw[if_neg (by omega),if_pos J.1];simp
  ·split at h
   ·rename_i h1 J aj;have:=ase.1 h;subst this;unfold b2;rw[if_neg (by omega),if_pos aj.1];simp
   ·exact (GJ h).2
theorem am1 {K:Type} {l:List aB} {on:List Int} {p:Int->Int} {dG de:Int} {key:bK->K}:∀v∈iv l,∀u∈(gN l on p dG de key).oE v,u∈iv l:=by
 intro v aa u hu;obtain ⟨m,hm,rfl⟩:=arC.1 hu;rw[zp];show m∈dz l (bS l v.aA v.node);unfold uj at hm;split at hm
 ·rename_i az;obtain ⟨x,U,_,_⟩:=Pm az;rw[U] at hm;rw[uP az U];exact Yc hm
 ·cases hm
theorem akh (N:Nat) (bG:4<=N) {l:List aB} {m:List (Int×Int)} {i n:Int} {x:aB} (az:0<=i) (U:l[i.toNat]? =are x):I6 N l m i n=are (uj l (fun i=>(bn m i).getD 0) i n):=by
 unfold I6;rw[G2 az U,aH,cR,cR];have cH:HG N x ((bn m i).getD 0)=are (decide (x.kind=3/\(bn m i).getD 0=4)):=by
  unfold HG;by_cases h:x.kind=3
  ·rw[if_pos (by simpa using h),cR];congr 1;rw[asw];simp[h]
  ·rw[if_neg (by simpa using h)];simp[h]
 have aT:HH N n x ((bn m i).getD 0)=are (decide (x.kind=2/\n=x.a/\(bn m i).getD 0=1)):=by
  unfold HH;by_cases h:x.kind=2
  ·rw[if_pos (by simpa using h)];by_cases J:n=x.a
   ·rw[if_pos (by simpa using J),cR];congr 1;rw[asw];simp[h,J]
   ·rw[if_neg (by simpa using J)];simp[J]
  ·rw[if_neg (by simpa using h)];simp[h]
 have e2:HI N n x ((bn m i).getD 0)=are (decide (x.kind=2/\n=x.a/\(bn m i).getD 0=2)):=by
  unfold HI;by_cases h:x.kind=2
  ·rw[if_pos (by simpa using h)];by_cases J:n=x.a
   ·rw[if_pos (by simpa using J),cR];congr 1;rw[asw];simp[h,J]
   ·rw[if_neg (by simpa using J)];simp[J]
  ·rw[if_neg (by simpa using h)];simp[h]
 rw[cH,aH,aT,e2];unfold uj sk;rw[if_pos az,U];simp only;by_cases iP:x.kind=3/\(bn m i).getD 0=4
 ·rw[if_pos (by simpa using iP),if_pos iP]
 rw[if_neg (by simpa using iP),if_neg iP,aH];by_cases c1:x.kind=2/\n=x.a/\(bn m i).getD 0=1
 ·rw[if_pos (by simpa using c1),if_pos c1]
 rw[if_neg (by simpa using c1),if_neg c1,aH];by_cases c2:x.kind=2/\n=x.a/\(bn m i).getD 0=2
 ·rw[if_pos (by simpa using c2),if_pos c2]
 rw[if_neg (by simpa using c2),if_neg c2,GX N bG,aH];unfold gm;rw[uP az U]
abbrev hj:=List (bK×Bool)
abbrev pz:=List (Int×Bool)
def tp (m:pz) (on:List Int):Prop:=∀k,(bn m k).getD arj=on.contains k
def aoi {K:Type} (r:Bool×List (K×Bool)):Sum (List (K×Bool)) (Bool×List (K×Bool)):=if r.1=arf then .inr (arf,r.2) else .inl r.2
theorem aaf (N:Nat) (self:List Int->bK->List aB->hj->pz->Int->Int->List (Int×Int)->hj->pz->Option (Bool×hj)) (eo:List Int) (l:List aB) (dG de:Int) (m:List (Int×Int)) (hh:Int) {o:List Int} (ag:o.length<=1000) (gL:pz):
  ∀(k n i:Nat) (t:hj),k<n->i+k=o.length->zS N self eo l dG de m hh o (o.length:Int) gL n i t=ark (sf (fun v s=>self eo v l [] [] dG de m s gL) ((o.drop i).map (bK.mk hh)) t) fun r=>are (aoi r)
 |k,0,i,t,av,_=>by omega
 |0,n+1,i,t,av,af=>by
  obtain rfl:i=o.length:=by omega
  rw[zS,if_neg (dO (by omega)),atf];rfl
 |k+1,n+1,i,t,av,af=>by
  have aa:=dw (xs:=o) (i:=i) (by omega);rw[zS,if_pos (dP (by omega)),dM aa,aH,lG aa,asc,sf];cases aq:self eo (bK.mk hh o[i]) l [] [] dG de m t gL with
  |none=>rfl
  |some r=>
   rw[aH,aH];obtain ⟨b,cS⟩:=r;cases b with
   |true=>rfl
   |false=>simp only[asf,if_false];rw[eB (by omega)];exact aaf N self eo l dG de m hh ag gL k n (i+1) cS (by omega) (by omega)
theorem akd (N:Nat) (bG:1100<=N) {l:List aB} (ai:l.length<=96) {on:List Int} {gL:pz} (jY:tp gL on) {m:List (Int×Int)} {dG de:Int} (eo:List Int) (cC:Nat) (v:bK) (s:hj):
  ml N (cC+1) eo v l [] [] dG de m s gL=if (gN l on (fun i=>(bn m i).getD 0) dG de id).dead v=arf\/ft (gN l on (fun i=>(bn m i).getD 0) dG de id) s v then are (arj,s) else if (gN l on (fun i=>(bn m i).getD 0) dG de id).fin v=arf then are ((gN l on (fun i=>(bn m i).getD 0) dG de id).hit v,eJ s v arf)
   else sf (fun v s=>ml N cC eo v l [] [] dG de m s gL) ((gN l on (fun i=>(bn m i).getD 0) dG de (id:bK->bK)).oE v) (eJ s v arf):=by
 rw[ml,CS N (by omega) (by omega),aH];have cH:HR N (ml N cC) v (bS l v.aA v.node) s=are (decide (bS l v.aA v.node<0\/(bn s v).getD arj=arf)):=by
  unfold HR;rw[cR];by_cases h:(bn s v).getD arj=arf
  ·rw[if_pos h];simp[h]
  ·rw[if_neg h];simp[h]
 rw[cH,aH];by_cases c:bS l v.aA v.node<0\/(bn s v).getD arj=arf
 ·rw[if_pos (by simpa using c),if_pos (by simpa[gN,ft] using c)]
 rw[if_neg (by simpa using c),if_neg (by simpa[gN,ft] using c),cR,cR,jY];have az:0<=bS l v.aA v.node:=by omega
 by_cases c2:on.contains (bS l v.aA v.node)=arf
 ·rw[if_pos c2,if_pos (show (gN l on _ dG de id).fin v=arf from c2)];unfold Qc;by_cases iw:bS l v.aA v.node=dG
  ·rw[if_neg (by simpa using iw),aH];simp[gN,iw]
  ·rw[if_pos (by simpa using iw),cR,aH];simp[gN,iw]
 ·rw[if_neg c2,if_neg (show ¬(gN l on _ dG de id).fin v=arf from c2)];obtain ⟨x,U,_,_,_⟩:=Pm az;rw[akh N (by omega) az U,aH];have iT:(uj l (fun i=>(bn m i).getD 0) (bS l v.aA v.node) v.node).length<=3:=by
   unfold uj sk;rw[if_pos az,U];simp only;split
   ·simp
   ·split
    ·simp
    ·split
     ·simp
     ·have:=wT l (bS l v.aA v.node) v.node;unfold gm at this;rw[uP az U] at this;exact this
  refine (congrArg (fun q=>ark q _) (aaf N (ml N cC) eo l dG de m (bS l v.aA v.node) (by omega) gL (uj l (fun i=>(bn m i).getD 0) (bS l v.aA v.node) v.node).length N 0 (eJ s v arf) (by omega) (by omega))).trans ?_;rw[asn];show ark (ark (sf _ ((gN l on _ dG de (id:bK->bK)).oE v) _) _) _=_;cases aF:sf (fun v s=>ml N cC eo v l [] [] dG de m s gL) ((gN l on (fun i=>(bn m i).getD 0) dG de (id:bK->bK)).oE v) (eJ s v arf) with
  |none=>rfl
  |some r=>obtain ⟨b,t⟩:=r;cases b<;>rfl
theorem anK {l:List aB} {on:List Int} {p:Int->Int} {dG de:Int}:∀v∈iv l,∀u∈iv l,(gN l on p dG de (id:bK->bK)).dead v=arj->(gN l on p dG de (id:bK->bK)).dead u=arj->(gN l on p dG de (id:bK->bK)).key v=(gN l on p dG de (id:bK->bK)).key u->v=u:=fun v _ u _ _ _ h=>h
theorem ahq {K:Type} [DecidableEq K] {S:xY bK K} {dq:List bK} (qy:∀v∈dq,∀u∈S.oE v,u∈dq) {s1 s2:List (K×Bool)} {b:Bool} {v u:bK} (aa:v∈dq) (hu:u∈dq) (h1:Out S dq [] arj s1 (S.dead v=arf\/ft S s1 v) (ka S v)) (J:Out S dq s1 b s2 (S.dead u=arf\/ft S s2 u) (ka S u)):
  b=arf↔ka S v\/ka S u:=by
 constructor
 ·exact fun ab=> .inr (J.yes ab)
 ·intro ao;cases ab:b with
  |true=>rfl
  |false=>
   obtain ⟨en,fo⟩:=h1.no rfl;obtain ⟨hC,iF⟩:=J.no ab;have ad:∀x∈dq,ft S s2 x->xV S s2 x:=fun x U aq=>by
    by_cases Fz:ft S s1 x
    ·exact (fo x U Fz (by simp[ft,bn])).mono J.sub
    ·exact iF x U aq Fz
   rcases ao with ao|ao
   ·rcases en with en|en
    ·rw[ao.live] at en;cases en
    ·exact (Zb qy ad ao aa (J.sub v en)).elim
   ·rcases hC with hC|hC
    ·rw[ao.live] at hC;cases hC
    ·exact (Zb qy ad ao hu hC).elim
theorem Y8 {K:Type} [DecidableEq K] (S:xY bK K) (l:List aB) (ai:l.length<=96) (s:List (K×Bool)):pY S (iv l) s<=288:=by
 have h1:=qp l;have J:=aum (fun u=> !decide (ft S s u)) (iv l);unfold pY;omega
open Classical in
theorem ahU (N:Nat) (bG:1100<=N) {l:List aB} (ai:l.length<=96) {on:List Int} {gL:pz} (jY:tp gL on) {m:List (Int×Int)} {dG de:Int} (eo:List Int) {i:Nat} {x:aB} (U:l[i]? =are x) (hk:x.kind=1):
  H3 N l m dG de eo i x gL []=are (decide (ka (gN l on (fun i=>(bn m i).getD 0) dG de (id:bK->bK)) (bK.mk i x.a)\/ka (gN l on (fun i=>(bn m i).getD 0) dG de (id:bK->bK)) (bK.mk i x.b))):=by
 obtain ⟨S,ht⟩:∃S,S=gN l on (fun i=>(bn m i).getD 0) dG de (id:bK->bK):=⟨_,rfl⟩
 rw[<-ht];have he:b2 x=[x.a,x.b]:=by unfold b2;rw[if_pos (.inl hk)]
 have ar:bK.mk i x.a∈iv l:=by rw[zp];show x.a∈dz l (i:Int);rw[wZ U,he];simp
 have ab:bK.mk i x.b∈iv l:=by rw[zp];show x.b∈dz l (i:Int);rw[wZ U,he];simp
 have qy:∀v∈iv l,∀u∈S.oE v,u∈iv l:=by rw[ht];exact am1
 have D:=TR (S:=S) qy (by rw[ht];exact anK) (by rw[ht];intro v _ u _ h;have h:v=u:=h;rw[h]) (fun cC v s=>ml N cC eo v l [] [] dG de m s gL) (fun cC v s aa=>by rw[ht];exact akd N bG ai jY eo cC v s);obtain ⟨fe,s1,g1,g2⟩:=D N (bK.mk i x.a) [] ar (by have:=Y8 S l ai [];omega);unfold H3;rw[g1,aH];cases fe with
 |true=>rw[if_pos rfl];have:=g2.yes rfl;simp[this]
 |false=>
  rw[if_neg (by simp)];obtain ⟨hg,s2,g3,g4⟩:=D N (bK.mk i x.b) s1 ab (by have:=Y8 S l ai s1;omega);rw[g3,aH];have:=ahq qy ar ab g2 g4;cases hg with
  |true=>simp[this.1 rfl]
  |false=>simp[<-this]
end Go.W
end
