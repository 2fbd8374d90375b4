import Derived.Test.YtflnpffcbghmhaaRows
import Derived.WalkKit
import Derived.ProofKit
import Derived.OpenShut
import Derived.ShutString
import Derived.ChangeOld
import Derived.Below
import Derived.Test.YtflnpffcbghmhaaMf
namespace Go.Proofs.Ytflnpffcbghmhaa.flankExactDone
open Go.ChangeShapes Go.WideShapes Go.ChangeAt Go.RowKit
open Go.ChangeMaps (open_string shut_string)
set_option linter.unusedVariables false
set_option linter.unusedSimpArgs false
set_option maxRecDepth 20000
theorem own:ownKnob Try.prog.godebug=none:=by kernel_rfl
theorem laidOut:laidOutB Try.prog=true:=by kernel_rfl
def g53 (x:Go.W.PlantElement):Prop:=AM.gInt .i64 x.kind∧AM.gStr x.name∧AM.gInt .i64 x.a∧AM.gInt .i64 x.b∧AM.gInt .i64 x.c∧AM.gInt .i64 x.length
theorem opn53:AM.Opn Try.prog Go.W.Ty53 g53 where
 sz:=by kernel_rfl
 pos:=by show 0<6;decide
 rd:=by
  intro H enc w fuel cs x h
  obtain ⟨xs,n,_,_,hl,hlen,hf⟩:=DataW.trod_struct Try.underlying53 h
  have hl:cs.length=6:=hl.trans (show Program.cellsOf Try.prog 53=6 by kernel_rfl)
  obtain ⟨c0,c1,c2,c3,c4,c5,rfl⟩:∃c0 c1 c2 c3 c4 c5,cs=[c0,c1,c2,c3,c4,c5]:=by
   match cs,hl with
   |[c0,c1,c2,c3,c4,c5],_=>exact ⟨c0,c1,c2,c3,c4,c5,rfl⟩
  obtain ⟨y0,e0⟩:=AM.fld hlen hf 0 rfl
  replace e0:DataW.trod enc Try.prog w 0 (fun _=>true) true n 3 [c0]=some y0:=by
   have hsz:Program.cellsOf Try.prog 3=1:=by kernel_rfl
   have e:=e0
   simpa[hsz] using e
  obtain ⟨o0,r0⟩:=(AM.qbq Try.underlying3 Try.type3 rfl).rd e0
  obtain ⟨y1,e1⟩:=AM.fld hlen hf 1 rfl
  replace e1:DataW.trod enc Try.prog w 0 (fun _=>true) true n 9 [c1]=some y1:=by
   have hsz:Program.cellsOf Try.prog 9=1:=by kernel_rfl
   have e:=e1
   simpa[hsz] using e
  obtain ⟨o1,r1⟩:=(AM.qAA Try.underlying9 Try.type9 rfl).rd e1
  obtain ⟨y2,e2⟩:=AM.fld hlen hf 2 rfl
  replace e2:DataW.trod enc Try.prog w 0 (fun _=>true) true n 3 [c2]=some y2:=by
   have hsz:Program.cellsOf Try.prog 3=1:=by kernel_rfl
   have e:=e2
   simpa[hsz] using e
  obtain ⟨o2,r2⟩:=(AM.qbq Try.underlying3 Try.type3 rfl).rd e2
  obtain ⟨y3,e3⟩:=AM.fld hlen hf 3 rfl
  replace e3:DataW.trod enc Try.prog w 0 (fun _=>true) true n 3 [c3]=some y3:=by
   have hsz:Program.cellsOf Try.prog 3=1:=by kernel_rfl
   have e:=e3
   simpa[hsz] using e
  obtain ⟨o3,r3⟩:=(AM.qbq Try.underlying3 Try.type3 rfl).rd e3
  obtain ⟨y4,e4⟩:=AM.fld hlen hf 4 rfl
  replace e4:DataW.trod enc Try.prog w 0 (fun _=>true) true n 3 [c4]=some y4:=by
   have hsz:Program.cellsOf Try.prog 3=1:=by kernel_rfl
   have e:=e4
   simpa[hsz] using e
  obtain ⟨o4,r4⟩:=(AM.qbq Try.underlying3 Try.type3 rfl).rd e4
  obtain ⟨y5,e5⟩:=AM.fld hlen hf 5 rfl
  replace e5:DataW.trod enc Try.prog w 0 (fun _=>true) true n 3 [c5]=some y5:=by
   have hsz:Program.cellsOf Try.prog 3=1:=by kernel_rfl
   have e:=e5
   simpa[hsz] using e
  obtain ⟨o5,r5⟩:=(AM.qbq Try.underlying3 Try.type3 rfl).rd e5
  refine ⟨fun c hc=> ?_,fun b hb=> ?_⟩
  ·simp only[List.mem_cons,List.not_mem_nil,or_false] at hc
   rcases hc with rfl|rfl|rfl|rfl|rfl|rfl
   ·exact (o0 _ (by simp))
   ·exact (o1 _ (by simp))
   ·exact (o2 _ (by simp))
   ·exact (o3 _ (by simp))
   ·exact (o4 _ (by simp))
   ·exact (o5 _ (by simp))
  obtain ⟨z0,hz0,gg0⟩:=r0 b (hb.imp id fun h c hc=>h c (by simp at hc;simp[hc]))
  have hz0:[AM.seen w b c0]=[(Value.int .i64 z0)]:=hz0
  injection hz0 with hz0
  obtain ⟨z1,hz1,gg1⟩:=r1 b (hb.imp id fun h c hc=>h c (by simp at hc;simp[hc]))
  have hz1:[AM.seen w b c1]=[(AM.str z1)]:=hz1
  injection hz1 with hz1
  obtain ⟨z2,hz2,gg2⟩:=r2 b (hb.imp id fun h c hc=>h c (by simp at hc;simp[hc]))
  have hz2:[AM.seen w b c2]=[(Value.int .i64 z2)]:=hz2
  injection hz2 with hz2
  obtain ⟨z3,hz3,gg3⟩:=r3 b (hb.imp id fun h c hc=>h c (by simp at hc;simp[hc]))
  have hz3:[AM.seen w b c3]=[(Value.int .i64 z3)]:=hz3
  injection hz3 with hz3
  obtain ⟨z4,hz4,gg4⟩:=r4 b (hb.imp id fun h c hc=>h c (by simp at hc;simp[hc]))
  have hz4:[AM.seen w b c4]=[(Value.int .i64 z4)]:=hz4
  injection hz4 with hz4
  obtain ⟨z5,hz5,gg5⟩:=r5 b (hb.imp id fun h c hc=>h c (by simp at hc;simp[hc]))
  have hz5:[AM.seen w b c5]=[(Value.int .i64 z5)]:=hz5
  injection hz5 with hz5
  refine ⟨Go.W.PlantElement.mk z0 z1 z2 z3 z4 z5, ?_,gg0,gg1,gg2,gg3,gg4,gg5⟩
  exact ⟨hz0,hz1,hz2,hz3,hz4,hz5,trivial⟩
def g70 (x:Go.W.Visit):Prop:=AM.gInt .i64 x.element∧AM.gInt .i64 x.in_∧AM.gInt .i64 x.out
theorem opn70:AM.Opn Try.prog Go.W.Ty70 g70 where
 sz:=by kernel_rfl
 pos:=by show 0<3;decide
 rd:=by
  intro H enc w fuel cs x h
  obtain ⟨xs,n,_,_,hl,hlen,hf⟩:=DataW.trod_struct Try.underlying70 h
  have hl:cs.length=3:=hl.trans (show Program.cellsOf Try.prog 70=3 by kernel_rfl)
  obtain ⟨c0,c1,c2,rfl⟩:∃c0 c1 c2,cs=[c0,c1,c2]:=by
   match cs,hl with
   |[c0,c1,c2],_=>exact ⟨c0,c1,c2,rfl⟩
  obtain ⟨y0,e0⟩:=AM.fld hlen hf 0 rfl
  replace e0:DataW.trod enc Try.prog w 0 (fun _=>true) true n 3 [c0]=some y0:=by
   have hsz:Program.cellsOf Try.prog 3=1:=by kernel_rfl
   have e:=e0
   simpa[hsz] using e
  obtain ⟨o0,r0⟩:=(AM.qbq Try.underlying3 Try.type3 rfl).rd e0
  obtain ⟨y1,e1⟩:=AM.fld hlen hf 1 rfl
  replace e1:DataW.trod enc Try.prog w 0 (fun _=>true) true n 3 [c1]=some y1:=by
   have hsz:Program.cellsOf Try.prog 3=1:=by kernel_rfl
   have e:=e1
   simpa[hsz] using e
  obtain ⟨o1,r1⟩:=(AM.qbq Try.underlying3 Try.type3 rfl).rd e1
  obtain ⟨y2,e2⟩:=AM.fld hlen hf 2 rfl
  replace e2:DataW.trod enc Try.prog w 0 (fun _=>true) true n 3 [c2]=some y2:=by
   have hsz:Program.cellsOf Try.prog 3=1:=by kernel_rfl
   have e:=e2
   simpa[hsz] using e
  obtain ⟨o2,r2⟩:=(AM.qbq Try.underlying3 Try.type3 rfl).rd e2
  refine ⟨fun c hc=> ?_,fun b hb=> ?_⟩
  ·simp only[List.mem_cons,List.not_mem_nil,or_false] at hc
   rcases hc with rfl|rfl|rfl
   ·exact (o0 _ (by simp))
   ·exact (o1 _ (by simp))
   ·exact (o2 _ (by simp))
  obtain ⟨z0,hz0,gg0⟩:=r0 b (hb.imp id fun h c hc=>h c (by simp at hc;simp[hc]))
  have hz0:[AM.seen w b c0]=[(Value.int .i64 z0)]:=hz0
  injection hz0 with hz0
  obtain ⟨z1,hz1,gg1⟩:=r1 b (hb.imp id fun h c hc=>h c (by simp at hc;simp[hc]))
  have hz1:[AM.seen w b c1]=[(Value.int .i64 z1)]:=hz1
  injection hz1 with hz1
  obtain ⟨z2,hz2,gg2⟩:=r2 b (hb.imp id fun h c hc=>h c (by simp at hc;simp[hc]))
  have hz2:[AM.seen w b c2]=[(Value.int .i64 z2)]:=hz2
  injection hz2 with hz2
  refine ⟨Go.W.Visit.mk z0 z1 z2, ?_,gg0,gg1,gg2⟩
  exact ⟨hz0,hz1,hz2,trivial⟩
def g33 (x:Go.W.Setting):Prop:=AM.gInt .i64 x.element∧AM.gInt .i64 x.position
theorem opn33:AM.Opn Try.prog Go.W.Ty33 g33 where
 sz:=by kernel_rfl
 pos:=by show 0<2;decide
 rd:=by
  intro H enc w fuel cs x h
  obtain ⟨xs,n,_,_,hl,hlen,hf⟩:=DataW.trod_struct Try.underlying33 h
  have hl:cs.length=2:=hl.trans (show Program.cellsOf Try.prog 33=2 by kernel_rfl)
  obtain ⟨c0,c1,rfl⟩:∃c0 c1,cs=[c0,c1]:=by
   match cs,hl with
   |[c0,c1],_=>exact ⟨c0,c1,rfl⟩
  obtain ⟨y0,e0⟩:=AM.fld hlen hf 0 rfl
  replace e0:DataW.trod enc Try.prog w 0 (fun _=>true) true n 3 [c0]=some y0:=by
   have hsz:Program.cellsOf Try.prog 3=1:=by kernel_rfl
   have e:=e0
   simpa[hsz] using e
  obtain ⟨o0,r0⟩:=(AM.qbq Try.underlying3 Try.type3 rfl).rd e0
  obtain ⟨y1,e1⟩:=AM.fld hlen hf 1 rfl
  replace e1:DataW.trod enc Try.prog w 0 (fun _=>true) true n 3 [c1]=some y1:=by
   have hsz:Program.cellsOf Try.prog 3=1:=by kernel_rfl
   have e:=e1
   simpa[hsz] using e
  obtain ⟨o1,r1⟩:=(AM.qbq Try.underlying3 Try.type3 rfl).rd e1
  refine ⟨fun c hc=> ?_,fun b hb=> ?_⟩
  ·simp only[List.mem_cons,List.not_mem_nil,or_false] at hc
   rcases hc with rfl|rfl
   ·exact (o0 _ (by simp))
   ·exact (o1 _ (by simp))
  obtain ⟨z0,hz0,gg0⟩:=r0 b (hb.imp id fun h c hc=>h c (by simp at hc;simp[hc]))
  have hz0:[AM.seen w b c0]=[(Value.int .i64 z0)]:=hz0
  injection hz0 with hz0
  obtain ⟨z1,hz1,gg1⟩:=r1 b (hb.imp id fun h c hc=>h c (by simp at hc;simp[hc]))
  have hz1:[AM.seen w b c1]=[(Value.int .i64 z1)]:=hz1
  injection hz1 with hz1
  refine ⟨Go.W.Setting.mk z0 z1, ?_,gg0,gg1⟩
  exact ⟨hz0,hz1,trivial⟩
set_option maxRecDepth 100000 in
theorem lifted (os:Os) (started:os.Started) (H:Type) (enc:TypeId×Value→H):
  ReturnsInHanded {} Try.checked os 3 .any (Rows.flankExactSpec.pre6 enc Try.prog Try.f3 Rows.flankExactRow.domain false) (Rows.flankExactSpec.post enc Try.prog Try.f3 false true false false):=by
 refine returnsInHanded_of_change (C:=Try.checked) own started (by kernel_rfl) Try.func3
  (ChangeSpec.witness6 (enc:=enc) (C:=Try.checked) false ⟨#[],#[.slice none 0 0, .slice none 0 0, .slice none 0 0, .slice none 0 0],[]⟩ 8 (by kernel_rfl) (by kernel_rfl) (by kernel_rfl) (by kernel_rfl)) ?_
 intro W base args ds gs before hval0 hW hcnd _
 have hval:∀(j:Nat) t v,Try.f3.params[j]? =some t→args[j]? =some v→Value.okWide Try.prog W .any base t v:=hval0
 have hW':=hW
 obtain ⟨p,q,hA0,hV,rfl,hfz,hnd⟩:=hW
 have hA:DataW.TrodAll enc Try.prog W 0 (fun _=>true) true Try.f3.params.toList args.toList ds p:=hA0
 rw[Try.params3] at hA hval
 obtain ⟨v0,vs0,d0,ds0,p0,q0,hargs,rfl,rfl,h0,r0⟩:=trodAll_cons hA
 obtain ⟨v1,vs1,d1,ds1,p1,q1,rfl,rfl,rfl,h1,r1⟩:=trodAll_cons r0
 obtain ⟨v2,vs2,d2,ds2,p2,q2,rfl,rfl,rfl,h2,r2⟩:=trodAll_cons r1
 obtain ⟨v3,vs3,d3,ds3,p3,q3,rfl,rfl,rfl,h3,r3⟩:=trodAll_cons r2
 obtain ⟨rfl,rfl,rfl⟩:=trodAll_nil r3
 obtain rfl:args=#[v0,v1,v2,v3]:=by cases args;simp_all
 obtain ⟨rfl,rfl⟩:=trodVars_none hV
 have k0:=h0
 have lt0:∀x∈p0,x.block<W.heap.size:=by obtain ⟨m,hm⟩:=k0;exact DataW.trod_lt m _ _ _ hm
 obtain ⟨vr0,z0,s0,w0⟩:=AM.qfR (T:=Go.W.Ty3) (AM.Opn.conv (T':=Go.W.Ty3) (AM.qbq Try.underlying3 Try.type3 rfl) rfl rfl fun z x cs h=>by obtain rfl:cs=[_]:=h;exact ⟨rfl,trivial⟩) Try.underlying22 (hval 0 22 v0 rfl rfl) h0
 have k1:=h1
 have lt1:∀x∈p1,x.block<W.heap.size:=by obtain ⟨m,hm⟩:=k1;exact DataW.trod_lt m _ _ _ hm
 obtain ⟨vr1,z1,s1,w1⟩:=AM.qfR (T:=Go.W.Ty53) opn53 Try.underlying23 (hval 1 23 v1 rfl rfl) h1
 have k2:=h2
 have lt2:∀x∈p2,x.block<W.heap.size:=by obtain ⟨m,hm⟩:=k2;exact DataW.trod_lt m _ _ _ hm
 obtain ⟨vr2,z2,s2,w2⟩:=AM.qfR (T:=Go.W.Ty70) opn70 Try.underlying24 (hval 2 24 v2 rfl rfl) h2
 have k3:=h3
 have lt3:∀x∈p3,x.block<W.heap.size:=by obtain ⟨m,hm⟩:=k3;exact DataW.trod_lt m _ _ _ hm
 obtain ⟨vr3,z3,s3,w3⟩:=AM.qfR (T:=Go.W.Ty33) opn33 Try.underlying25 (hval 3 25 v3 rfl rfl) h3
 clear hA0 hval0
 obtain ⟨N,hN⟩:=Go.W.qzY z0 w0 z1 w1 z2 w2 z3 w3
 have ec:Go.W.dzaK.call Go.W.X0 (Go.W.FzaK N) [.c (.sl 3 z0), .c (.sl 53 z1), .c (.sl 70 z2), .c (.sl 33 z3)] [] (fun sv _=>some sv)=Option.bind (Go.W.zaK N z0 z1 z2 z3) fun y=>some (.c (.bool y)):=by kernel_rfl
 rw[hN] at ec
 have hL:AM.L2 (AM.rel Go.W.X0.G (AM.mem0 W).blk []) [.c (.sl 3 z0), .c (.sl 53 z1), .c (.sl 70 z2), .c (.sl 33 z3)] [v0,v1,v2,v3]:=⟨s0,s1,s2,s3,trivial⟩
 refine ((AM.qip (by kernel_rfl) ?_ (AM.CallOk.law (X:=Go.W.X0) (F:=Go.W.FzaK N) (by first|exact (Go.W.ozaK N).call.base|exact (Go.W.ozaK N).call.cuts.base|exact AM.CallOk.ch (AM.CallOk.ch (Go.W.ozaK N).call)|exact AM.CallOk.ch (AM.CallOk.ch (AM.CallOk.ch (Go.W.ozaK N).call))) (AM.qAp W) (AM.qhv W) hL ec))).mono fun e W' ⟨he,bel⟩=> ?_
 ·intro a ha
  simp only[List.mem_cons,List.not_mem_nil,or_false] at ha
  rcases ha with rfl|rfl|rfl|rfl
  ·exact vr0
  ·exact vr1
  ·exact vr2
  ·exact vr3
 ·subst he
  exact ⟨_,rfl,_,_,_,[],_,[],hW',trodAll_mk1 (shut_bool Try.underlying4 _),(trodAll_cons_mk (Below.trod laidOut (by kernel_rfl) (of_decide_eq_true (by kernel_rfl)) k0 bel lt0) (trodAll_cons_mk (Below.trod laidOut (by kernel_rfl) (of_decide_eq_true (by kernel_rfl)) k1 bel lt1) (trodAll_cons_mk (Below.trod laidOut (by kernel_rfl) (of_decide_eq_true (by kernel_rfl)) k2 bel lt2) (trodAll_cons_mk (Below.trod laidOut (by kernel_rfl) (of_decide_eq_true (by kernel_rfl)) k3 bel lt3) trodAll_mk0)))),rfl,bel.frame _,fun h=>by cases h⟩
theorem over:Rows.flankExactRow.holds Try.pinned (OpenSpec.ofChange Rows.flankExactSpec):=
 OpenClaim.holds_of_wide 3 Try.f3 rfl rfl rfl rfl rfl rfl rfl ⟨rfl,rfl,rfl,rfl,rfl⟩ rfl rfl rfl rfl rfl (by kernel_rfl) Try.func3 (by kernel_rfl)
  (of_decide_eq_true (by kernel_rfl)) (by unfold Func.isWrapper;first|(rw[if_pos (by decide+kernel)];kernel_rfl)|(rw[if_neg (by decide+kernel)];exact ⟨rfl,rfl⟩))
  (fun os started H enc _=>lifted os started H enc)
theorem proved:Rows.FlankExactSaid:=over
#print axioms proved
end Go.Proofs.Ytflnpffcbghmhaa.flankExactDone
