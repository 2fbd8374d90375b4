/- AmX6 AmXM AmX7 AmXG AmX8 AmX9 AmXA AmXB AmXC AmXD AmXE -/
import Derived.Test.YtmkfilkddlfgjaaGreatMb
section
set_option linter.unusedSimpArgs false
set_option linter.unusedVariables false
namespace Go.AM
section
variable {P:Program} {D:Nat→Type} {X:Ev P D} {ρ:Type} {z z':Nat→Blk} {e m m':Mem} {k:Option Nat} {vs:List Value} {fr:Nat→Value} {E:List (Nat×SV D)} {O:List (Ob D)} {o:Oper} {r:ρ}
variable {x y:Operand} {t u:TypeId} {K:SV D→List (Ob D)→Option ρ}
theorem qgw {lo:Option Operand} {a:Int} (hE:∀x,rel X.G z vs (sop E x) (ev fr x)) (h:lowX E lo=some a):lowI (ev fr) lo a:=by
 cases lo with
 |none=>cases h;rfl
 |some y=>
  simp only[lowX] at h
  split at h
  ·rename_i kk n hs
   cases h
   have:=hE y
   rw[hs] at this
   exact ⟨kk,this⟩
  ·cases h
theorem qen {hi:Option Operand} {a:Int} {l:Nat} (hE:∀x,rel X.G z vs (sop E x) (ev fr x)) (h:qkP E (l:Int) hi=some a):qkO (ev fr) hi l a:=by
 cases hi with
 |none=>cases h;rfl
 |some y=>
  simp only[qkP] at h
  split at h
  ·rename_i kk n hs
   cases h
   have:=hE y
   rw[hs] at this
   exact ⟨kk,this⟩
  ·cases h
theorem qoa {a:SV D} {lo hi:Option Operand} (ho:o.op= .slice t x lo hi none) (hM:Mm X.G O z e m k vs) (hE:∀x,rel X.G z vs (sop E x) (ev fr x)) (ha:rel X.G z vs a (ev fr x)) (h:qqX X t a E lo hi O K=some r):StepX P (ev fr) o m fun _ v m'=>Nxt X O z e k vs K r v m':=by
 unfold qqX at h
 split at h
 ·split at h
  ·rename_i s x1 y1 ht hlo hhi
   obtain ⟨q,hq,h⟩:=bind_some h
   exact qwC ho ht ha (qgw hE hlo) (qen hE hhi) hq (Nxt.here (sv:= .c (.str q)) hM rfl h)
  ·cases h
 ·rename_i c hns
  split at h
  ·rename_i e1 xs O1 hc
   obtain ⟨z1,hi1,hz1,hM1,hr⟩:=qdP hM hc ha
   split at h
   ·rename_i e2 ti x1 y1 ht hI hlo hhi
    split at h
    ·rename_i heq
     subst heq
     obtain ⟨q,hq,h⟩:=bind_some h
     refine kCut (T:=X.G.T e2) ho (by rw[ti.tid];exact ht) (by rw[ti.tid];exact ti.hi) ti.hsz rfl (qgw hE hlo) (qen hE hhi) hr hM1.st hq fun v' I _ hs=> ?_
     exact Nxt.from hi1 hz1 (Nxt.here (sv:= .c (.sl e2 q)) hM1 hs h)
    ·cases h
   ·cases h
  ·cases h
 ·cases h
theorem oCut {α:Type} {T:Ty α} {xs:List α} {v:Value} {lo hi:Option Operand} {a n:Nat} {i:TypeInfo} {ρ:Operand→Value} (h:o.op= .slice t x lo hi none) (ht:P.underlying t=some (.slice T.tid)) (hi':P.info? T.tid=some i) (hsz:i.size=T.sz) (hx:ρ x=v) (hlo:qfh ρ lo a) (hhi:qbM ρ hi xs.length n)
  (hs:Ow T z m xs v) (ha:a≤n) (hn:n≤xs.length):∃v',(PureR P ρ o v'∨ReadR P ρ o m v')∧CutV T.sz a n v v':=by
 rcases hs with ⟨rfl,rfl⟩|⟨b,f0,L,c,rfl,g1,g2,g3,g4,g5,g6⟩
 ·have hn0:n=0:=by simpa using hn
  subst hn0
  obtain rfl:a=0:=by omega
  exact ⟨.slice none 0 0, .inl (.sliceNil t x lo hi T.tid i h ht hi' hx hlo hhi), .inl ⟨rfl,rfl,rfl,rfl⟩⟩
 ·rcases g5 with rfl|⟨hc,h1,h2⟩
  ·refine ⟨_, .inr (.slice t x lo hi T.tid i L b f0 xs.length a n h ht hi' hx g1 hlo hhi ha hn (by rw[hsz];exact g4)), .inr ⟨b,f0,xs.length,BIG,_,BIG,rfl,rfl,ha,hn, .inl (by rw[hsz]), .inl ⟨rfl,rfl⟩⟩⟩
  ·refine ⟨_, .inl (.slice t x lo hi T.tid i b f0 xs.length c a n h ht hi' hx (by simp only[BIG] at hc⊢;omega) hlo hhi ha (by omega) (fun _=>trivial)), .inr ⟨b,f0,xs.length,c,_,_,rfl,rfl,ha,hn, ?_, .inr ⟨hc,rfl⟩⟩⟩
   by_cases hca:c=a
   ·exact .inr ⟨by omega,if_pos hca⟩
   ·exact .inl (by rw[if_neg hca,hsz])
theorem qmD {a:SV D} {lo hi:Option Operand} (ho:o.op= .slice t x lo hi none) (hM:Mm X.G O z e m k vs) (hE:∀x,rel X.G z vs (sop E x) (ev fr x)) (ha:rel X.G z vs a (ev fr x)) (h:qmC X t x a E lo hi O K=some r):StepX P (ev fr) o m fun _ v m'=>Nxt X O z e k vs K r v m':=by
 unfold qmC at h
 split at h
 ·rename_i hnil
  have hv:ev fr x= .slice none 0 0:=by
   unfold nilB at hnil
   split at hnil
   ·exact ha
   ·cases hnil
  split at h
  ·rename_i e1 p q ht hlo hhi
   split at h
   ·rename_i ti hI
    split at h
    ·rename_i h0
     simp only[Bool.and_eq_true,beq_iff_eq] at h0
     obtain ⟨rfl,rfl⟩:=h0
     exact StepX.pure (.sliceNil t x lo hi e1 ti.i ho ht ti.hi hv (qgv (n:=0) (qgw hE hlo)) (qem (n:=0) (qen (l:=0) hE hhi))) (Nxt.here (sv:= .c .nilS) hM rfl h)
    ·cases h
   ·cases h
  ·cases h
 rename_i hnn
 split at h
 ·exact qoa ho hM hE ha h
 ·rename_i md hmd
  split at h
  ·rename_i i
   have ha:rel0 X.G z vs (.own i) (ev fr x):=ha
   split at h
   ·rename_i e1 xs w e2 hO hu
    split at h
    ·rename_i ti p q hti hlo hhi
     by_cases heq:e2=e1
     case neg=>rw[if_neg heq] at h;cases h
     rw[if_pos heq] at h
     subst heq
     obtain ⟨rr,hr,h⟩:=bind_some h
     obtain ⟨c0,c1,c2,rfl⟩:=qeF hr
     obtain ⟨p,rfl⟩:=Int.eq_ofNat_of_zero_le c0
     obtain ⟨q,rfl⟩:=Int.eq_ofNat_of_zero_le (Int.le_trans c0 c1)
     simp only[Int.toNat_natCast] at h
     have hob:OwF (X.G.T e2) z e m k xs (ev fr x):=hM.obj i _ _ hO ha.1
     obtain ⟨v',h1,h2⟩:=oCut (T:=X.G.T e2) ho (by rw[ti.tid];exact hu) (by rw[ti.tid];exact ti.hi) ti.hsz rfl (qgv (qgw hE hlo)) (qem (qen hE hhi)) hob.ow (by omega) (by omega)
     have hk:Nxt X O z e k vs K r v' m:=by
      by_cases hmo:Nat.beq md 0=true
      ·rw[if_pos hmo] at h
       exact Nxt.here (sv:= .cut i e2 p q) hM ⟨_,ha,h2⟩ h
      ·rw[if_neg hmo] at h
       have ow:OwF (X.G.T e2) z e m k ((xs.take q).drop p) v':=⟨h2.owd hob.ow,fun b hb=>hob.fresh b (by
        have hbx:blkV (ev fr x)=qag (ev fr x):=qam (by obtain ⟨a,c,hh⟩:=hob.ow.len;intro r;rw[hh];simp)
        have hbv:blkV v'=qag v':=qam (by obtain ⟨a,c,hh⟩:=(h2.owd hob.ow).len;intro r;rw[hh];simp)
        rw[←hbx,←h2.blk,hbv];exact hb)⟩
       have hbk:blkV v'=blkV (ev fr x):=h2.blk
       have hap:=fun j p' w hij hj hl hw=>hM.ap j i p' _ w _ hij hj hO hl rfl hw ha.1
       exact ⟨z,vs++[v'], .c (.own O.length),O.set i .dead++[.sl e2 ((xs.take q).drop p) false false],(Inv.set O i (.inl rfl)).trans (Inv.push _ _),Zx.refl z,qau,
        (hM.kill i).push (q:=blkV (ev fr x)) (o':= .sl e2 ((xs.take q).drop p) false false) ⟨Nat.le_refl _,hM.st.dead,fun _ _ _=>rfl⟩ hM.st (fun j p w hj hw hl=>by
         rw[List.getElem?_set] at hj
         split at hj
         ·split at hj
          ·cases hj;cases hl
          ·cases hj
         ·rename_i hij
          exact hap j p w (fun e=>hij e.symm) hj hl hw) ow (fun p hp ha2=>by rw[hbk];exact ha2),qa4 hM (by obtain ⟨a,c,hh⟩:=ow.ow.len;exact ⟨a,c,hh⟩),h⟩
     rcases h1 with h1|h1
     ·exact StepX.pureR (D:=fun _ v m'=>Nxt X O z e k vs K r v m') (I:=fun _=>True) h1 hk
     ·exact StepX.read (D:=fun _ v m'=>Nxt X O z e k vs K r v m') h1 hk
    ·cases h
   ·cases h
  ·cases h
theorem qmF {y mx:Operand} (ho:o.op= .slice t x none (some y) (some mx)) (hM:Mm X.G O z e m k vs) (hE:∀x,rel X.G z vs (sop E x) (ev fr x)) (h:qmE X t (sop E x) (sop E y) (sop E mx) O K=some r):StepX P (ev fr) o m fun _ v m'=>Nxt X O z e k vs K r v m':=by
 unfold qmE at h
 have ite_some:∀{α:Type} {p:Prop} [Decidable p] {x:Option α} {r:α},(if p then x else none)=some r→p∧x=some r:=by
  intro α p _ x r h
  split at h
  ·exact ⟨‹_›,h⟩
  ·cases h
 split at h
 ·rename_i e' k1 p k2 q ht hp hq
  have hy:=hE y
  rw[hp] at hy
  have hy:ev fr y= .int k1 p:=hy
  have hmx:=hE mx
  rw[hq] at hmx
  have hmx:ev fr mx= .int k2 q:=hmx
  have ha:=hE x
  split at h
  ·rename_i c hx
   rw[hx] at ha
   split at h
   ·rename_i e2 xs O1 hf
    split at h
    ·rename_i ti hI
     obtain ⟨he,h⟩:=ite_some h
     subst he
     obtain ⟨rr,hr,h⟩:=bind_some h
     unfold qhN at hr
     obtain ⟨hcc0,hr2⟩:=ite_some hr
     obtain ⟨h0,h1,h2,hpq⟩:=hcc0
     subst hpq
     cases hr2
     obtain ⟨z1,g0,g1,g2,g3⟩:=qdP hM hf ha
     obtain ⟨n,rfl⟩:=Int.eq_ofNat_of_zero_le h0
     have hn:n≤xs.length:=by omega
     have hnB:n<BIG:=by simp only[BIG];omega
     have key:∃v,PureR P (ev fr) o v∧rel X.G z1 vs (.full e' (xs.take n)) v:=by
      rcases (g3:SlR (X.G.T e') z1 xs (ev fr x)) with ⟨hv,rfl⟩|⟨b,off,c',hv,k1',k2',k3'⟩
      ·have hn0:n=0:=by simpa using hn
       subst hn0
       exact ⟨_, .slice3Nil t x mx (some y) e' ti.i k2 ho ht ti.hi hv ⟨y,k1,rfl,hy⟩ hmx, .inl ⟨rfl,by simp⟩,by simp[BIG],none,by simp⟩
      ·have hcc:(c'≠BIG∧n≤c')∨(c'=BIG∧n≤xs.length):=by
        rcases k2' with ⟨hc,_⟩|⟨hc,hl⟩
        ·exact .inr ⟨hc,hn⟩
        ·exact .inl ⟨by omega,by omega⟩
       have hlen:(xs.take n).length=n:=by rw[List.length_take];omega
       refine ⟨_, .slice3 t x mx (some y) e' ti.i b off xs.length c' n n k2 ho ht ti.hi hv hcc ⟨y,k1,rfl,hy⟩ hmx (Nat.le_refl _), ?_⟩
       refine ⟨.inr ⟨b,off,n,by rw[hlen],k1', .inr ⟨hnB,by rw[hlen];exact Nat.le_refl _⟩,fun i a hi=> ?_⟩,by rw[hlen];exact hnB,some ⟨b,off,none⟩,by rw[hlen]⟩
       rw[List.getElem?_take] at hi
       split at hi
       ·exact k3' i a hi
       ·cases hi
     obtain ⟨v,hv,hr2⟩:=key
     exact StepX.pure hv (Nxt.from g0 g1 (Nxt.here g2 hr2 h))
    ·cases h
   ·cases h
  ·cases h
 ·cases h
theorem qn0 {a:SV D} {v:Value} {t:Nat} {xs:List (D t)} (hM:Mm X.G O z e m k vs) (h:qeg O a=some ⟨t,xs⟩) (hv:rel X.G z vs a v):SlR (X.G.T t) z xs v∨OwF (X.G.T t) z e m k xs v:=by
 unfold qeg at h
 split at h
 ·cases h;exact .inl hv
 ·split at h
  ·rename_i t' xs' fz w1 ho
   cases h
   have hob:=hM.obj _ _ v ho hv.1
   cases fz with
   |true=>exact .inl hob
   |false=>exact .inr hob
  ·cases h
 ·cases h
theorem qmB {a:SV D} (ho:o.op= .convert u t x) (hM:Mm X.G O z e m k vs) (ha:rel X.G z vs a (ev fr x)) (h:qmA X u t a O K=some r):StepX P (ev fr) o m fun _ v m'=>Nxt X O z e k vs K r v m':=by
 unfold qmA at h
 split at h
 ·rename_i k1 k2 hu ht
  split at h
  ·exact qav hM h (qwR ho hu ht ha) rfl
  ·cases h
 ·rename_i te hu ht
  split at h
  ·rename_i s bi hB
   obtain ⟨s',hs,h⟩:=bind_some h
   refine qsp ho hu ht bi.hu bi.hi bi.hi1 ha hs hM.st ?_
   intro v' m' st ow s0 hap
   have ow':=bi.hb _ _ _ _ _ _ ow
   have hb:blkV v'=qag v':=qam (by obtain ⟨a,c,rfl⟩:=ow.ow.len;intro r;simp)
   refine ⟨z,vs++[v'], .c (.own O.length),_,Inv.push O _,Zx.refl z,qau,hM.push (q:=none) s0 st (fun _ _ _ _ _ _=>Ap.none') ?_ (fun p hp _=>by rw[hb];exact hap p hp), ?_,h⟩
   ·exact ow'
   ·refine ⟨?_, ?_⟩
    ·rw[←hM.len];simp
    ·obtain ⟨a,c,rfl⟩:=ow.ow.len;exact ⟨rfl,rfl⟩
  ·cases h
 ·rename_i te hu ht
  split at h
  ·rename_i e' xs bi hl hB
   split at h
   ·rename_i he
    subst he
    rcases qn0 hM hl ha with hs|hs
    ·exact qwG ho hu bi.hu ht rfl (bi.hr _ _ _ hs) hM.st (Nxt.here (sv:= .c (.str (bi.to xs))) hM rfl h)
    ·exact qwF ho hu bi.hu ht rfl (bi.ho _ _ _ _ _ _ hs) (Nxt.here (sv:= .c (.str (bi.to xs))) hM rfl h)
   ·cases h
  ·cases h
 ·cases h
theorem qoe {a:SV D} {ts:Array TypeId} (ho:o.op= .call {callee:= .builtin .len,args:=#[x],argTypes:=#[t]}) (hM:Mm X.G O z e m k vs) (ha:rel X.G z vs a (ev fr x)) (h:qq1 (P:=P) t a O K=some r):StepX P (ev fr) o m fun _ v m'=>Nxt X O z e k vs K r v m':=by
 unfold qq1 at h
 split at h
 ·rename_i s ht
  exact qav hM h (qwY ho rfl ht ha) rfl
 ·rename_i te ht
  have hv:ev fr x= .slice none 0 0:=ha
  exact qav hM h (qoi (xs:=([]:List Int)) ho ht rfl ⟨none,0,hv⟩) rfl
 ·rename_i te hn1 ht
  split at h
  ·rename_i e1 xs hl
   exact qav hM h (qoi ho ht rfl (qmd hM hl ha)) rfl
  ·split at h
   ·split at h
    ·rename_i e1 t1 up xss hole w hO
     obtain ⟨hu,ws,hob⟩:=hM.obj _ _ _ hO ha.1
     exact qav hM h (qoi (xs:=xss) ho ht rfl (by obtain ⟨a,c,hh⟩:=hob.ow.ow.len;exact ⟨a,c,by rw[hh,hob.len]⟩)) rfl
    ·cases h
   ·split at h
    ·rename_i i e1 lo hi hls xo e2 xs w1 hO
     split at h
     ·rename_i he
      subst he
      obtain ⟨w,hw,hc⟩:=ha
      have hob:OwF _ z e m k xs w:=hM.obj _ _ _ hO hw.1
      obtain ⟨a1,c1,hl⟩:=hob.ow.len
      refine qav hM h (qoi (xs:=(xs.take hi).drop lo) ho ht rfl ?_) rfl
      rcases hc with ⟨_,hv,rfl,rfl⟩|⟨b,f0,l,c,off,c',h0,hv,h1,h2,h3,h4⟩
      ·exact ⟨none,0,by rw[hv];simp⟩
      ·rw[hl] at h0
       cases h0
       exact ⟨_,c',by rw[hv,List.length_drop,List.length_take,Nat.min_eq_left h2]⟩
     ·cases h
    ·cases h
   ·cases h
 ·cases h
theorem qj6 {α:Type} {T:Ty α} {Dg:Tag→Value→Mem→Prop} {xs ys:List α} {w:Value} {a:Option Addr} {ρ:Operand→Value} {i:TypeInfo} (h:o.op= .call {callee:= .builtin .append,args:=#[x,y],argTypes:=#[t,u]}) (ht:P.underlying t=some (.slice T.tid)) (hi:P.info? T.tid=some i) {zv:Value} (hzv:i.zero=some zv) (hzf:zv.cells.toList.all qah=true) (hzs:zv.cells.size=i.size)
  (hsz:i.size=T.sz) (hpos:(T.sz==0)=false) (hby:Nat.ble i.bytes 32768=true) (hu:(∃e',P.underlying u=some (.slice e'))∨P.underlying u=some .string) (hx:ρ x= .slice a xs.length xs.length) (hs:Src T z m xs (.slice a xs.length xs.length)) (hy:ρ y=w) (hsrc:Src T z m ys w) (hne:ys.isEmpty=false)
  (st:St z e m k) {r:List α} (hr:appI xs ys=some r)
  (hk:∀v' m',St z e m' k→OwF T z e m' k r v'→Same m m' none→(∀p,(∀b,p=some b→b<m.next)→Ap p (qag v'))→Dg .eff v' m'):StepX P ρ o m Dg:=by
 obtain ⟨hlim,rfl⟩:=qa0 hr
 simp only[LIM] at hlim
 have hby:=Nat.le_of_ble_eq_true hby
 have hp:0<T.sz:=by
  rcases Nat.eq_zero_or_pos T.sz with h0|h0;·rw[h0] at hpos;cases hpos
  ·exact h0
 obtain ⟨hlen,cs,hel,hcl,hrd⟩:=hsrc
 obtain ⟨hlx,os,hex,hol,hro⟩:=hs
 have hlw:lenV (ρ y)=ys.length:=by rw[hy];exact hlen
 have hy0:0<ys.length:=by cases ys with
  |nil=>cases hne
  |cons _ _=>simp
 have hmul:(xs.length+ys.length)*i.bytes≤4294967296*32768:=Nat.mul_le_mul hlim hby
 have hnz:z m.next= .dead:=by
  have hz:=st.fz
  cases hzz:z m.next with
  |dead=>rfl
  |ro rd=>have:=(hz m.next (by rw[hzz];simp)).2;omega
  |own L t=>have:=(hz m.next (by rw[hzz];simp)).2;omega
  |map L t=>have:=(hz m.next (by rw[hzz];simp)).2;omega
  |lock _ _ _ _=>have:=(hz m.next (by rw[hzz];simp)).2;omega
 have hE:EffR P (qba P 0) ρ o m (.slice (some ⟨m.next,0,none⟩) (xs.length+lenV (ρ y)) BIG) (m.push (.own (os++cs) T.tid)):=
  .appendNew x y t u T.tid i zv a xs.length xs.length (lenV (ρ y)) os cs h ht hi hzv hzf hzs (by rw[hsz];exact hp) hx (by rw[hlw];omega) (by rw[hx,hsz];exact hex) (by rw[hsz];exact hol) (.el hu rfl (by rw[hy,hsz];exact hel)) (by rw[hlw,hsz];exact hcl) (by rw[hlw];omega) (by rw[hlw];omega)
 rw[hlw] at hE
 have how:Ow T z (m.push (.own (os++cs) T.tid)) (xs++ys) (.slice (some ⟨m.next,0,none⟩) (xs.length+ys.length) BIG):=by
  refine Ow.at0 ⟨m.next,os++cs,BIG,by simp,by simp[Mem.push],by simp[Mem.push],hnz,by simp[hol,hcl,Nat.add_mul], .inl rfl,fun n q ha=> ?_⟩
  rw[List.getElem?_append] at ha
  split at ha
  ·obtain ⟨c,g1,g2⟩:=hro n q ha
   refine ⟨c,g1,fun k q hk=> ?_⟩
   have:=g2 k q hk
   rw[List.getElem?_append_left (List.getElem?_eq_some_iff.1 this).1]
   exact this
  ·rename_i hge
   obtain ⟨c,g1,g2⟩:=hrd _ q ha
   refine ⟨c,g1,fun k q hk=> ?_⟩
   have:=g2 k q hk
   have h1:n*T.sz=os.length+(n - xs.length)*T.sz:=by
    rw[hol,←Nat.add_mul];congr 1;omega
   rw[h1,Nat.add_assoc,List.getElem?_append_right (by omega),Nat.add_sub_cancel_left]
   exact this
 obtain ⟨g1,g2,g3,g4⟩:=gOwn (k:=k) st how rfl
 exact StepX.eff hE (hk _ _ g1 g2 g3 g4)
theorem qkj {a b:SV D} (ho:o.op= .call {callee:= .builtin .append,args:=#[x,y],argTypes:=#[t,u]}) (hM:Mm X.G O z e m k vs) (ha:rel X.G z vs a (ev fr x)) (hb:rel X.G z vs b (ev fr y)) (h:qn8 X t u a b O K=some r):StepX P (ev fr) o m fun _ v m'=>Nxt X O z e k vs K r v m':=by
 unfold qn8 at h
 split at h
 ·rename_i tt uu ht hu
  split at h
  ·cases h
  ·rename_i ti hI
   dsimp only at h
   split at h
   ·cases h
   ·rename_i ys hys
    have hsrc:Src (X.G.T tt) z m ys (ev fr y):=by
     split at hys
     ·cases hys
      have hv:ev fr y= .slice none 0 0:=hb
      rw[hv]
      exact (SlR.nil (T:=X.G.T tt)).src hM.st.fz
     ·split at hys
      ·rename_i e2 ys2 hl
       split at hys
       ·rename_i heq
        subst heq
        cases hys
        exact qh0 hM hl hb
       ·cases hys
      ·cases hys
    have ht':P.underlying t=some (.slice (X.G.T tt).tid):=by rw[ti.tid];exact ht
    have hi':P.info? (X.G.T tt).tid=some ti.i:=by rw[ti.tid];exact ti.hi
    split at h
    ·obtain ⟨q,hq,h⟩:=bind_some h
     have hv:ev fr x= .slice none 0 0:=ha
     refine qgq (T:=X.G.T tt) (z:=z) ho ht' hi' ti.hz ti.hzf ti.hzs ti.hsz ti.hpos ti.hby (.inl ⟨_,hu⟩) hv OwF.nil rfl hsrc hM.st hq fun v' m' st' ow sm hap=> ?_
     have hbv:blkV v'=qag v':=qam (by obtain ⟨a,c,rfl⟩:=ow.ow.len;intro r;simp)
     exact qaQ (v:=v') hM st' sm (fun p hp=>by rw[hbv];exact hap p hp Ap.none') h ow (qa4 hM ow.ow.len)
    ·rename_i e2 xs
     by_cases heq:e2=tt
     case neg=>rw[dif_neg heq] at h;cases h
     rw[dif_pos heq] at h
     subst heq
     by_cases hne:ys.isEmpty=true
     case pos=>rw[if_pos hne] at h;cases h
     rw[if_neg hne] at h
     obtain ⟨q,hq,h⟩:=bind_some h
     obtain ⟨f1,f2,a0,f3⟩:=ha
     refine qj6 (T:=X.G.T e2) (z:=z) ho ht' hi' ti.hz ti.hzf ti.hzs ti.hsz ti.hpos ti.hby (.inl ⟨_,hu⟩) f3 (by rw[←f3];exact SlR.src f1 hM.st.fz) rfl hsrc (by simpa using hne) hM.st hq fun v' m' st' ow sm hap=> ?_
     have hbv:blkV v'=qag v':=qam (by obtain ⟨a,c,rfl⟩:=ow.ow.len;intro r;simp)
     exact qaQ (v:=v') hM st' sm (fun p hp=>by rw[hbv];exact hap p hp) h ow (qa4 hM ow.ow.len)
    ·rename_i i
     split at h
     ·rename_i e2 xs w1 hO
      split at h
      ·rename_i heq
       subst heq
       obtain ⟨q,hq,h⟩:=bind_some h
       have hob:OwF (X.G.T e2) z e m k xs (ev fr x):=hM.obj i _ _ hO ha.1
       refine qgq (T:=X.G.T e2) ho ht' hi' ti.hz ti.hzf ti.hzs ti.hsz ti.hpos ti.hby (.inl ⟨_,hu⟩) rfl hob rfl hsrc hM.st hq fun v' m' st' ow sm hap=> ?_
       have hbv:blkV v'=qag v':=qam (by obtain ⟨a,c,rfl⟩:=ow.ow.len;intro r;simp)
       have hbx:blkV (ev fr x)=qag (ev fr x):=qam (by obtain ⟨a,c,hh⟩:=hob.ow.len;intro r;rw[hh];simp)
       have hM1:=hM.kill i
       have hlen:(O.set i .dead).length=O.length:=List.length_set
       refine ⟨z,vs++[v'], .c (.own O.length),O.set i .dead++[.sl e2 q false false],(Inv.set O i (.inl rfl)).trans (Inv.push _ _),Zx.refl z,qau,hM1.push (o':= .sl e2 q false false) sm st' (fun j p w hj hw hl=> ?_) ow (fun p hp ha2=>by rw[hbv];exact hap p hp ha2), ?_,h⟩
       ·rw[List.getElem?_set] at hj
        split at hj
        ·split at hj
         ·cases hj;cases hl
         ·cases hj
        ·rename_i hij
         rw[←hbx]
         exact hM.ap j i p _ w _ (fun e=>hij e.symm) hj hO hl rfl hw ha.1
       ·exact qa4 hM ow.ow.len
      ·cases h
     ·cases h
    ·rename_i i e1 lo n
     by_cases hlo:Nat.beq lo 0=true
     case neg=>rw[if_neg hlo] at h;cases h
     rw[if_pos hlo] at h
     obtain rfl:=Nat.eq_of_beq_eq_true hlo
     by_cases he1:e1=tt
     case neg=>rw[if_neg he1] at h;cases h
     rw[if_pos he1] at h
     subst he1
     split at h
     ·rename_i e2 xs w1 hO
      split at h
      ·rename_i heq
       subst heq
       obtain ⟨q,hq,h⟩:=bind_some h
       obtain ⟨wv,hw1,hcv⟩:=ha
       have hob0:OwF (X.G.T e2) z e m k xs wv:=hM.obj i _ _ hO hw1.1
       have hbx0:blkV wv=qag wv:=qam (by obtain ⟨a,c,hh⟩:=hob0.ow.len;intro r;rw[hh];simp)
       have how:=hcv.ow hob0.ow
       have hbx:blkV (ev fr x)=qag (ev fr x):=qam (by obtain ⟨a,c,hh⟩:=how.len;intro r;rw[hh];simp)
       have hob:OwF (X.G.T e2) z e m k (xs.take n) (ev fr x):=⟨how,fun b hb=>hob0.fresh b (by rw[←hbx0,←hcv.blk,hbx];exact hb)⟩
       refine qgq (T:=X.G.T e2) ho ht' hi' ti.hz ti.hzf ti.hzs ti.hsz ti.hpos ti.hby (.inl ⟨_,hu⟩) rfl hob rfl hsrc hM.st hq fun v' m' st' ow sm hap=> ?_
       have hbv:blkV v'=qag v':=qam (by obtain ⟨a,c,rfl⟩:=ow.ow.len;intro r;simp)
       have hM1:=hM.kill i
       refine ⟨z,vs++[v'], .c (.own O.length),O.set i .dead++[.sl e2 q false false],(Inv.set O i (.inl rfl)).trans (Inv.push _ _),Zx.refl z,qau,hM1.push (o':= .sl e2 q false false) sm st' (fun j p w hj hw hl=> ?_) ow (fun p hp ha2=>by rw[hbv];exact hap p hp ha2), ?_,h⟩
       ·rw[List.getElem?_set] at hj
        split at hj
        ·split at hj
         ·cases hj;cases hl
         ·cases hj
        ·rename_i hij
         rw[←hbx,hcv.blk]
         exact hM.ap j i p _ w _ (fun e=>hij e.symm) hj hO hl rfl hw hw1.1
       ·exact qa4 hM ow.ow.len
      ·cases h
     ·cases h
    ·cases h
 ·cases h
theorem qmy {a b:SV D} (ho:o.op= .call {callee:= .builtin .append,args:=#[x,y],argTypes:=#[t,u]}) (hM:Mm X.G O z e m k vs) (ha:rel X.G z vs a (ev fr x)) (hb:rel X.G z vs b (ev fr y)) (h:qmx X t u a b O K=some r):StepX P (ev fr) o m fun _ v m'=>Nxt X O z e k vs K r v m':=by
 unfold qmx at h
 split at h
 ·rename_i tt uu ht hu
  split at h
  ·rename_i ti e1 xs e2 ys hI hl
   by_cases heq:e1=tt
   case neg=>rw[dif_neg heq] at h;cases h
   rw[dif_pos heq] at h
   subst heq
   by_cases heq:e2=e1
   case neg=>rw[dif_neg heq] at h;cases h
   rw[dif_pos heq] at h
   subst heq
   obtain ⟨q,hq,h⟩:=bind_some h
   have hsrc:=qh0 hM hl hb
   have ht':P.underlying t=some (.slice (X.G.T e2).tid):=by rw[ti.tid];exact ht
   have hi':P.info? (X.G.T e2).tid=some ti.i:=by rw[ti.tid];exact ti.hi
   obtain ⟨f1,f2,a0,f3⟩:=ha
   by_cases hne:ys.isEmpty=true
   ·rw[if_pos hne] at h
    obtain rfl:ys=[]:=by cases ys;rfl;cases hne
    obtain ⟨hlim,rfl⟩:=qa0 hq
    obtain ⟨hlen,cs,hel,hcl,_⟩:=hsrc
    obtain rfl:cs=[]:=List.eq_nil_of_length_eq_zero (by rw[hcl];simp)
    have hE:EffR P (qba P 0) (ev fr) o m (ev fr x) m:= .appendNone x y t u _ ti.i a0 xs.length xs.length ho ht' hi' f3 (by omega) (Nat.le_refl _) (.el (.inl ⟨_,hu⟩) (by simpa using hlen) (by rw[ti.hsz];exact hel))
    exact StepX.eff hE (Nxt.here (X:=X) hM (sv:= .c (.sl e2 (xs++[]))) (by rw[List.append_nil];exact f1) h)
   ·rw[if_neg hne] at h
    refine qj6 (T:=X.G.T e2) (z:=z) ho ht' hi' ti.hz ti.hzf ti.hzs ti.hsz ti.hpos ti.hby (.inl ⟨_,hu⟩) f3 (by rw[←f3];exact SlR.src f1 hM.st.fz) rfl hsrc (by simpa using hne) hM.st hq fun v' m' st' ow sm hap=> ?_
    have hbv:blkV v'=qag v':=qam (by obtain ⟨a,c,rfl⟩:=ow.ow.len;intro r;simp)
    exact qaQ (v:=v') hM st' sm (fun p hp=>by rw[hbv];exact hap p hp) h ow (qa4 hM ow.ow.len)
  ·cases h
 ·cases h
theorem qof {kt vt:Nat} (ho:o.op= .makeMap t none) (ht:P.underlying t=some (.map kt vt)) (hM:Mm X.G O z e m k vs) (h:K (.c (.own O.length)) (O++[.map t kt vt [] false false])=some r):StepX P (ev fr) o m fun _ v m'=>Nxt X O z e k vs K r v m':=by
 refine qnS (X.G.M t kt vt) ho ht rfl hM.st fun v' m' st' ow sm hap=> ?_
 obtain ⟨q,rfl,hq⟩:=ow.ow
 exact qaQ (v:= .map (some q)) hM st' sm hap h ow ⟨qh6 hM _,rfl,rfl⟩
theorem qmI {u kt vt:Nat} {es:List (D kt×D vt)} {a:D kt} {mi:MI P X.G kt vt} {ok:Bool} {c:SV D} (ho:o.op= .lookup t x y ok) (ht:P.underlying t=some (.map kt vt)) (hu:P.underlying u=some (.map kt vt)) (hM:Mm X.G O z e m k vs)
  (hx:MpR (X.G.M u kt vt) z es (ev fr x)∨OwM (X.G.M u kt vt) z e m k es (ev fr x)) (hy:rel X.G z vs c (ev fr y)) (hk:mi.kget c=some a)
  (h:(AM.lt (@qae _ _ mi.dec es a) fun y=>if ok=true then K (.tup [.inl (mi.vput (y.getD mi.z0)), .inl (.bool y.isSome)]) O else K (.c (mi.vput (y.getD mi.z0))) O)=some r):StepX P (ev fr) o m fun _ v m'=>Nxt X O z e k vs K r v m':=by
 letI hd:=mi.dec
 obtain ⟨w,hw,h⟩:=qmi h
 have hkv:=mi.hkg z vs c a _ hk hy
 have hvp:=mi.hvp z vs (w.getD mi.z0)
 cases ok with
 |true=>
  rw[if_pos rfl] at h
  have hrel:rel X.G z vs (.tup [.inl (mi.vput (w.getD mi.z0)), .inl (.bool w.isSome)]) (.tuple #[qal (qaj P vt) (X.G.kc vt (w.getD mi.z0)), .bool w.isSome]):=⟨[_,_],rfl,hvp,rfl,trivial⟩
  rcases hx with hx|hx
  ·exact qpI (M:=X.G.M u kt vt) (a:=a) (z0:=mi.z0) ho ht hu mi.K mi.V mi.hi mi.hz rfl hx hM.st rfl hkv hw (if_pos rfl) (Nxt.here hM hrel h)
  ·exact qpH (M:=X.G.M u kt vt) (a:=a) (z0:=mi.z0) ho ht hu mi.K mi.V mi.hi mi.hz rfl hx rfl hkv hw (if_pos rfl) (Nxt.here hM hrel h)
 |false=>
  rw[if_neg (by simp)] at h
  have hrel:rel X.G z vs (.c (mi.vput (w.getD mi.z0))) (qal (qaj P vt) (X.G.kc vt (w.getD mi.z0))):=hvp
  rcases hx with hx|hx
  ·exact qpI (M:=X.G.M u kt vt) (a:=a) (z0:=mi.z0) ho ht hu mi.K mi.V mi.hi mi.hz rfl hx hM.st rfl hkv hw (if_neg (by simp)) (Nxt.here hM hrel h)
  ·exact qpH (M:=X.G.M u kt vt) (a:=a) (z0:=mi.z0) ho ht hu mi.K mi.V mi.hi mi.hz rfl hx rfl hkv hw (if_neg (by simp)) (Nxt.here hM hrel h)
theorem qkl {u kt vt i:Nat} {es:List (D kt×D vt)} {a:D kt} {b:D vt} {mi:MI P X.G kt vt} {c:SV D} {d:CV D} {w:Operand} (ho:o.op= .mapUpdate t x y w∨o.op= .insert t x y w) (ht:P.underlying t=some (.map kt vt)) (hu:P.underlying u=some (.map kt vt)) (hM:Mm X.G O z e m k vs)
  {w1:Bool} (hO:O[i]? =some (.map u kt vt es false w1)) (hx:vs[i]? =some (ev fr x)) (hy:rel X.G z vs c (ev fr y)) (hw:rel0 X.G z vs d (ev fr w)) (hk:mi.kget c=some a) (hv:mi.vget d=some b)
  (h:(AM.lt (@qao _ _ mi.dec es a b) fun es'=>K .undef (O.set i (.map u kt vt es' false true)))=some r):StepX P (ev fr) o m fun _ v m'=>Nxt X O z e k vs K r v m':=by
 letI hd:=mi.dec
 obtain ⟨es',hes,h⟩:=qmi h
 have hob:OwM (X.G.M u kt vt) z e m k es (ev fr x):=hM.obj i _ _ hO hx
 refine qqL (M:=X.G.M u kt vt) (a:=a) (b:=b) ho ht hu mi.K mi.V rfl hob rfl (mi.hkg z vs c a _ hk hy) rfl (mi.hvg z vs d b _ hv hw) hM.st hes fun m' st' ow sm=> ?_
 have hbv:blkV (ev fr x)=qgy (ev fr x):=by obtain ⟨q,hq,_⟩:=hob.ow;rw[hq];rfl
 exact qdD hM h hO hx rfl rfl (by rw[hbv];exact sm) st' ow
theorem qf9 {s:SV D} {g:Value} {c:Nat×List (CV D)} {O':List (Ob D)} (hM:Mm X.G O z e m k vs) (hs:rel X.G z vs s g) (h:qiI O s=some (c,O')):∃z',Inv O O'∧Zx e.next z z'∧Mm X.G O' z' e m k vs∧relP X.G z' vs c.2 0 g:=by
 cases s with
 |rp t cs off=>
  simp only[qiI] at h
  split at h
  ·rename_i h0;subst h0;cases h;exact ⟨z,Inv.refl _,Zx.refl z,hM,hs⟩
  ·cases h
 |box i off=>
  simp only[qiI] at h
  obtain ⟨b,hv,hg⟩:=hs
  split at h
  ·rename_i t cs fz w1 hO
   split at h
   ·rename_i h0
    obtain ⟨h0,_⟩:=h0
    subst h0
    cases h
    have hob:=hM.obj i _ _ hO hv
    rw[hg]
    cases fz with
    |true=>
     obtain ⟨b2,ds,he,hc,hr⟩:=hob
     cases he
     have:O.set i (.box t cs true w1)=O:=by
      apply List.ext_getElem?
      intro j
      rw[List.getElem?_set]
      split
      ·rename_i hij;subst hij;rw[hO,if_pos (List.getElem?_eq_some_iff.1 hO).1]
      ·rfl
     rw[this]
     exact ⟨z,Inv.refl _,Zx.refl z,hM,b,0,ds,rfl,hc,hr⟩
    |false=>
     obtain ⟨b2,ds,he,hbx,hfr,hr⟩:=hob
     cases he
     obtain ⟨z1,k1,k2,k3,k4⟩:=hbx.freeze hfr hM.st
     have hr1:=rels.mono hr k1.le fun _ _ h=>h
     exact ⟨z1,Inv.set O i (.inl rfl),k1,hM.frz hO hv rfl rfl k1.le k2 k4 ⟨b,ds,rfl,k3,hr1⟩,b,0,ds,rfl,k3,hr1⟩
   ·cases h
  ·cases h
 |_=>cases h
theorem qhH:∀{l:List (SV D)} {gs:List Value} {caps:List (Nat×List (CV D))} {O O':List (Ob D)} {z:Nat→Blk},Mm X.G O z e m k vs→L2 (rel X.G z vs) l gs→qhG l O=some (caps,O')→∃z',Inv O O'∧Zx e.next z z'∧Mm X.G O' z' e m k vs∧L2 (fun c g=>relP X.G z' vs c.2 0 g) caps gs
 |[],[],caps,O,O',z,hM,_,h=>by cases h;exact ⟨z,Inv.refl _,Zx.refl z,hM,trivial⟩
 |s::l,g::gs,caps,O,O',z,hM,⟨h1,h2⟩,h=>by
  unfold qhG at h
  split at h
  ·rename_i c O1 hc
   split at h
   ·rename_i r O2 hr
    cases h
    obtain ⟨z1,k0,k1,k2,k3⟩:=qf9 hM h1 hc
    obtain ⟨z2,g0,g1,g2,g3⟩:=qhH k2 (L2.mono (fun _ _ h=>rel.mono h k1.le fun _ _ h=>h) h2) hr
    exact ⟨z2,k0.trans g0,k1.trans g1,g2,relP.mono k3 g1.le fun _ _ h=>h,g3⟩
   ·cases h
  ·cases h
 |[],_::_,_,_,_,_,_,h,_=>h.elim
 |_::_,[],_,_,_,_,_,h,_=>h.elim
theorem qc0 {xs:List Operand} (hE:∀x,rel X.G z vs (sop E x) (ev fr x)):L2 (rel X.G z vs) (xs.map (sop E)) (xs.map (ev fr)):=by
 induction xs with
 |nil=>trivial
 |cons x xs ih=>exact ⟨hE x,ih⟩
theorem qqh {s:SV D} {i:Nat} {v:Value} (hM:Mm X.G O z e m k vs) (h:capI O s=some i) (hr:rel X.G z vs s v):capR vs i v:=by
 unfold capI at h
 split at h
 ·split at h
  ·split at h
   ·rename_i h0
    cases h
    subst h0
    obtain ⟨b,h1,h2⟩:=hr
    exact ⟨by rw[h2];exact h1,b,h2⟩
   ·cases h
  ·cases h
 ·cases h
theorem qjS (hM:Mm X.G O z e m k vs):∀{l:List (SV D)} {gs:List Value} {is:List Nat},qlz O l=some is→L2 (rel X.G z vs) l gs→L2 (capR vs) is gs
 |[],[],is,h,_=>by cases h;trivial
 |s::l,g::gs,is,h,⟨h1,h2⟩=>by
  unfold qlz at h
  split at h
  ·rename_i i js hi hj
   cases h
   exact ⟨qqh hM hi h1,qjS hM hj h2⟩
  ·cases h
 |[],_::_,_,_,h=>h.elim
 |_::_,[],_,_,h=>h.elim
theorem qoc {f:FuncId} {first cap:Array Operand} {is:List Nat} (ho:o.op= .makeFunc (.func f) first cap) (hf:first.toList=[]) (hM:Mm X.G O z e m k vs) (hE:∀x,rel X.G z vs (sop E x) (ev fr x)) (hc:qlz O (cap.toList.map (sop E))=some is) (h:K (.c (.fn f is)) O=some r):
  StepX P (ev fr) o m fun _ v m'=>Nxt X O z e k vs K r v m':=by
 have hg:=qjS hM hc (qc0 hE)
 have hf':first=#[]:=by cases first;simp at hf;subst hf;rfl
 subst hf'
 have hst:(cap.map (ev fr)).toList.all storable=true:=by
  rw[List.all_eq_true]
  intro v hv
  rw[Array.toList_map] at hv
  have:=List.all_eq_true.1 (qga hg) v hv
  unfold qiX at this
  split at this
  ·rfl
  ·cases this
 exact qav hM h (qsN ho rfl hst) ⟨cap.toList.map (ev fr),by congr 1;apply Array.ext';simp,hg⟩
theorem qqZ {f:FuncId} {first cap:Array Operand} {caps:List (Nat×List (CV D))} {O':List (Ob D)} (ho:o.op= .makeFunc (.func f) first cap) (hf:first.toList=[]) (hM:Mm X.G O z e m k vs) (hE:∀x,rel X.G z vs (sop E x) (ev fr x)) (hc:qhG (cap.toList.map (sop E)) O=some (caps,O')) (h:K (.fn f caps) O'=some r):
  StepX P (ev fr) o m fun _ v m'=>Nxt X O z e k vs K r v m':=by
 obtain ⟨z1,g0,g1,g2,g3⟩:=qhH hM (qc0 hE) hc
 have hf':first=#[]:=by cases first;simp at hf;subst hf;rfl
 subst hf'
 have hst:(cap.map (ev fr)).toList.all storable=true:=by
  rw[List.all_eq_true]
  intro v hv
  rw[Array.toList_map] at hv
  have:∀(cs:List (Nat×List (CV D))) (gs:List Value),L2 (fun c g=>relP X.G z1 vs c.2 0 g) cs gs→∀v∈gs,storable v=true:=by
   intro cs
   induction cs with
   |nil=>intro gs hg v hv;cases gs with
    |nil=>cases hv
    |cons _ _=>exact hg.elim
   |cons c cs ih=>intro gs hg v hv;cases gs with
    |nil=>cases hv
    |cons g gs=>
     rcases List.mem_cons.1 hv with rfl|hv
     ·obtain ⟨b,o1,ds,he,_⟩:=hg.1;rw[he];rfl
     ·exact ih gs hg.2 v hv
  exact this _ _ g3 v hv
 refine StepX.pure (qsN ho rfl hst) (Nxt.from g0 g1 (Nxt.here (sv:= .fn f caps) g2 ⟨cap.toList.map (ev fr), ?_,g3⟩ h))
 congr 1
 apply Array.ext'
 simp
end
end Go.AM
end
section
set_option linter.unusedSimpArgs false
set_option linter.unusedVariables false
namespace Go.AM
section
variable {P:Program} {D:Nat→Type} {X:Ev P D} {ρ:Type} {z z':Nat→Blk} {e m m':Mem} {k:Option Nat} {vs:List Value} {fr:Nat→Value} {E:List (Nat×SV D)} {O:List (Ob D)} {o:Oper} {r:ρ}
variable {x y:Operand} {t u:TypeId} {K:SV D→List (Ob D)→Option ρ}
theorem qog {l:Nat} {ps:Array (Nat×Operand)} (ho:o.op= .buildSlice t l ps) (hM:Mm X.G O z e m k vs) (hE:∀x,rel X.G z vs (sop E x) (ev fr x)) (h:qq2 X t l ps.toList E O K=some r):StepX P (ev fr) o m fun _ v m'=>Nxt X O z e k vs K r v m':=by
 unfold qq2 at h
 split at h
 ·rename_i e1 ht
  split at h
  ·rename_i t1 hu
   split at h
   ·rename_i ni hN
    split at h
    ·rename_i hps
     refine ql4 (T:=TVal e1) ho ht ni.hi ni.hz rfl (by rw[ni.h1];rfl) (by rw[ni.h1];rfl) [] [] rfl rfl rfl (by rw[hps];trivial) hM.st fun v' m' st' ow sm hap=> ?_
     have hb:blkV v'=qag v':=qam (by obtain ⟨a,c,rfl⟩:=ow.ow.len;intro r;simp)
     exact qaQ (v:=v') hM st' sm (by rw[hb];exact hap) h ⟨fun f hf=>by cases hf;exact ⟨ni.hsz,ni.tid,ni.hr⟩,_,ow,rfl,fun j w xs g1 g2 _=>by simp at g1,fun p hp=>by cases hp⟩ (qa4 hM ow.ow.len)
    ·rename_i y hps
     split at h
     ·rename_i j hj
      split at h
      ·rename_i t2 xs w hO
       split at h
       ·rename_i h2
        have hy:=hE y
        rw[hj] at hy
        obtain ⟨hv,hs,hc⟩:=hy
        refine ql4 (T:=TVal e1) ho ht ni.hi ni.hz rfl (by rw[ni.h1];rfl) (by rw[ni.h1];rfl) [ev fr y] [[ev fr y]] rfl rfl rfl (by rw[hps];exact ⟨rfl,hs,by rw[hc],⟨rfl,hs,hc⟩,trivial⟩) hM.st fun v' m' st' ow sm hap=> ?_
        have hb:blkV v'=qag v':=qam (by obtain ⟨a,c,rfl⟩:=ow.ow.len;intro r;simp)
        refine qaQ (v:=v') hM st' sm (by rw[hb];exact hap) h ⟨fun f hf=>by cases hf;exact ⟨ni.hsz,ni.tid,ni.hr⟩,_,ow,rfl,fun j w xs g1 g2 g3=> ?_,fun p hp=> ?_⟩ (qa4 hM ow.ow.len)
        ·have:=(List.getElem?_eq_some_iff.1 g1).1
         simp at this
         subst this
         exact absurd rfl (g3 _ rfl)
        ·cases hp
         exact ⟨Int.le_refl _,_,qau _ _ hv,rfl⟩
       ·cases h
      ·cases h
     ·cases h
    ·cases h
   ·cases h
  ·cases h
 ·cases h
theorem Mm.zlk (h:Mm X.G O z e m k vs) (hz:Zle z z') (st:St z' e m k) (hd:∀b,z b= .dead→z' b= .dead) (hk:∀(j:Nat) (q:Ob D) (w:Value),O[j]? =some q→vs[j]? =some w→q.live=true→Lke z z' (bkV w)):Mm X.G O z' e m k vs where
 st:=st
 len:=h.len
 obj:=fun j q w hj hw=>(h.obj j q w hj hw).zle hz (fun hl b hb=>by
  have:=((h.obj j q w hj hw).lt hl b hb).2.1
  rw[this,hd b this]) fun hl=>hk j q w hj hw hl
 ap:=h.ap
noncomputable def zre (z:Nat→Blk) (n0 na nb la n':Nat):Nat→Blk:=fun b=>
 match z b with
 | .lock n j L t=>if n0≤b∧n≠0∧n=na then .lock n' j L t else if n0≤b∧n≠0∧n=nb then .lock n' (la+j) L t else .lock n j L t
 |x=>x
theorem qp6 {n0 na nb la n' b:Nat} (h:∀n j L t,z b≠ .lock n j L t):zre z n0 na nb la n' b=z b:=by
 unfold zre
 split
 ·rename_i n j L t hz;exact absurd hz (h n j L t)
 ·rfl
theorem qhw {n0 na nb la n' b n j:Nat} {L:List Value} {t:TypeId} (h:z b= .lock n j L t):zre z n0 na nb la n' b=if n0≤b∧n≠0∧n=na then .lock n' j L t else if n0≤b∧n≠0∧n=nb then .lock n' (la+j) L t else .lock n j L t:=by
 unfold zre
 rw[h]
theorem qlw {α:Type} {T:Ty α} {xs:List α} {v:Value} (h:OwF T z e m k xs v) (hx:xs≠[]):bkV v≠0:=by
 intro h0
 unfold bkV at h0
 rcases h.ow with ⟨rfl,hws⟩|⟨b',o',L',c',rfl,_⟩
 ·exact hx hws
 ·simp[qag] at h0
theorem qj7 {α:Type} {T:Ty α} {x0:α} {Dg:Tag→Value→Mem→Prop} {ρ:Operand→Value} {i:TypeInfo} {kk k1:IntKind} {n:Int} {v:Value} {xs:List α} (h:o.op= .call {callee:= .builtin .append,args:=#[x,y],argTypes:=#[t,u]}) (ht:P.underlying t=some (.slice T.tid)) (hi:P.info? T.tid=some i) {zv:Value} (hzv:i.zero=some zv) (hzf:zv.cells.toList.all qah=true) (hzs:zv.cells.size=i.size)
  (hsz:i.size=T.sz) (hpos:(T.sz==0)=false) (hby:Nat.ble i.bytes 32768=true) (hu:P.underlying u=some (.int kk)) (hx:ρ x=v) (hs:OwF T z e m k xs v) (hy:ρ y= .int k1 n) (hrd:T.rd z x0 zv.cells.toList) (st:St z e m k) {ys r:List α} (hm:mkI x0 n=some ys) (hr:appI xs ys=some r)
  (hk:∀v' m',St z e m' k→OwF T z e m' k r v'→Same m m' (qag v)→(∀p,(∀b,p=some b→b<m.next)→Ap p (qag v)→Ap p (qag v'))→Dg .eff v' m'):StepX P ρ o m Dg:=by
 obtain ⟨h0,h1,rfl⟩:=qdo hm
 obtain ⟨c,rfl⟩:=Int.eq_ofNat_of_zero_le h0
 have hp:0<T.sz:=by
  rcases Nat.eq_zero_or_pos T.sz with h0|h0;·rw[h0] at hpos;cases hpos
  ·exact h0
 rw[Int.toNat_natCast] at hr
 obtain ⟨v',m',h1,h2,h3,h4⟩:=qnI (C:=qba P 0) (k:=k1) h ht hi hzv hzf hzs hsz hp (Nat.le_of_ble_eq_true hby) hu hx hs.ow hy hrd st.fz st.dead hr
 refine StepX.eff h1 (hk _ _ (st.same h3 hs.hq) ⟨h2,fun b hb=> ?_⟩ h3 fun p hp ha b hb hb'=> ?_)
 ·rcases h4 b hb with h4|h4
  ·exact hs.fresh b h4
  ·have:=st.next;omega
 ·rcases h4 b hb' with h4|h4
  ·exact ha b hb h4
  ·have:=hp b hb;omega
theorem qkW {a b:SV D} (ho:o.op= .call {callee:= .builtin .append,args:=#[x,y],argTypes:=#[t,u]}) (hu:ql0 (P.underlying u)=true) (hM:Mm X.G O z e m k vs) (ha:rel X.G z vs a (ev fr x)) (hb:rel X.G z vs b (ev fr y)) (h:qi2 X t a b O K=some r):StepX P (ev fr) o m fun _ v m'=>Nxt X O z e k vs K r v m':=by
 have hui:∃kk,P.underlying u=some (.int kk):=by
  unfold ql0 at hu
  split at hu
  ·rename_i kk hh;exact ⟨kk,hh⟩
  ·cases hu
 obtain ⟨kk,hui⟩:=hui
 unfold qi2 at h
 split at h
 ·rename_i e1 k1 n ht
  split at h
  ·rename_i ti hI
   split at h
   ·rename_i hn
    obtain ⟨xs,hm,h⟩:=bind_some h
    have hr:appI ([]:List (D e1)) xs=some xs:=by
     obtain ⟨h0,h1,rfl⟩:=qdo hm
     unfold appI
     rw[if_pos (by simp only[List.length_replicate,List.length_nil,LIM] at*;omega),List.nil_append]
    refine qj7 (T:=X.G.T e1) (xs:=[]) ho (by rw[ti.tid];exact ht) (by rw[ti.tid];exact ti.hi) ti.hz ti.hzf ti.hzs ti.hsz ti.hpos ti.hby hui ha ⟨.inl ⟨rfl,rfl⟩,fun b hb=>by cases hb⟩ hb (ti.rd0 z) hM.st hm hr fun v' m' st' ow sm hap=> ?_
    have hbv:blkV v'=qag v':=qam (by obtain ⟨a,c,rfl⟩:=ow.ow.len;intro r;simp)
    exact qaQ (v:=v') hM st' sm (by rw[hbv];exact fun p hp=>hap p hp (by intro b hb hb';cases hb')) h ow (qa4 hM ow.ow.len)
   ·cases h
  ·cases h
 ·rename_i te i k1 n ht
  split at h
  ·rename_i O1 hf1
   split at h
   ·rename_i e1 t1 up xa w1 hOi
    split at h
    ·rename_i ni hN
     split at h
     ·rename_i he
      subst he
      obtain ⟨ys,hm,h⟩:=bind_some h
      obtain ⟨q,hq,h⟩:=bind_some h
      obtain ⟨z1,i1,x1,M1⟩:=qc9 hM hf1
      obtain ⟨hm0,hm1,rfl⟩:=qdo hm
      have hlim:=(qa0 hq).1
      have hqe:=(qa0 hq).2
      subst hqe
      have hva:=ha.1
      obtain ⟨up1,wa,na⟩:=M1.obj i _ _ hOi hva
      have hmw:mkI (Value.slice none 0 0) n=some (List.replicate n.toNat (Value.slice none 0 0)):=by
       unfold mkI;rw[if_pos ⟨hm0,hm1⟩]
      have hqw:appI wa (List.replicate n.toNat (Value.slice none 0 0))=some (wa++List.replicate n.toNat (Value.slice none 0 0)):=by
       unfold appI
       rw[na.len,List.length_replicate,if_pos (by simpa using hlim)]
      refine qj7 (T:=TVal e1) ho ht ni.hi ni.hz rfl (by rw[ni.h1];rfl) (by rw[ni.h1];rfl) rfl ni.hby hui rfl na.ow hb ⟨rfl,rfl,rfl⟩ M1.st hmw hqw fun v' m' st' ow sm hap=> ?_
      have hba:blkV (ev fr x)=qag (ev fr x):=qam (by obtain ⟨a,c,hh⟩:=na.ow.ow.len;rw[hh];intro r;simp)
      have hbv:blkV v'=qag v':=qam (by obtain ⟨a,c,rfl⟩:=ow.ow.len;intro r;simp)
      have M3:=M1.turn (o':= .dead) hOi hva rfl (by rw[hba];exact sm) st' trivial
      have left:∀(l:Nat) (p:Ob D) (w:Value),(O1.set i (.dead:Ob D))[l]? =some p→vs[l]? =some w→p.live=true→O1[l]? =some p∧l≠i:=by
       intro l p w hl hw hp
       rw[List.getElem?_set] at hl
       split at hl
       ·split at hl
        ·cases hl;cases hp
        ·cases hl
       ·rename_i h1
        exact ⟨hl,fun hh=>h1 hh.symm⟩
      generalize hzq:zre z1 e.next (bkV (ev fr x)) 0 xa.length (bkV v')=z3
      have e1':∀b,(∀n j L t,z1 b≠ .lock n j L t)→z3 b=z1 b:=fun b hh=>by rw[←hzq];exact qp6 hh
      have hle:Zle z1 z3:=fun b hf=>e1' b fun n j L t hh=>by rw[hh] at hf;exact hf
      have hdd:∀b,z1 b= .dead→z3 b= .dead:=fun b hd=>by rw[e1' b (fun n j L t hh=>by rw[hd] at hh;cases hh),hd]
      have hzx:Zx e.next z1 z3:=⟨hle,fun b hlt=>by
       cases hz:z1 b with
       |lock n j L t=>rw[←hzq,qhw hz,if_neg (by omega),if_neg (by omega)]
       |_=>rw[e1' b (fun n j L t hh=>by rw[hz] at hh;cases hh),hz]⟩
      have hst:St z3 e m' k:=⟨fun b hb=>by
       cases hz:z1 b with
       |lock n j L t=>
        have h4:=st'.fz b (by rw[hz];simp)
        rw[hz] at h4
        rw[←hzq,qhw hz]
        split
        ·exact h4
        ·split
         ·exact h4
         ·exact h4
       |_=>
        have h3:=e1' b (fun n j L t hh=>by rw[hz] at hh;cases hh)
        rw[h3] at hb⊢
        exact st'.fz b hb,st'.dead,st'.dead0,st'.next,st'.kept⟩
      have M5:=M3.zlk hle hst hdd fun l p w hl hw hp b j' L t' hlk=>by
       obtain ⟨h1,h2⟩:=left l p w hl hw hp
       have ne:bkV w≠0→bkV w≠bkV (ev fr x):=by
        intro h8
        have hap:=M1.ap l i _ _ _ _ h2 h1 hOi hp rfl hw hva
        by_cases hwm:∃r,w= .map r
        ·obtain ⟨r,rfl⟩:=hwm
         exact absurd qiF h8
        ·rw[qam (fun r hr=>hwm ⟨r,hr⟩),hba] at hap
         rcases qnD hap with hh|hh
         ·exact hh
         ·exact absurd hh h8
       rw[←hzq,qhw hlk,hlk,if_neg fun hh=>ne hh.2.1 hh.2.2,if_neg fun hh=>hh.2.1 hh.2.2]
      have hnew:ObOk X.G z3 e m' k (vs++[v']) (.nest e1 t1 up (xa++List.replicate n.toNat []) none false:Ob D) v':=by
       refine ⟨up1,_,ow.zle hle (fun b hb=>hdd b (ow.ow.lt b hb).2▸((ow.ow.lt b hb).2).symm),by rw[List.length_append,List.length_append,na.len,List.length_replicate,List.length_replicate],fun l w xs g1 g2 _=> ?_,fun p hp=>by cases hp⟩
       by_cases hl:l<xa.length
       ·rw[List.getElem?_append_left (by rw[na.len];exact hl)] at g1
        rw[List.getElem?_append_left hl] at g2
        rcases na.inn l w xs g1 g2 (fun p hp=>by cases hp) with hh|⟨b,f0,L,c,q1,q2,q3,q4,q5,q6⟩
        ·exact .inl hh
        ·have h0:=qlw na.ow (fun hh=>by rw[hh] at g1;simp at g1)
         refine .inr ⟨b,f0,L,c,q1,by rw[←hzq,qhw q2,if_pos ⟨q3,h0,rfl⟩],q3,q4,q5,fun i x hi=> ?_⟩
         obtain ⟨cs,r1,r2⟩:=q6 i x hi
         exact ⟨cs,(X.G.T t1).mono _ _ hle _ _ r1,r2⟩
       ·rw[List.getElem?_append_right (by rw[na.len];omega)] at g1
        rw[List.getElem?_append_right (by omega)] at g2
        have h1:=List.mem_of_getElem? g1
        have h2:=List.mem_of_getElem? g2
        exact .inl ⟨List.eq_of_mem_replicate h1,List.eq_of_mem_replicate h2⟩
      have M6:=M5.pushAt hnew fun _ l p w hl hp hw=>by
       obtain ⟨h1,h2⟩:=left l p w hl hw hp
       rw[hbv]
       refine hap _ (fun b hb=>((M1.obj l p w h1 hw).lt hp b hb).1) ?_
       have:=M1.ap l i _ _ _ _ h2 h1 hOi hp rfl hw hva
       rwa [hba] at this
      have hl6:(O1.set i (.dead:Ob D)).length=O1.length:=by simp
      refine ⟨z3,vs++[v'],_,_,i1.trans ((Inv.set O1 i (.inl rfl)).trans (Inv.push _ _)),x1.trans hzx,qau,M6, ?_,h⟩
      have:=qa4 M5 ow.ow.len
      rwa [hl6] at this
     ·cases h
    ·cases h
   ·cases h
  ·cases h
 ·cases h
theorem qmw {i:Nat} {b:SV D} (ho:o.op= .call {callee:= .builtin .append,args:=#[x,y],argTypes:=#[t,u]}) (hM:Mm X.G O z e m k vs) (ha:rel X.G z vs (.c (.own i)) (ev fr x)) (hb:rel X.G z vs b (ev fr y)) (h:qmv X t u i b O K=some r):StepX P (ev fr) o m fun _ v m'=>Nxt X O z e k vs K r v m':=by
 unfold qmv at h
 split at h
 ·rename_i te ue ht hu
  split at h
  ·rename_i j
   split at h
   ·cases h
   ·rename_i hij
    have hij:i≠j:=fun hh=>hij (by rw[hh];simp)
    split at h
    ·rename_i O1 hf1
     split at h
     ·rename_i O2 hf2
      split at h
      ·rename_i e1 t1 up xa w1 e2 t2 up2 xb w2 hOi hOj
       split at h
       ·rename_i ni hN
        split at h
        ·rename_i heq
         subst heq
         split at h
         ·rename_i he
          obtain ⟨rfl,rfl⟩:=he
          obtain ⟨q,hq,h⟩:=bind_some h
          have hq:appI xa xb=some q:=hq
          obtain ⟨z1,i1,x1,M1⟩:=qc9 hM hf1
          obtain ⟨z2,i2,x2,M2⟩:=qc9 M1 hf2
          obtain ⟨hlim,rfl⟩:=qa0 hq
          have hva:=ha.1
          have hvb:=hb.1
          obtain ⟨up1,wa,na⟩:=M2.obj i _ _ hOi hva
          obtain ⟨_,wb,nb⟩:=M2.obj j _ _ hOj hvb
          have hqw:appI wa wb=some (wa++wb):=by
           unfold appI
           rw[na.len,nb.len,if_pos hlim]
          refine qgq (T:=TVal e2) ho ht ni.hi ni.hz rfl (by rw[ni.h1];rfl) (by rw[ni.h1];rfl) rfl ni.hby (.inl ⟨_,hu⟩) rfl na.ow rfl nb.ow.ow.src M2.st hqw fun v' m' st' ow sm hap=> ?_
          have hba:blkV (ev fr x)=qag (ev fr x):=qam (by obtain ⟨a,c,hh⟩:=na.ow.ow.len;rw[hh];intro r;simp)
          have hbb:blkV (ev fr y)=qag (ev fr y):=qam (by obtain ⟨a,c,hh⟩:=nb.ow.ow.len;rw[hh];intro r;simp)
          have hbv:blkV v'=qag v':=qam (by obtain ⟨a,c,rfl⟩:=ow.ow.len;intro r;simp)
          have hapab:=M2.ap i j _ _ _ _ hij hOi hOj rfl rfl hva hvb
          rw[hba,hbb] at hapab
          have M3:=M2.turn (o':= .dead) hOi hva rfl (by rw[hba];exact sm) st' trivial
          have hOj':(O2.set i (.dead:Ob D))[j]? =some (.nest e2 t2 up2 xb none w2):=by rw[List.getElem?_set_ne hij];exact hOj
          have M4:=M3.turn (m':=m') (o':= .dead) hOj' hvb rfl ⟨Nat.le_refl _,st'.dead,fun _ _ _=>rfl⟩ st' trivial
          have left:∀(l:Nat) (p:Ob D) (w:Value),((O2.set i (.dead:Ob D)).set j .dead)[l]? =some p→vs[l]? =some w→p.live=true→O2[l]? =some p∧l≠i∧l≠j:=by
           intro l p w hl hw hp
           rw[List.getElem?_set] at hl
           split at hl
           ·split at hl
            ·cases hl;cases hp
            ·cases hl
           ·rename_i h1
            rw[List.getElem?_set] at hl
            split at hl
            ·split at hl
             ·cases hl;cases hp
             ·cases hl
            ·rename_i h2
             exact ⟨hl,fun hh=>h2 hh.symm,fun hh=>h1 hh.symm⟩
          generalize hzq:zre z2 e.next (bkV (ev fr x)) (bkV (ev fr y)) xa.length (bkV v')=z3
          have e1:∀b,(∀n j L t,z2 b≠ .lock n j L t)→z3 b=z2 b:=fun b hh=>by rw[←hzq];exact qp6 hh
          have hle:Zle z2 z3:=fun b hf=>e1 b fun n j L t hh=>by rw[hh] at hf;exact hf
          have hdd:∀b,z2 b= .dead→z3 b= .dead:=fun b hd=>by rw[e1 b (fun n j L t hh=>by rw[hd] at hh;cases hh),hd]
          have hzx:Zx e.next z2 z3:=⟨hle,fun b hlt=>by
           cases hz:z2 b with
           |lock n j L t=>rw[←hzq,qhw hz,if_neg (by omega),if_neg (by omega)]
           |_=>rw[e1 b (fun n j L t hh=>by rw[hz] at hh;cases hh),hz]⟩
          have hst:St z3 e m' k:=⟨fun b hb=>by
           cases hz:z2 b with
           |lock n j L t=>
            have h4:=st'.fz b (by rw[hz];simp)
            rw[hz] at h4
            rw[←hzq,qhw hz]
            split
            ·exact h4
            ·split
             ·exact h4
             ·exact h4
           |_=>
            have h3:=e1 b (fun n j L t hh=>by rw[hz] at hh;cases hh)
            rw[h3] at hb⊢
            exact st'.fz b hb,st'.dead,st'.dead0,st'.next,st'.kept⟩
          have M5:=M4.zlk hle hst hdd fun l p w hl hw hp b j' L t' hlk=>by
           obtain ⟨h1,h2,h3⟩:=left l p w hl hw hp
           have ne:∀{w0:Value} {l0:Nat} {p0:Ob D},l≠l0→O2[l0]? =some p0→p0.live=true→vs[l0]? =some w0→(∀r,w0≠ .map r)→bkV w≠0→bkV w≠bkV w0:=by
            intro w0 l0 p0 hne h4 h5 h6 h7 h8
            have hap:=M2.ap l l0 _ _ _ _ hne h1 h4 hp h5 hw h6
            by_cases hwm:∃r,w= .map r
            ·obtain ⟨r,rfl⟩:=hwm
             exact absurd qiF h8
            ·rw[qam (fun r hr=>hwm ⟨r,hr⟩),qam h7] at hap
             rcases qnD hap with hh|hh
             ·exact hh
             ·exact absurd hh h8
           have m1:∀r,ev fr x≠ .map r:=by obtain ⟨a,c,hh⟩:=na.ow.ow.len;rw[hh];intro r;simp
           have m2:∀r,ev fr y≠ .map r:=by obtain ⟨a,c,hh⟩:=nb.ow.ow.len;rw[hh];intro r;simp
           rw[←hzq,qhw hlk,hlk,if_neg fun hh=>ne h2 hOi rfl hva m1 hh.2.1 hh.2.2,if_neg fun hh=>ne h3 hOj rfl hvb m2 hh.2.1 hh.2.2]
          have hnew:ObOk X.G z3 e m' k (vs++[v']) (.nest e2 t2 up (xa++xb) none false:Ob D) v':=by
           refine ⟨up1,wa++wb,ow.zle hle (fun b hb=>hdd b (ow.ow.lt b hb).2▸((ow.ow.lt b hb).2).symm),by rw[List.length_append,List.length_append,na.len,nb.len],fun l w xs g1 g2 _=> ?_,fun p hp=>by cases hp⟩
           by_cases hl:l<xa.length
           ·rw[List.getElem?_append_left (by rw[na.len];exact hl)] at g1
            rw[List.getElem?_append_left hl] at g2
            rcases na.inn l w xs g1 g2 (fun p hp=>by cases hp) with hh|⟨b,f0,L,c,q1,q2,q3,q4,q5,q6⟩
            ·exact .inl hh
            ·have h0:=qlw na.ow (fun hh=>by rw[hh] at g1;simp at g1)
             refine .inr ⟨b,f0,L,c,q1,by rw[←hzq,qhw q2,if_pos ⟨q3,h0,rfl⟩],q3,q4,q5,fun i x hi=> ?_⟩
             obtain ⟨cs,r1,r2⟩:=q6 i x hi
             exact ⟨cs,(X.G.T t2).mono _ _ hle _ _ r1,r2⟩
           ·rw[List.getElem?_append_right (by rw[na.len];omega),na.len] at g1
            rw[List.getElem?_append_right (by omega)] at g2
            rcases nb.inn (l - xa.length) w xs g1 g2 (fun p hp=>by cases hp) with hh|⟨b,f0,L,c,q1,q2,q3,q4,q5,q6⟩
            ·exact .inl hh
            ·have h0:=qlw nb.ow (fun hh=>by rw[hh] at g1;simp at g1)
             have hne:bkV (ev fr y)≠bkV (ev fr x):=by
              rcases qnD hapab.symm with hh|hh
              ·exact hh
              ·exact absurd hh h0
             refine .inr ⟨b,f0,L,c,q1,by rw[←hzq,qhw q2,if_neg (fun hh=>hne hh.2.2),if_pos ⟨q3,h0,rfl⟩,show xa.length+(l - xa.length)=l by omega],q3,q4,q5,fun i x hi=> ?_⟩
             obtain ⟨cs,r1,r2⟩:=q6 i x hi
             exact ⟨cs,(X.G.T t2).mono _ _ hle _ _ r1,r2⟩
          have M6:=M5.pushAt hnew fun _ l p w hl hp hw=>by
           obtain ⟨h1,h2,h3⟩:=left l p w hl hw hp
           rw[hbv]
           refine hap _ (fun b hb=>((M2.obj l p w h1 hw).lt hp b hb).1) ?_
           have:=M2.ap l i _ _ _ _ h2 h1 hOi hp rfl hw hva
           rwa [hba] at this
          have hl6:((O2.set i (.dead:Ob D)).set j .dead).length=O2.length:=by simp
          refine ⟨z3,vs++[v'],_,_,(i1.trans i2).trans ((Inv.set O2 i (.inl rfl)).trans ((Inv.set _ j (.inl rfl)).trans (Inv.push _ _))),(x1.trans x2).trans hzx,qau,M6, ?_,h⟩
          have:=qa4 M5 ow.ow.len
          rwa [hl6] at this
         ·cases h
        ·cases h
       ·cases h
      ·cases h
     ·cases h
    ·cases h
  ·cases h
 ·cases h
end
end Go.AM
end
section
set_option linter.unusedSimpArgs false
set_option linter.unusedVariables false
namespace Go.AM
section
variable {P:Program} {D:Nat→Type} {X:Ev P D} {ρ:Type} {z z':Nat→Blk} {e m m':Mem} {k:Option Nat} {vs:List Value} {fr:Nat→Value} {E:List (Nat×SV D)} {O:List (Ob D)} {o:Oper} {r:ρ}
variable {x y:Operand} {t u:TypeId} {K:SV D→List (Ob D)→Option ρ}
def Chg (m m':Mem) (q:Option Nat):Prop:=m.next≤m'.next∧∀b,b<m.next→q≠some b→m'.blk b=m.blk b
def TgtQ (vs:List Value) (ts:List Nat) (q:Option Nat):Prop:=q=none∨∃i,i∈ts∧∃v,vs[i]? =some v∧q=blkV v
theorem StepX.mono {ρ:Operand→Value} {K K':Tag→Value→Mem→Prop} (h:StepX P ρ o m K) (hk:∀t v m',K t v m'→K' t v m'):StepX P ρ o m K':=by
 rcases h with ⟨v,h,g⟩|⟨v,I,h,g⟩|⟨v,h,g⟩|⟨Y,v,h,g⟩|⟨n,v,m',h,g⟩
 ·exact .inl ⟨v,h,hk _ _ _ g⟩
 ·exact .inr (.inl ⟨v,I,h,hk _ _ _ g⟩)
 ·exact .inr (.inr (.inl ⟨v,h,hk _ _ _ g⟩))
 ·exact .inr (.inr (.inr (.inl ⟨Y,v,h,hk _ _ _ g⟩)))
 ·exact .inr (.inr (.inr (.inr ⟨n,v,m',h,hk _ _ _ g⟩)))
def COk (X:Ev P D):Prop:=∀(f:Nat) (svs:List (SV D)) (O:List (Ob D)) {ρ:Type} (K:SV D→List (Ob D)→Option ρ) (r:ρ) {z:Nat→Blk} {e m:Mem} {k:Option Nat} {vs:List Value} (args:List Value),
 Mm X.G O z e m k vs→L2 (rel X.G z vs) svs args→X.C f svs O K=some r→CallW P f args.toArray m fun v m'=>Nxt X O z e k vs K r v m'∧(X.F f svs O=true→m'=m)∧(X.W f=false→∃q,Chg m m' q∧TgtQ vs (qbr svs) q)
theorem L2.caps {caps:List (Nat×List (CV D))} {gs:List Value} (h:L2 (fun c g=>relP X.G z vs c.2 0 g) caps gs):L2 (rel X.G z vs) (caps.map fun p=>SV.rp p.1 p.2 0) gs:=by
 induction caps generalizing gs with
 |nil=>cases gs with
  |nil=>trivial
  |cons _ _=>exact h.elim
 |cons c caps ih=>cases gs with
  |nil=>exact h.elim
  |cons g gs=>exact ⟨h.1,ih h.2⟩
theorem qdN {α:Type} {T:Ty α} {va:α→List Value} (hv:∀z x ds,T.rd z x ds→ds=va x) {L:List Value}:∀{xs:List α} {o:Nat},(∀(i:Nat) (x:α),xs[i]? =some x→∃cs,T.rd z x cs∧qbs L (o+i*T.sz) cs)→(∀x∈xs,(va x).length=T.sz)→
  ∀(i:Nat) (v:Value),(xs.flatMap va)[i]? =some v→L[o+i]? =some v
 |[],o,_,_,i,v,h=>by simp at h
 |x::xs,o,h,hl,i,v,hi=>by
  obtain ⟨cs,h1,h2⟩:=h 0 x rfl
  have:=hv _ _ _ h1
  subst this
  have hlx:=hl x List.mem_cons_self
  rw[List.flatMap_cons,List.getElem?_append] at hi
  split at hi
  ·have:=h2 i v hi
   rwa [Nat.zero_mul,Nat.add_zero] at this
  ·rename_i hge
   have:=qdN hv (xs:=xs) (o:=o+T.sz) (L:=L) (fun j y hj=>by
    obtain ⟨cs,g1,g2⟩:=h (j+1) y (by simpa using hj)
    exact ⟨cs,g1,by rw[Nat.add_mul,Nat.one_mul] at g2;rw[show o+T.sz+j*T.sz=o+(j*T.sz+T.sz) by omega];exact g2⟩) (fun y hy=>hl y (List.mem_cons_of_mem _ hy)) _ v hi
   rw[hlx] at this hge
   rw[show o+i=o+T.sz+(i - T.sz) by omega]
   exact this
theorem qiT {α:Type} {va:α→List Value} {n:Nat}:∀{xs:List α},(∀x∈xs,(va x).length=n)→∀(i j:Nat) (x:α) (v:Value),xs[i]? =some x→(va x)[j]? =some v→(xs.flatMap va)[i*n+j]? =some v
 |[],_,i,j,x,v,h,_=>by simp at h
 |y::xs,hl,0,j,x,v,h,hj=>by
  simp at h
  subst h
  rw[List.flatMap_cons,Nat.zero_mul,Nat.zero_add,List.getElem?_append_left (List.getElem?_eq_some_iff.1 hj).1]
  exact hj
 |y::xs,hl,i+1,j,x,v,h,hj=>by
  have hy:=hl y List.mem_cons_self
  rw[List.flatMap_cons,Nat.add_mul,Nat.one_mul,List.getElem?_append_right (by omega),show i*n+n+j - (va y).length=i*n+j by omega]
  exact qiT (fun x hx=>hl x (List.mem_cons_of_mem _ hx)) i j x v (by simpa using h) hj
theorem qdd {α:Type} {va:α→List Value} {n:Nat}:∀{xs:List α},(∀x∈xs,(va x).length=n)→(xs.flatMap va).length=xs.length*n
 |[],_=>by simp
 |x::xs,h=>by
  rw[List.flatMap_cons,List.length_append,h x List.mem_cons_self,qdd fun y hy=>h y (List.mem_cons_of_mem _ hy),List.length_cons,Nat.add_mul];omega
theorem qoG {svs:List (SV D)} {n:Nat} (h:sgB (qoF svs) n=true):∃s,svs=[s, .fn n []]:=by
 unfold qoF at h
 split at h
 ·rename_i s g
  obtain rfl:=Nat.eq_of_beq_eq_true h
  exact ⟨s,rfl⟩
 ·cases h
theorem qek {f:Nat} {caps:List (Nat×List (CV D))} {svs:List (SV D)} {si:SI P X.G}:∀{l:List (SI P X.G)},qiR X l f caps svs=some si→si.f=f∧caps=[]∧∃s,svs=[s, .fn si.g []]
 |[],h=>by cases h
 |s::l,h=>by
  unfold qiR at h
  by_cases hc:(Nat.beq s.f f&&(caps.isEmpty&&sgB (qoF svs) s.g))=true
  ·rw[if_pos hc] at h
   cases h
   simp only[Bool.and_eq_true] at hc
   exact ⟨Nat.eq_of_beq_eq_true hc.1,by simpa using hc.2.1,qoG hc.2.2⟩
  ·rw[if_neg hc] at h
   exact qek h
theorem qia {f:Nat} {svs:List (SV D)} {si:SI P X.G} {args:List Value} {caps:List (Nat×List (CV D))} (hf:qiR X X.S f caps svs=some si) (hM:Mm X.G O z e m k vs) (hL:L2 (rel X.G z vs) svs args) (h:qmK X si svs O K=some r):
  CallW P f args.toArray m fun v m'=>Nxt X O z e k vs K r v m'∧∃q,Chg m m' q∧TgtQ vs (qfE svs) q:=by
 obtain ⟨rfl,_,s,rfl⟩:=qek hf
 match args,hL with
 |[a1,a2],⟨h1,⟨gs,h2,h3⟩,_⟩=>
  have hgs:gs=[]:=by cases gs with
   |nil=>rfl
   |cons _ _=>exact h3.elim
  subst hgs
  subst h2
  unfold qmK at h
  split at h
  ·rename_i s' l hs
   cases hs
   have h1:a1= .slice none 0 0:=h1
   subst h1
   exact CallW.sort si.ok (.none none 0 si.g si.h0 rfl) ⟨Nxt.here (sv:= .tup []) hM ⟨[],rfl,trivial⟩ h,none,⟨Nat.le_refl _,fun _ _ _=>rfl⟩, .inl rfl⟩
  ·rename_i i l hs
   cases hs
   split at h
   ·rename_i t xs w ho
    split at h
    ·rename_i he
     subst he
     obtain ⟨ys,hy,h⟩:=bind_some h
     have hob:OwF (X.G.T si.e) z e m k xs a1:=hM.obj i _ a1 ho h1.1
     have hvl:∀x∈xs,(si.va x).length=(X.G.T si.e).sz:=fun x _=>(X.G.T si.e).len z x _ (si.hr z x)
     have hvl2:∀x∈ys,(si.va x).length=(X.G.T si.e).sz:=fun x _=>(X.G.T si.e).len z x _ (si.hr z x)
     have hn:=si.hn xs ys hy
     have hfl:∀l:List (D si.e),(l.flatMap si.va).all qah=true:=fun l=>by
      rw[List.all_eq_true]
      intro v hv
      obtain ⟨x,_,hx⟩:=List.mem_flatMap.1 hv
      exact List.all_eq_true.1 (si.hf x) v hx
     rcases hob.ow with ⟨rfl,rfl⟩|⟨b,f0,L,c,rfl,g1,g2,g3,g4,g5,g6⟩
     ·have hy0:ys=[]:=List.eq_nil_of_length_eq_zero (by rw[hn];rfl)
      subst hy0
      refine CallW.sort si.ok (.none none 0 si.g si.h0 rfl) ⟨⟨z,vs, .tup [],_,Inv.set O i (.inr rfl),Zx.refl z,fun _ _ h=>h, ?_,⟨[],rfl,trivial⟩,h⟩,none,⟨Nat.le_refl _,fun _ _ _=>rfl⟩, .inl rfl⟩
      exact hM.turn (m':=m) ho h1.1 rfl ⟨Nat.le_refl _,hM.st.dead,fun _ _ _=>rfl⟩ hM.st hob
     ·by_cases hl0:xs.length=0
      ·have hx0:xs=[]:=List.eq_nil_of_length_eq_zero hl0
       subst hx0
       have hy0:ys=[]:=List.eq_nil_of_length_eq_zero (by rw[hn];rfl)
       subst hy0
       refine CallW.sort si.ok (.none _ c si.g si.h0 rfl) ⟨⟨z,vs, .tup [],_,Inv.set O i (.inr rfl),Zx.refl z,fun _ _ h=>h, ?_,⟨[],rfl,trivial⟩,h⟩,none,⟨Nat.le_refl _,fun _ _ _=>rfl⟩, .inl rfl⟩
       exact hM.turn (m':=m) ho h1.1 rfl ⟨Nat.le_refl _,hM.st.dead,fun _ _ _=>rfl⟩ hM.st hob
      ·have hlF:=qdd hvl
       have hlF':=qdd hvl2
       have hlen:(setN L f0 (ys.flatMap si.va)).length=L.length:=qax _ _ _
       have hq:=hob.hq b rfl
       have hsame:Same m (m.put b (.own (setN L f0 (ys.flatMap si.va)) (X.G.T si.e).tid)) (some b):=by
        refine ⟨Nat.le_refl _,fun c hc=> ?_,fun c hc hk=> ?_⟩
        ·have hc:m.next≤c:=hc
         simp only[Mem.put]
         rw[if_neg (by omega)]
         exact hM.st.dead c hc
        ·simp only[Mem.put]
         rw[if_neg (fun hcb=>hk (by rw[hcb]))]
       refine CallW.sort si.ok (.row b f0 xs.length c si.g L (X.G.T si.e).tid (xs.flatMap si.va) (ys.flatMap si.va) (si.hs xs ys hy (by omega)) rfl (by omega) g1 ?_ (by rw[hlF];exact g4) (by rw[hlF,hlF',hn]) (hfl _) (hfl _)) ⟨⟨z,vs, .tup [],_,Inv.set O i (.inr rfl),Zx.refl z,fun _ _ h=>h, ?_,⟨[],rfl,trivial⟩,h⟩,some b,⟨Nat.le_refl _,hsame.blk⟩, .inr ⟨i,by simp[qfE],_,h1.1,rfl⟩⟩
       ·refine List.ext_getElem? fun j=> ?_
        rw[List.getElem?_take]
        split
        ·rename_i hj
         rw[List.getElem?_drop]
         have hv:=List.getElem?_eq_getElem hj
         rw[hv]
         exact qdN si.hv (fun i x hx=>g6 i x hx) hvl j _ hv
        ·rename_i hj
         rw[List.getElem?_eq_none (by omega)]
       ·refine hM.turn ho h1.1 rfl hsame (hM.st.put _ g3 g2 hq.2) ⟨.inr ⟨b,f0,setN L f0 (ys.flatMap si.va),c,by rw[hn],by simp[Mem.put],g2,g3,by rw[hn,hlen];exact g4,by rw[hn,hlen];exact g5,fun i x hx=> ?_⟩,hob.fresh⟩
        refine ⟨si.va x,si.hr z x,fun j v hj=> ?_⟩
        have hk:=qiT hvl2 i j x v hx hj
        rw[qaR _ _ _ _ (by rw[hlF',hn];exact g4)]
        have hlt:=(List.getElem?_eq_some_iff.1 hk).1
        rw[if_pos (by omega),show f0+i*(X.G.T si.e).sz+j - f0=i*(X.G.T si.e).sz+j by omega]
        exact hk
    ·cases h
   ·cases h
  ·cases h
 |[],h=>exact h.elim
 |[_],⟨_,h⟩=>exact h.elim
 |_::_::_::_,⟨_,_,h⟩=>exact h.elim
theorem qjT:∀{is:List Nat} {gs:List Value},L2 (capR vs) is gs→L2 (rel X.G z vs) (is.map fun i=>SV.box i 0) gs
 |[],[],_=>trivial
 |[],_::_,h=>h.elim
 |_::_,[],h=>h.elim
 |_::_,_::_,⟨⟨h0,b,h⟩,h2⟩=>⟨⟨b,by subst h;exact h0,h⟩,qjT h2⟩
theorem qmz (hC:COk X) {c:Call} (ho:o.op= .call c) (hM:Mm X.G O z e m k vs) (hE:∀x,rel X.G z vs (sop E x) (ev fr x)) (h:qcS X c E O K=some r):StepX P (ev fr) o m fun _ v m'=>Nxt X O z e k vs K r v m':=by
 obtain ⟨ce,as,ts⟩:=c
 cases ce with
 |invoke r m=>cases h
 |value f=>
  simp only[qcS] at h
  split at h
  ·rename_i f' caps hf
   have hfr:=hE f
   rw[hf] at hfr
   obtain ⟨gs,hfv,hg⟩:=hfr
   split at h
   ·rename_i si hsi
    have hcaps:caps=[]:=(qek hsi).2.1
    subst hcaps
    have hgs:gs=[]:=by cases gs with
     |nil=>rfl
     |cons _ _=>exact hg.elim
    subst hgs
    refine StepX.call (qdg (args:=(as.toList.map (ev fr)).toArray) (caps:=#[]) ho hfv (by apply Array.ext';simp) rfl) ?_
    have:=(qia hsi hM (qc0 hE) h).mono fun _ _ h=>h.1
    simpa using this
   refine StepX.call (qdg (args:=(as.toList.map (ev fr)).toArray) (caps:=gs.toArray) ho hfv (by apply Array.ext';simp) rfl) ?_
   have:=(hC f' _ O K r (as.toList.map (ev fr)++gs) hM ((qc0 hE).append hg.caps) h).mono fun _ _ h=>h.1
   simpa using this
  ·rename_i f' is hf
   have hfr:=hE f
   rw[hf] at hfr
   obtain ⟨gs,hfv,hg⟩:=hfr
   refine StepX.call (qdg (args:=(as.toList.map (ev fr)).toArray) (caps:=gs.toArray) ho hfv (by apply Array.ext';simp) rfl) ?_
   have:=(hC f' _ O K r (as.toList.map (ev fr)++gs) hM ((qc0 hE).append (qjT hg)) h).mono fun _ _ h=>h.1
   simpa using this
  ·cases h
 |builtin b=>
  cases b with
  |len=>
   simp only[qcS] at h
   split at h
   ·rename_i x t ha ht
    have ha':as=#[x]:=by cases as;simp at ha;subst ha;rfl
    have ht':ts=#[t]:=by cases ts;simp at ht;subst ht;rfl
    subst ha' ht'
    exact qoe (ts:=#[t]) ho hM (hE x) h
   ·cases h
  |append=>
   simp only[qcS] at h
   split at h
   ·rename_i x y t u ha ht
    have ha':as=#[x,y]:=by cases as;simp at ha;subst ha;rfl
    have ht':ts=#[t,u]:=by cases ts;simp at ht;subst ht;rfl
    subst ha' ht'
    split at h
    ·rename_i hu
     exact qkW ho hu hM (hE x) (hE y) h
    split at h
    ·exact qmy ho hM (hE x) (hE y) h
    have hx:=hE x
    split at h
    ·rename_i i hi
     rw[hi] at hx
     split at h
     ·exact qmw ho hM hx (hE y) h
     ·rw[hi] at h
      exact qkj ho hM hx (hE y) h
    ·exact qkj ho hM hx (hE y) h
   ·cases h
  |cap=>
   simp only[qcS] at h
   split at h
   ·rename_i x t ha ht
    have ha':as=#[x]:=by cases as;simp at ha;subst ha;rfl
    have ht':ts=#[t]:=by cases ts;simp at ht;subst ht;rfl
    subst ha' ht'
    split at h
    ·rename_i te hx hu
     have hv:=hE x
     rw[hx] at hv
     exact StepX.pure (.capNil x t te ho hu hv) (Nxt.here (sv:= .c (.int .i64 0)) hM rfl h)
    ·cases h
   ·cases h
  |max=>
   simp only[qcS] at h
   split at h
   ·rename_i x y ha
    have ha':as=#[x,y]:=by cases as;simp at ha;subst ha;rfl
    subst ha'
    have hx:=hE x
    have hy:=hE y
    split at h
    ·rename_i k1 a k2 b h1 h2
     rw[h1] at hx
     rw[h2] at hy
     split at h
     ·rename_i hk
      subst hk
      exact qav hM h (qw1 ho hx hy) rfl
     ·cases h
    ·cases h
   ·cases h
  |min=>
   simp only[qcS] at h
   split at h
   ·rename_i x y ha
    have ha':as=#[x,y]:=by cases as;simp at ha;subst ha;rfl
    subst ha'
    have hx:=hE x
    have hy:=hE y
    split at h
    ·rename_i k1 a k2 b h1 h2
     rw[h1] at hx
     rw[h2] at hy
     split at h
     ·rename_i hk
      subst hk
      exact qav hM h (qw2 ho hx hy) rfl
     ·cases h
    ·cases h
   ·cases h
  |_=>cases h
theorem qnZ {s:SV D} {v:Value} {p:LM D} (hM:Mm X.G O z e m k vs) (h:qqQ O s=some p) (hv:rel X.G z vs s v):MpR (X.G.M p.u p.kt p.vt) z p.es v∨OwM (X.G.M p.u p.kt p.vt) z e m k p.es v:=by
 unfold qqQ at h
 split at h
 ·cases h;exact .inl hv
 ·split at h
  ·rename_i u kt vt es fz w1 ho
   cases h
   have hob:=hM.obj _ _ v ho hv.1
   cases fz with
   |true=>exact .inl hob
   |false=>exact .inr hob
  ·cases h
 ·cases h
theorem qki (hC:COk X) {op:Op} (ho:o.op=op) (hM:Mm X.G O z e m k vs) (hE:∀x,rel X.G z vs (sop E x) (ev fr x)) (h:op1 X op E O K=some r):StepX P (ev fr) o m fun _ v m'=>Nxt X O z e k vs K r v m':=by
 cases op with
 |move x=>exact qav hM h (qw3 ho rfl) (hE x)
 |assign x=>exact qav hM h (qq5 ho rfl) (hE x)
 |nilCheck x=>
  have hx:=hE x
  simp only[op1] at h
  split at h
  ·rename_i i off hs
   have hx':=hx
   rw[hs] at hx'
   obtain ⟨b,_,hv⟩:=hx'
   exact qav hM h (by rw[hv];exact .nilCheck x _ ho hv) hx
  ·rename_i i hs
   have hx':=hx
   rw[hs] at hx'
   obtain ⟨b,l,_,hv⟩:=hx'
   exact qav hM h (by rw[hv];exact .nilCheck x _ ho hv) hx
  ·rename_i i e1 ix off hs
   have hx':=hx
   rw[hs] at hx'
   obtain ⟨b,f0,l,c,_,hv⟩:=hx'
   exact qav hM h (by rw[hv];exact .nilCheck x _ ho hv) hx
  ·rename_i t cs off hs
   have hx':=hx
   rw[hs] at hx'
   obtain ⟨b,o1,ds,hv,_⟩:=hx'
   exact qav hM h (by rw[hv];exact .nilCheck x _ ho hv) hx
  ·cases h
 |extract x i=>
  have hx:=hE x
  simp only[op1] at h
  split at h
  ·rename_i l hs
   rw[hs] at hx
   obtain ⟨ds,hv,hl⟩:=hx
   split at h
   ·rename_i c hc
    obtain ⟨w,hw,hr⟩:=hl.get i _ hc
    exact qav hM h (qkn ho hv hw) hr
   ·rename_i p hc
    obtain ⟨w,hw,hr⟩:=hl.get i _ hc
    exact qav hM h (qkn ho hv hw) hr
   ·cases h
  ·cases h
 |pick c a b=>
  have hc:=hE c
  simp only[op1] at h
  split at h
  ·rename_i hs
   rw[hs] at hc
   exact qav hM h (qsO (t:=true) ho hc (if_pos rfl)) (hE a)
  ·rename_i hs
   rw[hs] at hc
   exact qav hM h (qsO (t:=false) ho hc (if_neg (by simp))) (hE b)
  ·cases h
 |binOp op t x y u=>
  simp only[op1] at h
  have hx:=hE x
  have hy:=hE y
  split at h
  ·rename_i t1 c1 t2 c2 h1 h2
   rw[h1] at hx
   rw[h2] at hy
   obtain ⟨c,v,hK,hp,hr⟩:=qr9 ho hx hy h
   exact qav hM hK hp hr
  ·obtain ⟨c,v,hK,hp,hr⟩:=qqf ho hM hx hy h
   exact qav hM hK hp hr
 |unOp op t x=>
  have hx:=hE x
  cases op with
  |not=>
   simp only[op1] at h
   split at h
   ·rename_i b hs
    rw[hs] at hx
    exact qav hM h (pNot ho hx) rfl
   ·cases h
  |neg=>
   simp only[op1] at h
   split at h
   ·rename_i kk a hs
    rw[hs] at hx
    exact qav hM h (pNeg ho hx) rfl
   ·cases h
  |_=>simp[op1] at h
 |convert s t x=>exact qmB ho hM (hE x) h
 |indexAddr t x y=>exact qod ho hM (hE x) (hE y) h
 |fieldAddr t x n=>exact qob ho hM (hE x) h
 |load t x=>
  simp only[op1] at h
  split at h
  ·unfold qmH at h
   refine (qh9 ho hM (hE x) h).mono fun _ v m' hn=> ?_
   obtain ⟨z1,vs1,sv,O1,h0,h1,h2,h3,h4,h5⟩:=hn
   dsimp only at h5
   split at h5
   ·rename_i j
    split at h5
    ·rename_i c O2 hf
     obtain ⟨z2,a1,a2,a3,a4⟩:=qlQ h3 hf h4.1
     exact ⟨z2,vs1, .c c,O2,h0.trans a1,h1.trans a2,h2,a3,a4,h5⟩
    ·cases h5
   ·cases h5
  ·exact qh9 ho hM (hE x) h
 |store t x y=>exact qk1 ho hM (hE x) (hE y) h
 |alloc t=>exact qkV ho hM h
 |box t x=>
  simp only[op1] at h
  split at h
  ·rename_i i cs hi hc
   split at h
   ·rename_i hl
    exact qn9 ho hM (hE x) hi hc hl h
   ·cases h
  ·cases h
 |makeSlice t x y=>
  have hx:=hE x
  simp only[op1] at h
  split at h
  ·rename_i tt kk n ht hs
   rw[hs] at hx
   split at h
   ·exact qk0 ho ht hM hx h
   ·split at h
    ·rename_i ti hI hxy
     exact qmJ ho ht hM hx hxy h
    ·cases h
  ·cases h
 |buildSlice t l ps=>
  simp only[op1] at h
  split at h
  ·exact qog ho hM hE h
  ·split at h
   ·rename_i tt ht
    split at h
    ·rename_i ti hI
     exact qkY ho ht hM hE h
    ·cases h
   ·cases h
 |build t ps=>
  simp only[op1] at h
  split at h
  ·rename_i fs ti ht hI
   split at h
   ·rename_i hp
    split at h
    ·rename_i cs hc
     exact qi7 ho ht hM hE hp hc h
    ·cases h
   ·cases h
  ·rename_i n ee ti ht hI
   split at h
   ·rename_i kk hk
    split at h
    ·rename_i cs hc
     exact qkX ho ht hk hM hE hc h
    ·cases h
   ·cases h
  ·cases h
 |slice t x lo hi mx=>
  cases mx with
  |none=>exact qmD ho hM hE (hE x) h
  |some mx=>
   cases lo with
   |some _=>simp[op1] at h
   |none=>
    cases hi with
    |none=>simp[op1] at h
    |some y=>exact qmF ho hM hE h
 |index t x y=>
  have hx:=hE x
  have hy:=hE y
  simp only[op1] at h
  split at h
  ·rename_i s kk n ht h1 h2
   rw[h1] at hx
   rw[h2] at hy
   obtain ⟨c,hc,h⟩:=bind_some h
   exact qqK ho ht hx hy hc (Nxt.here (sv:= .c (.int .u8 (UInt8.toNat c:Int))) hM rfl h)
  ·cases h
 |makeFunc fn first cap=>
  cases fn with
  |func f=>
   simp only[op1] at h
   split at h
   ·split at h
    ·rename_i is hf hc
     exact qoc ho hf hM hE hc h
    ·cases h
   ·split at h
    ·rename_i caps O1 hf hc
     exact qqZ ho hf hM hE hc h
    ·cases h
  |_=>simp[op1] at h
 |makeMap t rs=>
  cases rs with
  |none=>
   simp only[op1] at h
   split at h
   ·rename_i kt vt ht
    exact qof ho ht hM h
   ·cases h
  |some _=>simp[op1] at h
 |lookup t x y ok=>
  have hx:=hE x
  have hy:=hE y
  simp only[op1] at h
  split at h
  ·rename_i u kt vt es hl
   have hm:=qnZ hM hl hx
   split at h
   ·rename_i k1 v1 k2 v2 ht hu
    split at h
    ·rename_i heq
     obtain ⟨rfl,rfl,rfl,rfl⟩:=heq
     split at h
     ·rename_i mi hJ
      split at h
      ·rename_i a ha
       exact qmI ho ht hu hM hm hy ha h
      ·cases h
     ·cases h
    ·cases h
   ·cases h
  ·cases h
 |mapUpdate t x y w=>
  have hx:=hE x
  have hy:=hE y
  have hw:=hE w
  simp only[op1] at h
  split at h
  ·rename_i i d h1 h3
   rw[h1] at hx
   rw[h3] at hw
   split at h
   ·rename_i u kt vt es w1 hO
    split at h
    ·rename_i k1 v1 k2 v2 ht hu
     split at h
     ·rename_i heq
      obtain ⟨rfl,rfl,rfl,rfl⟩:=heq
      split at h
      ·rename_i mi hJ
       split at h
       ·rename_i a b ha hb
        exact qkl (.inl ho) ht hu hM hO hx.1 hy hw ha hb h
       ·cases h
      ·cases h
     ·cases h
    ·cases h
   ·cases h
  ·cases h
 |insert t x y w=>
  have hx:=hE x
  have hy:=hE y
  have hw:=hE w
  simp only[op1] at h
  split at h
  ·rename_i i d h1 h3
   rw[h1] at hx
   rw[h3] at hw
   split at h
   ·rename_i u kt vt es w1 hO
    split at h
    ·rename_i k1 v1 k2 v2 ht hu
     split at h
     ·rename_i heq
      obtain ⟨rfl,rfl,rfl,rfl⟩:=heq
      split at h
      ·rename_i mi hJ
       split at h
       ·rename_i a b ha hb
        exact qkl (.inr ho) ht hu hM hO hx.1 hy hw ha hb h
       ·cases h
      ·cases h
     ·cases h
    ·cases h
   ·cases h
  ·cases h
 |call c=>exact qmz hC ho hM hE h
 |_=>simp[op1] at h
end
end Go.AM
end
section
set_option linter.unusedSimpArgs false
set_option linter.unusedVariables false
namespace Go.AM
section
variable {P:Program} {D:Nat→Type} {X:Ev P D} {ρ:Type} {z z':Nat→Blk} {e m m':Mem} {k:Option Nat} {vs vs':List Value} {fr:Nat→Value} {E:List (Nat×SV D)} {O O':List (Ob D)} {o:Oper} {r:ρ}
theorem ite_some {α:Type} {p:Prop} [Decidable p] {a:Option α} {x:α} (h:(if p then a else none)=some x):p∧a=some x:=by
 split at h
 ·exact ⟨‹_›,h⟩
 ·cases h
theorem Chg.refl (m:Mem):Chg m m none:=⟨Nat.le_refl _,fun _ _ _=>rfl⟩
theorem Chg.push (m:Mem) (Y:Blk):Chg m (m.push Y) none:=⟨Nat.le_succ _,fun b hb _=>if_neg (by omega)⟩
theorem Chg.put (m:Mem) (c:Nat) (Y:Blk):Chg m (m.put c Y) (some c):=⟨Nat.le_refl _,fun b hb hn=>if_neg (fun h=>hn (by rw[h]))⟩
theorem Chg.any (h:Chg m m' none) (q:Option Nat):Chg m m' q:=⟨h.1,fun b hb _=>h.2 b hb (by simp)⟩
theorem StepX.monoE {ρ:Operand→Value} {K K':Tag→Value→Mem→Prop} (h:StepX P ρ o m K)
  (h1:∀v,PureR P ρ o v→(∃t,K t v m)→K' .pure v m) (h2:∀v,ReadR P ρ o m v→K (.read fun m=>ReadR P ρ o m v) v m→K' (.read fun m=>ReadR P ρ o m v) v m)
  (h3:∀Y v,NewR P ρ o m.next Y v→K .new v (m.push Y)→K' .new v (m.push Y)) (h4:∀n v m',EffR P (qba P n) ρ o m v m'→K .eff v m'→K' .eff v m'):StepX P ρ o m K':=by
 rcases h with ⟨v,h,g⟩|⟨v,I,h,g⟩|⟨v,h,g⟩|⟨Y,v,h,g⟩|⟨n,v,m',h,g⟩
 ·exact .inl ⟨v,h,h1 v h ⟨_,g⟩⟩
 ·exact .inl ⟨v,h,h1 v h ⟨_,g⟩⟩
 ·exact .inr (.inr (.inl ⟨v,h,h2 v h g⟩))
 ·exact .inr (.inr (.inr (.inl ⟨Y,v,h,h3 Y v h g⟩)))
 ·exact .inr (.inr (.inr (.inr ⟨n,v,m',h,h4 n v m' h g⟩)))
theorem qqs {C:FuncId→Array Value→Mem→Value→Mem→Prop} {v:Value} (hE:∀x,rel X.G z vs (sop E x) (ev fr x)) (h:EffR P C (ev fr) o m v m') {ts:List Nat} (ht:qin X E o.op=some ts)
  (hv:∀x as tys,o.op≠ .call {callee:= .value x,args:=as,argTypes:=tys}):∃q,Chg m m' q∧TgtQ vs ts q:=by
 cases h with
 |store t x y b off i L e h hx hi hm hv hs hl=>
  simp only[qin,h] at ht
  have hr:=hE x
  split at ht
  ·rename_i j p hs
   cases ht
   rw[hs] at hr
   obtain ⟨b',g1,g2⟩:=hr
   rw[hx] at g2;cases g2
   exact ⟨_,Chg.put m b _, .inr ⟨j,by simp,_,g1,rfl⟩⟩
  ·rename_i j u ix p hs
   cases ht
   rw[hs] at hr
   obtain ⟨b',f0,l,c,g1,g2⟩:=hr
   rw[hx] at g2;cases g2
   exact ⟨_,Chg.put m b _, .inr ⟨j,by simp,_,g1,rfl⟩⟩
  ·cases ht
 |call f args v m' h hC=>
  obtain ⟨x,as,tys,first,cap,h,_⟩:=h
  exact absurd h (hv x as tys)
 |appendNone x y t u e i a l c h _ _ _ _ _ _=>exact ⟨none,Chg.refl _, .inl rfl⟩
 |appendNew x y t u e i z a l c n old new h _ _ _ _ _ _ _ _ _ _ _ _ _ _=>exact ⟨none,Chg.push _ _, .inl rfl⟩
 |appendIn x y t u e i b off l c n L new h _ _ hx _ hcl hmL _ hnl _=>
  simp only[qin,h] at ht
  have hr:=hE x
  split at ht
  ·rename_i hs
   rw[hs] at hr
   have hr:ev fr x= .slice none 0 0:=hr
   rw[hx] at hr;cases hr
  ·rename_i j hs
   cases ht
   rw[hs] at hr
   exact ⟨_,Chg.put m b _, .inr ⟨j,by simp,_,hr.1,by rw[hx];rfl⟩⟩
  ·rename_i j _ _ _ hs
   cases ht
   rw[hs] at hr
   obtain ⟨w,g1,g2⟩:=hr
   exact ⟨_,Chg.put m b _, .inr ⟨j,by simp,_,g1.1,by rw[←g2.blk,hx];rfl⟩⟩
  ·rename_i hs
   cases ht
   rw[hs] at hr
   obtain ⟨_,_,a,ha⟩:=hr
   rw[hx] at ha
   cases ha
   have h0:n=0:=by omega
   have hnil:new=[]:=List.eq_nil_of_length_eq_zero (by rw[hnl,h0,Nat.zero_mul])
   subst hnil
   refine ⟨none,⟨Nat.le_refl _,fun c _ _=> ?_⟩, .inl rfl⟩
   simp only[Mem.put,setN]
   split
   ·rename_i hcb;rw[hcb,hmL]
   ·rfl
  ·cases ht
 |append x y t u e i z b off l n L new h _ _ _ _ _ _ hx _ _ _ _ _ _=>
  simp only[qin,h] at ht
  have hr:=hE x
  have hc:Chg m ((m.put b .dead).push (.own ((L.drop off).take (l*i.size)++new) e)) (some b):=by
   have:=Chg.put m b .dead
   exact ⟨Nat.le_succ _,fun c hc hn=>by rw[show ((m.put b .dead).push _).blk c=(m.put b .dead).blk c from if_neg (by show c≠m.next;omega)];exact this.2 c hc hn⟩
  split at ht
  ·rename_i hs
   rw[hs] at hr
   have hr:ev fr x= .slice none 0 0:=hr
   rw[hx] at hr;cases hr
  ·rename_i j hs
   cases ht
   rw[hs] at hr
   exact ⟨_,hc, .inr ⟨j,by simp,_,hr.1,by rw[hx];rfl⟩⟩
  ·rename_i j _ _ _ hs
   cases ht
   rw[hs] at hr
   obtain ⟨w,g1,g2⟩:=hr
   exact ⟨_,hc, .inr ⟨j,by simp,_,g1.1,by rw[←g2.blk,hx];rfl⟩⟩
  ·rename_i hs
   cases ht
   rw[hs] at hr
   obtain ⟨_,hB,a,ha⟩:=hr
   rw[hx] at ha
   injection ha with _ h1 h2
   rw[←h2] at hB
   exact absurd hB (Nat.lt_irrefl _)
  ·cases ht
 |copy x y t u e i b off l c L cs h _ _ _ _ _ _ _=>simp[qin,h] at ht
 |mapUpdate xt x kx vx u kt vt b L kc vc F F' good h _ _ hx _ _ _ _ _ _ _ _ _ _ _ _ _ _ _=>
  have hr:=hE x
  have ht:(match sop E x with| .c (.own j)=>some [j]|_=>none)=some ts:=by rcases h with h|h<;>(rw[h] at ht;exact ht)
  split at ht
  ·rename_i j hs
   cases ht
   rw[hs] at hr
   exact ⟨_,Chg.put m b _, .inr ⟨j,by simp,_,hr.1,by rw[hx];rfl⟩⟩
  ·cases ht
theorem qfs {caps:List (Nat×List (CV D))}:∀{l:List (SV D)},qbr (l++caps.map fun p=>SV.rp p.1 p.2 0)=qbr l
 |[]=>by
  induction caps with
  |nil=>rfl
  |cons c caps ih=>exact ih
 |s::l=>by
  cases s<;>simp only[List.cons_append,qbr,qfs (l:=l)]
theorem qsK (hC:COk X) {K:SV D→List (Ob D)→Option ρ} (hM:Mm X.G O z e m k vs) (hE:∀x,rel X.G z vs (sop E x) (ev fr x)) (hef:qbl o.op=true) {ts:List Nat} (ht:qin X E o.op=some ts) (h:op1 X o.op E O K=some r):
  StepX P (ev fr) o m fun _ v m'=>Nxt X O z e k vs K r v m'∧(qbw X E O o.op=true→m'=m)∧∃q,Chg m m' q∧TgtQ vs ts q:=by
 have nq:(∀x as tys,o.op≠ .call {callee:= .value x,args:=as,argTypes:=tys})→∀{p:Prop},qbw X E O o.op=true→p:=fun hv p hq=>by
  unfold qbw at hq
  split at hq
  ·rename_i c hc
   split at hq
   ·rename_i f hf
    obtain ⟨ce,as,ts⟩:=c
    exact absurd (by rw[hc];simp only at hf;rw[hf]) (hv f as ts)
   ·cases hq
  ·cases hq
 have gen:(∀x as tys,o.op≠ .call {callee:= .value x,args:=as,argTypes:=tys})→StepX P (ev fr) o m fun _ v m'=>Nxt X O z e k vs K r v m'∧(qbw X E O o.op=true→m'=m)∧∃q,Chg m m' q∧TgtQ vs ts q:=fun hv=>
  (qki hC rfl hM hE h).monoE (fun v _ ⟨_,hk⟩=>⟨hk,fun _=>rfl,none,Chg.refl _, .inl rfl⟩) (fun v _ hk=>⟨hk,fun _=>rfl,none,Chg.refl _, .inl rfl⟩) (fun Y v _ hk=>⟨hk,nq hv,none,Chg.push _ _, .inl rfl⟩) fun n v m' he hk=>⟨hk,nq hv,qqs hE he ht hv⟩
 by_cases hv:∀x as tys,o.op≠ .call {callee:= .value x,args:=as,argTypes:=tys}
 ·exact gen hv
 ·simp only[Classical.not_forall,ne_eq,Classical.not_not] at hv
  obtain ⟨f,as,tys,ho⟩:=hv
  rw[ho] at h ht
  simp only[qin] at ht
  have h:qcS X {callee:= .value f,args:=as,argTypes:=tys} E O K=some r:=h
  simp only[qcS] at h
  split at h
  ·rename_i f' caps hf
   rw[hf] at ht
   simp only at ht
   have hfr:=hE f
   rw[hf] at hfr
   obtain ⟨gs,hfv,hg⟩:=hfr
   split at h
   ·rename_i si hsi
    rw[hsi] at ht
    cases ht
    have hcaps:caps=[]:=(qek hsi).2.1
    subst hcaps
    have hgs:gs=[]:=by cases gs with
     |nil=>rfl
     |cons _ _=>exact hg.elim
    subst hgs
    refine StepX.call (qdg (args:=(as.toList.map (ev fr)).toArray) (caps:=#[]) ho hfv (by apply Array.ext';simp) rfl) ?_
    have hq:qbw X E O o.op=false:=by
     rw[ho]
     simp only[qbw,hf,hsi]
    rw[hq]
    have:=(qia hsi hM (qc0 hE) h).mono fun v m' (h:_∧_)=>(⟨h.1,fun hh=>Bool.noConfusion hh,h.2⟩:Nxt X O z e k vs K r v m'∧(false=true→m'=m)∧∃q,Chg m m' q∧TgtQ vs (qfE (as.toList.map (sop E))) q)
    simpa using this
   rename_i hsn
   rw[hsn] at ht
   simp only at ht
   split at ht
   ·cases ht
   rename_i hw
   have hw:X.W f'=false:=by simpa using hw
   cases ht
   refine StepX.call (qdg (args:=(as.toList.map (ev fr)).toArray) (caps:=gs.toArray) ho hfv (by apply Array.ext';simp) rfl) ?_
   have:=(hC f' _ O K r (as.toList.map (ev fr)++gs) hM ((qc0 hE).append hg.caps) h).mono fun v m' hh=>(⟨hh.1,hh.2.1,hh.2.2 hw⟩:_∧_∧_)
   rw[qfs] at this
   have hq:qbw X E O o.op=X.F f' (as.toList.map (sop E)++caps.map fun p=> .rp p.1 p.2 0) O:=by
    rw[ho]
    simp only[qbw,hf,hsn]
   rw[hq]
   simpa using this
  ·rename_i f' is hf
   rw[hf] at ht
   cases ht
  ·cases h
theorem qgf {C:FuncId→Array Value→Mem→Value→Mem→Prop} (hC:∀f args m v m',C f args m v m'→m.next≤m'.next) {ρ:Operand→Value} {v:Value} (h:EffR P C ρ o m v m'):m.next≤m'.next:=by
 cases h with
 |call f args v m' h hc=>exact hC _ _ _ _ _ hc
 |appendNew=>exact Nat.le_succ _
 |append=>exact Nat.le_succ _
 |_=>exact Nat.le_refl _
theorem qnp {C:FuncId→Array Value→Mem→Value→Mem→Prop} (hC:∀f args m v m',C f args m v m'→m.next≤m'.next) {ρ:Operand→Value} {v:Value} (h:StepR P C ρ o m v m'):m.next≤m'.next:=by
 cases h with
 |new h=>exact Nat.le_succ _
 |eff h=>exact qgf hC h
 |_=>exact Nat.le_refl _
theorem qgS {C:FuncId→Array Value→Mem→Value→Mem→Prop} (hC:∀f args m v m',C f args m v m'→m.next≤m'.next) {ops:List Oper}:∀{l:List Oper} {fr fr':Nat→Value} {m m':Mem},seqR P C ops l fr m fr' m'→m.next≤m'.next
 |[],_,_,_,_,⟨_,h⟩=>by rw[h];exact Nat.le_refl _
 |o::l,fr,fr',m,m',h=>by
  unfold seqR at h
  split at h
  ·obtain ⟨v,m1,h1,h2⟩:=h
   exact Nat.le_trans (qnp hC h1) (qgS hC h2)
  ·exact qgS hC h
theorem qbK {C:FuncId→Array Value→Mem→Value→Mem→Prop} (hC:∀f args m v m',C f args m v m'→m.next≤m'.next) {ops:List Oper} {B:Array Nat}:∀{l:List Oper} {i:Nat} {A:Acc} {fr fr':Nat→Value} {m m':Mem},qaK P C ops B i l A fr m fr' m'→m.next≤m'.next
 |[],_,_,_,_,_,_,⟨_,h⟩=>by rw[h];exact Nat.le_refl _
 |o::l,i,A,fr,fr',m,m',h=>by
  unfold qaK at h
  split at h
  ·rcases h with ⟨v,_,h⟩|⟨v,_,_,h⟩|⟨Y,v,_,h⟩|⟨v,m1,h1,_,_,h⟩
   ·exact qbK hC h
   ·exact qbK hC h
   ·exact Nat.le_trans (Nat.le_succ _) (qbK hC h)
   ·exact Nat.le_trans (qgf hC h1) (qbK hC h)
  ·exact qbK hC h
theorem qhJ {C:FuncId→Array Value→Mem→Value→Mem→Prop} (hC:∀f args m v m',C f args m v m'→m.next≤m'.next):∀(n:Nat) {c:Code} {fr fr':Nat→Value} {m m':Mem} {e:AExit},qbY P C n c fr m e fr' m'→m.next≤m'.next:=by
 intro n
 induction n with
 |zero=>intro c fr fr' m m' e h;exact h.elim
 |succ n ih=>
  intro c fr fr' m m' e h
  cases c with
  |skip=>obtain ⟨_,rfl,rfl⟩:=h;exact Nat.le_refl _
  |label l=>obtain ⟨_,rfl,rfl⟩:=h;exact Nat.le_refl _
  |exit id=>obtain ⟨_,rfl,rfl⟩:=h;exact Nat.le_refl _
  |ret=>obtain ⟨_,rfl,rfl⟩:=h;exact Nat.le_refl _
  |region id ops d=>
   cases d with
   |false=>exact qgS hC h.2
   |true=>exact qbK hC h.2
  |seq a b=>
   rcases h with ⟨e1,fr1,m1,h1,h2⟩|h
   rotate_left
   ·exact h.next
   split at h2
   ·exact Nat.le_trans (ih h1) (ih h2)
   ·obtain ⟨_,rfl,rfl⟩:=h2;exact ih h1
  |cond c a b=>obtain ⟨t,_,h1⟩:=h;exact ih h1
  |block id c=>obtain ⟨e1,h1,_⟩:=h;exact ih h1
  |scope c=>exact ih h
  |loop c=>
   obtain ⟨e1,fr1,m1,h1,h2⟩:=h
   split at h2
   ·exact Nat.le_trans (ih h1) (ih h2)
   ·obtain ⟨_,rfl,rfl⟩:=h2;exact ih h1
  |rangeFunc f ps x y=>exact h.elim
  |goto l=>exact h.elim
  |refuse s=>exact h.elim
theorem qdE:∀(n:Nat) (f:FuncId) (args:Array Value) (m:Mem) (v:Value) (m':Mem),qba P n f args m v m'→m.next≤m'.next
 |0,_,_,_,_,_,h=>h.elim
 |n+1,f,args,m,v,m',h=>by
  rcases h with ⟨_,h⟩|⟨fn,c,e,fr,m1,vs,_,_,_,_,h,_,_,_,_,h2⟩
  ·cases h<;>exact Nat.le_refl _
  ·have h1:=qhJ (qdE n) n h
   rcases h2 with rfl|⟨rfl,_⟩
   ·exact h1
   ·exact Nat.le_refl _
def Stb (m:Mem) (I:Mem→Prop) (ob:Option Nat):Prop:=∀m',(∀b,ob=some b→m'.blk b=m.blk b)→I m'
theorem qkb {b off:Nat} {v:Value} (h:m.load b off=some v) (hb:m'.blk b=m.blk b):m'.load b off=some v:=by
 unfold Mem.load at h⊢
 rw[hb];exact h
theorem qgN {b:Nat} (hb:m'.blk b=m.blk b):∀(n off:Nat),rdN m' b off n=rdN m b off n
 |0,_=>rfl
 |n+1,off=>by
  have:∀o,m'.load b o=m.load b o:=fun o=>by unfold Mem.load;rw[hb]
  simp only[rdN,this,qgN hb n]
def SrcAt (z:Nat→Blk) (vs:List Value) (ob:Option Nat):RdS→Prop
 | .nr=>False
 | .lost=>False
 | .fz=>∀b,ob=some b→(z b).fzn
 | .ob j=>∀b,ob=some b→∃u,vs[j]? =some u∧blkV u=some b
def SrcB (z:Nat→Blk) (vs:List Value) (b:Nat):RdS→Prop
 | .nr=>False
 | .lost=>False
 | .fz=>(z b).fzn
 | .ob j=>∃u,vs[j]? =some u∧blkV u=some b
theorem SrcB.at {b:Nat} {s:RdS} (h:SrcB z vs b s):SrcAt z vs (some b) s:=by
 cases s with
 |nr=>exact h
 |lost=>exact h
 |fz=>intro c hc;cases hc;exact h
 |ob j=>intro c hc;cases hc;exact h
theorem qs2 {s:RdS} {v:Value} (hM:Mm X.G O z e m k vs) (hE:∀x,rel X.G z vs (sop E x) (ev fr x)) (hs:qgX E o.op=some s) (h:ReadR P (ev fr) o m v):
  ∃ob,Stb m (fun m=>ReadR P (ev fr) o m v) ob∧SrcAt z vs ob s:=by
 have fzl:∀{t:Nat} {c:CV D} {cs:List (CV D)} {off b off':Nat},rel X.G z vs (.rp t (c::cs) off) (.pointer (some ⟨b,off',none⟩))→(z b).fzn:=by
  rintro t c cs off b off' ⟨b',o',ds,h1,h2,h3⟩
  cases h1
  cases ds with
  |nil=>exact h3.elim
  |cons d ds=>
   exact qdh (h2 0 d rfl)
 have ptr:∀{x:Operand} {b off:Nat},ev fr x= .pointer (some ⟨b,off,none⟩)→(match sop E x with| .rp _ (_::_) _=>some RdS.fz| .box j _=>some (.ob j)| .el j _ _ _=>some (.ob j)|_=>none)=some s→SrcB z vs b s:=by
  intro x b off hx hs
  have hr:=hE x
  split at hs
  ·rename_i h1
   cases hs
   rw[h1,hx] at hr
   exact fzl hr
  ·rename_i h1
   cases hs
   rw[h1,hx] at hr
   obtain ⟨b',g1,g2⟩:=hr
   cases g2
   exact ⟨_,g1,rfl⟩
  ·rename_i h1
   cases hs
   rw[h1,hx] at hr
   obtain ⟨b',f0,l,c,g1,g2⟩:=hr
   cases g2
   exact ⟨_,g1,rfl⟩
  ·cases hs
 have sl:∀{t:Nat} {xs:List (D t)} {b off l c:Nat},SlR (X.G.T t) z xs (.slice (some ⟨b,off,none⟩) l c)→(z b).fzn:=by
  rintro t xs b off l c (⟨h1,_⟩|⟨b',o',c',h1,h2,_⟩)
  ·cases h1
  ·cases h1;exact h2
 cases h with
 |load t x b off d v h hx ht hd hv=>
  simp only[qgX,h] at hs
  exact ⟨some b,fun m' hm=> .load t x b off d v h hx ht hd (qkb hv (hm b rfl)),(ptr hx hs).at⟩
 |loadA t x b off d i cs h hx ht hd hi hv=>
  simp only[qgX,h] at hs
  exact ⟨some b,fun m' hm=> .loadA t x b off d i cs h hx ht hd hi (by rw[qgN (hm b rfl)];exact hv),(ptr hx hs).at⟩
 |slice t x lo hi e' i L b off l n h' h ht hi' hx hm hlo hhi h1 h2 h3=>
  simp only[qgX,h] at hs
  refine ⟨some b,fun m' hm'=> .slice t x lo hi e' i L b off l n h' h ht hi' hx (by rw[hm' b rfl];exact hm) hlo hhi h1 h2 h3,SrcB.at ?_⟩
  have hr:=hE x
  split at hs
  ·rename_i g
   rw[g,hx] at hr
   cases hr
  ·rename_i g
   cases hs
   rw[g,hx] at hr
   exact sl hr
  ·rename_i g
   cases hs
   rw[g,hx] at hr
   exact ⟨_,hr.1,rfl⟩
  ·cases hs
 |str s' t x e' b off l c cs h hs' he ht hx hv=>
  simp only[qgX,h] at hs
  refine ⟨some b,fun m' hm'=> .str s' t x e' b off l c cs h hs' he ht hx (by rw[qgN (hm' b rfl)];exact hv),SrcB.at ?_⟩
  have hr:=hE x
  split at hs
  ·rename_i g
   cases hs
   rw[g,hx] at hr
   exact sl hr
  ·rename_i g
   cases hs
   rw[g,hx] at hr
   exact ⟨_,hr.1,rfl⟩
  ·rename_i g
   rw[g,hx] at hr
   cases hr
  ·rename_i g
   rw[g,hx] at hr
   cases hr
  ·cases hs
 |strNil s' t x e' l c h hs' he ht hx=>
  simp only[qgX,h] at hs
  refine ⟨none,fun m' hm'=> .strNil s' t x e' l c h hs' he ht hx, ?_⟩
  have hr:=hE x
  split at hs
  ·cases hs;intro b hb;cases hb
  ·cases hs;intro b hb;cases hb
  ·rename_i g
   rw[g,hx] at hr
   cases hr
  ·rename_i g
   rw[g,hx] at hr
   cases hr
  ·cases hs
 |lookup xt x ix ok u kt vt b L F i z' v0 t good h hxt hu hx hks hv1 K' hf hk hg hi hz hzf hl=>
  simp only[qgX,h] at hs
  rcases hx with ⟨hx,hm,hE'⟩|⟨hx,hE'⟩
  ·refine ⟨some b,fun m' hm'=> .lookup xt x ix ok u kt vt b L F i z' v0 t good h hxt hu (.inl ⟨hx,by rw[hm' b rfl];exact hm,hE'⟩) hks hv1 K' hf hk hg hi hz hzf hl,SrcB.at ?_⟩
   have hr:=hE x
   split at hs
   ·rename_i g
    cases hs
    rw[g,hx] at hr
    rcases hr with ⟨h1,_⟩|⟨r,h1,h2⟩
    ·cases h1
    ·cases h1
     show (z _).fzn
     rw[h2];exact True.intro
   ·rename_i g
    cases hs
    rw[g,hx] at hr
    exact ⟨_,hr.1,rfl⟩
   ·cases hs
  ·refine ⟨none,fun m' hm'=> .lookup xt x ix ok u kt vt b L F i z' v0 t good h hxt hu (.inr ⟨hx,hE'⟩) hks hv1 K' hf hk hg hi hz hzf hl, ?_⟩
   split at hs
   ·cases hs;intro b hb;cases hb
   ·cases hs;intro b hb;cases hb
   ·cases hs
def RdI (z:Nat→Blk) (m:Mem) (vs:List Value) (I:Mem→Prop) (s:RdS):Prop:=
 s= .lost∨∃ob,Stb m I ob∧(∀b,ob=some b→b<m.next)∧SrcAt z vs ob s
structure LgOk (z:Nat→Blk) (m:Mem) (vs:List Value) (A:Acc) (L:Lg):Prop where
 rd:∀x∈A.reads,∃y∈L.rd,y.1=x.1∧RdI z m vs x.2 y.2
 ef:∀x∈A.effs,∃y∈L.ef,y.1=x.1∧(y.2.1=true→m=x.2)∧∀j∈y.2.2,∃v,vs[j]? =some v∧∀b,blkV v=some b→b<m.next∧m.blk b=x.2.blk b
 nw:∀x∈A.news,∃y∈L.nw,y.1=x.1∧x.2<m.next∧∃v,vs[y.2]? =some v∧blkV v=some x.2
theorem Stb.step {I:Mem→Prop} {ob q:Option Nat} (h:Stb m I ob) (hb:∀b,ob=some b→b<m.next) (hc:Chg m m' q) (hq:∀b,ob=some b→q≠some b):Stb m' I ob:=fun m2 hm=>h m2 fun b hb'=>by
 rw[hm b hb',hc.2 b (hb b hb') (hq b hb')]
theorem SrcAt.mono {ob:Option Nat} {s:RdS} (h:SrcAt z vs ob s) (hz:Zle z z') (hv:∀(i:Nat) (u:Value),vs[i]? =some u→vs'[i]? =some u):SrcAt z' vs' ob s:=by
 cases s with
 |nr=>exact h
 |lost=>exact h
 |fz=>intro b hb;rw[hz b (h b hb)];exact h b hb
 |ob j=>intro b hb;obtain ⟨u,g1,g2⟩:=h b hb;exact ⟨u,hv _ _ g1,g2⟩
theorem LgOk.step {A:Acc} {L:Lg} {q:Option Nat} (h:LgOk z m vs A L) (hz:Zle z z') (hv:∀(i:Nat) (u:Value),vs[i]? =some u→vs'[i]? =some u) (hc:Chg m m' q)
  (L':Lg) (hr:∀y∈L.rd,∃y'∈L'.rd,y'.1=y.1∧(y'.2= .lost∨y'.2=y.2∧∀ob,SrcAt z vs ob y.2→∀b,ob=some b→q≠some b))
  (he:∀y∈L.ef,∃y'∈L'.ef,y'.1=y.1∧(y'.2.1=true→y.2.1=true∧m'=m)∧∀j∈y'.2.2,j∈y.2.2∧∀v b,vs[j]? =some v→blkV v=some b→q≠some b) (hn:∀y∈L.nw,y∈L'.nw):LgOk z' m' vs' A L' where
 rd:=fun x hx=>by
  obtain ⟨y,hy,h1,h2⟩:=h.rd x hx
  obtain ⟨y',hy',g1,g2⟩:=hr y hy
  refine ⟨y',hy',by rw[g1,h1], ?_⟩
  rcases g2 with g2|⟨g2,g3⟩
  ·exact .inl g2
  ·rcases h2 with h2|⟨ob,k1,k2,k3⟩
   ·exact .inl (by rw[g2,h2])
   ·exact .inr ⟨ob,k1.step k2 hc (g3 ob k3),fun b hb=>Nat.lt_of_lt_of_le (k2 b hb) hc.1,by rw[g2];exact k3.mono hz hv⟩
 ef:=fun x hx=>by
  obtain ⟨y,hy,h1,h0,h2⟩:=h.ef x hx
  obtain ⟨y',hy',g1,g0,g2⟩:=he y hy
  refine ⟨y',hy',by rw[g1,h1],fun hf=>by rw[(g0 hf).2];exact h0 (g0 hf).1,fun j hj=> ?_⟩
  obtain ⟨g3,g4⟩:=g2 j hj
  obtain ⟨v,k1,k2⟩:=h2 j g3
  refine ⟨v,hv _ _ k1,fun b hb=> ?_⟩
  obtain ⟨k3,k4⟩:=k2 b hb
  exact ⟨Nat.lt_of_lt_of_le k3 hc.1,by rw[hc.2 b k3 (g4 v b k1 hb)];exact k4⟩
 nw:=fun x hx=>by
  obtain ⟨y,hy,h1,h2,v,h3,h4⟩:=h.nw x hx
  exact ⟨y,hn y hy,h1,Nat.lt_of_lt_of_le h2 hc.1,v,hv _ _ h3,h4⟩
theorem LgOk.quiet {A:Acc} {L:Lg} (h:LgOk z m vs A L) (hz:Zle z z') (hv:∀(i:Nat) (u:Value),vs[i]? =some u→vs'[i]? =some u) (hm:m'=m):LgOk z' m' vs' A L:=
 h.step (q:=none) hz hv (by rw[hm];exact Chg.refl m) L (fun y hy=>⟨y,hy,rfl, .inr ⟨rfl,fun _ _ _ _=>by simp⟩⟩) (fun y hy=>⟨y,hy,rfl,fun h=>⟨h,hm⟩,fun j hj=>⟨hj,fun _ _ _ _=>by simp⟩⟩) fun y hy=>hy
theorem qlY {j:Nat} (hM:Mm X.G O z e m k vs) (h:qj3 O j=true):∃v,vs[j]? =some v∧∀b,blkV v=some b→b<m.next∧(z b≠ .dead∨∃o,O[j]? =some o∧o.live=true):=by
 unfold qj3 at h
 have fin:∀{o:Ob D},O[j]? =some o→o≠ .dead→(∀t w,o≠ .box t [] true w)→∃v,vs[j]? =some v∧∀b,blkV v=some b→b<m.next∧(z b≠ .dead∨∃o,O[j]? =some o∧o.live=true):=by
  intro o ho hd hbx
  obtain ⟨v,hv,hob⟩:=hM.at ho
  refine ⟨v,hv,fun b hb=> ?_⟩
  cases hl:o.live with
  |true=>exact ⟨(hob.lt hl b hb).1, .inr ⟨o,ho,hl⟩⟩
  |false=>
   have hz:z b≠ .dead:=by
    cases o with
    |dead=>exact absurd rfl hd
    |sl t xs fz w=>
     cases fz with
     |false=>cases hl
     |true=>
      rcases (hob:SlR (X.G.T t) z xs v) with ⟨rfl,_⟩|⟨b',o',c',rfl,h2,_⟩
      ·cases hb
      ·cases hb;exact h2.ne
    |box t cs fz w=>
     cases fz with
     |false=>cases hl
     |true=>
      obtain ⟨b',ds,rfl,h2,h3⟩:=hob
      cases hb
      cases cs with
      |nil=>exact absurd rfl (hbx t w)
      |cons c cs=>
       cases ds with
       |nil=>exact h3.elim
       |cons d ds=>
        have:=h2 0 d rfl
        intro hd
        unfold ldz at this
        rw[hd] at this
        cases this
    |recv t cs w=>cases hl
    |arr _ _ _ _ _=>cases hl
    |nest _ _ _ _ _ _=>cases hl
    |map t kt vt es fz w=>
     cases fz with
     |false=>cases hl
     |true=>
      rcases (hob:MpR (X.G.M t kt vt) z es v) with ⟨rfl,_⟩|⟨r,rfl,h2⟩
      ·cases hb
      ·cases hb
       intro hd
       rw[hd] at h2;cases h2
   refine ⟨?_, .inl hz⟩
   exact (hM.st.fz b hz).2
 split at h
 ·cases h
 ·cases h
 ·rename_i o h1 h2 ho
  exact fin ho (fun hh=>h1 hh) fun t w hh=>h2 t w hh
 ·cases h
theorem qlu {l:List Nat} {j:Nat}:l.any (Nat.beq j)=true↔j∈l:=by
 simp only[List.any_eq_true]
 constructor
 ·rintro ⟨x,hx,h⟩
  have:=Nat.eq_of_beq_eq_true h
  subst this;exact hx
 ·intro h;exact ⟨j,h,by simp⟩
theorem qma {j:Nat} (h:qdi O j=true):∃o,O[j]? =some o∧o.live=true:=by
 unfold qdi at h
 split at h
 ·exact ⟨_,‹_›,h⟩
 ·cases h
theorem qei {ts:List Nat} {q:Option Nat} (hM:Mm X.G O z e m k vs) (hl:ts.all (qdi O)=true) (hq:TgtQ vs ts q) {j:Nat} (h:qd1 O ts j=true) {v:Value} {b:Nat} (hv:vs[j]? =some v) (hb:blkV v=some b):q≠some b:=by
 simp only[qd1,Bool.and_eq_true,Bool.not_eq_true'] at h
 rcases hq with rfl|⟨i,hi,w,hw,rfl⟩
 ·simp
 ·intro hqb
  have hij:i≠j:=by
   rintro rfl
   rw[qlu.2 hi] at h;cases h.2
  obtain ⟨o,ho,hol⟩:=qma (List.all_eq_true.1 hl i hi)
  have hd:=((hM.obj i o w ho hw).lt hol b hqb).2.1
  obtain ⟨v',hv',h1⟩:=qlY hM h.1
  rw[hv] at hv';cases hv'
  rcases (h1 b hb).2 with h2|⟨p,hp,hpl⟩
  ·exact h2 hd
  ·exact hM.ap i j o p w v hij ho hp hol hpl hw hv b hqb hb
theorem qnQ {ts:List Nat} {q:Option Nat} (hM:Mm X.G O z e m k vs) (hl:ts.all (qdi O)=true) (hq:TgtQ vs ts q) {b:Nat} (hz:z b≠ .dead):q≠some b:=by
 rcases hq with rfl|⟨i,hi,w,hw,rfl⟩
 ·simp
 ·intro hqb
  obtain ⟨o,ho,hol⟩:=qma (List.all_eq_true.1 hl i hi)
  exact hz ((hM.obj i o w ho hw).lt hol b hqb).2.1
theorem qim {ts:List Nat} {q:Option Nat} (hM:Mm X.G O z e m k vs) (hl:ts.all (qdi O)=true) (hq:TgtQ vs ts q) {s:RdS} (h:srcB O ts s=true) {ob:Option Nat} (hs:SrcAt z vs ob s):∀b,ob=some b→q≠some b:=by
 intro b hb
 cases s with
 |nr=>exact hs.elim
 |lost=>exact hs.elim
 |fz=>exact qnQ hM hl hq (hs b hb).ne
 |ob j=>
  obtain ⟨u,g1,g2⟩:=hs b hb
  exact qei hM hl hq h g1 g2
theorem qfC:∀{l:List (Ob D)} {i j:Nat},j∈qck O i l→∃n o,j=i+n∧l[n]? =some o∧o.live=true
 |[],i,j,h=>by simp[qck] at h
 |o::l,i,j,h=>by
  simp only[qck] at h
  have tail:j∈qck O (i+1) l→∃n p,j=i+n∧(o::l)[n]? =some p∧p.live=true:=fun h=>by
   obtain ⟨n,p,h1,h2,h3⟩:=qfC h
   exact ⟨n+1,p,by omega,h2,h3⟩
  split at h
  ·rename_i ho
   rcases List.mem_cons.1 h with rfl|h
   ·exact ⟨0,o,rfl,rfl,ho⟩
   ·exact tail h
  ·exact tail h
theorem LgOk.eff {A:Acc} {L:Lg} {q:Option Nat} {B:Array Nat} {i:Nat} {ts:List Nat} {qt:Bool} (h:LgOk z m vs A L) (hM:Mm X.G O z e m k vs) (hz:Zle z z') (hv:∀(i:Nat) (u:Value),vs[i]? =some u→vs'[i]? =some u) (hc:Chg m m' q) (hq:TgtQ vs ts q) (hqt:qt=true→m'=m)
  (hk:qqq B i O L ts=true):obl B i A m .eff m'∧LgOk z' m' vs' (accT A i m .eff) (efLg i O ts qt L):=by
 simp only[qqq,Bool.and_eq_true,List.all_eq_true,Bool.or_eq_true] at hk
 obtain ⟨hl,hk1,hk2⟩:=hk
 have hl:ts.all (qdi O)=true:=List.all_eq_true.2 hl
 refine ⟨⟨fun x hx ha=> ?_,fun x hx ha=> ?_⟩, ?_⟩
 ·obtain ⟨y,hy,h1,h2⟩:=h.rd x hx
  have:=hk1 y hy
  rw[h1,ha] at this
  have hs:srcB O ts y.2=true:=by simpa using this
  rcases h2 with h2|⟨ob,k1,k2,k3⟩
  ·rw[h2] at hs;cases hs
  ·exact k1 m' fun b hb=>hc.2 b (k2 b hb) (qim hM hl hq hs k3 b hb)
 ·obtain ⟨y,hy,h1,h2,v,h3,h4⟩:=h.nw x hx
  have:=hk2 y hy
  rw[h1,ha] at this
  have hs:qd1 O ts y.2=true:=by simpa using this
  exact hc.2 _ h2 (qei hM hl hq hs h3 h4)
 ·have st:=h.step (L':=efLg i O ts qt L) hz hv hc (fun y hy=> ?_) (fun y hy=> ?_) fun y hy=>hy
  ·refine ⟨st.rd,fun x hx=> ?_,st.nw⟩
   rcases List.mem_cons.1 hx with rfl|hx
   ·refine ⟨(i,true&&qt,(qck O 0 O).filter (qd1 O ts)),by simp[efLg],rfl,fun hf=>hqt (by simpa using hf),fun j hj=> ?_⟩
    obtain ⟨hj1,hj2⟩:=List.mem_filter.1 hj
    obtain ⟨n,o,g1,g2,g3⟩:=qfC hj1
    rw[Nat.zero_add] at g1
    subst g1
    obtain ⟨v,g4,g5⟩:=hM.at g2
    refine ⟨v,hv _ _ g4,fun b hb=> ?_⟩
    have hlt:=(g5.lt g3 b hb).1
    exact ⟨Nat.lt_of_lt_of_le hlt hc.1,hc.2 b hlt (qei hM hl hq hj2 g4 hb)⟩
   ·exact st.ef x hx
  ·refine ⟨if srcB O ts y.2=true then y else (y.1, .lost),List.mem_map.2 ⟨y,hy,rfl⟩,by split<;>rfl, ?_⟩
   split
   ·rename_i hs
    exact .inr ⟨rfl,fun ob ho=>qim hM hl hq hs ho⟩
   ·exact .inl rfl
  ·refine ⟨(y.1,y.2.1&&qt,y.2.2.filter (qd1 O ts)),List.mem_map.2 ⟨y,List.mem_cons_of_mem _ hy,rfl⟩,rfl,fun hf=>by simp only[Bool.and_eq_true] at hf;exact ⟨hf.1,hqt hf.2⟩,fun j hj=> ?_⟩
   obtain ⟨hj1,hj2⟩:=List.mem_filter.1 hj
   exact ⟨hj1,fun v b h1 h2=>qei hM hl hq hj2 h1 h2⟩
theorem LgOk.effW {A:Acc} {L:Lg} {B:Array Nat} {i:Nat} (h:LgOk z m vs A L) (hv:∀(i:Nat) (u:Value),vs[i]? =some u→vs'[i]? =some u) (hn:m.next≤m'.next)
  (hk:qls B i L=true):obl B i A m .eff m'∧LgOk z' m' vs' (accT A i m .eff) (qqr i L):=by
 simp only[qls,Bool.and_eq_true,List.all_eq_true] at hk
 refine ⟨⟨fun x hx ha=> ?_,fun x hx ha=> ?_⟩,⟨fun x hx=> ?_,fun x hx=> ?_,fun x hx=> ?_⟩⟩
 ·obtain ⟨y,hy,h1,_⟩:=h.rd x hx
  have:=hk.1 y hy
  rw[h1,ha] at this;cases this
 ·obtain ⟨y,hy,h1,_⟩:=h.nw x hx
  have:=hk.2 y hy
  rw[h1,ha] at this;cases this
 ·obtain ⟨y,hy,h1,_⟩:=h.rd x hx
  exact ⟨(y.1, .lost),List.mem_map.2 ⟨y,hy,rfl⟩,h1, .inl rfl⟩
 ·rcases List.mem_cons.1 hx with rfl|hx
  ·exact ⟨(i,false,[]),List.mem_cons_self,rfl,fun hh=>Bool.noConfusion hh,fun j hj=>absurd hj (by simp)⟩
  ·obtain ⟨y,hy,h1,_⟩:=h.ef x hx
   exact ⟨(y.1,false,[]),List.mem_cons_of_mem _ (List.mem_map.2 ⟨y,hy,rfl⟩),h1,fun hh=>Bool.noConfusion hh,fun j hj=>absurd hj (by simp)⟩
 ·obtain ⟨y,hy,h1,h2,v,h3,h4⟩:=h.nw x hx
  exact ⟨y,hy,h1,Nat.lt_of_lt_of_le h2 hn,v,hv _ _ h3,h4⟩
theorem LgOk.sup {A:Acc} {L:Lg} (h:LgOk z m vs A L) (i:Nat) (s:RdS) (n:Option Nat):LgOk z m vs A (rdLg i s n L) where
 rd:=fun x hx=>by
  obtain ⟨y,hy,h1,h2⟩:=h.rd x hx
  refine ⟨y, ?_,h1,h2⟩
  unfold rdLg
  cases s<;>first|exact hy|exact List.mem_cons_of_mem _ hy
 ef:=fun x hx=>by
  obtain ⟨y,hy,h1,h2,h3⟩:=h.ef x hx
  cases n with
  |none=>exact ⟨y,hy,h1,h2,h3⟩
  |some j=>exact ⟨(y.1,false,y.2.2),List.mem_map.2 ⟨y,hy,rfl⟩,h1,(by simp),h3⟩
 nw:=fun x hx=>by
  obtain ⟨y,hy,h1⟩:=h.nw x hx
  refine ⟨y, ?_,h1⟩
  unfold rdLg
  cases n with
  |none=>exact hy
  |some j=>exact List.mem_cons_of_mem _ hy
structure Lg2 (n0:Nat) (z0 z:Nat→Blk) (fr:Nat→Value) (E:List (Nat×SV D)) (m:Mem) (A:Acc) (L:Lg):Prop where
 le:Zle z0 z
 n:n0≤m.next
 lt:∀b,(z0 b).fzn→b<n0
 fl:∀x∈A.effs,∀b,(z0 b).fzn→m.blk b=x.2.blk b
 old:∀d,(L.yn.any (Nat.beq d))=false→isFz (lkE E d)=true→∀b,blkV (fr d)=some b→(z0 b).fzn
variable {z0:Nat→Blk}
theorem Lg2.at {n0:Nat} {A:Acc} {L:Lg} (h:Lg2 n0 z0 z fr E m A L) {x:Operand} (hx:oldS E L x=true):∀b,blkV (ev fr x)=some b→(z0 b).fzn:=by
 unfold oldS at hx
 split at hx
 ·rename_i d
  simp only[Bool.and_eq_true,Bool.not_eq_true'] at hx
  exact h.old d hx.1 hx.2
 ·cases hx
theorem Lg2.read {n0:Nat} {A:Acc} {L:Lg} {B:Array Nat} {i:Nat} {v:Value} (h:Lg2 n0 z0 z fr E m A L) (hl:ldS E L o.op=true) (hr:ReadR P (ev fr) o m v):∀x∈A.effs,anc B i x.1=false→ReadR P (ev fr) o x.2 v:=by
 intro x hx ha
 have hb:=h.fl x hx
 cases hr with
 |load t q b off d v h' hq ht hd hv=>
  rw[h'] at hl
  have:=h.at hl b (by rw[hq];rfl)
  exact .load t q b off d v h' hq ht hd (qkb hv (hb b this).symm)
 |loadA t q b off d i cs h' hq ht hd hi hv=>
  rw[h'] at hl
  have:=h.at hl b (by rw[hq];rfl)
  exact .loadA t q b off d i cs h' hq ht hd hi (by rw[qgN (hb b this).symm];exact hv)
 |slice t q lo hi e' i L' b off l n h' h0 ht hi' hq hm hlo hhi g1 g2 g3=>
  rw[h0] at hl
  have:=h.at hl b (by rw[hq];rfl)
  exact .slice t q lo hi e' i L' b off l n h' h0 ht hi' hq (by rw[←hb b this];exact hm) hlo hhi g1 g2 g3
 |str s' t q e' b off l c cs h0 hs' he ht hq hv=>rw[h0] at hl;cases hl
 |strNil s' t q e' l c h0 hs' he ht hq=>rw[h0] at hl;cases hl
 |lookup xt q ix ok u kt vt b L' F i z' v0 t good h0 hxt hu hq hks hv1 K' hf hk hg hi hz hzf hl'=>rw[h0] at hl;cases hl
theorem Lg2.zle {n0:Nat} {A:Acc} {L:Lg} (h:Lg2 n0 z0 z fr E m A L) (hz:Zle z z'):Lg2 n0 z0 z' fr E m A L:=⟨h.le.trans hz,h.n,h.lt,h.fl,h.old⟩
theorem qop {L:Lg} {v:Value} {n0:Nat} {A:Acc} (h:Lg2 n0 z0 z fr E m A L) (hd:drvS E L o.op=true) (hp:PureR P (ev fr) o v):∀b,blkV v=some b→(z0 b).fzn:=by
 have fl:∀{w:Value},flat w=true→∀b,blkV w=some b→(z0 b).fzn:=by
  intro w hw b hb
  cases w with
  |pointer a=>cases a with
   |none=>cases hb
   |some a=>cases hw
  |slice a l c=>cases a with
   |none=>cases hb
   |some a=>cases hw
  |map r=>cases r with
   |none=>cases hb
   |some r=>cases hw
  |_=>cases hb
 cases hp with
 |flat v hs hx hv hr=>exact fl hv
 |move x ho=>
  rcases ho with ho|ho
  ·rw[ho] at hd;exact h.at hd
  ·rw[ho] at hd;exact h.at hd
 |nilCheck x a ho hx=>
  rw[ho] at hd
  intro b hb
  exact h.at hd b (by rw[hx];exact hb)
 |fieldAddr t x i fs f k b off ho ht hf hk hs hx=>
  rw[ho] at hd
  intro c hc
  exact h.at hd c (by rw[hx];exact hc)
 |indexAddr t x y e i b off l c k n ho ht hi hx hy h0 h1=>
  rw[ho] at hd
  intro c hc
  exact h.at hd c (by rw[hx];exact hc)
 |indexAddrA t x y e i b off l k n ho ht hi hx hy h0 h1=>
  rw[ho] at hd
  intro c hc
  exact h.at hd c (by rw[hx];exact hc)
 |pick c a b t ho hc=>rw[ho] at hd;cases hd
 |extract x i us v ho hx hv=>rw[ho] at hd;cases hd
 |field t x i fs f d cs v ho _ _ _ _ _=>rw[ho] at hd;cases hd
 |build t ps fs i z cs ho _ _ _ _ _ _=>rw[ho] at hd;cases hd
 |buildA t ps n e i k z cs ho _ _ _ _ _ _=>rw[ho] at hd;cases hd
 |slice t x lo hi e i b off l c n h' ho _ _ _ _ _ _ _ _ _=>rw[ho] at hd;cases hd
 |sliceNil t x lo hi e i ho _ _ _ _ _=>rw[ho] at hd;cases hd
 |slice3 t x mx hi e i b off l c h' k' km ho _ _ _ _ _ _ _=>rw[ho] at hd;cases hd
 |slice3Nil t x mx hi e i km ho _ _ _ _ _=>rw[ho] at hd;cases hd
 |len x t e a l c ho _ _=>rw[ho] at hd;cases hd
 |capNil x t e ho _ _=>rw[ho] at hd;cases hd
 |eqNil neq x y t u e a l c ho _ _ _=>rw[ho] at hd;cases neq<;>cases hd
 |func fn first captured ho _=>rw[ho] at hd;cases hd
theorem Lg2.put {n0:Nat} {A:Acc} {L:Lg} {v:Value} {sv:SV D} (h:Lg2 n0 z0 z fr E m A L) (hv:drvS E L o.op=true→∀b,blkV v=some b→(z0 b).fzn):Lg2 n0 z0 z (set fr o.dst v) (putE E o.dst sv) m A (ynLg E o L):=by
 cases hd:o.dst with
 |none=>
  have e:ynLg E o L=L:=by unfold ynLg;rw[hd]
  rw[e]
  exact ⟨h.le,h.n,h.lt,h.fl,h.old⟩
 |some d=>
  refine ⟨h.le,h.n,h.lt,h.fl,fun c hc hf b hb=> ?_⟩
  by_cases hcd:c=d
  ·subst hcd
   simp only[set,if_true] at hb
   by_cases hdv:drvS E L o.op=true
   ·exact hv hdv b hb
   ·have e:(ynLg E o L).yn=c::L.yn:=by unfold ynLg;rw[hd];dsimp only;rw[if_neg hdv]
    rw[e] at hc
    simp at hc
  ·simp only[set,if_neg hcd] at hb
   have hl:lkE (putE E (some d) sv) c=lkE E c:=by
    simp only[putE,lkE]
    rw[if_neg]
    intro hh
    exact hcd (Nat.eq_of_beq_eq_true hh).symm
   rw[hl] at hf
   refine h.old c ?_ hf b hb
   unfold ynLg at hc
   rw[hd] at hc
   dsimp only at hc
   split at hc
   ·rw[List.any_eq_false] at hc⊢
    intro y hy hyc
    have hyc:=Nat.eq_of_beq_eq_true hyc
    subst hyc
    refine hc c (List.mem_filter.2 ⟨hy, ?_⟩) (by simp)
    simp only[Bool.not_eq_true']
    cases hq:Nat.beq d c with
    |false=>rfl
    |true=>exact absurd (Nat.eq_of_beq_eq_true hq).symm hcd
   ·simp only[List.any_cons,Bool.or_eq_false_iff] at hc
    exact hc.2
theorem Lg2.log {n0:Nat} {A A':Acc} {L L':Lg} (h:Lg2 n0 z0 z fr E m A L) (hA:A'.effs=A.effs) (hy:L'.yn=L.yn):Lg2 n0 z0 z fr E m A' L':=⟨h.le,h.n,h.lt,by rw[hA];exact h.fl,by rw[hy];exact h.old⟩
theorem Lg2.grow {n0:Nat} {A:Acc} {L:Lg} (h:Lg2 n0 z0 z fr E m A L) (hc:Chg m m' none):Lg2 n0 z0 z fr E m' A L:=⟨h.le,Nat.le_trans h.n hc.1,h.lt,fun x hx b hb=>by
 rw[hc.2 b (Nat.lt_of_lt_of_le (h.lt b hb) h.n) (by simp)];exact h.fl x hx b hb,h.old⟩
theorem Lg2.eff {n0 i:Nat} {A:Acc} {L:Lg} {q:Option Nat} {ts:List Nat} {qt:Bool} (h:Lg2 n0 z0 z fr E m A L) (hc:Chg m m' q) (hq:∀b,(z0 b).fzn→q≠some b):Lg2 n0 z0 z fr E m' (accT A i m .eff) (efLg i O ts qt L):=by
 have key:∀b,(z0 b).fzn→m'.blk b=m.blk b:=fun b hb=>hc.2 b (Nat.lt_of_lt_of_le (h.lt b hb) h.n) (fun hh=>hq b hb hh)
 refine ⟨h.le,Nat.le_trans h.n hc.1,h.lt,fun x hx b hb=> ?_,h.old⟩
 rcases List.mem_cons.1 hx with rfl|hx
 ·exact key b hb
 ·rw[key b hb]
  exact h.fl x hx b hb
theorem Lg2.effW {n0 i:Nat} {A:Acc} {L:Lg} {k':Option Nat} (h:Lg2 n0 z0 z fr E m A L) (hn:m.next≤m'.next) (hz:Zle z z') (s1:St z e m k) (s2:St z' e m' k'):Lg2 n0 z0 z' fr E m' (accT A i m .eff) (qqr i L):=by
 have key:∀b,(z0 b).fzn→m'.blk b=m.blk b:=fun b hb=>by
  have h1:=h.le b hb
  have h2:=hz b (by rw[h1];exact hb)
  rw[(s1.fz b (by rw[h1];exact hb.ne)).1,(s2.fz b (by rw[h2,h1];exact hb.ne)).1,h2]
 refine ⟨h.le.trans hz,Nat.le_trans h.n hn,h.lt,fun x hx b hb=> ?_,h.old⟩
 rcases List.mem_cons.1 hx with rfl|hx
 ·exact key b hb
 ·rw[key b hb]
  exact h.fl x hx b hb
theorem qoI {ts:List Nat} {q:Option Nat} (hM:Mm X.G O z e m k vs) (hl:ts.all (qdi O)=true) (hq:TgtQ vs ts q) (hz:Zle z0 z):∀b,(z0 b).fzn→q≠some b:=by
 intro b hb hqb
 rcases hq with hq|⟨i,hi,v,hv,he⟩
 ·rw[hq] at hqb;cases hqb
 ·have:=List.all_eq_true.1 hl i hi
  unfold qdi at this
  split at this
  ·rename_i p hp
   have:=((hM.obj i p v hp hv).lt this b (by rw[←he];exact hqb)).2.1
   rw[hz b hb] at this
   rw[this] at hb
   exact hb.elim
  ·cases this
theorem Lg2.start {E:List (Nat×SV D)} (hM:Mm X.G O z e m k vs) (hE:∀d,rel X.G z vs (lkE E d) (fr d)):Lg2 m.next z z fr E m ⟨[],[],[]⟩ ⟨[],[],[],[],[]⟩:=by
 refine ⟨Zle.refl z,Nat.le_refl _,fun b hb=>(hM.st.fz b hb.ne).2,by simp,fun d _ hf b hb=> ?_⟩
 have hr:=hE d
 unfold isFz at hf
 split at hf
 ·rename_i e1 xs hs
  rw[hs] at hr
  rcases (hr:SlR (X.G.T e1) z xs (fr d)) with ⟨h1,_⟩|⟨b',o',c',h1,h2,_⟩
  ·rw[h1] at hb;cases hb
  ·rw[h1] at hb;cases hb
   exact h2
 ·rename_i t c cs off hs
  rw[hs] at hr
  obtain ⟨b,o',ds,h1,h2,h3⟩:=hr
  rw[h1] at hb;cases hb
  cases ds with
  |nil=>exact h3.elim
  |cons d ds=>
   have h4:=h2 0 d rfl
   exact qdh h4
 ·cases hf
theorem qc4 {A:Acc} {L:Lg} {E:List (Nat×SV D)} (h:LgOk z m vs A L):LgOk z m vs A (ynLg E o L):=by
 unfold ynLg
 split
 ·exact h
 ·split<;>exact ⟨h.rd,h.ef,h.nw⟩
theorem LgOk.read {A:Acc} {L:Lg} {B:Array Nat} {i:Nat} {s:RdS} {v:Value} {n:Option Nat} (h:LgOk z m vs A L) (hM:Mm X.G O z e m k vs) (hE:∀x,rel X.G z vs (sop E x) (ev fr x)) (hz:Zle z z') (hv:∀(i:Nat) (u:Value),vs[i]? =some u→vs'[i]? =some u)
  {n0:Nat} (hs:qgX E o.op=some s) (hk:(qk5 B i O L s||qkh B i E L s o.op)=true) (hr:ReadR P (ev fr) o m v) (hg:Lg2 (D:=D) n0 z0 z fr E m A L):
  obl B i A m (.read fun m=>ReadR P (ev fr) o m v) m∧LgOk z' m vs' (accT A i m (.read fun m=>ReadR P (ev fr) o m v)) (rdLg i s n L):=by
 obtain ⟨ob,h1,h2⟩:=qs2 hM hE hs hr
 rw[Bool.or_eq_true] at hk
 have lt:∀b,ob=some b→b<m.next:=by
  intro b hb
  cases s with
  |nr=>exact h2.elim
  |lost=>exact h2.elim
  |fz=>
   have hz:=h2 b hb
   exact (hM.st.fz b hz.ne).2
  |ob j=>
   have hk:qk5 B i O L (.ob j)=true:=hk.resolve_right (by simp[qkh,fzB])
   simp only[qk5,Bool.and_eq_true] at hk
   obtain ⟨u,g1,g2⟩:=h2 b hb
   obtain ⟨v',g3,g4⟩:=qlY hM hk.1
   rw[g1] at g3;cases g3
   exact (g4 b g2).1
 refine ⟨fun x hx ha=> ?_, ?_⟩
 ·rcases hk with hk|hk
  case inr=>
   simp only[qkh,Bool.and_eq_true] at hk
   exact hg.read (B:=B) hk.2 hr x hx ha
  obtain ⟨y,hy,k1,k0,k2⟩:=h.ef x hx
  refine h1 x.2 fun b hb=> ?_
  cases s with
  |nr=>exact h2.elim
  |lost=>exact h2.elim
  |fz=>
   simp only[qk5,List.all_eq_true] at hk
   have:=hk y hy
   rw[k1,ha,Bool.false_or] at this
   rw[k0 this]
  |ob j=>
   simp only[qk5,Bool.and_eq_true,List.all_eq_true,Bool.or_eq_true] at hk
   have:=hk.2 y hy
   rw[k1,ha] at this
   have hj:y.2.1=true∨j∈y.2.2:=by
    rcases this with h|h|h
    ·cases h
    ·exact .inl h
    ·exact .inr (qlu.1 h)
   rcases hj with hj|hj
   ·rw[k0 hj]
   obtain ⟨v',g1,g2⟩:=k2 j hj
   obtain ⟨u,g3,g4⟩:=h2 b hb
   rw[g3] at g1;cases g1
   exact (g2 b g4).2.symm
 ·have st:=((h.quiet (Zle.refl z) (fun _ _ h=>h) rfl).sup i s n).quiet (m':=m) hz hv rfl
  refine ⟨fun x hx=> ?_,st.ef,st.nw⟩
  rcases List.mem_cons.1 hx with rfl|hx
  ·refine ⟨(i,s), ?_,rfl, .inr ⟨ob,h1,lt,h2.mono hz hv⟩⟩
   unfold rdLg
   cases s<;>first|exact h2.elim|exact List.mem_cons_self
  ·exact st.rd x hx
theorem qsE {Y:Blk} {v:Value} {sv:SV D} {n:Option Nat} {N:Nat} (h:NewR P (ev fr) o N Y v) (hr:rel X.G z vs sv v) (hn:qqV sv=some n):∃j,n=some j∧∃u,vs[j]? =some u∧blkV u=some N:=by
 have hv:blkV v=some N:=by cases h<;>rfl
 unfold qqV at hn
 split at hn
 ·cases hn;exact ⟨_,rfl,v,hr.1,hv⟩
 ·cases hn
  obtain ⟨b,g1,rfl⟩:=hr
  exact ⟨_,rfl,_,g1,hv⟩
 ·cases hn
  obtain ⟨b,l,g1,rfl⟩:=hr
  exact ⟨_,rfl,_,g1,hv⟩
 ·have hr:v= .int _ _:=hr
  rw[hr] at hv;cases hv
 ·have hr:v=AM.str _:=hr
  rw[hr] at hv;cases hv
 ·cases hn
theorem LgOk.new {A:Acc} {L:Lg} {i:Nat} {s:RdS} {j:Nat} {Y:Blk} (h:LgOk z m vs A L) (hz:Zle z z') (hv:∀(i:Nat) (u:Value),vs[i]? =some u→vs'[i]? =some u) (hj:∃u,vs'[j]? =some u∧blkV u=some m.next):
  LgOk z' (m.push Y) vs' (accT A i m .new) (rdLg i s (some j) L):=by
 have st:=h.step (m':=m.push Y) (q:=none) hz hv (Chg.push m Y) (rdLg i s (some j) L) (fun y hy=>⟨y,by unfold rdLg;cases s<;>first|exact hy|exact List.mem_cons_of_mem _ hy,rfl, .inr ⟨rfl,fun _ _ _ _=>by simp⟩⟩)
  (fun y hy=>⟨(y.1,false,y.2.2),List.mem_map.2 ⟨y,hy,rfl⟩,rfl,by simp,fun j hj=>⟨hj,fun _ _ _ _=>by simp⟩⟩) fun y hy=>List.mem_cons_of_mem _ hy
 refine ⟨st.rd,st.ef,fun x hx=> ?_⟩
 rcases List.mem_cons.1 hx with rfl|hx
 ·obtain ⟨u,g1,g2⟩:=hj
  exact ⟨(i,j),by simp[rdLg],rfl,Nat.lt_succ_self _,u,g1,g2⟩
 ·exact st.nw x hx
end
end Go.AM
end
section
set_option linter.unusedSimpArgs false
set_option linter.unusedVariables false
namespace Go.AM
section
variable {P:Program} {D:Nat→Type} {X:Ev P D} {ρ:Type} {z z':Nat→Blk} {e m m':Mem} {k:Option Nat} {vs:List Value} {fr:Nat→Value} {E:List (Nat×SV D)} {O:List (Ob D)} {o:Oper} {r:ρ}
def Rl (X:Ev P D) (z:Nat→Blk) (vs:List Value) (E:List (Nat×SV D)) (fr:Nat→Value):Prop:=∀d,rel X.G z vs (lkE E d) (fr d)
theorem Rl.mono (h:Rl X z vs E fr) {vs':List Value} (hz:Zle z z') (hv:∀(i:Nat) (u:Value),vs[i]? =some u→vs'[i]? =some u):Rl X z' vs' E fr:=fun d=>rel.mono (h d) hz hv
theorem Rl.cons (h:Rl X z vs E fr) {d:Nat} {s:SV D} (hs:rel X.G z vs s (fr d)):Rl X z vs ((d,s)::E) fr:=fun i=>by
 simp only[lkE]
 split
 ·rename_i hi
  have:d=i:=Nat.eq_of_beq_eq_true hi
  subst this;exact hs
 ·exact h i
theorem Rl.put (h:Rl X z vs E fr) {d:Option Nat} {s:SV D} {v:Value} (hs:rel X.G z vs s v):Rl X z vs (putE E d s) (set fr d v):=by
 cases d with
 |none=>exact h
 |some d=>
  intro i
  simp only[putE,lkE,set]
  split
  ·rename_i hi
   have:d=i:=Nat.eq_of_beq_eq_true hi
   subst this;rw[if_pos rfl];exact hs
  ·rename_i hi
   rw[if_neg]
   ·exact h i
   ·intro hh;subst hh;simp at hi
def Nx (X:Ev P D) (O:List (Ob D)) (z:Nat→Blk) (e:Mem) (k:Option Nat) (vs:List Value) (K:List (Nat×SV D)→List (Ob D)→Option ρ) (r:ρ) (fr':Nat→Value) (m':Mem):Prop:=
 ∃z' vs' E' O',Inv O O'∧Zx e.next z z'∧(∀(i:Nat) (u:Value),vs[i]? =some u→vs'[i]? =some u)∧Mm X.G O' z' e m' k vs'∧Rl X z' vs' E' fr'∧K E' O'=some r
theorem Nx.from {K:List (Nat×SV D)→List (Ob D)→Option ρ} {fr':Nat→Value} {z1:Nat→Blk} {vs1:List Value} {O1:List (Ob D)} (hi:Inv O O1) (hz:Zx e.next z z1) (hv:∀(i:Nat) (u:Value),vs[i]? =some u→vs1[i]? =some u) (h:Nx X O1 z1 e k vs1 K r fr' m'):Nx X O z e k vs K r fr' m':=by
 obtain ⟨z',vs',sv,O',h0,h1,h2,h3,h4,h5⟩:=h
 exact ⟨z',vs',sv,O',hi.trans h0,hz.trans h1,fun i u hu=>h2 i u (hv i u hu),h3,h4,h5⟩
theorem Nx.here {K:List (Nat×SV D)→List (Ob D)→Option ρ} (hM:Mm X.G O z e m k vs) (hE:Rl X z vs E fr) (hK:K E O=some r):Nx X O z e k vs K r fr m:=⟨z,vs,E,O,Inv.refl O,Zx.refl z,fun _ _ h=>h,hM,hE,hK⟩
theorem qil {d:Nat} {K:List (Nat×SV D)→Option ρ} (hE:Rl X z vs E fr) (h:qed E d K=some r):∃E',Rl X z vs E' fr∧K E'=some r:=by
 unfold qed at h
 have hd:=hE d
 split at h
 ·rename_i b hs
  rw[hs] at hd
  cases b with
  |true=>rw[if_pos rfl] at h;exact ⟨_,hE.cons (s:= .c (.bool true)) hd,h⟩
  |false=>rw[if_neg (by simp)] at h;exact ⟨_,hE.cons (s:= .c (.bool false)) hd,h⟩
 ·exact ⟨_,hE,h⟩
 ·cases h
theorem qsJ (hC:COk X) {K:List (Nat×SV D)→List (Ob D)→Option ρ} (hM:Mm X.G O z e m k vs) (hE:Rl X z vs E fr) (h:opP X o E O K=some r):StepX P (ev fr) o m fun _ v m'=>Nx X O z e k vs K r (set fr o.dst v) m':=by
 have go:∀{E:List (Nat×SV D)},Rl X z vs E fr→op1 X o.op E O (fun v O=>K (putE E o.dst v) O)=some r→StepX P (ev fr) o m fun _ v m'=>Nx X O z e k vs K r (set fr o.dst v) m':=by
  intro E hE h
  refine StepX.mono (qki hC rfl hM (qgu hE) h) ?_
  rintro t v m' ⟨z',vs',sv,O',h0,h1,h2,h3,h4,h5⟩
  exact ⟨z',vs',_,O',h0,h1,h2,h3,(hE.mono h1.le h2).put h4,h5⟩
 unfold opP at h
 split at h
 ·obtain ⟨E',hE',h⟩:=qil hE h
  exact go hE' h
 ·exact go hE h
theorem qdW (hC:COk X) {ops:List Oper} {K:List (Nat×SV D)→List (Ob D)→Option ρ}:∀{l:List Oper} {E:List (Nat×SV D)} {O:List (Ob D)} {z:Nat→Blk} {vs:List Value} {m:Mem} {fr:Nat→Value},Mm X.G O z e m k vs→Rl X z vs E fr→runL X ops l E O K=some r→SeqW P ops l (Nx X O z e k vs K r) fr m
 |[],E,O,z,vs,m,fr,hM,hE,h=>SeqW.nil (Nx.here hM hE h)
 |o::l,E,O,z,vs,m,fr,hM,hE,h=>by
  unfold runL at h
  have step:∀{E:List (Nat×SV D)},Rl X z vs E fr→(opP X o E O fun E O=>runL X ops l E O K)=some r→StepX P (ev fr) o m fun _ v m1=>SeqW P ops l (Nx X O z e k vs K r) (set fr o.dst v) m1:=by
   intro E hE h
   refine StepX.mono (qsJ hC hM hE h) ?_
   rintro t v m1 ⟨z',vs',E',O',h0,h1,h2,h3,h4,h5⟩
   exact SeqW.mono (qdW hC h3 h4 h5) fun _ _ hn=>hn.from h0 h1 h2
  split at h
  ·rename_i hg
   exact SeqW.consX (by simp only[wanted,hg]) (step hE h)
  ·rename_i j want hg
   split at h
   ·cases h
   ·rename_i d hd
    obtain ⟨E1,hE1,h⟩:=qil hE h
    have hv:=hE1 d
    split at h
    ·rename_i b hs
     rw[hs] at hv
     split at h
     ·rename_i hb
      exact SeqW.consG hg hd hv hb (step hE1 h)
     ·rename_i hb
      exact SeqW.skipG hg hd hv (by cases b<;>cases want<;>simp at hb⊢) (qdW hC hM (hE1.put (s:= .undef) rfl) h)
    ·rename_i hs
     rw[hs] at hv
     exact SeqW.skipU hg hd hv (qdW hC hM (hE1.put (s:= .undef) rfl) h)
    ·cases h
variable {z0:Nat→Blk}
theorem qfW {d:Nat} {K:List (Nat×SV D)→Option ρ} (hE:Rl X z vs E fr) (h:qed E d K=some r):∃E',Rl X z vs E' fr∧(∀c,lkE E' c=lkE E c∨isFz (lkE E' c)=false)∧K E'=some r:=by
 have hd:=hE d
 have nz:∀{b:Bool} (c:Nat),lkE ((d, .c (.bool b))::E) c=lkE E c∨isFz (lkE ((d, .c (.bool b))::E) c)=false:=by
  intro b c
  simp only[lkE]
  split
  ·exact .inr rfl
  ·exact .inl rfl
 unfold qed at h
 split at h
 ·rename_i b hb
  rw[hb] at hd
  have hd:fr d= .bool b:=hd
  split at h
  ·rename_i ht
   exact ⟨_,hE.cons (by rw[hd,ht];exact rfl),nz,h⟩
  ·rename_i ht
   exact ⟨_,hE.cons (by rw[hd];cases b with|true=>exact absurd rfl ht|false=>exact rfl),nz,h⟩
 ·exact ⟨E,hE,fun _=> .inl rfl,h⟩
 ·cases h
theorem Lg2.split {n0:Nat} {A:Acc} {L:Lg} {E':List (Nat×SV D)} (h:Lg2 n0 z0 z fr E m A L) (hq:∀c,lkE E' c=lkE E c∨isFz (lkE E' c)=false):Lg2 n0 z0 z fr E' m A L:=⟨h.le,h.n,h.lt,h.fl,fun d hd hf=>by
 rcases hq d with hq|hq
 ·rw[hq] at hf;exact h.old d hd hf
 ·rw[hq] at hf;cases hf⟩
theorem Lg2.skip {n0:Nat} {A:Acc} {L:Lg} {dst:Option Nat} (h:Lg2 n0 z0 z fr E m A L):Lg2 n0 z0 z (set fr dst undef) (putE E dst .undef) m A L:=by
 cases dst with
 |none=>exact h
 |some d=>
  refine ⟨h.le,h.n,h.lt,h.fl,fun c hc hf b hb=> ?_⟩
  simp only[putE,lkE] at hf
  split at hf
  ·cases hf
  ·rename_i hcd
   have:c≠d:=by rintro rfl;simp at hcd
   simp only[set,if_neg this] at hb
   exact h.old c hc hf b hb
theorem qmG (hC:COk X) {B:Array Nat} {ops l:List Oper} {i:Nat} {A:Acc} {L:Lg} {n0:Nat} {Q:(Nat→Value)→Mem→Prop} {K:Lg→List (Nat×SV D)→List (Ob D)→Option ρ} (hM:Mm X.G O z e m k vs) (hE:Rl X z vs E fr) (hL:LgOk z m vs A L) (hg:Lg2 n0 z0 z fr E m A L) (h:opD1 X B i o L E O K=some r)
  (hk:∀{z':Nat→Blk} {vs':List Value} {m':Mem} {A':Acc} {L':Lg} {E':List (Nat×SV D)} {O':List (Ob D)} {v:Value},Inv O O'→Zx e.next z z'→(∀(i:Nat) (u:Value),vs[i]? =some u→vs'[i]? =some u)→Mm X.G O' z' e m' k vs'→Rl X z' vs' E' (set fr o.dst v)→LgOk z' m' vs' A' L'→Lg2 n0 z0 z' (set fr o.dst v) E' m' A' L'→K L' E' O'=some r→DrawW P ops B (i+1) l A' Q (set fr o.dst v) m'):
  StepX P (ev fr) o m fun t v m1=>obl B i A m t m1∧DrawW P ops B (i+1) l (accT A i m t) Q (set fr o.dst v) m1:=by
 have hR:=qgu hE
 unfold opD1 at h
 split at h
 ·rename_i hef
  split at h
  ·rename_i ts ht
   obtain ⟨hchk,h⟩:=ite_some h
   have clash:∀{v:Value},ReadR P (ev fr) o m v→False:=fun hr=>by
    have:=qcH hr
    revert this hef
    cases o.op<;>simp[qbl,qdR]
   have clash':∀{Y:Blk} {v:Value},NewR P (ev fr) o m.next Y v→False:=fun hr=>by
    have:=qco hr
    revert this hef
    cases o.op<;>simp[qbl,qdm]
   have nd:drvS E L o.op=true→False:=fun hd=>by
    revert hd hef
    cases o.op<;>simp[qbl,drvS]
   refine (qsK hC hM hR hef ht h).monoE (fun v _ hh=> ?_) (fun v hr _=>(clash hr).elim) (fun Y v hr _=>(clash' hr).elim) fun n v m' he hh=> ?_
   ·obtain ⟨_,⟨z',vs',sv,O',h0,h1,h2,h3,h4,h5⟩,hqt,q,hc,hq⟩:=hh
    obtain ⟨g1,g2⟩:=hL.eff (B:=B) (qt:=qbw X E O o.op) hM h1.le h2 (Chg.any (Chg.refl m) none) (.inl rfl) (fun _=>rfl) hchk
    have e2:=(hg.eff (O:=O) (ts:=ts) (q:=none) (i:=i) (qt:=qbw X E O o.op) (Chg.refl m) (fun b _=>by simp)).zle h1.le
    exact ⟨trivial,hk h0 h1 h2 h3 ((hE.mono h1.le h2).put h4) (qc4 ⟨g2.rd,fun x hx=>g2.ef x (List.mem_cons_of_mem _ hx),g2.nw⟩) (Lg2.put ⟨e2.le,e2.n,e2.lt,fun x hx=>e2.fl x (List.mem_cons_of_mem _ hx),e2.old⟩ fun hd=>(nd hd).elim) h5⟩
   ·obtain ⟨⟨z',vs',sv,O',h0,h1,h2,h3,h4,h5⟩,hqt,q,hc,hq⟩:=hh
    obtain ⟨g1,g2⟩:=hL.eff (B:=B) hM h1.le h2 hc hq hqt hchk
    exact ⟨g1,hk h0 h1 h2 h3 ((hE.mono h1.le h2).put h4) (qc4 g2) (Lg2.put ((hg.eff hc (qoI hM (Bool.and_eq_true_iff.1 hchk).1 hq hg.le)).zle h1.le) fun hd=>(nd hd).elim) h5⟩
  ·obtain ⟨hchk,h⟩:=ite_some h
   have clash:∀{v:Value},ReadR P (ev fr) o m v→False:=fun hr=>by
    have:=qcH hr
    revert this hef
    cases o.op<;>simp[qbl,qdR]
   have clash':∀{Y:Blk} {v:Value},NewR P (ev fr) o m.next Y v→False:=fun hr=>by
    have:=qco hr
    revert this hef
    cases o.op<;>simp[qbl,qdm]
   have nd:drvS E L o.op=true→False:=fun hd=>by
    revert hd hef
    cases o.op<;>simp[qbl,drvS]
   refine (qki hC rfl hM hR h).monoE (fun v _ hh=> ?_) (fun v hr _=>(clash hr).elim) (fun Y v hr _=>(clash' hr).elim) fun n v m' he hh=> ?_
   ·obtain ⟨_,z',vs',sv,O',h0,h1,h2,h3,h4,h5⟩:=hh
    obtain ⟨g1,g2⟩:=hL.effW (z':=z') (m':=m) h2 (Nat.le_refl _) hchk
    have e2:=hg.effW (i:=i) (Nat.le_refl _) h1.le hM.st h3.st
    exact ⟨trivial,hk h0 h1 h2 h3 ((hE.mono h1.le h2).put h4) (qc4 ⟨g2.rd,fun x hx=>g2.ef x (List.mem_cons_of_mem _ hx),g2.nw⟩) (Lg2.put ⟨e2.le,e2.n,e2.lt,fun x hx=>e2.fl x (List.mem_cons_of_mem _ hx),e2.old⟩ fun hd=>(nd hd).elim) h5⟩
   ·obtain ⟨z',vs',sv,O',h0,h1,h2,h3,h4,h5⟩:=hh
    have hn:=qgf (qdE n) he
    obtain ⟨g1,g2⟩:=hL.effW (z':=z') h2 hn hchk
    exact ⟨g1,hk h0 h1 h2 h3 ((hE.mono h1.le h2).put h4) (qc4 g2) (Lg2.put (hg.effW hn h1.le hM.st h3.st) fun hd=>(nd hd).elim) h5⟩
 ·rename_i hef
  split at h
  ·rename_i s hs
   obtain ⟨hchk,h⟩:=ite_some h
   refine (qki hC rfl hM hR h).monoE (fun v hp hh=> ?_) (fun v hr hh=> ?_) (fun Y v hr hh=> ?_) fun n v m' he _=>absurd (qeH he) hef
   ·obtain ⟨_,z',vs',sv,O',h0,h1,h2,h3,h4,h5⟩:=hh
    dsimp only at h5
    split at h5
    ·rename_i n hn
     exact ⟨trivial,hk h0 h1 h2 h3 ((hE.mono h1.le h2).put h4) (qc4 ((hL.quiet h1.le h2 rfl).sup i s n)) (Lg2.put (L:=rdLg i s n L) ((hg.zle h1.le).log rfl rfl) fun hd=>qop hg hd hp) h5⟩
    ·cases h5
   ·obtain ⟨z',vs',sv,O',h0,h1,h2,h3,h4,h5⟩:=hh
    dsimp only at h5
    split at h5
    ·rename_i n hn
     obtain ⟨g1,g2⟩:=hL.read (n:=n) (B:=B) (i:=i) hM hR h1.le h2 hs hchk hr hg
     exact ⟨g1,hk h0 h1 h2 h3 ((hE.mono h1.le h2).put h4) (qc4 g2) (Lg2.put (L:=rdLg i s n L) ((hg.zle h1.le).log rfl rfl) fun hd=>(by
      have:=qcH hr
      revert this hd
      cases o.op<;>simp[drvS,qdR])) h5⟩
    ·cases h5
   ·obtain ⟨z',vs',sv,O',h0,h1,h2,h3,h4,h5⟩:=hh
    dsimp only at h5
    split at h5
    ·rename_i n hn
     rw[nwOf,if_pos (qco hr)] at hn
     obtain ⟨j,rfl,hj⟩:=qsE hr h4 hn
     exact ⟨trivial,hk h0 h1 h2 h3 ((hE.mono h1.le h2).put h4) (qc4 (hL.new (i:=i) (s:=s) (Y:=Y) h1.le h2 hj)) (Lg2.put (L:=rdLg i s (some j) L) (((hg.grow (Chg.push m Y)).zle h1.le).log rfl rfl) fun hd=>(by
      have:=qco hr
      revert this hd
      cases o.op<;>simp[drvS,qdm])) h5⟩
    ·cases h5
  ·cases h
theorem qsI (hC:COk X) {B:Array Nat} {ops l:List Oper} {i:Nat} {A:Acc} {L:Lg} {n0:Nat} {Q:(Nat→Value)→Mem→Prop} {K:Lg→List (Nat×SV D)→List (Ob D)→Option ρ} (hM:Mm X.G O z e m k vs) (hE:Rl X z vs E fr) (hL:LgOk z m vs A L) (hg:Lg2 n0 z0 z fr E m A L) (h:opD X B i o L E O K=some r)
  (hk:∀{z':Nat→Blk} {vs':List Value} {m':Mem} {A':Acc} {L':Lg} {E':List (Nat×SV D)} {O':List (Ob D)} {v:Value},Inv O O'→Zx e.next z z'→(∀(i:Nat) (u:Value),vs[i]? =some u→vs'[i]? =some u)→Mm X.G O' z' e m' k vs'→Rl X z' vs' E' (set fr o.dst v)→LgOk z' m' vs' A' L'→Lg2 n0 z0 z' (set fr o.dst v) E' m' A' L'→K L' E' O'=some r→DrawW P ops B (i+1) l A' Q (set fr o.dst v) m'):
  StepX P (ev fr) o m fun t v m1=>obl B i A m t m1∧DrawW P ops B (i+1) l (accT A i m t) Q (set fr o.dst v) m1:=by
 unfold opD at h
 split at h
 ·rename_i dd hpd
  obtain ⟨E',hE',hq,h⟩:=qfW hE h
  have hg':=hg.split hq
  exact qmG hC hM hE' hL hg' h hk
 ·exact qmG hC hM hE hL hg h hk
theorem DrawW.mono {ops l:List Oper} {B:Array Nat} {i:Nat} {A:Acc} {K K':(Nat→Value)→Mem→Prop} (h:DrawW P ops B i l A K fr m) (hk:∀fr m,K fr m→K' fr m):DrawW P ops B i l A K' fr m:=
 let ⟨n,fr',m',h1,h2⟩:=h;⟨n,fr',m',h1,hk _ _ h2⟩
theorem qgQ (hC:COk X) {B:Array Nat} {ops:List Oper} {n0:Nat} {K:List (Nat×SV D)→List (Ob D)→Option ρ}:∀{l:List Oper} {i:Nat} {A:Acc} {L:Lg} {E:List (Nat×SV D)} {O:List (Ob D)} {z:Nat→Blk} {vs:List Value} {m:Mem} {fr:Nat→Value},Mm X.G O z e m k vs→Rl X z vs E fr→LgOk z m vs A L→Lg2 n0 z0 z fr E m A L→runD X B ops i l L E O K=some r→DrawW P ops B i l A (Nx X O z e k vs K r) fr m
 |[],i,A,L,E,O,z,vs,m,fr,hM,hE,hL,hG,h=>DrawW.done fun fr' hf=>by rw[hf];exact Nx.here hM hE h
 |o::l,i,A,L,E,O,z,vs,m,fr,hM,hE,hL,hG,h=>by
  unfold runD at h
  have step:∀{E:List (Nat×SV D)},Rl X z vs E fr→Lg2 n0 z0 z fr E m A L→(opD X B i o L E O fun L E O=>runD X B ops (i+1) l L E O K)=some r→StepX P (ev fr) o m fun t v m1=>obl B i A m t m1∧DrawW P ops B (i+1) l (accT A i m t) (Nx X O z e k vs K r) (set fr o.dst v) m1:=by
   intro E hE hg h
   refine qsI hC hM hE hL hg h ?_
   intro z' vs' m' A' L' E' O' v h0 h1 h2 h3 h4 h5 h7 h6
   exact DrawW.mono (qgQ hC h3 h4 h5 h7 h6) fun _ _ hn=>hn.from h0 h1 h2
  split at h
  ·rename_i hg
   exact DrawW.cons (by simp only[wanted,hg]) (step hE hG h)
  ·rename_i j want hg
   split at h
   ·cases h
   ·rename_i d hd
    obtain ⟨E1,hE1,hq1,h⟩:=qfW hE h
    have hg1:=hG.split hq1
    have hv:=hE1 d
    split at h
    ·rename_i b hs
     rw[hs] at hv
     split at h
     ·rename_i hb
      exact DrawW.consG hg hd hv hb (step hE1 hg1 h)
     ·rename_i hb
      exact DrawW.skipG hg hd hv (by cases b<;>cases want<;>simp at hb⊢) (qgQ hC hM (hE1.put (s:= .undef) rfl) hL hg1.skip h)
    ·rename_i hs
     rw[hs] at hv
     exact DrawW.skipU hg hd hv (qgQ hC hM (hE1.put (s:= .undef) rfl) hL hg1.skip h)
    ·cases h
theorem LgOk.start:LgOk z m vs ⟨[],[],[]⟩ ⟨[],[],[],[],[]⟩:=⟨by simp,by simp,by simp⟩
def PcOk (X:Ev P D) (B:Code) (u:Pc D):Prop:=∀{ρ:Type} (E:List (Nat×SV D)) (O:List (Ob D)) (K:AExit→List (Nat×SV D)→List (Ob D)→Option ρ) (r:ρ) {z:Nat→Blk} {e m:Mem} {k:Option Nat} {vs:List Value} {fr:Nat→Value},
 u.fits E O=true→Mm X.G O z e m k vs→Rl X z vs E fr→u.run E O K=some r→W P (sub B u.path) (fun x=>Nx X O z e k vs (K x) r) fr m
theorem qjo:∀(c:Code) (p q:List Nat),sub (sub c p) q=sub c (p++q):=by
 intro c p
 induction p generalizing c with
 |nil=>intro q;cases c<;>rfl
 |cons i p ih=>
  intro q
  cases c with
  |seq a b=>cases i with
   |zero=>exact ih a q
   |succ i=>exact ih b q
  |cond x a b=>cases i with
   |zero=>exact ih a q
   |succ i=>exact ih b q
  |block n c=>cases i with
   |zero=>exact ih c q
   |succ i=>exact ih c q
  |scope c=>cases i with
   |zero=>exact ih c q
   |succ i=>exact ih c q
  |loop c=>cases i with
   |zero=>exact ih c q
   |succ i=>exact ih c q
  |_=>rcases q with _|⟨_|j,q⟩<;>cases i<;>rfl
theorem qcO {B c:Code} {p:List Nat} {i:Nat} (h:sub B p.reverse=c):sub B (i::p).reverse=sub c [i]:=by rw[List.reverse_cons,←qjo,h]
theorem qbj (c:Code):sub c []=c:=by cases c<;>rfl
theorem qpA:∀{p q:List Nat},eqP p q=true→p=q
 |[],[],_=>rfl
 |a::p,b::q,h=>by
  simp only[eqP,Bool.and_eq_true] at h
  rw[Nat.eq_of_beq_eq_true h.1,qpA h.2]
 |[],_::_,h=>by cases h
 |_::_,[],h=>by cases h
theorem qkL {us:List (Pc D)} {p:List Nat} {u:Pc D} (h:qff us p E O=some u):u∈us∧u.path=p∧u.fits E O=true:=by
 induction us with
 |nil=>cases h
 |cons w us ih=>
  simp only[qff] at h
  split at h
  ·rename_i hw
   cases h
   simp only[Bool.and_eq_true] at hw
   exact ⟨List.mem_cons_self,qpA hw.1,hw.2⟩
  ·obtain ⟨h1,h2⟩:=ih h
   exact ⟨List.mem_cons_of_mem _ h1,h2⟩
theorem qjY:∀{n:Nat} {O O1:List (Ob D)} {z:Nat→Blk} {m:Mem} {vs:List Value},Mm X.G O z e m k vs→qnK n O=some O1→∃z',Inv O O1∧Zx e.next z z'∧Mm X.G O1 z' e m k vs
 |0,O,O1,z,m,vs,hM,h=>by cases h;exact ⟨z,Inv.refl O,Zx.refl z,hM⟩
 |n+1,O,O1,z,m,vs,hM,h=>by
  simp only[qnK] at h
  split at h
  ·rename_i O2 h2
   obtain ⟨z1,a1,a2,a3⟩:=qjY hM h2
   split at h
   ·split at h
    ·cases h;exact ⟨z1,a1,a2,a3⟩
    ·obtain ⟨z2,b1,b2,b3⟩:=qc9 a3 h
     exact ⟨z2,a1.trans b1,a2.trans b2,b3⟩
   ·cases h;exact ⟨z1,a1,a2,a3⟩
  ·cases h
theorem Nx.fill {K:List (Nat×SV D)→List (Ob D)→Option ρ} {r:ρ} {vs:List Value} {m':Mem} {fr':Nat→Value} (h:Nx X O z e k vs (qhR K) r fr' m'):Nx X O z e k vs K r fr' m':=by
 obtain ⟨z1,vs1,E1,O1,h0,h1,h2,h3,h4,h5⟩:=h
 unfold qhR at h5
 split at h5
 ·rename_i O2 hf
  obtain ⟨z2,a1,a2,a3⟩:=qjY h3 hf
  exact ⟨z2,vs1,E1,O2,h0.trans a1,h1.trans a2,h2,a3,h4.mono a2.le fun _ _ h=>h,h5⟩
 ·cases h5
theorem qfy (hC:COk X) {B:Code} {us:List (Pc D)} {L:Nat} (hus:∀u∈us,L<u.path.length→PcOk X B u):
  ∀(c:Code) (top:Bool) (p:List Nat) (E:List (Nat×SV D)) (O:List (Ob D)) (K:AExit→List (Nat×SV D)→List (Ob D)→Option ρ) (r:ρ) {z:Nat→Blk} {vs:List Value} {m:Mem} {fr:Nat→Value},
   sub B p.reverse=c→L≤p.length→(top=false→L<p.length)→Mm X.G O z e m k vs→Rl X z vs E fr→exC X us calm top p c E O K=some r→W P c (fun x=>Nx X O z e k vs (K x) r) fr m:=by
 intro c
 have piece:∀{c:Code} {top:Bool} {p:List Nat} {E:List (Nat×SV D)} {O:List (Ob D)} {K:AExit→List (Nat×SV D)→List (Ob D)→Option ρ} {r:ρ} {z:Nat→Blk} {vs:List Value} {m:Mem} {fr:Nat→Value} {u:Pc D},
   sub B p.reverse=c→(top=false→L<p.length)→Mm X.G O z e m k vs→Rl X z vs E fr→(if top=true then none else qff us p.reverse E O)=some u→u.run E O K=some r→W P c (fun x=>Nx X O z e k vs (K x) r) fr m:=by
  intro c top p E O K r z vs m fr u hp ht hM hE hu h
  cases top with
  |true=>cases hu
  |false=>
   obtain ⟨h1,h2,h3⟩:=qkL hu
   have:=hus u h1 (by rw[h2,List.length_reverse];exact ht rfl) E O K r h3 hM hE h
   rw[h2,hp] at this
   exact this
 induction c with
 |seq a b iha ihb=>
  intro top p E O K r z vs m fr hp hL ht hM hE h
  simp only[exC] at h
  split at h
  ·rename_i u hu
   exact piece hp ht hM hE hu h
  ·refine W.seq ((iha false (0::p) E O _ r (by rw[qcO hp];exact qbj a) (by simp;omega) (fun _=>by simp;omega) hM hE h).mono ?_)
   rintro x fr1 m1 ⟨z1,vs1,E1,O1,h0,h1,h2,h3,h4,h5⟩
   cases x with
   |normal=>
    have h5:=(if_pos rfl).symm.trans h5
    exact (ihb false (1::p) E1 O1 K r (by rw[qcO hp];exact qbj b) (by simp;omega) (fun _=>by simp;omega) h3 h4 h5).mono fun _ _ _ hn=>hn.from h0 h1 h2
   |exit i=>exact ⟨z1,vs1,E1,O1,h0,h1,h2,h3,h4,(if_neg (by simp)).symm.trans h5⟩
   |ret=>exact ⟨z1,vs1,E1,O1,h0,h1,h2,h3,h4,(if_neg (by simp)).symm.trans h5⟩
 |cond x a b iha ihb=>
  intro top p E O K r z vs m fr hp hL ht hM hE h
  simp only[exC] at h
  split at h
  ·rename_i u hu
   exact piece hp ht hM hE hu h
  ·split at h
   ·rename_i t hs
    have hx:=qgu hE x
    rw[hs] at hx
    cases t with
    |true=>
     rw[if_pos rfl] at h
     exact W.condT hx rfl (iha false (0::p) E O K r (by rw[qcO hp];exact qbj a) (by simp;omega) (fun _=>by simp;omega) hM hE h)
    |false=>
     rw[if_neg (by simp)] at h
     exact W.condF hx rfl (ihb false (1::p) E O K r (by rw[qcO hp];exact qbj b) (by simp;omega) (fun _=>by simp;omega) hM hE h)
   ·cases h
 |scope c ih=>
  intro top p E O K r z vs m fr hp hL ht hM hE h
  simp only[exC] at h
  split at h
  ·rename_i u hu
   exact piece hp ht hM hE hu h
  ·exact W.scope (ih false (0::p) E O K r (by rw[qcO hp];exact qbj c) (by simp;omega) (fun _=>by simp;omega) hM hE h)
 |block i c ih=>
  intro top p E O K r z vs m fr hp hL ht hM hE h
  simp only[exC] at h
  split at h
  ·rename_i u hu
   exact piece hp ht hM hE hu h
  ·refine W.block ((ih false (0::p) E O _ r (by rw[qcO hp];exact qbj c) (by simp;omega) (fun _=>by simp;omega) hM hE h).mono ?_)
   rintro x fr1 m1 hn
   obtain ⟨z1,vs1,E1,O1,h0,h1,h2,h3,h4,h5⟩:=hn
   cases x with
   |normal=>exact ⟨z1,vs1,E1,O1,h0,h1,h2,h3,h4,by simpa using h5⟩
   |exit j=>
    by_cases hij:j=i
    ·subst hij;exact blockQ.hit ⟨z1,vs1,E1,O1,h0,h1,h2,h3,h4,by simpa using h5⟩
    ·exact blockQ.miss (by simpa using hij) ⟨z1,vs1,E1,O1,h0,h1,h2,h3,h4,by simpa[hij] using h5⟩
   |ret=>exact ⟨z1,vs1,E1,O1,h0,h1,h2,h3,h4,by simpa using h5⟩
 |region id ops d=>
  intro top p E O K r z vs m fr hp hL ht hM hE h
  simp only[exC] at h
  split at h
  ·rename_i u hu
   exact piece hp ht hM hE hu h
  ·cases d with
   |true=>
    rw[if_pos rfl] at h
    split at h
    ·rename_i hc
     exact (W.calm (Q:=fun x=>Nx X O z e k vs (qhR (K x)) r) hc (qdW hC hM hE h)).mono fun _ _ _ hn=>hn.fill
    ·exact (W.draw (Q:=fun x=>Nx X O z e k vs (qhR (K x)) r) (qgQ hC hM hE LgOk.start (Lg2.start hM hE) h)).mono fun _ _ _ hn=>hn.fill
   |false=>
    rw[if_neg (by simp)] at h
    exact (W.region (Q:=fun x=>Nx X O z e k vs (qhR (K x)) r) (qdW hC hM hE h)).mono fun _ _ _ hn=>hn.fill
 |loop c ih=>
  intro top p E O K r z vs m fr hp hL ht hM hE h
  simp only[exC] at h
  split at h
  ·rename_i u hu
   exact piece hp ht hM hE hu h
  ·cases h
 |skip=>intro top p E O K r z vs m fr hp hL ht hM hE h;exact W.skip (Nx.here hM hE h)
 |label l=>intro top p E O K r z vs m fr hp hL ht hM hE h;exact W.label (Nx.here hM hE h)
 |exit i=>intro top p E O K r z vs m fr hp hL ht hM hE h;exact W.exit (Nx.here hM hE h)
 |ret=>intro top p E O K r z vs m fr hp hL ht hM hE h;exact W.ret (Nx.here hM hE h)
 |_=>intro top p E O K r z vs m fr hp hL ht hM hE h;simp[exC] at h
end
end Go.AM
end
section
set_option linter.unusedSimpArgs false
set_option linter.unusedVariables false
namespace Go.AM
inductive Cl where
 |int (k:IntKind)|bool|str
 |sl (e:Nat)|mp (t kt vt:Nat)
 |agg (t:Nat)|rp (t:Nat)
 |fn (f:Nat) (ts:List Nat)
 |cut (j e:Nat)
inductive OC where
 |sl (e:Nat)|box (t:Nat)|recv (t:Nat)|arr (e t n:Nat)|map (t kt vt:Nat)
 |bx (t:Nat) (l:List (Nat×Nat))
 |fb (t f:Nat) (is:List Nat)
 |ne (e t:Nat)
inductive It where
 |v (d:Nat) (c:Cl)
 |o (d:Nat) (c:OC)
 |u (j:Nat) (c:OC)
noncomputable section
section
variable {P:Program} {D:Nat→Type}
def inDs (D:Nat→Type):List Nat→Type
 |[]=>Unit
 |t::ts=>D t×inDs D ts
def Cl.ty (D:Nat→Type):Cl→Type
 | .int _=>Int
 | .bool=>Bool
 | .str=>List UInt8
 | .sl e=>List (D e)
 | .mp _ kt vt=>List (D kt×D vt)
 | .agg t=>D t
 | .rp t=>D t
 | .fn _ ts=>inDs D ts
 | .cut _ _=>Nat×Nat
def OC.ty (D:Nat→Type):OC→Type
 | .sl e=>List (D e)
 | .box t=>D t
 | .recv t=>D t
 | .arr e _ _=>List (D e)
 | .map _ kt vt=>List (D kt×D vt)
 | .bx t _=>D t
 | .fb _ _ _=>Unit
 | .ne _ t=>List (List (D t))
def It.ty (D:Nat→Type):It→Type
 | .v _ c=>c.ty D
 | .o _ c=>c.ty D
 | .u _ c=>c.ty D
def inT (D:Nat→Type):List It→Type
 |[]=>Unit
 |i::is=>i.ty D×inT D is
variable (X:Ev P D)
def lvX (t:Nat) (x:D t):List (CV D):=match X.I t with|some ti=>ti.lv x|none=>[]
def pkX (t:Nat) (cs:List (CV D)):Option (D t):=match X.I t with|some ti=>ti.pk cs|none=>none
def qdn:(ts:List Nat)→inDs D ts→List (Nat×List (CV D))
 |[],_=>[]
 |t::ts,x=>(t,lvX X t x.1)::qdn ts x.2
def qeP:(ts:List Nat)→List (Nat×List (CV D))→Option (inDs D ts)
 |[],[]=>some ()
 |t::ts,p::l=>if p.1=t then (match pkX X t p.2,qeP ts l with|some a,some b=>some (a,b)|_,_=>none) else none
 |_,_=>none
def Cl.mk:(c:Cl)→c.ty D→SV D
 | .int k,n=> .c (.int k n)
 | .bool,b=> .c (.bool b)
 | .str,s=> .c (.str s)
 | .sl e,xs=> .c (.sl e xs)
 | .mp t kt vt,es=> .c (.mp t kt vt es)
 | .agg t,x=> .agg t (lvX X t x)
 | .rp t,x=> .rp t (lvX X t x) 0
 | .fn f ts,x=> .fn f (qdn X ts x)
 | .cut j e,x=> .cut j e x.1 x.2
def Cl.get:(c:Cl)→SV D→Option (c.ty D)
 | .int k, .c (.int k' n)=>if k'=k then some n else none
 | .bool, .c (.bool b)=>some b
 | .str, .c (.str s)=>some s
 | .sl e, .c .nilS=>some []
 | .mp t kt vt, .c .nilM=>some []
 | .sl e, .c (.sl e' xs)=>if h:e'=e then some (h▸xs) else none
 | .mp t kt vt, .c (.mp t' kt' vt' es)=>if h:kt'=kt∧vt'=vt then (if t'=t then some (h.1▸h.2▸es) else none) else none
 | .agg t, .agg t' cs=>if t'=t then pkX X t cs else none
 | .rp t, .rp t' cs off=>if t'=t∧off=0 then pkX X t cs else none
 | .fn f ts, .fn f' l=>if f'=f then qeP X ts l else none
 | .cut _ e, .cut _ e' lo n=>if e'=e then some (lo,n) else none
 |_,_=>none
def fndN:List (Nat×Nat)→Nat→Option Nat
 |[],_=>none
 |p::l,i=>if Nat.beq p.1 i=true then some p.2 else fndN l i
def ownG (τ:Nat→Nat) (l:List (Nat×Nat)):Nat→List (CV D)→List (CV D)
 |_,[]=>[]
 |i,c::cs=>(match fndN l i with|some n=> .own (τ n)|none=>c)::ownG τ l (i+1) cs
def zcX (t:Nat):List (CV D):=match X.I t with|some ti=>ti.zc|none=>[]
def nilG (zs:List (CV D)) (l:List (Nat×Nat)):Nat→List (CV D)→List (CV D)
 |_,[]=>[]
 |i,c::cs=>(match fndN l i with|some _=>zs.getD i .nilS|none=>c)::nilG zs l (i+1) cs
def OC.mkr (τ:Nat→Nat):(c:OC)→c.ty D→Bool→Ob D
 | .sl e,xs,w=> .sl e xs false w
 | .box t,x,w=> .box t (lvX X t x) false w
 | .recv t,x,w=> .recv t (lvX X t x) w
 | .arr e t n,xs,w=> .arr e t n xs w
 | .map t kt vt,es,w=> .map t kt vt es false w
 | .bx t l,x,w=> .box t (ownG τ l 0 (lvX X t x)) false w
 | .fb t f is,_,w=> .box t [.fn f (is.map τ)] false w
 | .ne e t,xss,w=> .nest e t ((X.N e t).map NI.up) xss none w
def OC.mk (c:OC) (x:c.ty D) (w:Bool):Ob D:=OC.mkr X (fun n=>n) c x w
def OC.nums:OC→List Nat
 | .bx _ l=>l.map Prod.snd
 | .fb _ _ is=>is
 |_=>[]
def optB (a:Option Nat) (i:Nat):Bool:=match a with|some j=>Nat.beq j i|none=>false
def ql9 (σ:List Nat) (cs:List (CV D)):List (Nat×Nat)→Bool
 |[]=>true
 |p::l=>(match cs[p.1]? with|some (.own i)=>optB (σ[p.2]?) i|_=>false)&&ql9 σ cs l
def capB (σ:List Nat):List Nat→List Nat→Bool
 |[],[]=>true
 |n::l,i::k=>optB (σ[n]?) i&&capB σ l k
 |_,_=>false
def OC.get (σ:List Nat):(c:OC)→Ob D→Option (c.ty D)
 | .sl e, .sl e' xs false _=>if h:e'=e then some (h▸xs) else none
 | .box t, .box t' cs false _=>if t'=t then pkX X t cs else none
 | .recv t, .recv t' cs _=>if t'=t then pkX X t cs else none
 | .arr e t n, .arr e' t' n' xs _=>if h:e'=e then (if t'=t∧n'=n then some (h▸xs) else none) else none
 | .map t kt vt, .map t' kt' vt' es false _=>if h:kt'=kt∧vt'=vt then (if t'=t then some (h.1▸h.2▸es) else none) else none
 | .bx t l, .box t' cs false _=>if t'=t∧ql9 σ cs l=true then pkX X t (nilG (zcX X t) l 0 cs) else none
 | .fb t f is, .box t' [.fn f' js] false _=>if t'=t∧f'=f∧capB σ is js=true then some () else none
 | .ne e t, .nest e' t' _ xss none _=>if h:t'=t then (if e'=e then some (h▸xss) else none) else none
 |_,_=>none
def Ob.clean:Ob D→Bool
 | .box _ cs _ _=>cs.all qkU
 | .recv _ cs _=>cs.all qkU
 | .nest _ _ _ _ _ _=>false
 |_=>true
def frzV (O:List (Ob D)):SV D→Option (SV D×List (Ob D))
 | .c c=>(match frzC O c with|some (c',O')=>some (.c c',O')|none=>none)
 | .agg t cs=>(match frzL O cs with|some (cs',O')=>some (.agg t cs',O')|none=>none)
 | .cut i e lo n=>(match frzO O i with|some (.sl e' xs,O')=>if e'=e then some (.c (.sl e' ((xs.take n).drop lo)),O') else none|_=>none)
 |s=>some (s,O)
def qqF:SV D→Option Nat
 | .c (.own i)=>some i
 | .box i _=>some i
 | .arr i=>some i
 | .el i _ _ _=>some i
 |_=>none
def unl (l:List (Nat×Nat)):Nat→List (CV D)→Bool
 |_,[]=>false
 |i,c::cs=>(match c with| .own _=>(match fndN l i with|none=>true|_=>false)|_=>false)||unl l (i+1) cs
def frzG (l:List (Nat×Nat)):Nat→List (CV D)→List (Ob D)→Option (List (CV D)×List (Ob D))
 |_,[],O=>some ([],O)
 |i,c::cs,O=>
  match (match fndN l i with|some _=>some (c,O)|none=>frzC O c) with
  |some (c',O')=>(match frzG l (i+1) cs O' with|some (cs',O'')=>some (c'::cs',O'')|none=>none)
  |none=>none
def frzX (l:List (Nat×Nat)) (O:List (Ob D)) (i:Nat):Option (List (Ob D)):=
 match O[i]? with
 |some (.box t cs false _)=>if unl l 0 cs=true then (match frzG l 0 cs O with|some (cs',O')=>some (O'.set i (.box t cs' false true))|none=>none) else some O
 |_=>some O
def frzW (c:Cl) (O:List (Ob D)) (s:SV D):Option (SV D×List (Ob D)):=
 match c,s with
 | .cut _ _,s=>some (s,O)
 | .rp _, .box i off=>
  (match frzX [] O i with
  |some O1=>(match qiI O1 (.box i off) with|some (p,O2)=>some (.rp p.1 p.2 0,O2)|none=>none)
  |none=>none)
 |_,s=>frzV O s
def frzA (E:List (Nat×SV D)):List It→List (Ob D)→Option (List (SV D)×List (Ob D))
 |[],O=>some ([],O)
 | .v d c::its,O=>
  match frzW c O (lkE E d) with
  |some (s,O')=>(match frzA E its O' with|some (l,O'')=>some (s::l,O'')|none=>none)
  |none=>none
 |_::its,O=>match frzA E its O with|some (l,O')=>some (.un::l,O')|none=>none
def VC:Nat:=2000000
def XA:Nat:=100000000
def XB:Nat:=200000000
def ql7:List (CV D)→List Nat
 |[]=>[]
 | .own i::cs=>i::ql7 cs
 | .fn _ is::cs=>is++ql7 cs
 |_::cs=>ql7 cs
def qsw (O:List (Ob D)) (i:Nat):List Nat:=
 match O[i]? with
 |some (.box _ cs _ _)=>ql7 cs
 |some (.recv _ cs _)=>ql7 cs
 |_=>[]
def qm2 (O:List (Ob D)):Nat→List Nat→List Nat→List Nat
 |0,_,s=>s
 |_+1,[],s=>s
 |n+1,i::l,s=>if s.any (Nat.beq i)=true then qm2 O n l s else qm2 O n (qsw O i++l) (s++[i])
def qr1:List (Nat×SV D)→List Nat
 |[]=>[]
 |p::E=>(match qqF p.2 with|some i=>[i]|none=>[])++qr1 E
def qr0 (E:List (Nat×SV D)) (O:List (Ob D)):Nat→Nat→Option Nat
 |0,_=>none
 |n+1,m=>if Nat.beq (m%64) 0=true then qqF (lkE E (m / 64)) else (match qr0 E O n (m / 64) with|some i=>(qsw O i)[m%64 - 1]? |none=>none)
def anch (E:List (Nat×SV D)) (O:List (Ob D)) (d:Nat):Option Nat:=
 if Nat.ble XB d=true then qr0 E O 8 (d - XB) else
 if Nat.blt d VC=true then qqF (lkE E d)
 else if Nat.ble XA d=true then some (d - XA)
 else match lkE E ((d - VC) / 1000) with
  | .box i 0=>(match O[i]? with|some (.box _ cs _ _)=>(match cs[(d - VC)%1000]? with|some (.own n)=>some n|_=>none)|_=>none)
  |_=>none
def ancs (E:List (Nat×SV D)) (O:List (Ob D)):List It→Option (List Nat)
 |[]=>some []
 | .o d _::its=>(match anch E O d,ancs E O its with|some i,some l=>some (i::l)|_,_=>none)
 |_::its=>ancs E O its
def frzB (E:List (Nat×SV D)):List It→List (Ob D)→Option (List (Ob D))
 |[],O=>some O
 | .o d (.box _)::its,O=>(match anch E O d with|some i=>(match frzX [] O i with|some O'=>frzB E its O'|none=>none)|none=>none)
 | .o d (.bx _ l)::its,O=>(match anch E O d with|some i=>(match frzX l O i with|some O'=>frzB E its O'|none=>none)|none=>none)
 | .u j (.box _)::its,O=>(match frzX [] O j with|some O'=>frzB E its O'|none=>none)
 | .u j (.bx _ l)::its,O=>(match frzX l O j with|some O'=>frzB E its O'|none=>none)
 |_::its,O=>frzB E its O
def cutB (σ:List Nat):Cl→SV D→Bool
 | .cut j _, .cut i _ _ _=>optB (σ[j]?) i
 |_,_=>true
def rdB (σ0:List Nat) (O:List (Ob D)):(its:List It)→List (SV D)→List Nat→Option (inT D its)
 |[],_,[]=>some ()
 | .v d c::its,s::l,σ=>if cutB σ0 c s=true then (match Cl.get X c s,rdB σ0 O its l σ with|some x,some y=>some (x,y)|_,_=>none) else none
 | .o d c::its,_::l,i::σ=>
  match O[i]? with
  |some o=>(match OC.get X σ0 c o,rdB σ0 O its l σ with|some x,some y=>some (x,y)|_,_=>none)
  |none=>none
 | .u j c::its,_::l,σ=>
  match O[j]? with
  |some o=>(match OC.get X σ0 c o,rdB σ0 O its l σ with|some x,some y=>some (x,y)|_,_=>none)
  |none=>none
 |_,_,_=>none
def mkO:(its:List It)→inT D its→List (Ob D)
 |[],_=>[]
 | .o _ c::its,x=>OC.mk X c x.1 false::mkO its x.2
 | .v _ _::its,x=>mkO its x.2
 | .u _ _::its,x=>mkO its x.2
def mkE:(its:List It)→inT D its→List (Nat×SV D)
 |[],_=>[]
 | .v d c::its,x=>(d,Cl.mk X c x.1)::mkE its x.2
 | .o _ _::its,x=>mkE its x.2
 | .u _ _::its,x=>mkE its x.2
def fxT (σ:List Nat):SV D→SV D→Bool
 | .c (.own j), .c (.own i)=>optB (σ[j]?) i
 | .box j o, .box i p=>optB (σ[j]?) i&&Nat.beq o p
 | .arr j, .arr i=>optB (σ[j]?) i
 | .c .nilS, .c .nilS=>true
 | .c .nilP, .c .nilP=>true
 | .c .nilM, .c .nilM=>true
 | .undef, .undef=>true
 | .un,_=>true
 | .c (.int k n), .c (.int k' n')=>decide (k=k')&&(n==n')
 | .c (.bool b), .c (.bool b')=>b==b'
 | .fn f [], .fn f' []=>Nat.beq f f'
 |_,_=>false
def rnS (τ:Nat→Nat):SV D→SV D
 | .c (.own j)=> .c (.own (τ j))
 | .box j o=> .box (τ j) o
 | .arr j=> .arr (τ j)
 |s=>s
def qdq:List Nat→Bool
 |[]=>true
 |i::l=> !(l.any fun j=>Nat.beq j i)&&qdq l
def qhI (l:List (Nat×Nat)):Nat→List (CV D)→Bool
 |_,[]=>true
 |i,c::cs=>(match fndN l i with|some _=>true|none=>qkU c)&&qhI l (i+1) cs
def OC.cln:OC→Ob D→Bool
 | .bx _ l, .box _ cs _ _=>qhI l 0 cs
 |_,o=>o.clean
def qgZ (c:OC) (O:List (Ob D)) (i:Nat):Bool:=match O[i]? with|some o=>o.tch|| !(c.cln o)|none=>true
def nrm (σ0:List Nat):(its:List It)→inT D its→List Nat→List (Ob D)→List (Ob D)
 | .o _ c::its,x,i::σ,O=>nrm σ0 its x.2 σ (O.set i (OC.mkr X (fun n=>σ0.getD n 0) c x.1 (qgZ c O i)))
 | .v _ _::its,x,σ,O=>nrm σ0 its x.2 σ O
 | .u _ _::its,x,σ,O=>nrm σ0 its x.2 σ O
 |_,_,_,O=>O
def qot (its:List It) (fx:List (Nat×SV D)) (E:List (Nat×SV D)) (O:List (Ob D)):Option (inT D its×List Nat×List (Ob D)):=
 match frzA E its O,ancs E O its with
 |some (svs,O1),some σ=>
  if (qdq σ&&fx.all fun p=>fxT σ p.2 (lkE E p.1))=true then
   match rdB X σ O1 its svs σ with
   |some x=>some (x,σ,nrm X σ its x σ O1)
   |none=>none
  else none
 |_,_=>none
def rdIn (its:List It) (fx:List (Nat×SV D)) (E:List (Nat×SV D)) (O:List (Ob D)):Option (inT D its×List Nat×List (Ob D)):=
 match frzB E its O with
 |some O0=>qot X its fx E O0
 |none=>none
end
section
variable {P:Program} {D:Nat→Type} {X:Ev P D} {z z':Nat→Blk} {e m m':Mem} {k:Option Nat} {vs vs':List Value} {fr:Nat→Value} {E:List (Nat×SV D)} {O O':List (Ob D)}
theorem qdl {t:Nat} {x:D t} {ds:List Value} (h:L2 (rel0 X.G z vs) (lvX X t x) ds):L2 (rel0 X.G z vs') (lvX X t x) ds:=by
 unfold lvX at h⊢
 split at h
 ·rename_i ti _
  exact ti.rdl z vs' x ds (ti.pkl z vs _ x ds (ti.pklv x) h)
 ·exact L2.mono (fun _ _ h=>h) (by cases ds with|nil=>trivial|cons _ _=>exact h.elim)
theorem qeb {t:Nat} {x:D t} {cs:List (CV D)} {ds:List Value} (hp:pkX X t cs=some x) (h:L2 (rel0 X.G z vs) cs ds):L2 (rel0 X.G z vs') (lvX X t x) ds:=by
 unfold pkX at hp
 unfold lvX
 split at hp
 ·rename_i ti hI
  exact ti.rdl z vs' x ds (ti.pkl z vs cs x ds hp h)
 ·cases hp
theorem qok {t:Nat} {x:D t} {cs:List (CV D)} (hp:pkX X t cs=some x) (h:cs.all qkU=true):cs=lvX X t x:=by
 unfold pkX at hp
 unfold lvX
 split at hp
 ·rename_i ti hI
  exact (ti.pkn cs x hp).eq h
 ·cases hp
theorem qw8 {t:Nat} {x:D t} {cs:List (CV D)} (hp:pkX X t cs=some x):MtC cs (lvX X t x):=by
 unfold pkX at hp
 unfold lvX
 split at hp
 ·rename_i ti hI
  exact ti.pkn cs x hp
 ·cases hp
theorem qh4:∀{ts:List Nat} {x:inDs D ts} {gs:List Value},L2 (fun c g=>relP X.G z vs c.2 0 g) (qdn X ts x) gs→L2 (fun c g=>relP X.G z vs' c.2 0 g) (qdn X ts x) gs
 |[],_,[],_=>trivial
 |[],_,_::_,h=>h.elim
 |t::ts,x,[],h=>h.elim
 |t::ts,x,g::gs,⟨⟨b,o,ds,h1,h2,h3⟩,h4⟩=>⟨⟨b,o,ds,h1,h2,qdl h3⟩,qh4 h4⟩
theorem qhX:∀{ts:List Nat} {l:List (Nat×List (CV D))} {x:inDs D ts} {gs:List Value},qeP X ts l=some x→L2 (fun c g=>relP X.G z vs c.2 0 g) l gs→L2 (fun c g=>relP X.G z vs' c.2 0 g) (qdn X ts x) gs
 |[],[],_,[],_,_=>trivial
 |[],[],_,_::_,_,h=>h.elim
 |[],_::_,_,_,h,_=>by cases h
 |_::_,[],_,_,h,_=>by cases h
 |t::ts,p::l,x,[],_,h=>h.elim
 |t::ts,p::l,x,g::gs,h,⟨⟨b,o,ds,h1,h2,h3⟩,h4⟩=>by
  simp only[qeP] at h
  split at h
  ·split at h
   ·rename_i a b' ha hb
    cases h
    exact ⟨⟨b,o,ds,h1,h2,qeb ha h3⟩,qhX hb h4⟩
   ·cases h
  ·cases h
def Cl.nc:Cl→Bool
 | .cut _ _=>false
 |_=>true
theorem Cl.mk_vs {c:Cl} {x:c.ty D} {v:Value} (hc:c.nc=true) (h:rel X.G z vs (Cl.mk X c x) v):rel X.G z vs' (Cl.mk X c x) v:=by
 cases c with
 |cut j e=>cases hc
 |agg t=>obtain ⟨ds,h1,h2⟩:=h;exact ⟨ds,h1,qdl h2⟩
 |rp t=>obtain ⟨b,o,ds,h1,h2,h3⟩:=h;exact ⟨b,o,ds,h1,h2,qdl h3⟩
 |fn f ts=>obtain ⟨gs,h1,h2⟩:=h;exact ⟨gs,h1,qh4 h2⟩
 |_=>exact h
theorem qmM {a:Option Nat} {i:Nat} (h:optB a i=true):a=some i:=by
 unfold optB at h
 split at h
 ·rw[Nat.eq_of_beq_eq_true h]
 ·cases h
theorem Cl.get_ok {σ:List Nat} {c:Cl} {x:c.ty D} {s:SV D} {v:Value} (hm:∀(j i:Nat) (u:Value),σ[j]? =some i→vs[i]? =some u→vs'[j]? =some u) (hcb:cutB σ c s=true) (hg:Cl.get X c s=some x) (h:rel X.G z vs s v):rel X.G z vs' (Cl.mk X c x) v:=by
 unfold Cl.get at hg
 split at hg
 ·split at hg
  ·rename_i hk;cases hg;subst hk;exact h
  ·cases hg
 ·cases hg;exact h
 ·cases hg;exact h
 ·cases hg;exact .inl ⟨h,rfl⟩
 ·cases hg;exact .inl ⟨h,rfl⟩
 ·split at hg
  ·rename_i hk;cases hg;subst hk;exact h
  ·cases hg
 ·split at hg
  ·rename_i hk
   split at hg
   ·rename_i ht
    obtain ⟨h1,h2⟩:=hk
    subst h1 h2 ht
    cases hg;exact h
   ·cases hg
  ·cases hg
 ·obtain ⟨_,hg⟩:=ite_some hg
  obtain ⟨ds,h1,h2⟩:=h
  exact ⟨ds,h1,qeb hg h2⟩
 ·obtain ⟨hk,hg⟩:=ite_some hg
  obtain ⟨b,o,ds,h1,h2,h3⟩:=h
  exact ⟨b,o,ds,by rw[h1,hk.2],h2,qeb hg h3⟩
 ·obtain ⟨hk,hg⟩:=ite_some hg
  subst hk
  obtain ⟨gs,h1,h2⟩:=h
  exact ⟨gs,h1,qhX hg h2⟩
 ·obtain ⟨hk,hg⟩:=ite_some hg
  subst hk
  cases hg
  obtain ⟨w,h1,h2⟩:=h
  exact ⟨w,⟨hm _ _ _ (qmM hcb) h1.1,h1.2⟩,h2⟩
 ·cases hg
theorem OC.mkr_live {τ:Nat→Nat} {c:OC} {x:c.ty D} {w:Bool}:(OC.mkr X τ c x w).live=true:=by cases c<;>rfl
theorem OC.mkr_tch {τ:Nat→Nat} {c:OC} {x:c.ty D} {w:Bool}:(OC.mkr X τ c x w).tch=w:=by cases c<;>first|rfl|simp[OC.mkr,Ob.tch]
theorem OC.mk_live {c:OC} {x:c.ty D} {w:Bool}:(OC.mk X c x w).live=true:=OC.mkr_live
theorem qbk {α β:Type} {R:α→β→Prop}:∀{l:List α} {k:List β},L2 R l k↔l.length=k.length∧∀(i:Nat) (a:α) (b:β),l[i]? =some a→k[i]? =some b→R a b
 |[],[]=>by simp[L2]
 |[],_::_=>by simp[L2]
 |_::_,[]=>by simp[L2]
 |a::l,b::k=>by
  simp only[L2,qbk (l:=l) (k:=k),List.length_cons]
  constructor
  ·rintro ⟨h1,h2,h3⟩
   refine ⟨by omega,fun i x y hx hy=> ?_⟩
   cases i with
   |zero=>simp at hx hy;subst hx hy;exact h1
   |succ i=>exact h3 i x y (by simpa using hx) (by simpa using hy)
  ·rintro ⟨h1,h2⟩
   exact ⟨h2 0 a b rfl rfl,by omega,fun i x y hx hy=>h2 (i+1) x y (by simpa using hx) (by simpa using hy)⟩
theorem qdt {τ:Nat→Nat} {l:List (Nat×Nat)}:∀{cs:List (CV D)} {i0 i:Nat},(ownG τ l i0 cs)[i]? =(cs[i]?).map fun c=>match fndN l (i0+i) with|some n=> .own (τ n)|none=>c
 |[],i0,i=>by simp[ownG]
 |c::cs,i0,0=>by simp[ownG]
 |c::cs,i0,i+1=>by
  simp only[ownG,List.getElem?_cons_succ]
  rw[qdt (cs:=cs),show i0+1+i=i0+(i+1) by omega]
theorem qke {zs:List (CV D)} {l:List (Nat×Nat)}:∀{cs:List (CV D)} {i0 i:Nat},(nilG zs l i0 cs)[i]? =(cs[i]?).map fun c=>match fndN l (i0+i) with|some _=>zs.getD (i0+i) .nilS|none=>c
 |[],i0,i=>by simp[nilG]
 |c::cs,i0,0=>by simp[nilG]
 |c::cs,i0,i+1=>by
  simp only[nilG,List.getElem?_cons_succ]
  rw[qke (cs:=cs),show i0+1+i=i0+(i+1) by omega]
theorem qgF {τ:Nat→Nat} {l:List (Nat×Nat)}:∀{cs:List (CV D)} {i0:Nat},(ownG τ l i0 cs).length=cs.length
 |[],_=>rfl
 |c::cs,i0=>by simp[ownG,qgF (cs:=cs)]
theorem qp5 {t:Nat} (i:Nat):∃v,∀(z:Nat→Blk) (vs:List Value),rel0 X.G z vs ((zcX X t).getD i .nilS) v:=by
 unfold zcX
 cases hI:X.I t with
 |none=>exact ⟨.slice none 0 0,fun z vs=>rfl⟩
 |some ti=>
  simp only
  cases hc:ti.zc[i]? with
  |none=>exact ⟨.slice none 0 0,fun z vs=>by rw[List.getD_eq_getElem?_getD,hc];rfl⟩
  |some c=>
   obtain ⟨v,hv,_⟩:=(ti.hzc (fun _=> .dead) []).get i c hc
   refine ⟨v,fun z vs=> ?_⟩
   rw[List.getD_eq_getElem?_getD,hc]
   exact (qbk.1 (ti.hzc z vs)).2 i c v hc hv
theorem qkf {zs:List (CV D)} {l:List (Nat×Nat)}:∀{cs:List (CV D)} {i0:Nat},(nilG zs l i0 cs).length=cs.length
 |[],_=>rfl
 |c::cs,i0=>by simp[nilG,qkf (cs:=cs)]
theorem qdf:∀{l:List (Nat×Nat)} {i n:Nat},fndN l i=some n→(i,n)∈l
 |[],_,_,h=>by cases h
 |p::l,i,n,h=>by
  simp only[fndN] at h
  split at h
  ·rename_i hp
   cases h
   have:=Nat.eq_of_beq_eq_true hp
   subst this
   exact List.mem_cons_self
  ·exact List.mem_cons_of_mem _ (qdf h)
theorem qeo {σ:List Nat} {cs:List (CV D)}:∀{l:List (Nat×Nat)},ql9 σ cs l=true→∀p∈l,∃i,cs[p.1]? =some (.own i)∧σ[p.2]? =some i
 |[],_,_,h=>by simp at h
 |q::l,h,p,hp=>by
  simp only[ql9,Bool.and_eq_true] at h
  rcases List.mem_cons.1 hp with rfl|hp
  ·have h1:=h.1
   split at h1
   ·rename_i i hi
    refine ⟨i,hi, ?_⟩
    unfold optB at h1
    split at h1
    ·rename_i j hj;rw[hj,Nat.eq_of_beq_eq_true h1]
    ·cases h1
   ·cases h1
  ·exact qeo h.2 p hp
theorem qqR {t:Nat} {x:D t}:(lvX X t x).all nOwn=true:=by
 unfold lvX
 split
 ·rename_i ti _;exact ti.lvo x
 ·rfl
theorem qk6 {c:CV D} {v:Value} (hc:nOwn c=true) (h:rel0 X.G z vs c v) (hf:∀f is,c≠ .fn f is):rel0 X.G z vs' c v:=by
 cases c<;>first|exact h|cases hc|exact absurd rfl (hf _ _)
theorem qm4 {c:CV D} {v:Value} (hc:nOwn c=true) (h:rel0 X.G z vs c v):rel0 X.G z vs' c v:=by
 cases c with
 |fn f is=>
  cases is with
  |nil=>
   obtain ⟨gs,h1,h2⟩:=h
   exact ⟨gs,h1,by cases gs with|nil=>trivial|cons _ _=>exact h2.elim⟩
  |cons _ _=>cases hc
 |_=>exact qk6 hc h (by simp)
def qp7 (i:Nat):Ob D→Prop
 | .box _ cs _ _=> .own i∈cs∨∃f is, .fn f is∈cs∧i∈is
 |_=>False
theorem qf8 {σ:List Nat}:∀{l k:List Nat},capB σ l k=true→L2 (fun n i=>σ[n]? =some i) l k
 |[],[],_=>trivial
 |n::l,i::k,h=>by
  simp only[capB,Bool.and_eq_true] at h
  exact ⟨qmM h.1,qf8 h.2⟩
 |[],_::_,h=>by cases h
 |_::_,[],h=>by cases h
theorem qlA {τ τ':Nat→Nat}:∀{is:List Nat} {gs:List Value},(∀n∈is,∀u,vs[τ n]? =some u→vs'[τ' n]? =some u)→L2 (capR vs) (is.map τ) gs→L2 (capR vs') (is.map τ') gs
 |[],[],_,_=>trivial
 |[],_::_,_,h=>h.elim
 |_::_,[],_,h=>h.elim
 |n::is,g::gs,hv,⟨h1,h2⟩=>⟨⟨hv n List.mem_cons_self g h1.1,h1.2⟩,qlA (fun m hm=>hv m (List.mem_cons_of_mem _ hm)) h2⟩
theorem qlB {σ:List Nat} {τ:Nat→Nat} (hv:∀n i u,σ[n]? =some i→vs[i]? =some u→vs'[τ n]? =some u):∀{is js:List Nat} {gs:List Value},L2 (fun n i=>σ[n]? =some i) is js→L2 (capR vs) js gs→L2 (capR vs') (is.map τ) gs
 |[],[],[],_,_=>trivial
 |_::_,[],_,h,_=>h.elim
 |[],_::_,_,h,_=>h.elim
 |[],[],_::_,_,h=>h.elim
 |_::_,_::_,[],_,h=>h.elim
 |n::is,j::js,g::gs,⟨h1,h2⟩,⟨k1,k2⟩=>⟨⟨hv n j g h1 k1.1,k1.2⟩,qlB hv h2 k2⟩
theorem OC.mkr_okC {τ τ':Nat→Nat} {c:OC} {x:c.ty D} {v:Value} {w:Bool} (w':Bool) (h:ObOk X.G z e m k vs (OC.mkr X τ c x w) v) (hv:∀n∈c.nums,qp7 (τ n) (OC.mkr X τ c x w)→∀u,vs[τ n]? =some u→vs'[τ' n]? =some u):ObOk X.G z e m k vs' (OC.mkr X τ' c x w') v:=by
 cases c with
 |box t=>obtain ⟨b,ds,h1,h2,h3,h4⟩:=h;exact ⟨b,ds,h1,h2,h3,qdl h4⟩
 |recv t=>obtain ⟨b,ds,h1,h2,h4⟩:=h;exact ⟨b,ds,h1,h2,qdl h4⟩
 |bx t l=>
  obtain ⟨b,ds,h1,h2,h3,h4⟩:=h
  refine ⟨b,ds,h1,h2,h3,qbk.2 ⟨?_,fun i a d ha hd=> ?_⟩⟩
  ·have:=(qbk.1 h4).1
   rw[qgF] at this⊢;exact this
  ·rw[qdt] at ha
   obtain ⟨a0,h0,ha⟩:=Option.map_eq_some_iff.1 ha
   have hr:=(qbk.1 h4).2 i _ d (by rw[qdt,h0];rfl) hd
   rw[Nat.zero_add] at ha hr
   cases hf:fndN l i with
   |none=>
    rw[hf] at ha hr
    subst ha
    exact qm4 (List.all_eq_true.1 qqR a0 (List.mem_of_getElem? h0)) hr
   |some n=>
    rw[hf] at ha hr
    subst ha
    exact ⟨hv n (List.mem_map.2 ⟨_,qdf hf,rfl⟩) (.inl (List.mem_of_getElem? (i:=i) (by rw[qdt,h0,Nat.zero_add,Option.map_some,hf]))) d hr.1,hr.2⟩
 |fb t f is=>
  obtain ⟨b,ds,h1,h2,h3,h4⟩:=h
  refine ⟨b,ds,h1,h2,h3, ?_⟩
  match ds,h4 with
  |[d],⟨⟨gs,g1,g2⟩,_⟩=>exact ⟨⟨gs,g1,qlA (fun n hn=>hv n hn (.inr ⟨f,_,List.mem_cons_self,List.mem_map.2 ⟨n,hn,rfl⟩⟩)) g2⟩,trivial⟩
 |ne e t=>obtain ⟨hu,ws,h⟩:=h;exact ⟨hu,ws,h.ow,h.len,h.inn,fun p hp=>by cases hp⟩
 |_=>exact h
theorem OC.mkr_ok {τ τ':Nat→Nat} {c:OC} {x:c.ty D} {v:Value} {w:Bool} (w':Bool) (h:ObOk X.G z e m k vs (OC.mkr X τ c x w) v) (hv:∀n∈c.nums,∀u,vs[τ n]? =some u→vs'[τ' n]? =some u):ObOk X.G z e m k vs' (OC.mkr X τ' c x w') v:=OC.mkr_okC w' h fun n hn _=>hv n hn
theorem qs9 {e t:Nat}:UpOk X.G e t ((X.N e t).map NI.up):=by
 intro f hf
 cases hn:X.N e t with
 |none=>rw[hn] at hf;cases hf
 |some ni=>rw[hn] at hf;cases hf;exact ⟨ni.hsz,ni.tid,ni.hr⟩
theorem OC.get_ok {σ:List Nat} {τ:Nat→Nat} {c:OC} {x:c.ty D} {o:Ob D} {v:Value} (hg:OC.get X σ c o=some x) (h:ObOk X.G z e m k vs o v) (hv:∀n i u,σ[n]? =some i→vs[i]? =some u→vs'[τ n]? =some u) (w:Bool):ObOk X.G z e m k vs' (OC.mkr X τ c x w) v:=by
 unfold OC.get at hg
 split at hg
 ·split at hg
  ·rename_i hk;cases hg;subst hk;exact h
  ·cases hg
 ·obtain ⟨hk,hg⟩:=ite_some hg
  subst hk
  obtain ⟨b,ds,h1,h2,h3,h4⟩:=h
  exact ⟨b,ds,h1,h2,h3,qeb hg h4⟩
 ·obtain ⟨hk,hg⟩:=ite_some hg
  subst hk
  obtain ⟨b,ds,h1,h2,h4⟩:=h
  exact ⟨b,ds,h1,h2,qeb hg h4⟩
 ·split at hg
  ·rename_i hk
   split at hg
   ·rename_i ht
    obtain ⟨h1,h2⟩:=ht
    subst hk h1 h2
    cases hg;exact h
   ·cases hg
  ·cases hg
 ·split at hg
  ·rename_i hk
   split at hg
   ·rename_i ht
    obtain ⟨h1,h2⟩:=hk
    subst h1 h2 ht
    cases hg;exact h
   ·cases hg
  ·cases hg
 ·rename_i t l t' cs w0
  obtain ⟨hk,hg⟩:=ite_some hg
  obtain ⟨rfl,hl⟩:=hk
  obtain ⟨b,ds,h1,h2,h3,h4⟩:=h
  have hlen:=(qbk.1 h4).1
  have hn:L2 (rel0 X.G z vs) (nilG (zcX X t') l 0 cs) ((List.range ds.length).map fun i=>match fndN l i with|some _=>Classical.choose (qp5 (X:=X) (t:=t') i)|none=>ds.getD i undef):=by
   refine qbk.2 ⟨by rw[qkf];simp[hlen],fun i a d ha hd=> ?_⟩
   rw[qke] at ha
   obtain ⟨a0,h0,ha⟩:=Option.map_eq_some_iff.1 ha
   rw[Nat.zero_add] at ha
   have hi:i<ds.length:=by rw[←hlen];exact (List.getElem?_eq_some_iff.1 h0).1
   rw[List.getElem?_map,List.getElem?_range hi] at hd
   have hd:=Option.some.inj hd
   cases hf:fndN l i with
   |none=>
    rw[hf] at ha
    simp only[hf] at hd
    subst ha hd
    exact (qbk.1 h4).2 i a0 _ h0 (by simp[List.getD,List.getElem?_eq_getElem hi])
   |some n=>
    rw[hf] at ha
    simp only[hf] at hd
    subst ha hd
    exact Classical.choose_spec (qp5 (X:=X) (t:=t') i) z vs
  have hn:=qeb (vs':=vs') hg hn
  refine ⟨b,ds,h1,h2,h3,qbk.2 ⟨by rw[qgF,(qbk.1 hn).1];simp,fun i a d ha hd=> ?_⟩⟩
  rw[qdt] at ha
  obtain ⟨a0,h0,ha⟩:=Option.map_eq_some_iff.1 ha
  rw[Nat.zero_add] at ha
  have hi:i<ds.length:=(List.getElem?_eq_some_iff.1 hd).1
  cases hf:fndN l i with
  |none=>
   rw[hf] at ha
   subst ha
   have:=(qbk.1 hn).2 i a0 d h0 (by rw[List.getElem?_map,List.getElem?_range hi];simp only[Option.map_some,hf];simp[List.getD,hd])
   exact this
  |some n=>
   rw[hf] at ha
   subst ha
   obtain ⟨i0,g1,g2⟩:=qeo hl _ (qdf hf)
   have hr:=(qbk.1 h4).2 i _ d g1 hd
   exact ⟨hv n i0 d g2 hr.1,hr.2⟩
 ·obtain ⟨⟨rfl,rfl,hc⟩,hg⟩:=ite_some hg
  obtain ⟨b,ds,h1,h2,h3,h4⟩:=h
  refine ⟨b,ds,h1,h2,h3, ?_⟩
  match ds,h4 with
  |[d],⟨⟨gs,g1,g2⟩,_⟩=>exact ⟨⟨gs,g1,qlB hv (qf8 hc) g2⟩,trivial⟩
 ·split at hg
  ·rename_i hk
   subst hk
   obtain ⟨hk,hg⟩:=ite_some hg
   subst hk
   cases hg
   obtain ⟨_,ws,h⟩:=h
   exact ⟨qs9,ws,h.ow,h.len,h.inn,fun p hp=>by cases hp⟩
  ·cases hg
 ·cases hg
theorem OC.get_nums {σ:List Nat} {c:OC} {x:c.ty D} {o:Ob D} (hg:OC.get X σ c o=some x):∀n∈c.nums,∃i,σ[n]? =some i:=by
 intro n hn
 unfold OC.get at hg
 split at hg
 ·simp[OC.nums] at hn
 ·simp[OC.nums] at hn
 ·simp[OC.nums] at hn
 ·simp[OC.nums] at hn
 ·simp[OC.nums] at hn
 ·obtain ⟨⟨_,hl⟩,_⟩:=ite_some hg
  obtain ⟨p,hp,rfl⟩:=List.mem_map.1 hn
  obtain ⟨i,_,h⟩:=qeo hl p hp
  exact ⟨i,h⟩
 ·rename_i t f is t' f' js w0
  obtain ⟨⟨_,_,hc⟩,_⟩:=ite_some hg
  have:∀{l k:List Nat},L2 (fun n i=>σ[n]? =some i) l k→∀n∈l,∃i,σ[n]? =some i:=by
   intro l
   induction l with
   |nil=>intro k _ n hn;cases hn
   |cons a l ih=>
    intro k hk n hn
    cases k with
    |nil=>exact hk.elim
    |cons b k=>
     rcases List.mem_cons.1 hn with rfl|hn
     ·exact ⟨b,hk.1⟩
     ·exact ih hk.2 n hn
  exact this (qf8 hc) n hn
 ·simp[OC.nums] at hn
 ·cases hg
theorem OC.get_live {σ:List Nat} {c:OC} {x:c.ty D} {o:Ob D} (hg:OC.get X σ c o=some x):o.live=true:=by
 unfold OC.get at hg
 split at hg<;>first|rfl|cases hg
theorem qic {τ:Nat→Nat} {zs:List (CV D)} {l:List (Nat×Nat)}:∀{cs ds:List (CV D)} {i:Nat},MtC (nilG zs l i cs) ds→qhI l i cs=true→(∀j n,fndN l (i+j)=some n→cs[j]? =none∨cs[j]? =some (.own (τ n)))→ownG τ l i ds=cs
 |[],[],_,_,_,_=>rfl
 |[],_::_,_,h,_,_=>h.elim
 |_::_,[],_,h,_,_=>h.elim
 |c::cs,d::ds,i,h,hc,ho=>by
  simp only[qhI,Bool.and_eq_true] at hc
  have h2:=qic (cs:=cs) (ds:=ds) (i:=i+1) h.2 hc.2 fun j n hj=>by
   have:=ho (j+1) n (by rw[←hj];congr 1;omega)
   simpa using this
  simp only[ownG,h2]
  have h0:=ho 0
  rw[Nat.add_zero] at h0
  cases hf:fndN l i with
  |some n=>
   have:=h0 n hf
   simp at this
   simp[this]
  |none=>
   have h1:=h.1
   simp only[hf] at h1 hc
   simp only
   rw[h1 hc.1]
theorem OC.get_clean {σ:List Nat} {c:OC} {x:c.ty D} {o:Ob D} (hg:OC.get X σ c o=some x) (h:c.cln o=true):o=OC.mkr X (fun n=>σ.getD n 0) c x o.tch:=by
 unfold OC.get at hg
 split at hg
 ·split at hg
  ·rename_i hk;cases hg;subst hk;rfl
  ·cases hg
 ·obtain ⟨hk,hg⟩:=ite_some hg
  subst hk
  simp only[OC.mkr,Ob.tch]
  rw[←qok hg h]
 ·obtain ⟨hk,hg⟩:=ite_some hg
  subst hk
  simp only[OC.mkr,Ob.tch]
  rw[←qok hg h]
 ·split at hg
  ·rename_i hk
   split at hg
   ·rename_i ht
    obtain ⟨h1,h2⟩:=ht
    subst hk h1 h2
    cases hg;rfl
   ·cases hg
  ·cases hg
 ·split at hg
  ·rename_i hk
   split at hg
   ·rename_i ht
    obtain ⟨h1,h2⟩:=hk
    subst h1 h2 ht
    cases hg;rfl
   ·cases hg
  ·cases hg
 ·rename_i t l t' cs w0
  obtain ⟨⟨rfl,hl⟩,hg⟩:=ite_some hg
  simp only[OC.mkr,Ob.tch]
  rw[qic (qw8 hg) (h:qhI l 0 cs=true) fun j n hj=> .inr ?_]
  obtain ⟨i,g1,g2⟩:=qeo hl (j,n) (qdf (by rwa [Nat.zero_add] at hj))
  rw[g1,List.getD_eq_getElem?_getD,g2];rfl
 ·rename_i t f is t' f' js w0
  obtain ⟨⟨rfl,rfl,hc⟩,hg⟩:=ite_some hg
  have:∀{l k:List Nat},L2 (fun n i=>σ[n]? =some i) l k→l.map (fun n=>σ.getD n 0)=k:=by
   intro l
   induction l with
   |nil=>intro k hk;cases k with
    |nil=>rfl
    |cons _ _=>exact hk.elim
   |cons a l ih=>
    intro k hk
    cases k with
    |nil=>exact hk.elim
    |cons b k=>
     rw[List.map_cons,ih hk.2,List.getD_eq_getElem?_getD,hk.1];rfl
  simp only[OC.mkr,Ob.tch]
  rw[this (qf8 hc)]
 ·split at hg
  ·rename_i hk
   subst hk
   obtain ⟨hk,hg⟩:=ite_some hg
   subst hk
   cases h
  ·cases hg
 ·cases hg
end
end
end Go.AM
end
section
set_option linter.unusedSimpArgs false
set_option linter.unusedVariables false
namespace Go.AM
section
variable {P:Program} {D:Nat→Type} {X:Ev P D} {z z':Nat→Blk} {e m m':Mem} {k:Option Nat} {vs vs':List Value} {fr:Nat→Value} {E:List (Nat×SV D)} {O O':List (Ob D)}
theorem Mm.sel (h:Mm X.G O z e m k vs) (len:vs'.length=O'.length) (φ:Nat→Nat)
  (hl:∀(i:Nat) (o:Ob D),O'[i]? =some o→o.live=true→∃p v,O[φ i]? =some p∧p.live=true∧vs[φ i]? =some v∧vs'[i]? =some v∧ObOk X.G z e m k vs' o v)
  (hf:∀(i:Nat) (o:Ob D) (v:Value),O'[i]? =some o→o.live=false→vs'[i]? =some v→ObOk X.G z e m k vs' o v)
  (inj:∀(i j:Nat) (o p:Ob D),O'[i]? =some o→O'[j]? =some p→o.live=true→p.live=true→φ i=φ j→i=j):Mm X.G O' z e m k vs' where
 st:=h.st
 len:=len
 obj:=fun i o v ho hv=>by
  cases hL:o.live with
  |false=>exact hf i o v ho hL hv
  |true=>
   obtain ⟨p,w,_,_,_,h4,h5⟩:=hl i o ho hL
   rw[hv] at h4;cases h4;exact h5
 ap:=fun i j o p v w hij ho hp lo lp hv hw=>by
  obtain ⟨p1,v1,g1,g2,g3,g4,_⟩:=hl i o ho lo
  obtain ⟨p2,v2,k1,k2,k3,k4,_⟩:=hl j p hp lp
  rw[hv] at g4;cases g4
  rw[hw] at k4;cases k4
  exact h.ap (φ i) (φ j) p1 p2 v w (fun hh=>hij (inj i j o p ho hp lo lp hh)) g1 k1 g2 k2 g3 k3
theorem ObOk.frozen {o:Ob D} {v:Value} (hl:o.live=false) (h:ObOk X.G z e m k vs o v) (hz:Zle z z') (hv:∀(i:Nat) (u:Value),vs[i]? =some u→vs'[i]? =some u):ObOk X.G z' e m' k vs' o v:=by
 cases o with
 |dead=>trivial
 |sl t xs fz _=>cases fz with
  |true=>exact SlR.mono hz h
  |false=>cases hl
 |box t cs fz _=>cases fz with
  |true=>obtain ⟨b,ds,h1,h2,h3⟩:=h;exact ⟨b,ds,h1,qbD hz h2,rels.mono h3 hz hv⟩
  |false=>cases hl
 |map t kt vt es fz _=>cases fz with
  |true=>exact MpR.mono h hz
  |false=>cases hl
 |_=>cases hl
theorem qlp (h:∀p∈E,rel X.G z vs p.2 (fr p.1)):Rl X z vs E fr:=by
 induction E with
 |nil=>intro d;trivial
 |cons p E ih=>exact (ih fun q hq=>h q (List.mem_cons_of_mem _ hq)).cons (h p List.mem_cons_self)
theorem qqx {s s':SV D} {v:Value} (hM:Mm X.G O z e m k vs) (h:frzV O s=some (s',O')) (hv:rel X.G z vs s v):∃z',Inv O O'∧Zx e.next z z'∧Mm X.G O' z' e m k vs∧rel X.G z' vs s' v:=by
 unfold frzV at h
 split at h
 ·split at h
  ·rename_i c c' O1 hc
   cases h
   exact qdP hM hc hv
  ·cases h
 ·split at h
  ·rename_i t cs cs' O1 hc
   cases h
   obtain ⟨ds,h1,h2⟩:=hv
   obtain ⟨z',g0,g1,g2,g3⟩:=qiV hM hc h2
   exact ⟨z',g0,g1,g2,ds,h1,g3⟩
  ·cases h
 ·split at h
  ·rename_i e1 xs O1 hc
   split at h
   ·rename_i he
    subst he
    cases h
    obtain ⟨w,h1,h2⟩:=hv
    obtain ⟨z',g0,g1,g2,g3⟩:=qdP (c:= .own _) hM hc h1
    exact ⟨z',g0,g1,g2,h2.slr g3⟩
   ·cases h
  ·cases h
 ·cases h
  exact ⟨z,Inv.refl _,Zx.refl z,hM,hv⟩
theorem qnO {i j t:Nat} {c:CV D} {cs:List (CV D)} {fz w:Bool} (h:frzO O j=some (c,O')) (hi:O[i]? =some (.box t cs fz w)):O'[i]? =some (.box t cs fz w):=by
 unfold frzO at h
 split at h
 ·rename_i ho
  cases h
  rw[List.getElem?_set]
  split
  ·rename_i hj;subst hj;rw[ho] at hi;cases hi
  ·exact hi
 ·rename_i ho
  cases h
  rw[List.getElem?_set]
  split
  ·rename_i hj;subst hj;rw[ho] at hi;cases hi
  ·exact hi
 ·rename_i ho
  cases h
  rw[List.getElem?_set]
  split
  ·rename_i hj;subst hj;rw[ho] at hi;cases hi
  ·exact hi
 ·cases h
theorem qnN {i t:Nat} {c c':CV D} {cs:List (CV D)} {fz w:Bool} (h:frzC O c=some (c',O')) (hi:O[i]? =some (.box t cs fz w)):O'[i]? =some (.box t cs fz w):=by
 unfold frzC at h
 split at h
 ·exact qnO h hi
 ·cases h;exact hi
theorem qlP {l:List (Nat×Nat)}:∀{cs cs':List (CV D)} {n:Nat} {O O':List (Ob D)} {ds:List Value} {z:Nat→Blk},Mm X.G O z e m k vs→frzG l n cs O=some (cs',O')→L2 (rel0 X.G z vs) cs ds→
  ∃z',Inv O O'∧Zx e.next z z'∧Mm X.G O' z' e m k vs∧L2 (rel0 X.G z' vs) cs' ds∧∀(i t:Nat) (bs:List (CV D)) (fz w:Bool),O[i]? =some (.box t bs fz w)→O'[i]? =some (.box t bs fz w)
 |[],cs',n,O,O',[],z,hM,h,_=>by cases h;exact ⟨z,Inv.refl _,Zx.refl z,hM,trivial,fun _ _ _ _ _ h=>h⟩
 |c::cs,cs',n,O,O',d::ds,z,hM,h,⟨h1,h2⟩=>by
  unfold frzG at h
  split at h
  ·rename_i c' O1 hc
   split at h
   ·rename_i cs1 O2 hcs
    cases h
    have step:∃z1,Inv O O1∧Zx e.next z z1∧Mm X.G O1 z1 e m k vs∧rel0 X.G z1 vs c' d∧∀(i t:Nat) (bs:List (CV D)) (fz w:Bool),O[i]? =some (.box t bs fz w)→O1[i]? =some (.box t bs fz w):=by
     split at hc
     ·cases hc;exact ⟨z,Inv.refl _,Zx.refl z,hM,h1,fun _ _ _ _ _ h=>h⟩
     ·obtain ⟨z1,g0,g1,g2,g3⟩:=qdP hM hc h1
      exact ⟨z1,g0,g1,g2,g3,fun _ _ _ _ _ h=>qnN hc h⟩
    obtain ⟨z1,g0,g1,g2,g3,g4⟩:=step
    obtain ⟨z2,k0,k1,k2,k3,k4⟩:=qlP g2 hcs (rels.mono h2 g1.le fun _ _ h=>h)
    exact ⟨z2,g0.trans k0,g1.trans k1,k2,⟨rel0.mono g3 k1.le fun _ _ h=>h,k3⟩,fun _ _ _ _ _ h=>k4 _ _ _ _ _ (g4 _ _ _ _ _ h)⟩
   ·cases h
  ·cases h
 |[],_,_,_,_,_::_,_,_,_,h=>h.elim
 |_::_,_,_,_,_,[],_,_,_,h=>h.elim
theorem qlS {l:List (Nat×Nat)} {i:Nat} (hM:Mm X.G O z e m k vs) (h:frzX l O i=some O'):∃z',Inv O O'∧Zx e.next z z'∧Mm X.G O' z' e m k vs:=by
 unfold frzX at h
 split at h
 ·rename_i t cs w ho
  split at h
  ·split at h
   ·rename_i cs' O1 hf
    cases h
    obtain ⟨v,hv,b,ds,h1,h2,h3,h4⟩:=hM.at ho
    obtain ⟨z1,g0,g1,g2,g3,g4⟩:=qlP hM hf h4
    have ho1:=g4 _ _ _ _ _ ho
    obtain ⟨b',ds',q1,q2,q3,q4⟩:=g2.obj i _ v ho1 hv
    have hbx:Bx z1 e m k b ds t:=by
     rw[h1] at q1;cases q1
     exact ⟨h2.blk,q2.lt,q2.dead,q2.fresh⟩
    refine ⟨z1,g0.trans (Inv.set O1 i (.inr rfl)),g1,g2.turn (m':=m) ho1 hv rfl ⟨Nat.le_refl _,g2.st.dead,fun _ _ _=>rfl⟩ g2.st ⟨b,ds,h1,hbx,h3,g3⟩⟩
   ·cases h
  ·cases h;exact ⟨z,Inv.refl _,Zx.refl z,hM⟩
 ·cases h;exact ⟨z,Inv.refl _,Zx.refl z,hM⟩
theorem qdO:∀{its:List It} {O O':List (Ob D)} {z:Nat→Blk},Mm X.G O z e m k vs→frzB E its O=some O'→∃z',Inv O O'∧Zx e.next z z'∧Mm X.G O' z' e m k vs
 |[],O,O',z,hM,h=>by cases h;exact ⟨z,Inv.refl _,Zx.refl z,hM⟩
 |it::its,O,O',z,hM,h=>by
  have go:∀{l:List (Nat×Nat)} {i:Nat},(match frzX l O i with|some O'=>frzB E its O'|none=>none)=some O'→∃z',Inv O O'∧Zx e.next z z'∧Mm X.G O' z' e m k vs:=by
   intro l i h
   split at h
   ·rename_i O1 hf
    obtain ⟨z1,g0,g1,g2⟩:=qlS hM hf
    obtain ⟨z2,k0,k1,k2⟩:=qdO g2 h
    exact ⟨z2,g0.trans k0,g1.trans k1,k2⟩
   ·cases h
  cases it with
  |v d c=>exact qdO (its:=its) hM h
  |o d c=>
   cases c with
   |box t=>
    simp only[frzB] at h
    split at h
    ·exact go h
    ·cases h
   |bx t l=>
    simp only[frzB] at h
    split at h
    ·exact go h
    ·cases h
   |_=>exact qdO (its:=its) hM h
  |u j c=>
   cases c with
   |box t=>simp only[frzB] at h;exact go h
   |bx t l=>simp only[frzB] at h;exact go h
   |_=>exact qdO (its:=its) hM h
def AOk (X:Ev P D) (z:Nat→Blk) (vs:List Value) (fr:Nat→Value):List It→List (SV D)→Prop
 |[],[]=>True
 | .v d _::its,s::l=>rel X.G z vs s (fr d)∧AOk X z vs fr its l
 | .o _ _::its,_::l=>AOk X z vs fr its l
 | .u _ _::its,_::l=>AOk X z vs fr its l
 |_,_=>False
theorem qqy {c:Cl} {s s':SV D} {v:Value} (hM:Mm X.G O z e m k vs) (h:frzW c O s=some (s',O')) (hv:rel X.G z vs s v):∃z',Inv O O'∧Zx e.next z z'∧Mm X.G O' z' e m k vs∧rel X.G z' vs s' v:=by
 unfold frzW at h
 split at h
 ·cases h;exact ⟨z,Inv.refl _,Zx.refl z,hM,hv⟩
 ·rename_i t i off
  split at h
  ·rename_i O1 hx
   split at h
   ·rename_i p O2 hp
    cases h
    obtain ⟨z1,g0,g1,g2⟩:=qlS hM hx
    obtain ⟨z2,k0,k1,k2,k3⟩:=qf9 g2 (rel.mono hv g1.le fun _ _ h=>h) hp
    exact ⟨z2,g0.trans k0,g1.trans k1,k2,k3⟩
   ·cases h
  ·cases h
 ·exact qqx hM h hv
theorem qcZ:∀{its:List It} {O O':List (Ob D)} {l:List (SV D)} {z:Nat→Blk},Mm X.G O z e m k vs→Rl X z vs E fr→frzA E its O=some (l,O')→∃z',Inv O O'∧Zx e.next z z'∧Mm X.G O' z' e m k vs∧AOk X z' vs fr its l
 |[],O,O',l,z,hM,hE,h=>by cases h;exact ⟨z,Inv.refl _,Zx.refl z,hM,trivial⟩
 | .v d c::its,O,O',l,z,hM,hE,h=>by
  simp only[frzA] at h
  split at h
  ·rename_i s O1 hs
   split at h
   ·rename_i l1 O2 hl
    cases h
    obtain ⟨z1,g0,g1,g2,g3⟩:=qqy hM hs (hE d)
    obtain ⟨z2,k0,k1,k2,k3⟩:=qcZ g2 (hE.mono g1.le fun _ _ h=>h) hl
    exact ⟨z2,g0.trans k0,g1.trans k1,k2,rel.mono g3 k1.le fun _ _ h=>h,k3⟩
   ·cases h
  ·cases h
 | .o d c::its,O,O',l,z,hM,hE,h=>by
  simp only[frzA] at h
  split at h
  ·rename_i l1 O2 hl
   cases h
   exact qcZ (its:=its) hM hE hl
  ·cases h
 | .u d c::its,O,O',l,z,hM,hE,h=>by
  simp only[frzA] at h
  split at h
  ·rename_i l1 O2 hl
   cases h
   exact qcZ (its:=its) hM hE hl
  ·cases h
structure CO (D:Nat→Type) where
 c:OC
 x:c.ty D
def cos:(its:List It)→inT D its→List (CO D)
 |[],_=>[]
 | .o _ c::its,x=>⟨c,x.1⟩::cos its x.2
 | .v _ _::its,x=>cos its x.2
 | .u _ _::its,x=>cos its x.2
theorem qaJ:∀{its:List It} {x:inT D its},mkO X its x=(cos its x).map fun q=>OC.mk X q.c q.x false
 |[],_=>rfl
 | .o d c::its,x=>by
  show OC.mk X c x.1 false::mkO X its x.2=OC.mk X c x.1 false::(cos its x.2).map _
  rw[qaJ]
 | .v d c::its,x=>qaJ (its:=its)
 | .u d c::its,x=>qaJ (its:=its)
def Ox (X:Ev P D) (σ0:List Nat) (O:List (Ob D)):List Nat→List (CO D)→Prop:=L2 fun i q=>∃o,O[i]? =some o∧OC.get X σ0 q.c o=some q.x
theorem qk4 {σ0:List Nat} (hm:∀(j i:Nat) (u:Value),σ0[j]? =some i→vs[i]? =some u→vs'[j]? =some u):∀{its:List It} {l:List (SV D)} {σ:List Nat} {x:inT D its},rdB X σ0 O its l σ=some x→AOk X z vs fr its l→∀p∈mkE X its x,rel X.G z vs' p.2 (fr p.1)
 |[],_,_,_,_,_=>by simp[mkE]
 | .v d c::its,[],_,_,_,h=>h.elim
 | .o d c::its,[],_,_,_,h=>h.elim
 | .u d c::its,[],_,_,_,h=>h.elim
 | .v d c::its,s::l,σ,x,h,ha=>by
  simp only[rdB] at h
  obtain ⟨hcb,h⟩:=ite_some h
  split at h
  ·rename_i a b h1 h2
   cases h
   intro p hp
   simp only[mkE,List.mem_cons] at hp
   rcases hp with rfl|hp
   ·exact Cl.get_ok hm hcb h1 ha.1
   ·exact qk4 hm h2 ha.2 p hp
  ·cases h
 | .o d c::its,s::l,[],x,h,ha=>by cases h
 | .o d c::its,s::l,i::σ,x,h,ha=>by
  simp only[rdB] at h
  split at h
  ·split at h
   ·rename_i a b h1 h2
    cases h
    intro p hp
    exact qk4 hm h2 ha p hp
   ·cases h
  ·cases h
 | .u d c::its,s::l,σ,x,h,ha=>by
  simp only[rdB] at h
  split at h
  ·split at h
   ·rename_i a b h1 h2
    cases h
    intro p hp
    exact qk4 hm h2 ha p hp
   ·cases h
  ·cases h
theorem qmX {σ0:List Nat}:∀{its:List It} {l:List (SV D)} {σ:List Nat} {x:inT D its},rdB X σ0 O its l σ=some x→Ox X σ0 O σ (cos its x)
 |[],[],[],_,_=>trivial
 |[],_::_,[],_,_=>trivial
 |[],_,_::_,_,h=>by simp[rdB] at h
 | .v d c::its,[],_,_,h=>by simp[rdB] at h
 | .o d c::its,[],_,_,h=>by simp[rdB] at h
 | .u d c::its,[],_,_,h=>by simp[rdB] at h
 | .v d c::its,s::l,σ,x,h=>by
  simp only[rdB] at h
  obtain ⟨_,h⟩:=ite_some h
  split at h
  ·rename_i a b h1 h2
   cases h
   show Ox X σ0 O σ (cos its b)
   exact qmX h2
  ·cases h
 | .o d c::its,s::l,[],x,h=>by cases h
 | .o d c::its,s::l,i::σ,x,h=>by
  simp only[rdB] at h
  split at h
  ·rename_i o ho
   split at h
   ·rename_i a b h1 h2
    cases h
    exact ⟨⟨o,ho,h1⟩,qmX h2⟩
   ·cases h
  ·cases h
 | .u d c::its,s::l,σ,x,h=>by
  simp only[rdB] at h
  split at h
  ·split at h
   ·rename_i a b h1 h2
    cases h
    show Ox X σ0 O σ (cos its b)
    exact qmX h2
   ·cases h
  ·cases h
theorem qe0 {i:Nat} {l:List Nat} (h:qdq (i::l)=true):i∉l∧qdq l=true:=by
 simp only[qdq,Bool.and_eq_true,Bool.not_eq_true',List.any_eq_false] at h
 refine ⟨fun hi=> ?_,h.2⟩
 exact h.1 i hi (by simp)
theorem qdU:∀{l:List Nat},qdq l=true→∀(a b i:Nat),l[a]? =some i→l[b]? =some i→a=b
 |[],_,a,b,i,h,_=>by simp at h
 |x::l,h,a,b,i,ha,hb=>by
  obtain ⟨h1,h2⟩:=qe0 h
  cases a with
  |zero=>
   cases b with
   |zero=>rfl
   |succ b=>
    simp at ha hb
    subst ha
    exact absurd (List.mem_of_getElem? hb) h1
  |succ a=>
   cases b with
   |zero=>
    simp at ha hb
    subst hb
    exact absurd (List.mem_of_getElem? ha) h1
   |succ b=>
    simp at ha hb
    rw[qdU h2 a b i ha hb]
def Oy (X:Ev P D) (σ0:List Nat) (O:List (Ob D)):List Nat→List (CO D)→Prop:=L2 fun i q=>∃w,O[i]? =some (OC.mkr X (fun n=>σ0.getD n 0) q.c q.x w)
theorem qsA {σ0:List Nat} (hM:Mm X.G O z e m k vs) {i:Nat} {o:Ob D} {c:OC} {x:c.ty D} (ho:O[i]? =some o) (hg:OC.get X σ0 c o=some x) (w:Bool):Mm X.G (O.set i (OC.mkr X (fun n=>σ0.getD n 0) c x w)) z e m k vs:=by
 obtain ⟨v,hv,hob⟩:=hM.at ho
 have hi:=(List.getElem?_eq_some_iff.1 ho).1
 refine hM.sel (by rw[List.length_set];exact hM.len) id (fun j p hp hl=> ?_) (fun j p u hp hl hu=> ?_) (fun i j _ _ _ _ _ _ h=>h)
 ·rw[List.getElem?_set] at hp
  split at hp
  ·rename_i hij
   subst hij
   cases hp
   exact ⟨o,v,ho,OC.get_live hg,hv,hv,OC.get_ok hg hob (fun n i u h1 h2=>by simpa[List.getD,h1] using h2) w⟩
  ·obtain ⟨u,hu,hp'⟩:=hM.at hp
   exact ⟨p,u,hp,hl,hu,hu,hp'⟩
 ·rw[List.getElem?_set] at hp
  split at hp
  ·cases hp;rw[OC.mkr_live] at hl;cases hl
  ·exact hM.obj j p u hp hu
theorem qpE {σ0:List Nat} {i:Nat} {p:Ob D}:∀{σ:List Nat} {C:List (CO D)},Ox X σ0 O σ C→i∉σ→Ox X σ0 (O.set i p) σ C
 |[],[],_,_=>trivial
 |j::σ,q::C,⟨⟨o,h1,h2⟩,h3⟩,hi=>by
  refine ⟨⟨o, ?_,h2⟩,qpE h3 fun h=>hi (List.mem_cons_of_mem _ h)⟩
  rw[List.getElem?_set_ne]
  ·exact h1
  ·rintro rfl;exact hi List.mem_cons_self
 |[],_::_,h,_=>h.elim
 |_::_,[],h,_=>h.elim
theorem qoE {α:Type} {l:List α} {i:Nat} {a:α} (h:l[i]? =some a):l.set i a=l:=by
 apply List.ext_getElem?
 intro j
 rw[List.getElem?_set]
 have hi:=(List.getElem?_eq_some_iff.1 h).1
 by_cases hij:i=j
 ·subst hij;rw[if_pos rfl,if_pos hi,h]
 ·simp[hij]
theorem qkg {σ0:List Nat}:∀{its:List It} {x:inT D its} {σ:List Nat} {O:List (Ob D)},Mm X.G O z e m k vs→Ox X σ0 O σ (cos its x)→qdq σ=true→
  Inv O (nrm X σ0 its x σ O)∧Mm X.G (nrm X σ0 its x σ O) z e m k vs∧Oy X σ0 (nrm X σ0 its x σ O) σ (cos its x)∧∀i,i∉σ→(nrm X σ0 its x σ O)[i]? =O[i]?
 |[],x,[],O,hM,_,_=>⟨Inv.refl _,hM,trivial,fun _ _=>rfl⟩
 |[],x,_::_,O,hM,h,_=>h.elim
 | .v d c::its,x,σ,O,hM,h,hn=>by
  have:=qkg (its:=its) (x:=x.2) (σ:=σ) hM h hn
  simpa only[nrm,cos] using this
 | .u d c::its,x,σ,O,hM,h,hn=>by
  have:=qkg (its:=its) (x:=x.2) (σ:=σ) hM h hn
  simpa only[nrm,cos] using this
 | .o d c::its,x,[],O,hM,h,hn=>h.elim
 | .o d c::its,x,i::σ,O,hM,⟨⟨o,h1,h2⟩,h3⟩,hn=>by
  obtain ⟨n1,n2⟩:=qe0 hn
  have hM1:=qsA hM h1 h2 (qgZ c O i)
  obtain ⟨g1,g2,g3,g4⟩:=qkg (its:=its) (x:=x.2) (σ:=σ) hM1 (qpE h3 n1) n2
  have hi:=(List.getElem?_eq_some_iff.1 h1).1
  refine ⟨Inv.trans ?_ g1,g2,⟨⟨qgZ c O i, ?_⟩,g3⟩,fun j hj=> ?_⟩
  ·cases ht:qgZ c O i with
   |true=>exact Inv.set O i (.inr OC.mkr_tch)
   |false=>
    have hc:o.tch=false∧c.cln o=true:=by
     simp only[qgZ,h1,Bool.or_eq_false_iff,Bool.not_eq_false'] at ht
     exact ht
    have k3:=OC.get_clean h2 hc.2
    rw[hc.1] at k3
    have:O.set i (OC.mkr X (fun n=>σ0.getD n 0) c x.1 false)=O:=qoE (by rw[h1];exact congrArg some k3)
    rw[this]
    exact Inv.refl O
  ·show (nrm X σ0 its x.2 σ (O.set i (OC.mkr X _ c x.1 (qgZ c O i))))[i]? =_
   rw[g4 i n1,List.getElem?_set]
   simp[hi]
  ·show (nrm X σ0 its x.2 σ (O.set i (OC.mkr X _ c x.1 (qgZ c O i))))[j]? =_
   rw[g4 j fun h=>hj (List.mem_cons_of_mem _ h),List.getElem?_set_ne]
   rintro rfl;exact hj List.mem_cons_self
theorem qgE {a:Option Nat} {i:Nat} (h:optB a i=true):a=some i:=by
 unfold optB at h
 split at h
 ·rw[Nat.eq_of_beq_eq_true h]
 ·cases h
theorem qlU {σ:List Nat} {s s':SV D} {v:Value} (τ:Nat→Nat) (h:fxT σ s s'=true) (hr:rel X.G z vs s' v) (hv:∀(j i:Nat) (u:Value),σ[j]? =some i→vs[i]? =some u→vs'[τ j]? =some u):rel X.G z vs' (rnS τ s) v:=by
 unfold fxT at h
 split at h
 ·exact ⟨hv _ _ _ (qgE h) hr.1,hr.2⟩
 ·simp only[Bool.and_eq_true] at h
  obtain ⟨b,h1,h2⟩:=hr
  have:=Nat.eq_of_beq_eq_true h.2
  subst this
  exact ⟨b,hv _ _ _ (qgE h.1) h1,h2⟩
 ·obtain ⟨b,l,h1,h2⟩:=hr
  exact ⟨b,l,hv _ _ _ (qgE h) h1,h2⟩
 ·exact hr
 ·exact hr
 ·exact hr
 ·exact hr
 ·trivial
 ·simp only[Bool.and_eq_true,decide_eq_true_eq,beq_iff_eq] at h
  obtain ⟨rfl,rfl⟩:=h
  exact hr
 ·have:=eq_of_beq h
  subst this
  exact hr
 ·have:=Nat.eq_of_beq_eq_true h
  subst this
  obtain ⟨gs,h1,h2⟩:=hr
  refine ⟨gs,h1, ?_⟩
  cases gs with
  |nil=>trivial
  |cons _ _=>exact h2.elim
 ·cases h
theorem qks (s:SV D):rnS id s=s:=by
 cases s with
 |c c=>cases c<;>rfl
 |_=>rfl
structure Ent (X:Ev P D) (its:List It) (fx:List (Nat×SV D)) (x:inT D its) (σ:List Nat) (O2:List (Ob D)) (z:Nat→Blk) (e m:Mem) (k:Option Nat) (vs vs0:List Value) (fr:Nat→Value):Prop where
 mm:Mm X.G O2 z e m k vs
 mm0:Mm X.G (mkO X its x) z e m k vs0
 rl:Rl X z vs0 (mkE X its x++fx) fr
 nd:qdq σ=true
 oy:Oy X σ O2 σ (cos its x)
 len:vs0.length=σ.length
 nv:∀(j i:Nat),σ[j]? =some i→∃u,vs0[j]? =some u∧vs[i]? =some u
 gt:∀q∈cos its x,∀n∈q.c.nums,∃i,σ[n]? =some i
theorem qr8 {its:List It} {fx:List (Nat×SV D)} {x:inT D its} {σ:List Nat} {O2:List (Ob D)} (hM:Mm X.G O z e m k vs) (hE:Rl X z vs E fr) (h:qot X its fx E O=some (x,σ,O2)):
  ∃z' vs0,Inv O O2∧Zx e.next z z'∧Ent X its fx x σ O2 z' e m k vs vs0 fr:=by
 unfold qot at h
 split at h
 ·rename_i svs O1 σ' hf ha
  split at h
  ·rename_i hc
   simp only[Bool.and_eq_true] at hc
   split at h
   ·rename_i x' hb
    cases h
    obtain ⟨z1,g0,g1,g2,g3⟩:=qcZ hM hE hf
    have ox:=qmX hb
    obtain ⟨n1,n2,n3,n4⟩:=qkg g2 ox hc.1
    have hv0:∀(j i:Nat),σ[j]? =some i→∃u,(σ.map fun i=>vs.getD i undef)[j]? =some u∧vs[i]? =some u:=by
     intro j i hj
     obtain ⟨q,_,w,hw⟩:=n3.get j i hj
     obtain ⟨v,hv,_⟩:=n2.at hw
     refine ⟨v, ?_,hv⟩
     rw[List.getElem?_map,hj]
     simp[hv]
    have hlen:(mkO X its x).length=σ.length:=by rw[qaJ,List.length_map];exact n3.length.symm
    have hgt:∀(j:Nat) (o0:Ob D),(mkO X its x)[j]? =some o0→∃i q,q∈cos its x∧o0=OC.mk X q.c q.x false∧σ[j]? =some i∧∃w,(nrm X σ its x σ O1)[i]? =some (OC.mkr X (fun n=>σ.getD n 0) q.c q.x w):=by
     intro j o0 hj
     have hlt:=(List.getElem?_eq_some_iff.1 hj).1
     have hs:σ[j]? =some (σ[j]'(by omega)):=List.getElem?_eq_getElem (by omega)
     obtain ⟨q,k3,w,k4⟩:=n3.get j _ hs
     rw[qaJ,List.getElem?_map,k3] at hj
     exact ⟨_,q,List.mem_of_getElem? k3,(Option.some.inj hj).symm,hs,w,k4⟩
    have hnum:∀q∈cos its x,∀n∈q.c.nums,∃i,σ[n]? =some i:=by
     intro q hq
     obtain ⟨j,hj,he⟩:=List.mem_iff_getElem.1 hq
     have hj':(cos its x)[j]? =some q:=by rw[List.getElem?_eq_getElem hj,he]
     have hs:σ[j]? =some (σ[j]'(by rw[ox.length];exact hj)):=List.getElem?_eq_getElem _
     obtain ⟨q',k1,o,_,k2⟩:=ox.get j _ hs
     rw[hj'] at k1;cases k1
     exact OC.get_nums k2
    refine ⟨z1,σ.map fun i=>vs.getD i undef,g0.trans n1,g1,n2, ?_, ?_,hc.1,n3,by simp,hv0,hnum⟩
    ·refine n2.sel (by rw[List.length_map];exact hlen.symm) (fun j=>σ.getD j 0) (fun j o0 hj hl=> ?_) (fun j o0 u hj hl hu=> ?_) (fun i j o p hi hj _ _ hij=> ?_)
     ·obtain ⟨i,q,hq,rfl,hs,w,hw⟩:=hgt j o0 hj
      obtain ⟨u,hu1,hu2⟩:=hv0 j i hs
      have hd:σ.getD j 0=i:=by simp[List.getD,hs]
      refine ⟨_,u,by rw[hd];exact hw,OC.mkr_live,by rw[hd];exact hu2,hu1, ?_⟩
      have:=n2.obj i _ u hw hu2
      refine OC.mkr_ok false this fun n hn u' hu'=> ?_
      obtain ⟨i',hi'⟩:=hnum q hq n hn
      have hd':σ.getD n 0=i':=by simp[List.getD,hi']
      rw[hd'] at hu'
      obtain ⟨u2,h1,h2⟩:=hv0 n i' hi'
      rw[hu'] at h2;cases h2;exact h1
     ·obtain ⟨i,q,_,rfl,hs,w,hw⟩:=hgt j o0 hj
      rw[OC.mk_live] at hl
      cases hl
     ·obtain ⟨a,_,_,_,ha,_⟩:=hgt i o hi
      obtain ⟨b,_,_,_,hb,_⟩:=hgt j p hj
      have e1:σ.getD i 0=a:=by simp[List.getD,ha]
      have e2:σ.getD j 0=b:=by simp[List.getD,hb]
      have:a=b:=by rw[←e1,←e2];exact hij
      subst this
      exact qdU hc.1 i j a ha hb
    ·refine qlp fun p hp=> ?_
     rcases List.mem_append.1 hp with hp|hp
     ·refine qk4 (fun j i u hj hu=> ?_) hb g3 p hp
      obtain ⟨u',h1,h2⟩:=hv0 j i hj
      rw[hu] at h2;cases h2;exact h1
     ·have ht:=List.all_eq_true.1 hc.2 p hp
      have:=qlU (X:=X) (z:=z1) (vs:=vs) (vs':=σ.map fun i=>vs.getD i undef) id ht ((hE.mono g1.le fun _ _ h=>h) p.1) fun j i u hj hu=>by
       obtain ⟨u',h1,h2⟩:=hv0 j i hj
       rw[hu] at h2;cases h2;exact h1
      rwa [qks] at this
   ·cases h
  ·cases h
 ·cases h
theorem entry {its:List It} {fx:List (Nat×SV D)} {x:inT D its} {σ:List Nat} {O2:List (Ob D)} (hM:Mm X.G O z e m k vs) (hE:Rl X z vs E fr) (h:rdIn X its fx E O=some (x,σ,O2)):
  ∃z' vs0,Inv O O2∧Zx e.next z z'∧Ent X its fx x σ O2 z' e m k vs vs0 fr:=by
 unfold rdIn at h
 split at h
 ·rename_i O0 hf
  obtain ⟨z1,g0,g1,g2⟩:=qdO hM hf
  obtain ⟨z2,vs0,k0,k1,k2⟩:=qr8 g2 (hE.mono g1.le fun _ _ h=>h) h
  exact ⟨z2,vs0,g0.trans k0,g1.trans k1,k2⟩
 ·cases h
def qsF (E:List (Nat×SV D)) (O:List (Ob D)) (q off:Nat):Option (Nat×Nat×List (CV D)×Bool):=
 match lkE E q with
 | .box i 0=>(match O[i]? with|some (.box t cs false w)=>(match cs[off]? with|some .nilS=>some (i,t,cs,w)|_=>none)|_=>none)
 |_=>none
def ownA:List It→List (Nat×SV D)→List (Ob D)→List (Nat×SV D)×List (Ob D)
 | .o d (.sl t)::its,E,O=>
  if Nat.blt d VC=true then (match lkE E d with| .c .nilS=>ownA its ((d, .c (.own O.length))::E) (O++[.sl t [] false false])|_=>ownA its E O)
  else (match qsF E O ((d - VC) / 1000) ((d - VC)%1000) with|some (i,u,cs,_)=>ownA its E (O.set i (.box u (cs.set ((d - VC)%1000) (.own O.length)) false true)++[.sl t [] false false])|none=>ownA its E O)
 |_::its,E,O=>ownA its E O
 |[],E,O=>(E,O)
theorem qaN:∀{its:List It} {E:List (Nat×SV D)} {O:List (Ob D)} {vs:List Value},Mm X.G O z e m k vs→Rl X z vs E fr→∃vs',Inv O (ownA its E O).2∧(∀(i:Nat) (u:Value),vs[i]? =some u→vs'[i]? =some u)∧Mm X.G (ownA its E O).2 z e m k vs'∧Rl X z vs' (ownA its E O).1 fr
 |[],E,O,vs,hM,hE=>⟨vs,Inv.refl _,fun _ _ h=>h,hM,hE⟩
 | .v _ _::its,E,O,vs,hM,hE=>qaN (its:=its) hM hE
 | .u _ _::its,E,O,vs,hM,hE=>qaN (its:=its) hM hE
 | .o _ (.box _)::its,E,O,vs,hM,hE=>qaN (its:=its) hM hE
 | .o _ (.recv _)::its,E,O,vs,hM,hE=>qaN (its:=its) hM hE
 | .o _ (.arr _ _ _)::its,E,O,vs,hM,hE=>qaN (its:=its) hM hE
 | .o _ (.map _ _ _)::its,E,O,vs,hM,hE=>qaN (its:=its) hM hE
 | .o _ (.bx _ _)::its,E,O,vs,hM,hE=>qaN (its:=its) hM hE
 | .o _ (.fb _ _ _)::its,E,O,vs,hM,hE=>qaN (its:=its) hM hE
 | .o _ (.ne _ _)::its,E,O,vs,hM,hE=>qaN (its:=its) hM hE
 | .o d (.sl t)::its,E,O,vs,hM,hE=>by
  have hMp:∀{O:List (Ob D)},Mm X.G O z e m k vs→Mm X.G (O++[.sl t [] false false]) z e m k (vs++[.slice none 0 0]):=fun {O} hM=>by
   refine hM.push (q:=none) ⟨Nat.le_refl _,hM.st.dead,fun _ _ _=>rfl⟩ hM.st (fun _ _ _ _ _ _=>Ap.none') ?_ fun _ _ _=>Ap.none'
   exact (⟨.inl ⟨rfl,rfl⟩,fun b hb=>by cases hb⟩:OwF (X.G.T t) z e m k [] (.slice none 0 0))
  unfold ownA
  split
  ·split
   ·rename_i hs
    have hd:=hE d
    rw[hs] at hd
    have hd:fr d= .slice none 0 0:=hd
    obtain ⟨vs',g1,g2,g3,g4⟩:=qaN (its:=its) (E:=(d, .c (.own O.length))::E) (hMp hM) ((hE.mono (Zle.refl z) qau).cons ⟨by rw[hd,←hM.len];simp,by rw[hd];rfl,by rw[hd];rfl⟩)
    exact ⟨vs',(Inv.push O _).trans g1,fun i u hu=>g2 i u (qau i u hu),g3,g4⟩
   ·exact qaN (its:=its) hM hE
  ·generalize (d - VC) / 1000=q
   generalize (d - VC)%1000=off
   split
   ·rename_i i u cs w hn
    have hb:O[i]? =some (.box u cs false w)∧cs[off]? =some .nilS:=by
     unfold qsF at hn
     split at hn
     ·split at hn
      ·split at hn
       ·rename_i h2 _ h3
        cases hn;exact ⟨h2,h3⟩
       ·cases hn
      ·cases hn
     ·cases hn
    obtain ⟨v,hv,b,ds,h1,h2,h3,h4⟩:=hM.at hb.1
    have hM2:=hMp hM
    have hi:=(List.getElem?_eq_some_iff.1 hb.1).1
    have hset:O.set i (.box u (cs.set off (.own O.length)) false true)++[(.sl t [] false false:Ob D)]=(O++[(.sl t [] false false:Ob D)]).set i (.box u (cs.set off (.own O.length)) false true):=by
     rw[List.set_append_left _ _ hi]
    have hM3:Mm X.G (O.set i (.box u (cs.set off (.own O.length)) false true)++[.sl t [] false false]) z e m k (vs++[.slice none 0 0]):=by
     rw[hset]
     refine hM2.turn (m':=m) (v:=v) (o:= .box u cs false w) (by rw[List.getElem?_append_left hi];exact hb.1) (qau _ _ hv) rfl ⟨Nat.le_refl _,hM.st.dead,fun _ _ _=>rfl⟩ hM.st ?_
     refine ⟨b,ds,h1,h2,h3,qbk.2 ⟨by rw[List.length_set];exact (qbk.1 h4).1,fun j a d ha hd=> ?_⟩⟩
     rw[List.getElem?_set] at ha
     split at ha
     ·rename_i hj
      split at ha
      ·cases ha
       subst hj
       have hr:d= .slice none 0 0:=(qbk.1 h4).2 off _ d hb.2 hd
       exact ⟨by rw[hr,←hM.len];simp,by rw[hr];rfl,by rw[hr];rfl⟩
      ·cases ha
     ·exact rel0.mono ((qbk.1 h4).2 j a d ha hd) (Zle.refl z) qau
    obtain ⟨vs',g1,g2,g3,g4⟩:=qaN (its:=its) (E:=E) hM3 (hE.mono (Zle.refl z) qau)
    exact ⟨vs',((Inv.set O i (.inr rfl)).trans (Inv.push _ _)).trans g1,fun i u hu=>g2 i u (qau i u hu),g3,g4⟩
   ·exact qaN (its:=its) hM hE
end
end Go.AM
end
section
set_option linter.unusedSimpArgs false
set_option linter.unusedVariables false
namespace Go.AM
structure Ex (D:Nat→Type) where
 ex:AExit
 outs:List It
 fx:List (Nat×SV D)
noncomputable section
section
variable {P:Program} {D:Nat→Type}
def outT (D:Nat→Type):List It→Type
 |[]=>Unit
 |[i]=>i.ty D
 |i::j::is=>i.ty D×outT D (j::is)
def qoK:(its:List It)→inT D its→outT D its
 |[],_=>()
 |[_],x=>x.1
 |_::j::is,x=>(x.1,qoK (j::is) x.2)
def qay:(its:List It)→outT D its→inT D its
 |[],_=>()
 |[_],y=>(y,())
 |_::j::is,y=>(y.1,qay (j::is) y.2)
def sumT:List (Ex D)→Type
 |[]=>Empty
 |[x]=>outT D x.outs
 |x::y::xs=>outT D x.outs⊕sumT (y::xs)
def atEx {α:Type}:(exs:List (Ex D))→sumT exs→((x:Ex D)→outT D x.outs→α)→α
 |[],e,_=>nomatch (e:Empty)
 |[x],y,k=>k x y
 |x::y::xs,r,k=>match (r:outT D x.outs⊕sumT (y::xs)) with| .inl a=>k x a| .inr b=>atEx (y::xs) b k
variable (X:Ev P D)
def qsX (n:Nat):Ob D→Bool
 | .box _ cs _ _=>cs.all fun c=>match c with| .own i=>Nat.blt i n| .fn _ is=>is.all fun i=>Nat.blt i n|_=>true
 |_=>true
def ql5 (n:Nat) (O:List (Ob D)):Nat→List Nat→Bool
 |_,[]=>true
 |j,k::ks=>(if k=1 then (match O[j]? with|some o=>o.live&& !o.tch&&qsX n o|none=>false) else true)&&ql5 n O (j+1) ks
def rdXI (n:Nat) (ks:List Nat) (x:Ex D) (E:List (Nat×SV D)) (O:List (Ob D)):Option (outT D x.outs):=
 match frzA E x.outs O,ancs E O x.outs with
 |some (svs,O1),some σ=>
  if (qdq σ&&(σ.all fun i=>Nat.ble n i||Nat.beq (ks.getD i 0) 0)&&ql5 n O1 0 ks&&x.fx.all fun p=>fxT (List.range n++σ) p.2 (lkE E p.1))=true then
   match rdB X (List.range n++σ) O1 x.outs svs σ with
   |some y=>some (qoK x.outs y)
   |none=>none
  else none
 |_,_=>none
def rdX (n:Nat) (ks:List Nat) (x:Ex D) (E:List (Nat×SV D)) (O:List (Ob D)):Option (outT D x.outs):=
 match frzB (ownA x.outs E O).1 x.outs (ownA x.outs E O).2 with
 |some O'=>rdXI X n ks x (ownA x.outs E O).1 O'
 |none=>none
def rdEx (n:Nat) (ks:List Nat):(exs:List (Ex D))→AExit→List (Nat×SV D)→List (Ob D)→Option (sumT exs)
 |[],_,_,_=>none
 |[x],e,E,O=>if e=x.ex then rdX X n ks x E O else none
 |x::y::xs,e,E,O=>if e=x.ex then (match rdX X n ks x E O with|some a=>some (Sum.inl a)|none=>none) else (match rdEx n ks (y::xs) e E O with|some b=>some (Sum.inr b)|none=>none)
def qbi (τ:Nat→Nat):(its:List It)→inT D its→Nat→Ob D
 | .u i c::its,x,j=>if Nat.beq i j=true then OC.mkr X τ c x.1 true else qbi τ its x.2 j
 | .v _ _::its,x,j=>qbi τ its x.2 j
 | .o _ _::its,x,j=>qbi τ its x.2 j
 |[],_,_=> .dead
def idN (n:Nat):Nat:=n
def pO (outs:List It) (y:inT D outs):Nat→List Nat→List (Ob D)→List (Ob D)
 |i,k::ks,o::O=>(if k=1 then o else if k=2 then qbi X idN outs y i else .dead)::pO outs y (i+1) ks O
 |i,[],o::O=> .dead::pO outs y (i+1) [] O
 |_,_,[]=>[]
def qbB (ks:List Nat) (O0:List (Ob D)) (outs:List It) (y:inT D outs):List (Ob D):=pO X outs y 0 ks O0++mkO X outs y
end
section
variable {P:Program} {D:Nat→Type} {X:Ev P D} {z z':Nat→Blk} {e m m':Mem} {k:Option Nat} {vs vs':List Value} {fr:Nat→Value} {E:List (Nat×SV D)} {O O':List (Ob D)}
theorem qsH:∀{its:List It} (x:inT D its),qay its (qoK its x)=x
 |[],_=>rfl
 |[_],_=>rfl
 |_::j::is,x=>by
  show (x.1,qay (j::is) (qoK (j::is) x.2))=x
  rw[qsH (its:=j::is) x.2]
  rfl
theorem qcq {n:Nat} {ks:List Nat} {ex:AExit}:∀{exs:List (Ex D)} {res:sumT exs},rdEx X n ks exs ex E O=some res→∃x y,x∈exs∧ex=x.ex∧rdX X n ks x E O=some y∧∀{α:Type} (K:(x:Ex D)→outT D x.outs→α),atEx exs res K=K x y
 |[],_,h=>by cases h
 |[x],res,h=>by
  obtain ⟨h1,h2⟩:=ite_some h
  exact ⟨x,res,List.mem_cons_self,h1,h2,fun _=>rfl⟩
 |x::y::xs,res,h=>by
  simp only[rdEx] at h
  split at h
  ·rename_i hx
   split at h
   ·rename_i a ha
    cases h
    exact ⟨x,a,List.mem_cons_self,hx,ha,fun _=>rfl⟩
   ·cases h
  ·split at h
   ·rename_i b hb
    cases h
    obtain ⟨x',y',h1,h2,h3,h4⟩:=qcq hb
    exact ⟨x',y',List.mem_cons_of_mem _ h1,h2,h3,fun K=>h4 K⟩
   ·cases h
theorem qeA {σ0:List Nat} {n:Nat}:∀{its:List It} {l:List (SV D)} {σ:List Nat} {x:inT D its} {j:Nat},rdB X σ0 O its l σ=some x→(∀τ,qbi X τ its x j= .dead)∨∃c y o,O[j]? =some o∧OC.get X σ0 c o=some y∧∀τ,qbi X τ its x j=OC.mkr X τ c y true
 |[],_,_,_,_,_=> .inl fun _=>rfl
 | .v d c::its,[],_,_,_,h=>by simp[rdB] at h
 | .o d c::its,[],_,_,_,h=>by simp[rdB] at h
 | .u d c::its,[],_,_,_,h=>by simp[rdB] at h
 | .v d c::its,s::l,σ,x,j,h=>by
  simp only[rdB] at h
  obtain ⟨_,h⟩:=ite_some h
  split at h
  ·rename_i a b h1 h2
   cases h
   exact qeA (n:=n) (its:=its) h2
  ·cases h
 | .o d c::its,s::l,[],x,j,h=>by cases h
 | .o d c::its,s::l,i::σ,x,j,h=>by
  simp only[rdB] at h
  split at h
  ·split at h
   ·rename_i a b h1 h2
    cases h
    exact qeA (n:=n) (its:=its) h2
   ·cases h
  ·cases h
 | .u d c::its,s::l,σ,x,j,h=>by
  simp only[rdB] at h
  split at h
  ·rename_i o ho
   split at h
   ·rename_i a b h1 h2
    cases h
    by_cases hd:Nat.beq d j=true
    ·have:=Nat.eq_of_beq_eq_true hd
     subst this
     refine .inr ⟨c,a,o,ho,h1,fun τ=> ?_⟩
     show (if Nat.beq d d=true then OC.mkr X τ c a true else _)=_
     rw[if_pos hd]
    ·have e1:∀τ,qbi X τ (.u d c::its) (a,b) j=qbi X τ its b j:=fun τ=>by
      show (if Nat.beq d j=true then OC.mkr X τ c a true else _)=_
      rw[if_neg hd]
     simp only[e1]
     exact qeA (n:=n) (its:=its) (j:=j) h2
   ·cases h
  ·cases h
def It.nums:It→List Nat
 | .v _ _=>[]
 | .o _ c=>c.nums
 | .u _ c=>c.nums
def It.nc:It→Bool
 | .v _ c=>c.nc
 |_=>true
theorem qbn:∀{its:List It} {x:inT D its} {j:Nat},(∀τ,qbi X τ its x j= .dead)∨∃d c y,It.u d c∈its∧∀τ,qbi X τ its x j=OC.mkr X τ c y true
 |[],_,_=> .inl fun _=>rfl
 | .v d c::its,x,j=>by
  rcases qbn (its:=its) (x:=x.2) (j:=j) with h|⟨d,c,y,h1,h2⟩
  ·exact .inl h
  ·exact .inr ⟨d,c,y,List.mem_cons_of_mem _ h1,h2⟩
 | .o d c::its,x,j=>by
  rcases qbn (its:=its) (x:=x.2) (j:=j) with h|⟨d,c,y,h1,h2⟩
  ·exact .inl h
  ·exact .inr ⟨d,c,y,List.mem_cons_of_mem _ h1,h2⟩
 | .u d c::its,x,j=>by
  by_cases hd:Nat.beq d j=true
  ·exact .inr ⟨d,c,x.1,List.mem_cons_self,fun τ=>if_pos hd⟩
  ·have e1:∀τ,qbi X τ (.u d c::its) x j=qbi X τ its x.2 j:=fun τ=>if_neg hd
   simp only[e1]
   rcases qbn (its:=its) (x:=x.2) (j:=j) with h|⟨d,c,y,h1,h2⟩
   ·exact .inl h
   ·exact .inr ⟨d,c,y,List.mem_cons_of_mem _ h1,h2⟩
theorem qeY:∀{its:List It} {x:inT D its} {o:Ob D},o∈mkO X its x→∃d c y,It.o d c∈its∧o=OC.mk X c y false
 |[],_,_,h=>by simp[mkO] at h
 | .v d c::its,x,o,h=>let ⟨d,c,y,h1,h2⟩:=qeY (its:=its) (x:=x.2) h;⟨d,c,y,List.mem_cons_of_mem _ h1,h2⟩
 | .u d c::its,x,o,h=>let ⟨d,c,y,h1,h2⟩:=qeY (its:=its) (x:=x.2) h;⟨d,c,y,List.mem_cons_of_mem _ h1,h2⟩
 | .o d c::its,x,o,h=>by
  simp only[mkO,List.mem_cons] at h
  rcases h with rfl|h
  ·exact ⟨d,c,x.1,List.mem_cons_self,rfl⟩
  ·obtain ⟨d,c,y,h1,h2⟩:=qeY (its:=its) (x:=x.2) h
   exact ⟨d,c,y,List.mem_cons_of_mem _ h1,h2⟩
theorem qfD:∀{its:List It} {x:inT D its} {p:Nat×SV D},p∈mkE X its x→∃d c y,It.v d c∈its∧p.2=Cl.mk X c y
 |[],_,_,h=>by simp[mkE] at h
 | .o d c::its,x,o,h=>by
  obtain ⟨d',c',y,h1,h2⟩:=qfD (its:=its) (x:=x.2) h
  exact ⟨d',c',y,List.mem_cons_of_mem _ h1,h2⟩
 | .u d c::its,x,o,h=>by
  obtain ⟨d',c',y,h1,h2⟩:=qfD (its:=its) (x:=x.2) h
  exact ⟨d',c',y,List.mem_cons_of_mem _ h1,h2⟩
 | .v d c::its,x,o,h=>by
  simp only[mkE,List.mem_cons] at h
  rcases h with rfl|h
  ·exact ⟨d,c,x.1,List.mem_cons_self,rfl⟩
  ·obtain ⟨d',c',y,h1,h2⟩:=qfD (its:=its) (x:=x.2) h
   exact ⟨d',c',y,List.mem_cons_of_mem _ h1,h2⟩
theorem qbv {outs:List It} {y:inT D outs}:∀{i:Nat} {ks:List Nat} {O:List (Ob D)},(pO X outs y i ks O).length=O.length
 |i,[],[]=>rfl
 |i,_::_,[]=>rfl
 |i,k::ks,o::O=>by simp[pO,qbv]
 |i,[],o::O=>by simp[pO,qbv]
theorem qd9 {outs:List It} {y:inT D outs}:∀{i:Nat} {ks:List Nat} {O:List (Ob D)} {j:Nat} {o:Ob D},O[j]? =some o→(pO X outs y i ks O)[j]? =some (if ks.getD j 0=1 then o else if ks.getD j 0=2 then qbi X idN outs y (i+j) else .dead)
 |i,ks,[],j,o,h=>by simp at h
 |i,k::ks,p::O,0,o,h=>by simp at h;subst h;simp[pO]
 |i,k::ks,p::O,j+1,o,h=>by
  simp only[List.getElem?_cons_succ] at h
  have:=qd9 (outs:=outs) (y:=y) (i:=i+1) (ks:=ks) h
  simp only[pO,List.getElem?_cons_succ,this,List.getD_cons_succ]
  rw[Nat.add_assoc,Nat.add_comm 1 j]
 |i,[],p::O,0,o,h=>by simp[pO]
 |i,[],p::O,j+1,o,h=>by
  simp only[List.getElem?_cons_succ] at h
  have:=qd9 (outs:=outs) (y:=y) (i:=i+1) (ks:=[]) h
  simp only[pO,List.getElem?_cons_succ,this]
  simp
theorem qow {n:Nat} {o:Ob D} (h:qsX n o=true):∀i,qp7 i o→i<n:=by
 intro i hi
 cases o with
 |box t cs fz w=>
  rcases hi with hi|⟨f,is,hi,hm⟩
  ·have:=List.all_eq_true.1 h _ hi
   simpa[Nat.blt_eq] using this
  ·have:=List.all_eq_true.1 h _ hi
   have:=List.all_eq_true.1 this _ hm
   simpa[Nat.blt_eq] using this
 |_=>exact hi.elim
theorem qj8 {n:Nat}:∀{ks:List Nat} {i j:Nat},ql5 n O i ks=true→ks.getD j 0=1→∃o,O[i+j]? =some o∧o.live=true∧o.tch=false∧∀i,qp7 i o→i<n
 |[],i,j,_,h=>by simp at h
 |k::ks,i,0,hk,h=>by
  simp only[ql5,Bool.and_eq_true] at hk
  simp at h
  subst h
  have h1:=hk.1
  rw[if_pos rfl] at h1
  split at h1
  ·rename_i o ho
   simp only[Bool.and_eq_true,Bool.not_eq_true'] at h1
   exact ⟨o,ho,h1.1.1,h1.1.2,qow h1.2⟩
  ·cases h1
 |k::ks,i,j+1,hk,h=>by
  simp only[ql5,Bool.and_eq_true] at hk
  simp only[List.getD_cons_succ] at h
  obtain ⟨o,h1,h2⟩:=qj8 hk.2 h
  exact ⟨o,by rw[←h1];congr 1;omega,h2⟩
theorem qoo {ins:List It} {ks:List Nat} {x:inT D ins} {xx:Ex D} {y:outT D xx.outs} {vs0:List Value} (hi:Inv (mkO X ins x) O) (hv:∀(i:Nat) (u:Value),vs0[i]? =some u→vs[i]? =some u) (hl0:vs0.length=(mkO X ins x).length)
  (hM:Mm X.G O z e m k vs) (hE:Rl X z vs E fr) (h:rdXI X vs0.length ks xx E O=some y):
  ∃z' nv,Zx e.next z z'∧Mm X.G (qbB X ks (mkO X ins x) xx.outs (qay _ y)) z' e m k (vs0++nv)∧∀p∈mkE X xx.outs (qay _ y)++xx.fx,rel X.G z' (vs0++nv) p.2 (fr p.1):=by
 unfold rdXI at h
 split at h
 ·rename_i svs O1 σ hf ha
  split at h
  ·rename_i hc
   simp only[Bool.and_eq_true] at hc
   obtain ⟨⟨⟨c1,c2⟩,c3⟩,c4⟩:=hc
   split at h
   ·rename_i y' hb
    cases h
    rw[qsH]
    obtain ⟨z1,g0,g1,g2,g3⟩:=qcZ hM hE hf
    have ox:=qmX hb
    have hi1:=hi.trans g0
    have hnv:∀(j i:Nat),σ[j]? =some i→∃u,(σ.map fun i=>vs.getD i undef)[j]? =some u∧vs[i]? =some u:=by
     intro j i hj
     obtain ⟨q,_,o,ho,_⟩:=ox.get j i hj
     obtain ⟨v,hv,_⟩:=g2.at ho
     exact ⟨v,by rw[List.getElem?_map,hj];simp[hv],hv⟩
    have hlen:(mkO X xx.outs y').length=σ.length:=by rw[qaJ,List.length_map];exact ox.length.symm
    have hcv:∀(j:Nat) (o:Ob D),(qbB X ks (mkO X ins x) xx.outs y')[j]? =some o→
      (j<vs0.length∧∃o0,(mkO X ins x)[j]? =some o0∧o=(if ks.getD j 0=1 then o0 else if ks.getD j 0=2 then qbi X idN xx.outs y' j else .dead))∨
      (vs0.length≤j∧(mkO X xx.outs y')[j - vs0.length]? =some o):=by
     intro j o hj
     unfold qbB at hj
     by_cases hlt:j<vs0.length
     ·refine .inl ⟨hlt, ?_⟩
      rw[List.getElem?_append_left (by rw[qbv];omega)] at hj
      have hs:(mkO X ins x)[j]? =some ((mkO X ins x)[j]'(by omega)):=List.getElem?_eq_getElem (by omega)
      have:=qd9 (X:=X) (outs:=xx.outs) (y:=y') (i:=0) (ks:=ks) hs
      rw[hj] at this
      refine ⟨_,hs, ?_⟩
      have:=Option.some.inj this
      rw[Nat.zero_add] at this
      exact this
     ·refine .inr ⟨by omega, ?_⟩
      rw[List.getElem?_append_right (by rw[qbv];omega),qbv,←hl0] at hj
      exact hj
    have hleft:∀(j:Nat) (u:Value),j<vs0.length→vs[j]? =some u→(vs0++σ.map fun i=>vs.getD i undef)[j]? =some u:=by
     intro j u hj hu
     rw[List.getElem?_append_left hj]
     have:vs0[j]? =some vs0[j]:=List.getElem?_eq_getElem hj
     have:=hv j _ this
     rw[hu] at this
     cases this
     exact List.getElem?_eq_getElem hj
    have hnum:∀(n i:Nat) (u:Value),(List.range vs0.length++σ)[n]? =some i→vs[i]? =some u→(vs0++σ.map fun i=>vs.getD i undef)[n]? =some u:=by
     intro n i u hn hu
     by_cases hlt:n<vs0.length
     ·rw[List.getElem?_append_left (by simpa using hlt),List.getElem?_range hlt] at hn
      cases hn
      exact hleft n u hlt hu
     ·rw[List.getElem?_append_right (by simpa using hlt),List.length_range] at hn
      obtain ⟨u',h1,h2⟩:=hnv _ _ hn
      rw[hu] at h2;cases h2
      rw[List.getElem?_append_right (by omega)]
      exact h1
    refine ⟨z1,σ.map fun i=>vs.getD i undef,g1, ?_, ?_⟩
    ·refine g2.sel ?_ (fun j=>if j<vs0.length then j else σ.getD (j - vs0.length) 0) (fun j o hj hl=> ?_) (fun j o u hj hl hu=> ?_) (fun i j o p hi' hj hli hlj hij=> ?_)
     ·unfold qbB
      rw[List.length_append,List.length_append,qbv,hlen,List.length_map,hl0]
     ·rcases hcv j o hj with ⟨hlt,o0,ho0,ho⟩|⟨hge,ho⟩
      ·simp only[if_pos hlt]
       by_cases k1:ks.getD j 0=1
       ·rw[if_pos k1] at ho
        subst ho
        obtain ⟨p,p1,p2,p3,p4⟩:=qj8 c3 k1
        rw[Nat.zero_add] at p1
        have:=hi1.old j p (by omega) p1 p2 p3
        rw[ho0] at this;cases this
        obtain ⟨v,v1,v2⟩:=g2.at p1
        obtain ⟨_,c,w,_,rfl⟩:=qeY (List.mem_of_getElem? ho0)
        exact ⟨_,v,p1,p2,v1,hleft j v hlt v1,OC.mkr_okC false v2 fun n _ ho u hu=>hleft n u (p4 n ho) hu⟩
       ·rw[if_neg k1] at ho
        by_cases k2:ks.getD j 0=2
        ·rw[if_pos k2] at ho
         rcases qeA (n:=0) (j:=j) hb with hd|⟨c,w,p,p1,p2,p3⟩
         ·rw[ho,hd] at hl;cases hl
         ·obtain ⟨v,v1,v2⟩:=g2.at p1
          refine ⟨p,v,p1,OC.get_live p2,v1,hleft j v hlt v1, ?_⟩
          rw[ho,p3]
          exact OC.get_ok p2 v2 hnum true
        ·rw[if_neg k2] at ho
         rw[ho] at hl;cases hl
      ·have hn:¬j<vs0.length:=by omega
       simp only[if_neg hn]
       have hlt:=(List.getElem?_eq_some_iff.1 ho).1
       have hs:σ[j - vs0.length]? =some (σ[j - vs0.length]'(by omega)):=List.getElem?_eq_getElem (by omega)
       obtain ⟨q,q1,p,p1,p2⟩:=ox.get _ _ hs
       rw[qaJ,List.getElem?_map,q1] at ho
       have ho:=(Option.some.inj ho).symm
       subst ho
       obtain ⟨u,u1,u2⟩:=hnv _ _ hs
       obtain ⟨v,v1,v2⟩:=g2.at p1
       rw[u2] at v1;cases v1
       have hd:σ.getD (j - vs0.length) 0=σ[j - vs0.length]'(by omega):=by simp[List.getD,hs]
       refine ⟨p,u,by rw[hd];exact p1,OC.get_live p2,by rw[hd];exact u2, ?_, ?_⟩
       ·rw[List.getElem?_append_right hge];exact u1
       ·exact OC.get_ok p2 v2 hnum false
     ·rcases hcv j o hj with ⟨hlt,o0,ho0,ho⟩|⟨hge,ho⟩
      ·by_cases k1:ks.getD j 0=1
       ·rw[if_pos k1] at ho
        subst ho
        obtain ⟨_,c,w,_,rfl⟩:=qeY (List.mem_of_getElem? ho0)
        rw[OC.mk_live] at hl;cases hl
       ·rw[if_neg k1] at ho
        by_cases k2:ks.getD j 0=2
        ·rw[if_pos k2] at ho
         rcases qbn (X:=X) (its:=xx.outs) (x:=y') (j:=j) with hd|⟨_,c,w,_,hd⟩
         ·rw[ho,hd];trivial
         ·rw[ho,hd,OC.mkr_live] at hl;cases hl
        ·rw[if_neg k2] at ho
         rw[ho];trivial
      ·obtain ⟨_,c,w,_,rfl⟩:=qeY (List.mem_of_getElem? ho)
       rw[OC.mk_live] at hl;cases hl
     ·have dead:∀(i j:Nat) (o p:Ob D),i<vs0.length→vs0.length≤j→(qbB X ks (mkO X ins x) xx.outs y')[i]? =some o→(qbB X ks (mkO X ins x) xx.outs y')[j]? =some p→o.live=true→i=σ.getD (j - vs0.length) 0→False:=by
       intro i j o p hi2 hj2 ho hp hlo hij
       rcases hcv j p hp with ⟨hlt,_⟩|⟨_,hp'⟩
       ·omega
       ·have hlt:=(List.getElem?_eq_some_iff.1 hp').1
        have hs:σ[j - vs0.length]? =some (σ[j - vs0.length]'(by omega)):=List.getElem?_eq_getElem (by omega)
        have hd:σ.getD (j - vs0.length) 0=σ[j - vs0.length]'(by omega):=by simp[List.getD,hs]
        have hm:i∈σ:=by rw[hij,hd];exact List.getElem_mem _
        have:=List.all_eq_true.1 c2 i hm
        simp only[Bool.or_eq_true] at this
        have hks:ks.getD i 0=0:=by
         rcases this with h1|h1
         ·have:=Nat.le_of_ble_eq_true h1;omega
         ·exact Nat.eq_of_beq_eq_true h1
        rcases hcv i o ho with ⟨_,o0,_,ho'⟩|⟨hge,_⟩
        ·rw[hks] at ho'
         simp at ho'
         rw[ho'] at hlo;cases hlo
        ·omega
      by_cases h1:i<vs0.length
      ·by_cases h2:j<vs0.length
       ·simpa[h1,h2] using hij
       ·simp only[if_pos h1,if_neg h2] at hij
        exact (dead i j o p h1 (by omega) hi' hj hli hij).elim
      ·by_cases h2:j<vs0.length
       ·simp only[if_neg h1,if_pos h2] at hij
        exact (dead j i p o h2 (by omega) hj hi' hlj hij.symm).elim
       ·simp only[if_neg h1,if_neg h2] at hij
        rcases hcv i o hi' with ⟨hlt,_⟩|⟨_,hi2⟩
        ·omega
        ·rcases hcv j p hj with ⟨hlt,_⟩|⟨_,hj2⟩
         ·omega
         ·have hlt1:=(List.getElem?_eq_some_iff.1 hi2).1
          have hlt2:=(List.getElem?_eq_some_iff.1 hj2).1
          have s1:σ[i - vs0.length]? =some (σ.getD (i - vs0.length) 0):=by rw[List.getElem?_eq_getElem (by omega)];simp[List.getD,List.getElem?_eq_getElem (show i - vs0.length<σ.length by omega)]
          have s2:σ[j - vs0.length]? =some (σ.getD (j - vs0.length) 0):=by rw[List.getElem?_eq_getElem (by omega)];simp[List.getD,List.getElem?_eq_getElem (show j - vs0.length<σ.length by omega)]
          rw[hij] at s1
          have:=qdU c1 _ _ _ s1 s2
          omega
    ·intro p hp
     rcases List.mem_append.1 hp with hp|hp
     ·refine qk4 (fun j i u hj hu=> ?_) hb g3 p hp
      by_cases hlt:j<vs0.length
      ·rw[List.getElem?_append_left (by simpa using hlt)] at hj
       rw[List.getElem?_range hlt] at hj
       cases hj
       exact hleft j u hlt hu
      ·rw[List.getElem?_append_right (by simpa using hlt)] at hj
       rw[List.length_range] at hj
       obtain ⟨u',h1,h2⟩:=hnv _ _ hj
       rw[hu] at h2;cases h2
       show (vs0++_)[j]? =_
       rw[List.getElem?_append_right (by omega)]
       exact h1
     ·have ht:=List.all_eq_true.1 c4 p hp
      have:=qlU (X:=X) (z:=z1) (vs:=vs) (vs':=vs0++σ.map fun i=>vs.getD i undef) id ht ((hE.mono g1.le fun _ _ h=>h) p.1) fun j i u hj hu=>by
       by_cases hlt:j<vs0.length
       ·rw[List.getElem?_append_left (by simpa using hlt)] at hj
        rw[List.getElem?_range hlt] at hj
        cases hj
        exact hleft j u hlt hu
       ·rw[List.getElem?_append_right (by simpa using hlt)] at hj
        rw[List.length_range] at hj
        obtain ⟨u',h1,h2⟩:=hnv _ _ hj
        rw[hu] at h2;cases h2
        show (vs0++_)[j]? =_
        rw[List.getElem?_append_right (by omega)]
        exact h1
      rwa [qks] at this
   ·cases h
  ·cases h
 ·cases h
theorem qe3 {ins:List It} {ks:List Nat} {x:inT D ins} {xx:Ex D} {y:outT D xx.outs} {vs0:List Value} (hi:Inv (mkO X ins x) O) (hv:∀(i:Nat) (u:Value),vs0[i]? =some u→vs[i]? =some u) (hl0:vs0.length=(mkO X ins x).length)
  (hM:Mm X.G O z e m k vs) (hE:Rl X z vs E fr) (h:rdX X vs0.length ks xx E O=some y):
  ∃z' nv,Zx e.next z z'∧Mm X.G (qbB X ks (mkO X ins x) xx.outs (qay _ y)) z' e m k (vs0++nv)∧∀p∈mkE X xx.outs (qay _ y)++xx.fx,rel X.G z' (vs0++nv) p.2 (fr p.1):=by
 obtain ⟨vs',g1,g2,g3,g4⟩:=qaN (its:=xx.outs) hM hE
 unfold rdX at h
 split at h
 ·rename_i O0 hf
  obtain ⟨z1,k0,k1,k2⟩:=qdO g3 hf
  obtain ⟨z2,nv,q0,q1,q2⟩:=qoo ((hi.trans g1).trans k0) (fun i u hu=>g2 i u (hv i u hu)) hl0 k2 (g4.mono k1.le fun _ _ h=>h) h
  exact ⟨z2,nv,k1.trans q0,q1,q2⟩
 ·cases h
end
end
end Go.AM
end
section
set_option linter.unusedSimpArgs false
set_option linter.unusedVariables false
namespace Go.AM
structure PD (D:Nat→Type) where
 path:List Nat
 ins:List It
 fx:List (Nat×SV D)
 ks:List Nat
 exs:List (Ex D)
 keep:List Nat
noncomputable section
section
variable {P:Program} {D:Nat→Type}
def PD.F (p:PD D):Type:=inT D p.ins→Option (sumT p.exs)
def nO:List It→Nat
 |[]=>0
 | .o _ _::its=>nO its+1
 |_::its=>nO its
def qgW:SV D→Bool
 | .c (.own _)| .box _ _| .arr _| .c .nilS| .c .nilP| .c .nilM| .undef| .un| .c (.int _ _)| .c (.bool _)| .fn _ []=>true
 |_=>false
def refS:SV D→Option Nat
 | .c (.own j)| .box j _| .arr j=>some j
 |_=>none
def fxOk (n:Nat) (ks:List Nat) (s:SV D):Bool:=qgW s&&match refS s with|some j=>Nat.ble n j|| !Nat.beq (ks.getD j 0) 0|none=>true
def qe2:List Nat→Nat→Option Nat
 |[],_=>none
 |a::σ,i=>if Nat.beq a i=true then some 0 else (match qe2 σ i with|some j=>some (j+1)|none=>none)
variable (X:Ev P D)
def qfk (τ:Nat→Nat) (σ ks:List Nat) (outs:List It) (y:inT D outs):Nat→List (Ob D)→List (Ob D)
 |_,[]=>[]
 |i,o::O=>(match qe2 σ i with|some j=>(if ks.getD j 0=1 then o else if ks.getD j 0=2 then qbi X τ outs y j else .dead)|none=>if o.live=true then .dead else o)::qfk τ σ ks outs y (i+1) O
def mkOr (τ:Nat→Nat):(its:List It)→inT D its→List (Ob D)
 |[],_=>[]
 | .o _ c::its,x=>OC.mkr X τ c x.1 false::mkOr τ its x.2
 | .v _ _::its,x=>mkOr τ its x.2
 | .u _ _::its,x=>mkOr τ its x.2
def num (σ:List Nat) (n N:Nat) (j:Nat):Nat:=if Nat.blt j n=true then σ.getD j 0 else N+(j - n)
def actE (p:PD D) (σ:List Nat) (N:Nat) (xx:Ex D) (y:inT D xx.outs) (E:List (Nat×SV D)):List (Nat×SV D):=
 mkE X xx.outs y++((xx.fx.map fun q=>(q.1,rnS (num σ (nO p.ins) N) q.2))++p.keep.map fun d=>(d,lkE E d))
def actO (p:PD D) (σ:List Nat) (O2:List (Ob D)) (xx:Ex D) (y:inT D xx.outs):List (Ob D):=qfk X (num σ (nO p.ins) O2.length) σ p.ks xx.outs y 0 O2++mkOr X (num σ (nO p.ins) O2.length) xx.outs y
def PD.runI (p:PD D) (F:p.F) (E:List (Nat×SV D)) (O:List (Ob D)) {ρ:Type} (K:AExit→List (Nat×SV D)→List (Ob D)→Option ρ):Option ρ:=
 match rdIn X p.ins p.fx E O with
 |some (x,σ,O2)=>Option.bind (F x) fun res=>atEx p.exs res fun xx y=>K xx.ex (actE X p σ O2.length xx (qay _ y) E) (actO X p σ O2 xx (qay _ y))
 |none=>none
def PD.run (p:PD D) (F:p.F) (E:List (Nat×SV D)) (O:List (Ob D)) {ρ:Type} (K:AExit→List (Nat×SV D)→List (Ob D)→Option ρ):Option ρ:=p.runI X F (ownA p.ins E O).1 (ownA p.ins E O).2 K
def PD.pc (p:PD D) (F:p.F):Pc D where
 path:=p.path
 fits:=fun E O=>(rdIn X p.ins p.fx (ownA p.ins E O).1 (ownA p.ins E O).2).isSome
 run:=fun E O {_} K=>p.run X F E O K
def okN (n:Nat) (ks:List Nat) (r:Nat):Bool:=Nat.ble n r|| !Nat.beq (ks.getD r 0) 0
def qfB (n:Nat) (ks:List Nat):Nat→List It→Bool
 |_,[]=>true
 |j, .o _ c::its=>(!Nat.beq (ks.getD j 0) 1||c.nums.all (okN n ks))&&qfB n ks (j+1) its
 |j,_::its=>qfB n ks j its
def PD.chk (B:Code) (p:PD D):Bool:=((p.exs.all fun xx=>xx.outs.all fun i=>i.nc&&i.nums.all (okN (nO p.ins) p.ks))&&qfB (nO p.ins) p.ks 0 p.ins)&&(p.exs.all (fun xx=>xx.fx.all fun q=>fxOk (nO p.ins) p.ks q.2)&&p.keep.all fun d=> !(qaT (sub B p.path)).contains d)
def lpOk:Nat→List Nat→List Nat→List (Ob D)→Bool
 |_,[],_,_=>true
 |j,k::ks,σ,O=>(if k=0 then true else optB (σ[j]?) j&&(if k=1 then (match O[j]? with|some o=> !o.tch|none=>false) else true))&&lpOk (j+1) ks σ O
def qsy (p:PD D) (F:p.F) (ex:AExit) (E:List (Nat×SV D)) (O:List (Ob D)):Option (sumT p.exs):=
 if ex= .normal then
  match rdIn X p.ins p.fx (ownA p.ins E O).1 (ownA p.ins E O).2 with
  |some (x,σ,O2)=>if lpOk 0 p.ks σ O2=true then F x else none
  |none=>none
 else rdEx X (nO p.ins) p.ks p.exs ex E O
end
section
variable {P:Program} {D:Nat→Type} {X:Ev P D} {z z':Nat→Blk} {e m m':Mem} {k:Option Nat} {vs vs':List Value} {fr:Nat→Value} {E:List (Nat×SV D)} {O O':List (Ob D)}
theorem qpN {n:Nat} {ks:List Nat} {r:Nat} (h:okN n ks r=true):n≤r∨ks.getD r 0≠0:=by
 simp only[okN,Bool.or_eq_true,Bool.not_eq_true'] at h
 rcases h with h|h
 ·exact .inl (Nat.le_of_ble_eq_true h)
 ·refine .inr fun hh=> ?_
  rw[hh] at h;cases h
theorem qcj {n:Nat} {ks:List Nat}:∀{its:List It} {x:inT D its} {i j:Nat} {q:CO D},qfB n ks i its=true→(cos its x)[j]? =some q→ks.getD (i+j) 0=1→∀r∈q.c.nums,n≤r∨ks.getD r 0≠0
 |[],_,_,_,_,_,h,_=>by simp[cos] at h
 | .v d c::its,x,i,j,q,hk,h,h1=>qcj (its:=its) (x:=x.2) hk h h1
 | .u d c::its,x,i,j,q,hk,h,h1=>qcj (its:=its) (x:=x.2) hk h h1
 | .o d c::its,x,i,0,q,hk,h,h1=>by
  simp only[cos,List.getElem?_cons_zero] at h
  cases h
  simp only[qfB,Bool.and_eq_true] at hk
  intro r hr
  have h2:=hk.1
  rw[Nat.add_zero] at h1
  rw[h1] at h2
  exact qpN (List.all_eq_true.1 (by simpa using h2) r hr)
 | .o d c::its,x,i,j+1,q,hk,h,h1=>by
  simp only[cos,List.getElem?_cons_succ] at h
  simp only[qfB,Bool.and_eq_true] at hk
  exact qcj (its:=its) (x:=x.2) hk.2 h (by rw[←h1];congr 1;omega)
theorem qkm {τ τ':Nat→Nat} {l:List (Nat×Nat)} (h:∀p∈l,τ p.2=τ' p.2):∀{cs:List (CV D)} {i:Nat},ownG τ l i cs=ownG τ' l i cs
 |[],_=>rfl
 |c::cs,i=>by
  simp only[ownG,qkm h (cs:=cs)]
  congr 1
  cases hf:fndN l i with
  |none=>rfl
  |some n=>simp only;rw[h _ (qdf hf)]
theorem qqT {τ τ':Nat→Nat} {c:OC} {x:c.ty D} {w:Bool} (h:∀r∈c.nums,τ r=τ' r):OC.mkr X τ c x w=OC.mkr X τ' c x w:=by
 cases c with
 |bx t l=>
  simp only[OC.mkr]
  rw[qkm fun p hp=>h p.2 (List.mem_map.2 ⟨p,hp,rfl⟩)]
 |fb t f is=>
  simp only[OC.mkr]
  rw[show is.map τ=is.map τ' from List.map_congr_left fun n hn=>h n hn]
 |_=>rfl
theorem qbE {τ:Nat→Nat}:∀{its:List It} {x:inT D its},mkOr X τ its x=(cos its x).map fun q=>OC.mkr X τ q.c q.x false
 |[],_=>rfl
 | .o d c::its,x=>by
  show OC.mkr X τ c x.1 false::mkOr X τ its x.2=OC.mkr X τ c x.1 false::(cos its x.2).map _
  rw[qbE]
 | .v d c::its,x=>qbE (its:=its)
 | .u d c::its,x=>qbE (its:=its)
theorem qaB:∀{its:List It} {x:inT D its},(mkO X its x).length=nO its
 |[],_=>rfl
 | .v _ _::its,x=>qaB (its:=its)
 | .u _ _::its,x=>qaB (its:=its)
 | .o _ _::its,x=>by
  show ((mkO X its x.2).length+1)=nO its+1
  rw[qaB]
def qp8 (X:Ev P D) (p:PD D) (x:inT D p.ins) (res:sumT p.exs) (z:Nat→Blk) (e:Mem) (k:Option Nat) (vs0:List Value) (ex:AExit) (fr':Nat→Value) (m':Mem):Prop:=
 ∃z' nv xx y,xx∈p.exs∧ex=xx.ex∧(∀{α:Type} (K:(x:Ex D)→outT D x.outs→α),atEx p.exs res K=K xx y)∧Zx e.next z z'∧
  Mm X.G (qbB X p.ks (mkO X p.ins x) xx.outs (qay _ y)) z' e m' k (vs0++nv)∧∀q∈mkE X xx.outs (qay _ y)++xx.fx,rel X.G z' (vs0++nv) q.2 (fr' q.1)
def CCn (ν:AExit→AExit) (X:Ev P D) (B:Code) (p:PD D) (F:p.F):Prop:=∀(x:inT D p.ins) (res:sumT p.exs) {z:Nat→Blk} {e m:Mem} {k:Option Nat} {vs0:List Value} {fr:Nat→Value},
 F x=some res→Mm X.G (mkO X p.ins x) z e m k vs0→Rl X z vs0 (mkE X p.ins x++p.fx) fr→W P (sub B p.path) (fun ex=>qp8 X p x res z e k vs0 (ν ex)) fr m
def CC (X:Ev P D) (B:Code) (p:PD D) (F:p.F):Prop:=∀(x:inT D p.ins) (res:sumT p.exs) {z:Nat→Blk} {e m:Mem} {k:Option Nat} {vs0:List Value} {fr:Nat→Value},
 F x=some res→Mm X.G (mkO X p.ins x) z e m k vs0→Rl X z vs0 (mkE X p.ins x++p.fx) fr→W P (sub B p.path) (qp8 X p x res z e k vs0) fr m
theorem CCn.of {ν:AExit→AExit} (hC:COk X) {B:Code} {us:List (Pc D)} {p:PD D} {F:p.F} (hus:∀u∈us,p.path.length<u.path.length→PcOk X B u)
  (heq:∀x,exC X us calm true p.path.reverse (sub B p.path) (mkE X p.ins x++p.fx) (mkO X p.ins x) (fun ex=>rdEx X (nO p.ins) p.ks p.exs (ν ex))=F x):CCn ν X B p F:=by
 intro x res z e m k vs0 fr hF hM hE
 have h:=heq x
 rw[hF] at h
 have hn:vs0.length=nO p.ins:=by rw[hM.len,qaB]
 refine (qfy hC (L:=p.path.length) hus (sub B p.path) true p.path.reverse _ _ _ res (by rw[List.reverse_reverse]) (by simp) (by simp) hM hE h).mono ?_
 rintro ex fr1 m1 ⟨z1,vs1,E1,O1,h0,h1,h2,h3,h4,h5⟩
 obtain ⟨xx,y,g1,g2,g3,g4⟩:=qcq h5
 obtain ⟨z2,nv,k1,k2,k3⟩:=qe3 (ks:=p.ks) (x:=x) h0 h2 hM.len h3 h4 (by rw[hn];exact g3)
 exact ⟨z2,nv,xx,y,g1,g2,g4,h1.trans k1,k2,k3⟩
theorem CC.of (hC:COk X) {B:Code} {us:List (Pc D)} {p:PD D} {F:p.F} (hus:∀u∈us,p.path.length<u.path.length→PcOk X B u)
  (heq:∀x,exC X us calm true p.path.reverse (sub B p.path) (mkE X p.ins x++p.fx) (mkO X p.ins x) (rdEx X (nO p.ins) p.ks p.exs)=F x):CC X B p F:=by
 intro x res z e m k vs0 fr hF hM hE
 have h:=heq x
 rw[hF] at h
 have hn:vs0.length=nO p.ins:=by rw[hM.len,qaB]
 refine (qfy hC (L:=p.path.length) hus (sub B p.path) true p.path.reverse _ _ _ res (by rw[List.reverse_reverse]) (by simp) (by simp) hM hE h).mono ?_
 rintro ex fr1 m1 ⟨z1,vs1,E1,O1,h0,h1,h2,h3,h4,h5⟩
 obtain ⟨xx,y,g1,g2,g3,g4⟩:=qcq h5
 obtain ⟨z2,nv,k1,k2,k3⟩:=qe3 (ks:=p.ks) (x:=x) h0 h2 hM.len h3 h4 (by rw[hn];exact g3)
 exact ⟨z2,nv,xx,y,g1,g2,g4,h1.trans k1,k2,k3⟩
theorem qrg {s:SV D} {v:Value} {τ:Nat→Nat} (h:qgW s=true) (hr:rel X.G z vs s v) (hv:∀(j:Nat) (u:Value),refS s=some j→vs[j]? =some u→vs'[τ j]? =some u):rel X.G z vs' (rnS τ s) v:=by
 unfold qgW at h
 split at h
 ·exact ⟨hv _ _ rfl hr.1,hr.2⟩
 ·obtain ⟨b,h1,h2⟩:=hr;exact ⟨b,hv _ _ rfl h1,h2⟩
 ·obtain ⟨b,l,h1,h2⟩:=hr;exact ⟨b,l,hv _ _ rfl h1,h2⟩
 ·exact hr
 ·exact hr
 ·exact hr
 ·exact hr
 ·exact hr
 ·exact hr
 ·exact hr
 ·obtain ⟨gs,h1,h2⟩:=hr
  refine ⟨gs,h1, ?_⟩
  cases gs with
  |nil=>trivial
  |cons _ _=>exact h2.elim
 ·cases h
theorem qlT {n:Nat} {ks:List Nat} {s:SV D} (h:fxOk n ks s=true):qgW s=true∧∀j,refS s=some j→n≤j∨ks.getD j 0≠0:=by
 simp only[fxOk,Bool.and_eq_true] at h
 refine ⟨h.1,fun j hj=> ?_⟩
 have h2:=h.2
 rw[hj] at h2
 simp only[Bool.or_eq_true,Bool.not_eq_true'] at h2
 rcases h2 with h2|h2
 ·exact .inl (Nat.le_of_ble_eq_true h2)
 ·refine .inr fun hh=> ?_
  rw[hh] at h2;cases h2
theorem qgx:∀{ks:List Nat} {i j:Nat} {σ:List Nat},lpOk i ks σ O=true→ks.getD j 0≠0→σ[i+j]? =some (i+j)∧(ks.getD j 0=1→∃o,O[i+j]? =some o∧o.tch=false)
 |[],i,j,σ,_,h=>by simp at h
 |k::ks,i,0,σ,hk,h=>by
  simp only[lpOk,Bool.and_eq_true] at hk
  simp only[List.getD_cons_zero] at h⊢
  have h1:=hk.1
  rw[if_neg h] at h1
  simp only[Bool.and_eq_true] at h1
  refine ⟨qgE h1.1,fun k1=> ?_⟩
  have h2:=h1.2
  rw[if_pos k1] at h2
  split at h2
  ·rename_i o ho
   exact ⟨o,ho,by simpa using h2⟩
  ·cases h2
 |k::ks,i,j+1,σ,hk,h=>by
  simp only[lpOk,Bool.and_eq_true] at hk
  simp only[List.getD_cons_succ] at h⊢
  have:=qgx hk.2 h
  rw[show i+(j+1)=i+1+j by omega]
  exact this
theorem qw6 {outs:List It} {y:inT D outs} {ks:List Nat} {A B:List (Ob D)} (hl:A.length=B.length) (h:∀j,ks.getD j 0=1→A[j]? =B[j]?):pO X outs y 0 ks A=pO X outs y 0 ks B:=by
 apply List.ext_getElem?
 intro j
 by_cases hj:j<A.length
 ·have a:A[j]? =some A[j]:=List.getElem?_eq_getElem hj
  have b:B[j]? =some (B[j]'(by omega)):=List.getElem?_eq_getElem (by omega)
  rw[qd9 a,qd9 b]
  by_cases k1:ks.getD j 0=1
  ·have e:=h j k1
   rw[a,b] at e
   rw[if_pos k1,if_pos k1,Option.some.inj e]
  ·rw[if_neg k1,if_neg k1]
 ·rw[List.getElem?_eq_none (by rw[qbv];omega),List.getElem?_eq_none (by rw[qbv];omega)]
theorem CC.loop (hC:COk X) {B c:Code} {us:List (Pc D)} {p:PD D} {F:Nat→p.F} (hB:sub B p.path= .loop c) (hk:p.chk B=true) (hus:∀u∈us,p.path.length+1<u.path.length→PcOk X B u) (h0:∀x,F 0 x=none)
  (heq:∀n x,exC X us calm true (0::p.path.reverse) c (mkE X p.ins x++p.fx) (mkO X p.ins x) (qsy X p (F n))=F (n+1) x):∀n,CC X B p (F n):=by
 intro n
 induction n with
 |zero=>intro x res z e m k vs0 fr hF;rw[h0] at hF;cases hF
 |succ n ih=>
  intro x res z e m k vs0 fr hF hM hE
  have h:=heq n x
  rw[hF] at h
  rw[hB]
  have hn:vs0.length=nO p.ins:=by rw[hM.len,qaB]
  refine W.loop1 ((qfy hC (L:=p.path.length+1) hus c true (0::p.path.reverse) _ _ _ res (by rw[List.reverse_cons,List.reverse_reverse,←qjo,hB];exact qbj c) (by simp) (by simp) hM hE h).mono ?_)
  rintro ex fr1 m1 ⟨z1,vs1,E1,O1,h0,h1,h2,h3,h4,h5⟩
  have other:rdEx X (nO p.ins) p.ks p.exs ex E1 O1=some res→qp8 X p x res z e k vs0 ex fr1 m1:=by
   intro h5
   obtain ⟨xx,y,g1,g2,g3,g4⟩:=qcq h5
   obtain ⟨z2,nv,k1,k2,k3⟩:=qe3 (ks:=p.ks) (x:=x) h0 h2 hM.len h3 h4 (by rw[hn];exact g3)
   exact ⟨z2,nv,xx,y,g1,g2,g4,h1.trans k1,k2,k3⟩
  cases ex with
  |exit i=>exact other h5
  |ret=>exact other h5
  |normal=>
   show W P (.loop c) _ fr1 m1
   have h5:(match rdIn X p.ins p.fx (ownA p.ins E1 O1).1 (ownA p.ins E1 O1).2 with
    |some (x,σ,O2)=>if lpOk 0 p.ks σ O2=true then F n x else none
    |none=>none)=some res:=h5
   split at h5
   ·rename_i x' σ O2 hr
    obtain ⟨hlp,hF'⟩:=ite_some h5
    obtain ⟨vs1',w1,w2,w3,w4⟩:=qaN (its:=p.ins) h3 h4
    obtain ⟨z2,vs2,i1,i2,en⟩:=entry w3 w4 hr
    have i1:=w1.trans i1
    have h2:∀(i:Nat) (u:Value),vs0[i]? =some u→vs1'[i]? =some u:=fun i u hu=>w2 i u (h2 i u hu)
    have hgo:=ih x' res hF' en.mm0 en.rl
    rw[hB] at hgo
    refine hgo.mono ?_
    rintro ex fr2 m2 ⟨z3,nv,xx,y,g1,g2,g3,g4,g5,g6⟩
    have same:∀j,p.ks.getD j 0≠0→∀u,vs2[j]? =some u→vs0[j]? =some u:=by
     intro j hj u hu
     obtain ⟨s1,_⟩:=qgx hlp hj
     rw[Nat.zero_add] at s1
     obtain ⟨u',t1,t2⟩:=en.nv _ _ s1
     rw[hu] at t1;cases t1
     have hlt:j<vs0.length:=by
      have:=(List.getElem?_eq_some_iff.1 hu).1
      rw[en.len,en.oy.length,←List.length_map (f:=fun q=>OC.mk X q.c q.x false),←qaJ,qaB] at this
      omega
     have:=h2 j _ (List.getElem?_eq_getElem hlt)
     rw[t2] at this;cases this
     exact List.getElem?_eq_getElem hlt
    have hl2:vs2.length=vs0.length:=by rw[en.len,en.oy.length,←List.length_map (f:=fun q=>OC.mk X q.c q.x false),←qaJ,qaB,hn]
    have same':∀(j:Nat) (u:Value),nO p.ins≤j∨p.ks.getD j 0≠0→(vs2++nv)[j]? =some u→(vs0++nv)[j]? =some u:=by
     intro j u hj hu
     by_cases hlt:j<vs0.length
     ·rw[List.getElem?_append_left (by omega)] at hu⊢
      rcases hj with hj|hj
      ·omega
      ·exact same j hj u hu
     ·rw[List.getElem?_append_right (by omega)] at hu⊢
      rw[hl2] at hu;exact hu
    have hk0:=hk
    simp only[PD.chk,Bool.and_eq_true] at hk0
    have hko:=hk0.1.1
    have hki:=hk0.1.2
    have hpo:pO X xx.outs (qay _ y) 0 p.ks (mkO X p.ins x')=pO X xx.outs (qay _ y) 0 p.ks (mkO X p.ins x):=by
     refine qw6 (by rw[qaB,qaB]) fun j hj=> ?_
     obtain ⟨s1,s2⟩:=qgx hlp (show p.ks.getD j 0≠0 by rw[hj];simp)
     obtain ⟨o,o1,o2⟩:=s2 hj
     rw[Nat.zero_add] at s1 o1
     obtain ⟨q,q1,w,q2⟩:=en.oy.get j j s1
     rw[o1] at q2
     have q2:=Option.some.inj q2
     subst q2
     rw[OC.mkr_tch] at o2
     subst o2
     have q1':(mkO X p.ins x')[j]? =some (OC.mk X q.c q.x false):=by rw[qaJ,List.getElem?_map,q1];rfl
     have hjl:j<(mkO X p.ins x).length:=by rw[qaB,←qaB (X:=X) (x:=x')];exact (List.getElem?_eq_some_iff.1 q1').1
     have old:=(h0.trans i1).old j _ hjl o1 OC.mkr_live OC.mkr_tch
     rw[q1',old]
     refine congrArg some (qqT fun r hr=> ?_)
     obtain ⟨ir,hir⟩:=en.gt q (List.mem_of_getElem? q1) r hr
     have hrl:r<nO p.ins:=by
      have:=(List.getElem?_eq_some_iff.1 hir).1
      rw[en.oy.length,←List.length_map (f:=fun q=>OC.mk X q.c q.x false),←qaJ,qaB] at this
      exact this
     rcases qcj (i:=0) hki q1 (by rw[Nat.zero_add];exact hj) r hr with h|h
     ·omega
     ·obtain ⟨s3,_⟩:=qgx hlp h
      rw[Nat.zero_add] at s3
      simp[List.getD,s3]
    have hfx:∀q∈xx.fx,fxOk (nO p.ins) p.ks q.2=true:=by
     exact fun q hq=>List.all_eq_true.1 (List.all_eq_true.1 hk0.2.1 xx g1) q hq
    have hout:∀i∈xx.outs,∀r∈i.nums,nO p.ins≤r∨p.ks.getD r 0≠0:=fun i hi r hr=>qpN (List.all_eq_true.1 (Bool.and_eq_true_iff.1 (List.all_eq_true.1 (List.all_eq_true.1 hko xx g1) i hi)).2 r hr)
    refine ⟨z3,nv,xx,y,g1,g2,g3,(h1.trans i2).trans g4, ?_,fun q hq=> ?_⟩
    ·have hpost:qbB X p.ks (mkO X p.ins x') xx.outs (qay _ y)=qbB X p.ks (mkO X p.ins x) xx.outs (qay _ y):=by rw[qbB,qbB,hpo]
     rw[hpost] at g5
     have key:∀(i:Nat) (o:Ob D),(qbB X p.ks (mkO X p.ins x) xx.outs (qay _ y))[i]? =some o→o.live=true→(nO p.ins≤i∨p.ks.getD i 0≠0):=by
      intro i o ho hl
      by_cases hlt:i<nO p.ins
      ·refine .inr fun hks=> ?_
       unfold qbB at ho
       rw[List.getElem?_append_left (by rw[qbv,qaB];exact hlt)] at ho
       have hs:(mkO X p.ins x)[i]? =some ((mkO X p.ins x)[i]'(by rw[qaB];exact hlt)):=List.getElem?_eq_getElem _
       rw[qd9 hs,hks] at ho
       simp at ho
       subst ho;cases hl
      ·exact .inl (by omega)
     have mk:∀(i:Nat) (o:Ob D),(qbB X p.ks (mkO X p.ins x) xx.outs (qay _ y))[i]? =some o→o= .dead∨∃c a w,o=OC.mk X c a w∧∀r∈c.nums,nO p.ins≤r∨p.ks.getD r 0≠0:=by
      intro i o ho
      unfold qbB at ho
      by_cases hlt:i<nO p.ins
      ·rw[List.getElem?_append_left (by rw[qbv,qaB];exact hlt)] at ho
       have hs:(mkO X p.ins x)[i]? =some ((mkO X p.ins x)[i]'(by rw[qaB];exact hlt)):=List.getElem?_eq_getElem _
       rw[qd9 hs] at ho
       have ho:=(Option.some.inj ho).symm
       by_cases k1:p.ks.getD i 0=1
       ·rw[if_pos k1] at ho
        have hs':(mkO X p.ins x)[i]? =some o:=by rw[ho];exact hs
        rw[qaJ,List.getElem?_map] at hs'
        obtain ⟨q,hq,he⟩:=Option.map_eq_some_iff.1 hs'
        exact .inr ⟨q.c,q.x,false,he.symm,qcj (i:=0) hki hq (by rw[Nat.zero_add];exact k1)⟩
       ·rw[if_neg k1] at ho
        by_cases k2:p.ks.getD i 0=2
        ·rw[if_pos k2] at ho
         rcases qbn (X:=X) (its:=xx.outs) (x:=qay _ y) (j:=0+i) with hd|⟨d,c,a,hd,he⟩
         ·exact .inl (by rw[ho,hd])
         ·exact .inr ⟨c,a,true,by rw[ho,he];rfl,hout _ hd⟩
        ·rw[if_neg k2] at ho;exact .inl ho
      ·rw[List.getElem?_append_right (by rw[qbv,qaB];omega)] at ho
       obtain ⟨d,c,a,hd,hh⟩:=qeY (List.mem_of_getElem? ho)
       exact .inr ⟨c,a,false,hh,hout _ hd⟩
     refine g5.sel (by rw[←g5.len];simp[hl2]) id (fun i o ho hl=> ?_) (fun i o u ho hl hu=> ?_) (fun i j _ _ _ _ _ _ h=>h)
     ·obtain ⟨v,v1,v2⟩:=g5.at ho
      refine ⟨o,v,ho,hl,v1,same' i v (key i o ho hl) v1, ?_⟩
      rcases mk i o ho with rfl|⟨c,a,w,rfl,hr⟩
      ·trivial
      ·exact OC.mkr_ok w v2 fun r hr' u hu=>same' r u (hr r hr') hu
     ·rcases mk i o ho with rfl|⟨c,a,w,rfl,_⟩
      ·trivial
      ·rw[OC.mk_live] at hl;cases hl
    ·have hr:=g6 q hq
     rcases List.mem_append.1 hq with hq|hq
     ·obtain ⟨d,c,a,hd,hc⟩:=qfD hq
      rw[hc] at hr⊢
      exact Cl.mk_vs (Bool.and_eq_true_iff.1 (List.all_eq_true.1 (List.all_eq_true.1 hko xx g1) _ hd)).1 hr
     ·obtain ⟨s1,s2⟩:=qlT (hfx q hq)
      have:=qrg (X:=X) (τ:=id) (vs':=vs0++nv) s1 hr fun j u hj hu=>same' j u (s2 j hj) hu
      rwa [qks] at this
   ·cases h5
theorem qbq:∀{σ:List Nat} {i j:Nat},qe2 σ i=some j→σ[j]? =some i
 |[],_,_,h=>by cases h
 |a::σ,i,j,h=>by
  simp only[qe2] at h
  split at h
  ·rename_i ha
   cases h
   rw[Nat.eq_of_beq_eq_true ha];rfl
  ·split at h
   ·rename_i j' hj
    cases h
    rw[List.getElem?_cons_succ]
    exact qbq hj
   ·cases h
theorem qbS {τ:Nat→Nat} {σ ks:List Nat} {outs:List It} {y:inT D outs}:∀{i:Nat} {O:List (Ob D)},(qfk X τ σ ks outs y i O).length=O.length
 |i,[]=>rfl
 |i,o::O=>by simp[qfk,qbS]
theorem qiq {τ:Nat→Nat} {σ ks:List Nat} {outs:List It} {y:inT D outs}:∀{i:Nat} {O:List (Ob D)} {a:Nat} {o:Ob D},O[a]? =some o→(qfk X τ σ ks outs y i O)[a]? =some (match qe2 σ (i+a) with|some j=>(if ks.getD j 0=1 then o else if ks.getD j 0=2 then qbi X τ outs y j else .dead)|none=>if o.live=true then .dead else o)
 |i,[],a,o,h=>by simp at h
 |i,p::O,0,o,h=>by simp at h;subst h;simp[qfk]
 |i,p::O,a+1,o,h=>by
  simp only[List.getElem?_cons_succ] at h
  have:=qiq (τ:=τ) (σ:=σ) (ks:=ks) (outs:=outs) (y:=y) (i:=i+1) h
  simp only[qfk,List.getElem?_cons_succ,this]
  rw[show i+(a+1)=i+1+a by omega]
theorem CCn.pcI {ν:AExit→AExit} {B:Code} {p:PD D} {F:p.F} (h:CCn ν X B p F) (hk:p.chk B=true) {ρ:Type} (E:List (Nat×SV D)) (O:List (Ob D)) (K:AExit→List (Nat×SV D)→List (Ob D)→Option ρ) (r:ρ) {z:Nat→Blk} {e m:Mem} {k:Option Nat} {vs:List Value} {fr:Nat→Value}
  (hM:Mm X.G O z e m k vs) (hE:Rl X z vs E fr) (hr:p.runI X F E O K=some r):W P (sub B p.path) (fun x=>Nx X O z e k vs (K (ν x)) r) fr m:=by
 unfold PD.runI at hr
 split at hr
 ·rename_i x σ O2 hi
  obtain ⟨res,hF,hr⟩:=bind_some hr
  obtain ⟨z1,vs0,i1,i2,en⟩:=entry hM hE hi
  simp only[PD.chk,Bool.and_eq_true] at hk
  have hn:σ.length=nO p.ins:=by rw[←qaB (X:=X) (x:=x),qaJ,List.length_map];exact en.oy.length
  have hn0:vs0.length=nO p.ins:=by rw[en.len,hn]
  refine (h x res hF en.mm0 en.rl).keep ?_
  rintro ex fr1 m1 hkeep ⟨z2,nv,xx,y,g1,g2,g3,g4,g5,g6⟩
  rw[g3] at hr
  rw[g2]
  have hnl:nv.length=(mkO X xx.outs (qay _ y)).length:=by
   have:=g5.len
   unfold qbB at this
   rw[List.length_append,List.length_append,qbv,qaB] at this
   omega
  have hN:vs.length=O2.length:=en.mm.len
  have hext:∀(i:Nat) (u:Value),vs[i]? =some u→(vs++nv)[i]? =some u:=qau
  have hnum:∀(j:Nat) (u:Value),(vs0++nv)[j]? =some u→(vs++nv)[num σ (nO p.ins) O2.length j]? =some u:=by
   intro j u hu
   unfold num
   by_cases hlt:j<nO p.ins
   ·have hb:Nat.blt j (nO p.ins)=true:=by simpa[Nat.blt_eq] using hlt
    rw[if_pos hb]
    rw[List.getElem?_append_left (by omega)] at hu
    have hs:σ[j]? =some (σ.getD j 0):=by rw[List.getElem?_eq_getElem (by omega)];simp[List.getD,List.getElem?_eq_getElem (show j<σ.length by omega)]
    obtain ⟨u',t1,t2⟩:=en.nv _ _ hs
    rw[hu] at t1;cases t1
    exact hext _ _ t2
   ·have hb:¬Nat.blt j (nO p.ins)=true:=by simpa[Nat.blt_eq] using hlt
    rw[if_neg hb]
    rw[List.getElem?_append_right (by omega),hn0] at hu
    rw[List.getElem?_append_right (by omega),hN]
    rw[show O2.length+(j - nO p.ins) - O2.length=j - nO p.ins by omega]
    exact hu
  have hcv:∀(i:Nat) (o:Ob D),(actO X p σ O2 xx (qay _ y))[i]? =some o→
    (i<O2.length∧∃o2,O2[i]? =some o2∧o=(match qe2 σ i with|some j=>(if p.ks.getD j 0=1 then o2 else if p.ks.getD j 0=2 then qbi X (num σ (nO p.ins) O2.length) xx.outs (qay _ y) j else .dead)|none=>if o2.live=true then .dead else o2))∨
    (O2.length≤i∧(mkOr X (num σ (nO p.ins) O2.length) xx.outs (qay _ y))[i - O2.length]? =some o):=by
   intro i o ho
   unfold actO at ho
   by_cases hlt:i<O2.length
   ·refine .inl ⟨hlt, ?_⟩
    rw[List.getElem?_append_left (by rw[qbS];exact hlt)] at ho
    have hs:O2[i]? =some O2[i]:=List.getElem?_eq_getElem hlt
    rw[qiq hs,Nat.zero_add] at ho
    exact ⟨_,hs,(Option.some.inj ho).symm⟩
   ·refine .inr ⟨by omega, ?_⟩
    rw[List.getElem?_append_right (by rw[qbS];omega),qbS] at ho
    exact ho
  have hpost:∀(j:Nat) (o0:Ob D),(mkO X p.ins x)[j]? =some o0→(qbB X p.ks (mkO X p.ins x) xx.outs (qay _ y))[j]? =some (if p.ks.getD j 0=1 then o0 else if p.ks.getD j 0=2 then qbi X idN xx.outs (qay _ y) j else .dead):=by
   intro j o0 hj
   unfold qbB
   rw[List.getElem?_append_left (by rw[qbv];exact (List.getElem?_eq_some_iff.1 hj).1)]
   have:=qd9 (X:=X) (outs:=xx.outs) (y:=qay _ y) (i:=0) (ks:=p.ks) hj
   rw[Nat.zero_add] at this
   exact this
  have hpost2:∀(i:Nat) (o:Ob D),(mkO X xx.outs (qay _ y))[i]? =some o→(qbB X p.ks (mkO X p.ins x) xx.outs (qay _ y))[nO p.ins+i]? =some o:=by
   intro i o ho
   unfold qbB
   rw[List.getElem?_append_right (by rw[qbv,qaB];omega),qbv,qaB,show nO p.ins+i - nO p.ins=i by omega]
   exact ho
  have hlv:∀(i:Nat) (o:Ob D),(actO X p σ O2 xx (qay _ y))[i]? =some o→o.live=true→
    (∃j,qe2 σ i=some j∧((p.ks.getD j 0=1∧O2[i]? =some o)∨(p.ks.getD j 0≠1∧p.ks.getD j 0=2∧o=qbi X (num σ (nO p.ins) O2.length) xx.outs (qay _ y) j)))∨(O2.length≤i∧(mkOr X (num σ (nO p.ins) O2.length) xx.outs (qay _ y))[i - O2.length]? =some o):=by
   intro i o ho hl
   rcases hcv i o ho with ⟨hlt,o2,h2,h3⟩|h
   ·left
    cases hp:qe2 σ i with
    |some j=>
     rw[hp] at h3
     dsimp only at h3
     refine ⟨j,rfl, ?_⟩
     by_cases k1:p.ks.getD j 0=1
     ·rw[if_pos k1] at h3
      exact .inl ⟨k1,by rw[h2,h3]⟩
     ·rw[if_neg k1] at h3
      by_cases k2:p.ks.getD j 0=2
      ·rw[if_pos k2] at h3;exact .inr ⟨k1,k2,h3⟩
      ·rw[if_neg k2] at h3;rw[h3] at hl;cases hl
    |none=>
     rw[hp] at h3
     dsimp only at h3
     by_cases h4:o2.live=true
     ·rw[if_pos h4] at h3;rw[h3] at hl;cases hl
     ·rw[if_neg h4] at h3;rw[h3] at hl;exact absurd hl h4
   ·exact .inr h
  refine ⟨z2,vs++nv,_,_,i1.trans ?_,i2.trans g4,hext, ?_,qlp ?_,hr⟩
  ·refine ⟨?_,fun i o hi ho hl ht=> ?_⟩
   ·unfold actO
    rw[List.length_append,qbS]
    omega
   ·rcases hlv i o ho hl with ⟨j,_,h|⟨_,_,h⟩⟩|h
    ·exact h.2
    ·rcases qbn (X:=X) (its:=xx.outs) (x:=qay _ y) (j:=j) with hd|⟨_,c,a,_,hd⟩
     ·rw[h,hd] at hl;cases hl
     ·rw[h,hd,OC.mkr_tch] at ht;cases ht
    ·omega
  ·refine g5.sel ?_ (fun i=>if i<O2.length then (qe2 σ i).getD 0 else nO p.ins+(i - O2.length)) (fun i o ho hl=> ?_) (fun i o u ho hl hu=> ?_) (fun i j o q hi' hj hli hlj hij=> ?_)
   ·unfold actO
    rw[List.length_append,List.length_append,qbS,hnl,hN,qbE,qaJ,List.length_map,List.length_map]
   ·rcases hlv i o ho hl with ⟨j,hp,hc⟩|⟨hge,hc⟩
    ·have hs:=qbq hp
     obtain ⟨q,q1',w,q2⟩:=en.oy.get j i hs
     have q1:(mkO X p.ins x)[j]? =some (OC.mk X q.c q.x false):=by rw[qaJ,List.getElem?_map,q1'];rfl
     obtain ⟨u,t1,t2⟩:=en.nv _ _ hs
     have hlt:i<O2.length:=(List.getElem?_eq_some_iff.1 q2).1
     simp only[if_pos hlt,hp,Option.getD_some]
     have hpj:=hpost j _ q1
     have hu0:(vs0++nv)[j]? =some u:=qau _ _ t1
     rcases hc with ⟨k1,hc⟩|⟨k1,k2,hc⟩
     ·rw[if_pos k1] at hpj
      rw[q2] at hc
      have hc:=Option.some.inj hc
      subst hc
      have hob:=g5.obj j _ u hpj hu0
      refine ⟨_,u,hpj,OC.mk_live,hu0,hext _ _ t2,OC.mkr_ok w hob fun r hr u' hu'=> ?_⟩
      obtain ⟨ir,hir⟩:=en.gt q (List.mem_of_getElem? q1') r hr
      have hlr:r<nO p.ins:=by rw[←hn];exact (List.getElem?_eq_some_iff.1 hir).1
      have:=hnum r u' hu'
      unfold num at this
      rwa [if_pos (by simpa[Nat.blt_eq] using hlr)] at this
     ·rw[if_neg k1,if_pos k2] at hpj
      have hob:=g5.obj j _ u hpj hu0
      rcases qbn (X:=X) (its:=xx.outs) (x:=qay _ y) (j:=j) with hd|⟨_,c,a,_,hd⟩
      ·rw[hc,hd] at hl;cases hl
      ·rw[hd] at hob
       refine ⟨_,u,hpj,by rw[hd];exact OC.mkr_live,hu0,hext _ _ t2, ?_⟩
       rw[hc,hd]
       exact OC.mkr_ok true hob fun r _ u' hu'=>hnum r u' hu'
    ·have hnlt:¬i<O2.length:=by omega
     simp only[if_neg hnlt]
     rw[qbE,List.getElem?_map] at hc
     obtain ⟨q,hq,rfl⟩:=Option.map_eq_some_iff.1 hc
     have hpj:=hpost2 (i - O2.length) (OC.mk X q.c q.x false) (by rw[qaJ,List.getElem?_map,hq];rfl)
     obtain ⟨u,u1,u2⟩:=g5.at hpj
     refine ⟨_,u,hpj,OC.mk_live,u1, ?_, ?_⟩
     ·rw[List.getElem?_append_right (by omega),hn0,show nO p.ins+(i - O2.length) - nO p.ins=i - O2.length by omega] at u1
      rw[List.getElem?_append_right (by omega),hN]
      exact u1
     ·exact OC.mkr_ok false u2 fun r _ u' hu'=>hnum r u' hu'
   ·rcases hcv i o ho with ⟨hlt,o2,h2,h3⟩|⟨_,h⟩
    ·cases hp:qe2 σ i with
     |some j=>
      rw[hp] at h3
      dsimp only at h3
      have hs:=qbq hp
      obtain ⟨q,q1,w,q2⟩:=en.oy.get j i hs
      rw[h2] at q2
      by_cases k1:p.ks.getD j 0=1
      ·rw[if_pos k1] at h3
       rw[h3,Option.some.inj q2,OC.mkr_live] at hl;cases hl
      ·rw[if_neg k1] at h3
       by_cases k2:p.ks.getD j 0=2
       ·rw[if_pos k2] at h3
        rcases qbn (X:=X) (its:=xx.outs) (x:=qay _ y) (j:=j) with hd|⟨_,c,a,_,hd⟩
        ·rw[h3,hd];trivial
        ·rw[h3,hd,OC.mkr_live] at hl;cases hl
       ·rw[if_neg k2] at h3;rw[h3];trivial
     |none=>
      rw[hp] at h3
      dsimp only at h3
      by_cases h4:o2.live=true
      ·rw[if_pos h4] at h3;rw[h3];trivial
      ·rw[if_neg h4] at h3
       subst h3
       rw[List.getElem?_append_left (by omega)] at hu
       exact (en.mm.obj i o u h2 hu).frozen hl g4.le hext
    ·rw[qbE,List.getElem?_map] at h
     obtain ⟨q,hq,rfl⟩:=Option.map_eq_some_iff.1 h
     rw[OC.mkr_live] at hl;cases hl
   ·have one:∀(i:Nat) (o:Ob D),(actO X p σ O2 xx (qay _ y))[i]? =some o→o.live=true→(i<O2.length∧∃j,qe2 σ i=some j∧j<nO p.ins)∨O2.length≤i:=by
     intro i o ho hl
     rcases hlv i o ho hl with ⟨j,hp,_⟩|⟨hge,_⟩
     ·have hs:=qbq hp
      obtain ⟨o0,q1,w,q2⟩:=en.oy.get j i hs
      exact .inl ⟨(List.getElem?_eq_some_iff.1 q2).1,j,hp,by have:=(List.getElem?_eq_some_iff.1 hs).1;omega⟩
     ·exact .inr hge
    rcases one i o hi' hli with ⟨a1,a2,a3,a4⟩|a1
    ·rcases one j q hj hlj with ⟨b1,b2,b3,b4⟩|b1
     ·simp only[if_pos a1,if_pos b1,a3,b3,Option.getD_some] at hij
      subst hij
      have s1:=qbq a3
      have s2:=qbq b3
      rw[s1] at s2
      exact Option.some.inj s2
     ·have hb:¬j<O2.length:=by omega
      simp only[if_pos a1,if_neg hb,a3,Option.getD_some] at hij
      omega
    ·have ha:¬i<O2.length:=by omega
     rcases one j q hj hlj with ⟨b1,b2,b3,b4⟩|b1
     ·simp only[if_neg ha,if_pos b1,b3,Option.getD_some] at hij
      omega
     ·have hb:¬j<O2.length:=by omega
      simp only[if_neg ha,if_neg hb] at hij
      omega
  ·intro q hq
   unfold actE at hq
   rcases List.mem_append.1 hq with hq|hq
   ·obtain ⟨d,c,a,hd,hc⟩:=qfD hq
    have:=g6 q (List.mem_append.2 (.inl hq))
    rw[hc] at this⊢
    exact Cl.mk_vs (Bool.and_eq_true_iff.1 (List.all_eq_true.1 (List.all_eq_true.1 hk.1.1 xx g1) _ hd)).1 this
   ·rcases List.mem_append.1 hq with hq|hq
    ·obtain ⟨q0,hq0,rfl⟩:=List.mem_map.1 hq
     have:=g6 q0 (List.mem_append.2 (.inr hq0))
     obtain ⟨s1,_⟩:=qlT (List.all_eq_true.1 (List.all_eq_true.1 hk.2.1 xx g1) q0 hq0)
     exact qrg s1 this fun j u _ hu=>hnum j u hu
    ·obtain ⟨d,hd,rfl⟩:=List.mem_map.1 hq
     have hw:=List.all_eq_true.1 hk.2.2 d hd
     have:=hkeep d (by simpa using hw)
     show rel X.G z2 (vs++nv) (lkE E d) (fr1 d)
     rw[this]
     exact rel.mono (hE d) (i2.le.trans g4.le) hext
 ·cases hr
theorem CC.pcI {B:Code} {p:PD D} {F:p.F} (h:CC X B p F) (hk:p.chk B=true) {ρ:Type} (E:List (Nat×SV D)) (O:List (Ob D)) (K:AExit→List (Nat×SV D)→List (Ob D)→Option ρ) (r:ρ) {z:Nat→Blk} {e m:Mem} {k:Option Nat} {vs:List Value} {fr:Nat→Value}
  (hM:Mm X.G O z e m k vs) (hE:Rl X z vs E fr) (hr:p.runI X F E O K=some r):W P (sub B p.path) (fun x=>Nx X O z e k vs (K x) r) fr m:=
 CCn.pcI (ν:=id) h hk E O K r hM hE hr
theorem CCn.pc {ν:AExit→AExit} {B:Code} {p:PD D} {F:p.F} (h:CCn ν X B p F) (hk:p.chk B=true) {ρ:Type} (E:List (Nat×SV D)) (O:List (Ob D)) (K:AExit→List (Nat×SV D)→List (Ob D)→Option ρ) (r:ρ) {z:Nat→Blk} {e m:Mem} {k:Option Nat} {vs:List Value} {fr:Nat→Value}
  (hM:Mm X.G O z e m k vs) (hE:Rl X z vs E fr) (hr:p.run X F E O K=some r):W P (sub B p.path) (fun x=>Nx X O z e k vs (K (ν x)) r) fr m:=by
 obtain ⟨vs',g1,g2,g3,g4⟩:=qaN (its:=p.ins) hM hE
 exact (h.pcI hk _ _ K r g3 g4 hr).mono fun _ _ _ hn=>hn.from g1 (Zx.refl z) g2
theorem CC.pc {B:Code} {p:PD D} {F:p.F} (h:CC X B p F) (hk:p.chk B=true):PcOk X B (p.pc X F):=by
 intro ρ E O K r z e m k vs fr _ hM hE hr
 obtain ⟨vs',g1,g2,g3,g4⟩:=qaN (its:=p.ins) hM hE
 exact (h.pcI hk _ _ K r g3 g4 hr).mono fun _ _ _ hn=>hn.from g1 (Zx.refl z) g2
end
end
end Go.AM
end
section
set_option linter.unusedSimpArgs false
set_option linter.unusedVariables false
namespace Go.AM
structure FD (D:Nat→Type) where
 f:Nat
 np:Nat
 ins:List It
 fx:List (Nat×SV D)
 rcv:Option (Nat×Nat)
 rk:Nat
 outs:List It
 ofx:List (Nat×SV D)
 rvs:List ResultVar
 flat:Bool
def VB:Nat:=1000000
def qcs:Nat→List ResultVar→List Nat
 |_,[]=>[]
 |n, .tmp d::rs=>d::qcs (n+1) rs
 |n, .cell _ _::rs=>n::qcs (n+1) rs
def FD.res {D:Nat→Type} (d:FD D):List Nat:=qcs VB d.rvs
noncomputable section
section
variable {P:Program} {D:Nat→Type}
def qqP (P:Program) (t:Nat) (a:SV D) (O:List (Ob D)):Option (SV D):=
 match a with
 | .box i off=>
  match O[i]? with
  |some (.box _ cs _ _)=>qef (P:=P) t cs off some
  |some (.recv _ cs _)=>qef (P:=P) t cs off some
  |_=>none
 |_=>none
def rvE (P:Program) (E:List (Nat×SV D)) (O:List (Ob D)):Nat→List ResultVar→Option (List (Nat×SV D))
 |_,[]=>some []
 |n, .tmp d::rs=>if Nat.blt d VB=true then rvE P E O (n+1) rs else none
 |n, .cell a t::rs=>match qqP P t (lkE E a) O,rvE P E O (n+1) rs with|some V,some l=>some ((n,V)::l)|_,_=>none
def rT (D:Nat→Type):Option (Nat×Nat)→Type
 |none=>Unit
 |some p=>D p.2
def FD.F (d:FD D):Type:=rT D d.rcv→inT D d.ins→Option (outT D d.outs)
variable (X:Ev P D)
def rO:(c:Option (Nat×Nat))→rT D c→List (Ob D)
 |none,_=>[]
 |some p,x=>[.recv p.2 (lvX X p.2 x) false]
def rE:Option (Nat×Nat)→List (Nat×SV D)
 |none=>[]
 |some p=>[(p.1, .box 0 0)]
def rks (d:FD D):List Nat:=match d.rcv with|none=>[]|some _=>[d.rk]
def FD.xx (d:FD D):Ex D:=⟨.ret,d.outs,d.ofx⟩
def retK (d:FD D) (ex:AExit) (E:List (Nat×SV D)) (O:List (Ob D)):Option (outT D d.outs):=
 if ex= .normal∨ex= .ret then Option.bind (rvE P E O VB d.rvs) fun l=>rdX X (rks d).length (rks d) d.xx (l++E) O else none
def qca:Nat→List (SV D)→List (Nat×SV D)
 |_,[]=>[]
 |i,s::l=>(i,s)::qca (i+1) l
def tupE (E:List (Nat×SV D)):List Nat→Option (List (CV D⊕(Nat×List (CV D))))
 |[]=>some []
 |d::ds=>
  match lkE E d,tupE E ds with
  | .c c,some l=>some (.inl c::l)
  | .agg t cs,some l=>some (.inr (t,cs)::l)
  |_,_=>none
def resE (E:List (Nat×SV D)):List Nat→Option (SV D)
 |[d]=>some (lkE E d)
 |ds=>match tupE E ds with|some l=>some (.tup l)|none=>none
def qlM:CV D→Option Value
 | .int k n=>some (.int k n)
 | .bool b=>some (.bool b)
 | .str s=>some (AM.str s)
 |_=>none
def qiS:List (CV D)→Option (List Value)
 |[]=>some []
 |c::cs=>match qlM c,qiS cs with|some v,some l=>some (v::l)|_,_=>none
def qgm:List (CV D⊕(Nat×List (CV D)))→Option (List Value)
 |[]=>some []
 | .inl c::l=>(match qlM c,qgm l with|some v,some vs=>some (v::vs)|_,_=>none)
 | .inr p::l=>(match qiS p.2,qgm l with|some ds,some vs=>some (.agg ds.toArray::vs)|_,_=>none)
def qlN:SV D→Option Value
 | .c c=>qlM c
 | .agg _ cs=>(match qiS cs with|some ds=>some (.agg ds.toArray)|none=>none)
 | .tup l=>(match qgm l with|some vs=>some (.tuple vs.toArray)|none=>none)
 |_=>none
def rcvG (t:Nat):Option (Ob D)→Option (D t)
 |some (.box t' cs false _)=>if t'=t then pkX X t cs else none
 |some (.recv t' cs _)=>if t'=t then pkX X t cs else none
 |_=>none
def rcvP (t:Nat) (cs:List (CV D)):Ob D→Ob D
 | .box _ _ _ _=> .box t cs false true
 |_=> .recv t cs true
def qfi:List It→Bool
 |[]=>true
 | .o _ (.recv _)::_=>false
 | .o _ _::its=>qfi its
 | .v _ c::its=>c.nc&&qfi its
 | .u _ _::its=>qfi its
def num1 (i N j:Nat):Nat:=if Nat.beq j 0=true then i else N+(j - 1)
def qhV (outs:List It) (ofx:List (Nat×SV D)) (res:List Nat) (flat:Bool) (rk:Nat) (svs:List (SV D)) (O O1:List (Ob D)) {ρ:Type} (K:SV D→List (Ob D)→Option ρ):(rcv:Option (Nat×Nat))→(rT D rcv→Option (outT D outs))→Option ρ
 |none,G=>
  Option.bind (G ()) fun y=>
   match resE (mkE X outs (qay _ y)++ofx.map fun q=>(q.1,rnS (fun j=>O1.length+j) q.2)) res with
   |some sv=>if flat=true then (match qlN sv with|some _=>K sv O|none=>none) else K sv (O1++mkOr X (fun j=>O1.length+j) outs (qay _ y))
   |none=>none
 |some p,G=>
  match lkE (qca 0 svs) p.1 with
  | .box i 0=>
   match O1[i]? with
   |some o=>
    Option.bind (rcvG X p.2 (some o)) fun r=>
    Option.bind (G r) fun y=>
     match resE (mkE X outs (qay _ y)++ofx.map fun q=>(q.1,rnS (num1 i O1.length) q.2)) res with
     |some sv=>
      if rk=2 then
       match qbi X idN outs (qay _ y) 0 with
       | .recv t cs _=>if t=p.2 then K sv (O1.set i (rcvP p.2 cs o)++mkOr X (num1 i O1.length) outs (qay _ y)) else none
       |_=>none
      else if rk=1 then (if o.clean=true then K sv (O1++mkOr X (num1 i O1.length) outs (qay _ y)) else K sv (O1.set i (rcvP p.2 (lvX X p.2 r) o)++mkOr X (num1 i O1.length) outs (qay _ y))) else none
     |none=>none
   |none=>none
  |_=>none
def FD.call (d:FD D) (F:d.F) (svs:List (SV D)) (O:List (Ob D)) {ρ:Type} (K:SV D→List (Ob D)→Option ρ):Option ρ:=
 if Nat.beq svs.length d.np=true then
  match frzA (qca 0 svs) d.ins O with
  |some (avs,O1)=>
   if (d.fx.all fun p=>fxT [] p.2 (lkE (qca 0 svs) p.1))=true then
    match rdB X [] O1 d.ins avs [] with
    |some x=>qhV X d.outs d.ofx d.res d.flat d.rk svs O O1 K d.rcv fun r=>F r x
    |none=>none
   else none
  |none=>none
 else none
end
section
variable {P:Program} {D:Nat→Type} {X:Ev P D} {z z1 z2:Nat→Blk} {e m m1:Mem} {k q:Option Nat} {vs:List Value} {fr:Nat→Value} {E:List (Nat×SV D)} {O O':List (Ob D)}
theorem Mm.call (h:Mm X.G O z1 e m k vs) (hz:Zx m.next z1 z2) (s:Same m m1 q) (st:St z2 e m1 k) (hl:O'.length=O.length)
  (ho:∀(j:Nat) (o':Ob D),O'[j]? =some o'→(O[j]? =some o'∧(o'.live=true→∀v,vs[j]? =some v→Ap (blkV v) q))∨(∃o,O[j]? =some o∧o.live=true∧∀v,vs[j]? =some v→ObOk X.G z2 e m1 k vs o' v)):Mm X.G O' z2 e m1 k vs where
 st:=st
 len:=by rw[hl];exact h.len
 obj:=fun j o' v hj hv=>by
  rcases ho j o' hj with ⟨h1,h2⟩|⟨o,h1,h2,h3⟩
  ·have hob:=h.obj j o' v h1 hv
   cases hL:o'.live with
   |false=>exact hob.frozen hL hz.le fun _ _ h=>h
   |true=>exact (hob.same s (fun _=>h2 hL v hv) fun _ _ h=>h).zle hz.le (fun _ b hb=>hz.low b (hob.lt hL b hb).1) fun _ b j L t hb=>hz.low b (h.st.fz b (by rw[hb];simp)).2
  ·exact h3 v hv
 ap:=fun a b o p v w hab ha hb la lb hv hw=>by
  have key:∀(j:Nat) (o':Ob D),O'[j]? =some o'→o'.live=true→∃o,O[j]? =some o∧o.live=true:=by
   intro j o' hj hl
   rcases ho j o' hj with ⟨h1,_⟩|⟨o,h1,h2,_⟩
   ·exact ⟨o',h1,hl⟩
   ·exact ⟨o,h1,h2⟩
  obtain ⟨o1,g1,g2⟩:=key a o ha la
  obtain ⟨o2,g3,g4⟩:=key b p hb lb
  exact h.ap a b o1 o2 v w hab g1 g3 g2 g4 hv hw
theorem Mm.adds {N:List (Ob D)} {nv:List Value} {lim:Nat} (h:Mm X.G O z e m k vs) (hl:nv.length=N.length)
  (hlt:∀(j:Nat) (o:Ob D) (v:Value),O[j]? =some o→vs[j]? =some v→o.live=true→∀b,blkV v=some b→b<lim)
  (hn:∀(j:Nat) (o:Ob D) (v:Value),N[j]? =some o→nv[j]? =some v→ObOk X.G z e m k (vs++nv) o v∧∀b,blkV v=some b→lim≤b)
  (ha:∀(i j:Nat) (o p:Ob D) (v w:Value),i≠j→N[i]? =some o→N[j]? =some p→nv[i]? =some v→nv[j]? =some w→Ap (blkV v) (blkV w)):Mm X.G (O++N) z e m k (vs++nv):=by
 have cs:∀(j:Nat) (o:Ob D) (v:Value),(O++N)[j]? =some o→(vs++nv)[j]? =some v→(j<O.length∧O[j]? =some o∧vs[j]? =some v)∨(O.length≤j∧N[j - O.length]? =some o∧nv[j - O.length]? =some v):=by
  intro j o v ho hv
  by_cases hj:j<O.length
  ·rw[List.getElem?_append_left hj] at ho
   rw[List.getElem?_append_left (by rw[h.len];exact hj)] at hv
   exact .inl ⟨hj,ho,hv⟩
  ·rw[List.getElem?_append_right (by omega)] at ho
   rw[List.getElem?_append_right (by rw[h.len];omega),h.len] at hv
   exact .inr ⟨by omega,ho,hv⟩
 refine ⟨h.st,by rw[List.length_append,List.length_append,h.len,hl],fun j o v ho hv=> ?_,fun i j o p v w hij ho hp lo lp hv hw=> ?_⟩
 ·rcases cs j o v ho hv with ⟨_,h1,h2⟩|⟨_,h1,h2⟩
  ·exact (h.obj j o v h1 h2).same (m':=m) (q:=none) ⟨Nat.le_refl _,h.st.dead,fun _ _ _=>rfl⟩ (fun _=>Ap.none') qau
  ·exact (hn _ o v h1 h2).1
 ·have mix:∀(i j:Nat) (o p:Ob D) (v w:Value),O[i]? =some o→vs[i]? =some v→o.live=true→N[j]? =some p→nv[j]? =some w→Ap (blkV v) (blkV w):=by
   intro i j o p v w ho hv lo hp hw b hb hb'
   have:=hlt i o v ho hv lo b hb
   have:=(hn j p w hp hw).2 b hb'
   omega
  rcases cs i o v ho hv with ⟨_,h1,h2⟩|⟨_,h1,h2⟩
  ·rcases cs j p w hp hw with ⟨_,h3,h4⟩|⟨_,h3,h4⟩
   ·exact h.ap i j o p v w hij h1 h3 lo lp h2 h4
   ·exact mix i _ o p v w h1 h2 lo h3 h4
  ·rcases cs j p w hp hw with ⟨_,h3,h4⟩|⟨_,h3,h4⟩
   ·exact (mix j _ p o w v h3 h4 lp h1 h2).symm
   ·exact ha _ _ o p v w (by omega) h1 h3 h2 h4
theorem qes:∀{its:List It} {x:inT D its} {q:CO D},qfi its=true→q∈cos its x→∀t,q.c≠ .recv t
 |[],_,_,_,h=>by simp[cos] at h
 | .v d c::its,x,o,hn,h=>qes (its:=its) (x:=x.2) (Bool.and_eq_true_iff.1 hn).2 h
 | .u d c::its,x,o,hn,h=>qes (its:=its) (x:=x.2) hn h
 | .o d c::its,x,o,hn,h=>by
  simp only[cos,List.mem_cons] at h
  have hn':(∀t,c≠ .recv t)∧qfi its=true:=by
   cases c with
   |recv t=>cases hn
   |_=>exact ⟨fun t h=>(by cases h),hn⟩
  rcases h with rfl|h
  ·exact hn'.1
  ·exact qes (its:=its) (x:=x.2) hn'.2 h
theorem born {c:OC} {x:c.ty D} {w:Bool} {v:Value} {kk:Option Nat} {τ:Nat→Nat} (hc:∀t,c≠ .recv t) (he:e.next≤m.next) (h:ObOk X.G z m m1 kk vs (OC.mkr X τ c x w) v):ObOk X.G z e m1 k vs (OC.mkr X τ c x w) v∧∀b,blkV v=some b→m.next≤b:=by
 cases c with
 |recv t=>exact absurd rfl (hc t)
 |bx t l=>
  obtain ⟨b,ds,rfl,h1,h2,h3⟩:=h
  exact ⟨⟨b,ds,rfl,⟨h1.blk,h1.lt,h1.dead, .inl (Nat.le_trans he h2)⟩,Nat.le_trans he h2,h3⟩,fun c hc=>by cases hc;exact h2⟩
 |fb t f is=>
  obtain ⟨b,ds,rfl,h1,h2,h3⟩:=h
  exact ⟨⟨b,ds,rfl,⟨h1.blk,h1.lt,h1.dead, .inl (Nat.le_trans he h2)⟩,Nat.le_trans he h2,h3⟩,fun c hc=>by cases hc;exact h2⟩
 |sl t=>
  have h:OwF (X.G.T t) z m m1 kk x v:=h
  refine ⟨(⟨h.ow,fun b hb=>Nat.le_trans he (h.fresh b hb)⟩:OwF (X.G.T t) z e m1 k x v), ?_⟩
  rw[qam (by obtain ⟨a,c,rfl⟩:=h.ow.len;intro r;simp)]
  exact h.fresh
 |box t=>
  obtain ⟨b,ds,rfl,h1,h2,h3⟩:=h
  exact ⟨⟨b,ds,rfl,⟨h1.blk,h1.lt,h1.dead, .inl (Nat.le_trans he h2)⟩,Nat.le_trans he h2,h3⟩,fun c hc=>by cases hc;exact h2⟩
 |arr t u n=>
  obtain ⟨⟨b,rfl⟩,h⟩:=h
  exact ⟨⟨⟨b,rfl⟩,h.ow,fun b hb=>Nat.le_trans he (h.fresh b hb)⟩,fun c hc=>h.fresh c hc⟩
 |map t kt vt=>
  have h:OwM (X.G.M t kt vt) z m m1 kk x v:=h
  obtain ⟨r,rfl,h1,h2,h3,h4⟩:=h.ow
  exact ⟨(⟨⟨r,rfl,h1,h2,h3,Nat.le_trans he h4⟩⟩:OwM (X.G.M t kt vt) z e m1 k x _),fun c hc=>by cases hc;exact h4⟩
 |ne e0 t=>
  obtain ⟨hu,ws,h⟩:=h
  refine ⟨⟨hu,ws,⟨h.ow.ow,fun b hb=>Nat.le_trans he (h.ow.fresh b hb)⟩,h.len,fun j w xs h1 h2 h3=>(h.inn j w xs h1 h2 h3).anti he,fun p hp=>by cases hp⟩, ?_⟩
  rw[qam (by obtain ⟨a,c,rfl⟩:=h.ow.ow.len;intro r;simp)]
  exact h.ow.fresh
theorem qjq:∀{res:List Nat} {l:List (CV D⊕(Nat×List (CV D)))},Rl X z vs E fr→tupE E res=some l→L2 (relT X.G z vs) l (res.map fr)∧∀x∈res.map fr,storable x=true
 |[],l,hE,h=>by cases h;exact ⟨trivial,by simp⟩
 |d::ds,l,hE,h=>by
  simp only[tupE] at h
  have hd:=hE d
  split at h
  ·rename_i c l1 hc hl
   cases h
   rw[hc] at hd
   obtain ⟨g1,g2⟩:=qjq hE hl
   refine ⟨⟨hd,g1⟩,fun x hx=> ?_⟩
   rcases List.mem_cons.1 hx with rfl|hx
   ·exact (rel0.stor hd).1
   ·exact g2 x hx
  ·rename_i t cs l1 hc hl
   cases h
   rw[hc] at hd
   obtain ⟨g1,g2⟩:=qjq hE hl
   refine ⟨⟨hd,g1⟩,fun x hx=> ?_⟩
   rcases List.mem_cons.1 hx with rfl|hx
   ·obtain ⟨ds,hd,_⟩:=hd;rw[hd];rfl
   ·exact g2 x hx
  ·cases h
theorem qjb {res:List Nat} {sv:SV D} (hE:Rl X z vs E fr) (h:resE E res=some sv):rel X.G z vs sv (pack (res.map fr))∧((res.map fr).length=1∨∀x∈res.map fr,storable x=true):=by
 unfold resE at h
 split at h
 ·cases h;exact ⟨hE _, .inl rfl⟩
 ·rename_i ds hds
  split at h
  ·rename_i l hl
   cases h
   obtain ⟨g1,g2⟩:=qjq hE hl
   refine ⟨?_, .inr g2⟩
   have:pack (res.map fr)= .tuple (res.map fr).toArray:=by
    unfold pack
    split
    ·rename_i x hx
     match res,hds,hx with
     |[d],hds,_=>exact absurd rfl (hds d)
    ·rfl
   rw[this]
   exact ⟨_,rfl,g1⟩
  ·cases h
theorem qgk {c:CV D} {v w:Value} (h:qlM c=some w) (hr:rel0 X.G z vs c v):v=w∧qah w=true:=by
 cases c<;>first|(cases h;done)|(cases h;exact ⟨hr,rfl⟩)
theorem qgl:∀{cs:List (CV D)} {ds ws:List Value},qiS cs=some ws→L2 (rel0 X.G z vs) cs ds→ds=ws∧ws.all qah=true
 |[],[],_,h,_=>by cases h;exact ⟨rfl,rfl⟩
 |c::cs,d::ds,ws,h,⟨h1,h2⟩=>by
  simp only[qiS] at h
  split at h
  ·rename_i v l hv hl
   cases h
   obtain ⟨rfl,g1⟩:=qgk hv h1
   obtain ⟨rfl,g2⟩:=qgl hl h2
   exact ⟨rfl,by simp only[List.all_cons,g1,g2,Bool.and_self]⟩
  ·cases h
 |[],_::_,_,_,h=>h.elim
 |_::_,[],_,_,h=>h.elim
theorem qgn:∀{l:List (CV D⊕(Nat×List (CV D)))} {ds ws:List Value},qgm l=some ws→L2 (relT X.G z vs) l ds→ds=ws∧ws.all qbf=true
 |[],[],_,h,_=>by cases h;exact ⟨rfl,rfl⟩
 | .inl c::l,d::ds,ws,h,⟨h1,h2⟩=>by
  simp only[qgm] at h
  split at h
  ·rename_i v l1 hv hl
   cases h
   obtain ⟨rfl,g1⟩:=qgk hv h1
   obtain ⟨rfl,g2⟩:=qgn hl h2
   have:qbf d=true:=by cases d<;>first|exact g1|cases g1
   exact ⟨rfl,by simp only[List.all_cons,this,g2,Bool.and_self]⟩
  ·cases h
 | .inr p::l,d::ds,ws,h,⟨⟨cs,h0,h1⟩,h2⟩=>by
  simp only[qgm] at h
  split at h
  ·rename_i v l1 hv hl
   cases h
   obtain ⟨rfl,g1⟩:=qgl hv h1
   obtain ⟨rfl,g2⟩:=qgn hl h2
   subst h0
   exact ⟨rfl,by simp only[List.all_cons,g2,Bool.and_true];exact g1⟩
  ·cases h
 |[],_::_,_,_,h=>h.elim
 |_::_,[],_,_,h=>h.elim
theorem qnM {s:SV D} {v w:Value} (h:qlN s=some w) (hr:rel X.G z vs s v):v=w∧AM.flat w=true:=by
 unfold qlN at h
 split at h
 ·obtain ⟨rfl,g⟩:=qgk h hr
  refine ⟨rfl, ?_⟩
  cases v<;>first|exact g|cases g
 ·split at h
  ·rename_i ds hd
   cases h
   obtain ⟨es,rfl,h2⟩:=hr
   obtain ⟨rfl,g⟩:=qgl hd h2
   exact ⟨rfl,g⟩
  ·cases h
 ·split at h
  ·rename_i ws hd
   cases h
   obtain ⟨es,rfl,h2⟩:=hr
   obtain ⟨rfl,g⟩:=qgn hd h2
   exact ⟨rfl,g⟩
  ·cases h
 ·cases h
def rIns:Option (Nat×Nat)→List It
 |none=>[]
 |some p=>[.o p.1 (.recv p.2)]
def rX:(c:Option (Nat×Nat))→rT D c→inT D (rIns c)
 |none,_=>()
 |some _,r=>(r,())
theorem qxa (c:Option (Nat×Nat)) (r:rT D c):mkO X (rIns c) (rX c r)=rO X c r:=by cases c<;>rfl
theorem qsV {c:Option (Nat×Nat)} {r:rT D c} {n:Nat}:(match c with|none=>[]|some _=>[n]).length=(rO X c r).length:=by cases c<;>rfl
theorem qrf {d:FD D} {r:rT D d.rcv}:(rO X d.rcv r).length=(rks d).length:=by
 unfold rks
 rw[←qsV (X:=X) (r:=r) (n:=d.rk)]
def qwa (X:Ev P D) (d:FD D) (r:rT D d.rcv) (y:outT D d.outs) (z:Nat→Blk) (m:Mem) (kk:Option Nat) (vs0:List Value) (ex:AExit) (fr':Nat→Value) (m1:Mem):Prop:=
 (ex= .normal∨ex= .ret)∧∃fr2,qaV P fr' m1 d.rvs (d.res.map fr2)∧∃z2 nv,Zx m.next z z2∧Mm X.G (qbB X (rks d) (rO X d.rcv r) d.outs (qay _ y)) z2 m m1 kk (vs0++nv)∧∀q∈mkE X d.outs (qay _ y)++d.ofx,rel X.G z2 (vs0++nv) q.2 (fr2 q.1)
def FC (X:Ev P D) (B:Code) (d:FD D) (F:d.F):Prop:=∀(r:rT D d.rcv) (x:inT D d.ins) (y:outT D d.outs) {z:Nat→Blk} {m:Mem} {kk:Option Nat} {vs0:List Value} {fr:Nat→Value},
 F r x=some y→Mm X.G (rO X d.rcv r) z m m kk vs0→Rl X z vs0 (mkE X d.ins x++(d.fx++rE d.rcv)) fr→W P B (qwa X d r y z m kk vs0) fr m
theorem qnW {t:Nat} {a:SV D} {V:SV D} {v:Value} (hM:Mm X.G O z e m k vs) (ha:rel X.G z vs a v) (h:qqP P t a O=some V):∃b off w,v= .pointer (some ⟨b,off,none⟩)∧rel X.G z vs V w∧∃d,P.underlying t=some d∧
  (if aggT d=true then ∃i cs,P.info? t=some i∧rdN m b off i.size=some cs∧w= .agg cs.toArray else m.load b off=some w):=by
 have fin:∀{b n:Nat} {cs:List (CV D)} {ds:List Value},(∀(j:Nat) (w:Value),ds[j]? =some w→m.load b (0+j)=some w)→L2 (rel0 X.G z vs) cs ds→qef (P:=P) t cs n some=some V→∃w,rel X.G z vs V w∧∃d,P.underlying t=some d∧(if aggT d=true then ∃i cs,P.info? t=some i∧rdN m b n i.size=some cs∧w= .agg cs.toArray else m.load b n=some w):=by
  intro b n cs ds hc hr h
  unfold qef at h
  split at h
  ·cases h
  ·rename_i d hd
   split at h
   ·rename_i hag
    split at h
    ·cases h
    ·rename_i i hi
     split at h
     ·rename_i hlen
      cases h
      have hr':L2 (rel0 X.G z vs) ((cs.drop n).take i.size) ((ds.drop n).take i.size):=L2.take _ (L2.drop _ hr)
      have hl2:((ds.drop n).take i.size).length=i.size:=by rw[←hr'.length];exact hlen
      refine ⟨.agg ((ds.drop n).take i.size).toArray,⟨_,rfl,hr'⟩,d,hd, ?_⟩
      rw[if_pos hag]
      refine ⟨i,_,hi,qkr _ _ _ hl2 fun j w hj=> ?_,rfl⟩
      rw[List.getElem?_take] at hj
      split at hj
      ·rw[List.getElem?_drop] at hj
       have:=hc _ w hj
       rwa [Nat.zero_add] at this
      ·cases hj
     ·cases h
   ·rename_i hag
    split at h
    ·rename_i c hcs
     cases h
     obtain ⟨w,hw,hrw⟩:=hr.get n c hcs
     refine ⟨w,hrw,d,hd, ?_⟩
     rw[if_neg hag]
     have:=hc n w hw
     rwa [Nat.zero_add] at this
    ·cases h
 unfold qqP at h
 split at h
 ·rename_i i off
  obtain ⟨b,hv,hx⟩:=ha
  split at h
  ·rename_i u cs fz w1 hO
   have hob:=hM.obj i _ _ hO hv
   cases fz with
   |true=>
    obtain ⟨b',ds,he,hc,hr⟩:=hob
    cases he
    obtain ⟨w,h1,h2⟩:=fin (b:=b) (hM.st.loads hc) hr h
    exact ⟨b,off,w,hx,h1,h2⟩
   |false=>
    obtain ⟨b',ds,he,hb,_,hr⟩:=hob
    cases he
    obtain ⟨w,h1,h2⟩:=fin (b:=b) hb.loads hr h
    exact ⟨b,off,w,hx,h1,h2⟩
  ·rename_i u cs w1 hO
   obtain ⟨b',ds,he,hb,hr⟩:=hM.obj i _ _ hO hv
   cases he
   obtain ⟨w,h1,h2⟩:=fin (b:=b) hb.loads hr h
   exact ⟨b,off,w,hx,h1,h2⟩
  ·cases h
 ·cases h
theorem qnf:∀{rs:List ResultVar} {n:Nat} {l:List (Nat×SV D)},rvE P E O n rs=some l→∀x∈qcs n rs,x<VB∨n≤x
 |[],n,l,_,x,hx=>by simp[qcs] at hx
 | .tmp d::rs,n,l,h,x,hx=>by
  obtain ⟨h1,h2⟩:=ite_some h
  simp only[qcs,List.mem_cons] at hx
  rcases hx with rfl|hx
  ·exact .inl (by simpa[Nat.blt_eq] using h1)
  ·rcases qnf h2 x hx with h|h
   ·exact .inl h
   ·exact .inr (by omega)
 | .cell a t::rs,n,l,h,x,hx=>by
  simp only[rvE] at h
  split at h
  ·rename_i V l' _ h2
   simp only[qcs,List.mem_cons] at hx
   rcases hx with rfl|hx
   ·exact .inr (Nat.le_refl _)
   ·rcases qnf h2 x hx with h|h
    ·exact .inl h
    ·exact .inr (by omega)
  ·cases h
theorem qng (hM:Mm X.G O z e m k vs) (hE:Rl X z vs E fr):∀{rs:List ResultVar} {n:Nat} {l:List (Nat×SV D)},VB≤n→rvE P E O n rs=some l→∃fr2,(∀d,d<n→fr2 d=fr d)∧Rl X z vs (l++E) fr2∧qaV P fr m rs ((qcs n rs).map fr2)
 |[],n,l,_,h=>by cases h;exact ⟨fr,fun _ _=>rfl,hE,trivial⟩
 | .tmp d::rs,n,l,hn,h=>by
  obtain ⟨h1,h2⟩:=ite_some h
  have hd:d<VB:=by simpa[Nat.blt_eq] using h1
  obtain ⟨fr2,g1,g2,g3⟩:=qng hM hE (Nat.le_succ_of_le hn) h2
  exact ⟨fr2,fun d hd=>g1 d (Nat.lt_succ_of_lt hd),g2,g1 d (Nat.lt_succ_of_lt (Nat.lt_of_lt_of_le hd hn)),g3⟩
 | .cell a t::rs,n,l,hn,h=>by
  simp only[rvE] at h
  split at h
  ·rename_i V l' h1 h2
   cases h
   obtain ⟨fr2,g1,g2,g3⟩:=qng hM hE (Nat.le_succ_of_le hn) h2
   obtain ⟨b,off,w,w1,w2,w3⟩:=qnW hM (hE a) h1
   refine ⟨fun i=>if i=n then w else fr2 i,fun d hd=> ?_,fun i=> ?_, ?_⟩
   ·show (if d=n then w else fr2 d)=fr d
    rw[if_neg (by omega)];exact g1 d (by omega)
   ·show rel X.G z vs (lkE ((n,V)::(l'++E)) i) (if i=n then w else fr2 i)
    simp only[lkE]
    split
    ·rename_i hi
     rw[if_pos (Nat.eq_of_beq_eq_true hi).symm];exact w2
    ·rename_i hi
     rw[if_neg (by rintro rfl;simp at hi)];exact g2 i
   ·have hm:(qcs (n+1) rs).map (fun i=>if i=n then w else fr2 i)=(qcs (n+1) rs).map fr2:=by
     apply List.map_congr_left
     intro x hx
     rw[if_neg]
     rintro rfl
     rcases qnf h2 _ hx with h|h<;>omega
    refine ⟨⟨b,off,w1, ?_⟩, ?_⟩
    ·show ∃d,_
     simp only[if_true]
     exact w3
    ·show qaV P fr m rs ((qcs (n+1) rs).map _)
     rw[hm];exact g3
  ·cases h
theorem FC.of (hC:COk X) {B:Code} {us:List (Pc D)} {d:FD D} {F:d.F} (hus:∀u∈us,0<u.path.length→PcOk X B u)
  (heq:∀r x,exC X us calm true [] B (mkE X d.ins x++(d.fx++rE d.rcv)) (rO X d.rcv r) (retK X d)=F r x):FC X B d F:=by
 intro r x y z m kk vs0 fr hF hM hE
 have h:=heq r x
 rw[hF] at h
 refine (qfy hC (L:=0) hus B true [] _ _ _ y (qbj B) (by simp) (by simp) hM hE h).mono ?_
 rintro ex fr1 m1 ⟨z1,vs1,E1,O1,h0,h1,h2,h3,h4,h5⟩
 obtain ⟨hx,h5⟩:=ite_some h5
 obtain ⟨l,hl0,h6⟩:=bind_some h5
 obtain ⟨fr2,q1,q2,q3⟩:=qng h3 h4 (Nat.le_refl _) hl0
 have hl:(rks d).length=vs0.length:=by
  rw[hM.len,qrf]
 rw[hl] at h6
 have hr:=qxa (X:=X) d.rcv r
 obtain ⟨z2,nv,k1,k2,k3⟩:=qe3 (ks:=rks d) (ins:=rIns d.rcv) (x:=rX d.rcv r) (xx:=d.xx) (by rw[hr];exact h0) h2 (by rw[hr];exact hM.len) h3 q2 h6
 rw[hr] at k2
 exact ⟨hx,fr2,q3,z2,nv,h1.trans k1,k2,k3⟩
end
end
end Go.AM
end
section
set_option linter.unusedSimpArgs false
set_option linter.unusedVariables false
namespace Go.AM
noncomputable section
section
variable {P:Program} {D:Nat→Type} {X:Ev P D} {z z1 z2:Nat→Blk} {e m m1:Mem} {k q:Option Nat} {vs:List Value} {fr:Nat→Value} {E:List (Nat×SV D)} {O O':List (Ob D)} {ρ:Type} {r:ρ}
theorem qgh:∀{l:List (SV D)} {args:List Value} {i:Nat},L2 (rel X.G z vs) l args→(∀(j:Nat) (v:Value),args[j]? =some v→fr (i+j)=v)→Rl X z vs (qca i l) fr
 |[],[],i,_,_=>fun d=>trivial
 |s::l,a::args,i,⟨h1,h2⟩,hf=>by
  refine (qgh (i:=i+1) h2 fun j v hj=> ?_).cons ?_
  ·rw[show i+1+j=i+(j+1) by omega]
   exact hf (j+1) v hj
  ·have:=hf 0 a rfl
   rw[Nat.add_zero] at this
   rw[this];exact h1
 |[],_::_,_,h,_=>h.elim
 |_::_,[],_,h,_=>h.elim
structure FOk (P:Program) (X:Ev P D) (d:FD D) (F:d.F):Prop where
 ex:∃fn c,P.funcs[d.f]? =some fn∧fn.body=some c∧okFn P d.f=true∧Nat.ble d.np fn.ntmps=true∧fn.results.toList=d.rvs∧FC X c d F
 new:qfi d.outs=true
 sf:(d.fx.all fun p=>qgW p.2)=true
 so:(d.ofx.all fun p=>qgW p.2)=true
 sx:(d.fx.all fun p=>(refS p.2).isNone)=true
theorem qdK {c:CV D} {w:Value} (h:qlM c=some w):rel0 X.G z vs c w∧qah w=true∧qbf w=true∧AM.flat w=true:=by
 cases c<;>first|(cases h;done)|(cases h;exact ⟨rfl,rfl,rfl,rfl⟩)
theorem qdL:∀{cs:List (CV D)} {ws:List Value},qiS cs=some ws→L2 (rel0 X.G z vs) cs ws∧ws.all qah=true
 |[],_,h=>by cases h;exact ⟨trivial,rfl⟩
 |c::cs,ws,h=>by
  simp only[qiS] at h
  split at h
  ·rename_i v l hv hl
   cases h
   obtain ⟨g1,g2,_⟩:=qdK (X:=X) (z:=z) (vs:=vs) hv
   obtain ⟨g3,g4⟩:=qdL hl
   exact ⟨⟨g1,g3⟩,by simp only[List.all_cons,g2,g4,Bool.and_self]⟩
  ·cases h
theorem qdM:∀{l:List (CV D⊕(Nat×List (CV D)))} {ws:List Value},qgm l=some ws→L2 (relT X.G z vs) l ws∧ws.all qbf=true
 |[],_,h=>by cases h;exact ⟨trivial,rfl⟩
 | .inl c::l,ws,h=>by
  simp only[qgm] at h
  split at h
  ·rename_i v l1 hv hl
   cases h
   obtain ⟨g1,_,g2,_⟩:=qdK (X:=X) (z:=z) (vs:=vs) hv
   obtain ⟨g3,g4⟩:=qdM hl
   exact ⟨⟨g1,g3⟩,by simp only[List.all_cons,g2,g4,Bool.and_self]⟩
  ·cases h
 | .inr p::l,ws,h=>by
  simp only[qgm] at h
  split at h
  ·rename_i v l1 hv hl
   cases h
   obtain ⟨g1,g2⟩:=qdL (X:=X) (z:=z) (vs:=vs) hv
   obtain ⟨g3,g4⟩:=qdM hl
   exact ⟨⟨⟨v,rfl,g1⟩,g3⟩,by simp only[List.all_cons,g4,Bool.and_true];exact g2⟩
  ·cases h
theorem qkN {s:SV D} {w:Value} (h:qlN s=some w):rel X.G z vs s w∧AM.flat w=true:=by
 unfold qlN at h
 split at h
 ·obtain ⟨g1,_,_,g2⟩:=qdK (X:=X) (z:=z) (vs:=vs) h
  exact ⟨g1,g2⟩
 ·split at h
  ·rename_i ds hd
   cases h
   obtain ⟨g1,g2⟩:=qdL (X:=X) (z:=z) (vs:=vs) hd
   exact ⟨⟨ds,rfl,g1⟩,g2⟩
  ·cases h
 ·split at h
  ·rename_i ws hd
   cases h
   obtain ⟨g1,g2⟩:=qdM (X:=X) (z:=z) (vs:=vs) hd
   exact ⟨⟨ws,rfl,g1⟩,g2⟩
  ·cases h
 ·cases h
theorem Inv.app (O N:List (Ob D)):Inv O (O++N):=⟨by simp,fun i p hi hp _ _=>by rw[List.getElem?_append_left hi] at hp;exact hp⟩
theorem Mm.nil (hM:Mm X.G O z e m k vs):Mm X.G ([]:List (Ob D)) z m m none []:=⟨St.start hM.st.fz hM.st.dead,rfl,by simp,by simp⟩
theorem qno {kk:Option Nat} (h:St z1 e m k) (h2:St z2 m m1 kk) (hk:∀b,kk=some b→e.next≤b∨k=some b):St z2 e m1 k∧Same m m1 kk:=
 ⟨⟨h2.fz,h2.dead,h.dead0,Nat.le_trans h.next h2.next,fun b hb hn=>by
  rw[h2.kept b (Nat.lt_of_lt_of_le hb h.next) (fun hh=>by rcases hk b hh with h3|h3;omega;exact hn h3)]
  exact h.kept b hb hn⟩,⟨h2.next,h2.dead,h2.kept⟩⟩
theorem qkC {ins:List It} {fx:List (Nat×SV D)} {svs avs:List (SV D)} {O1:List (Ob D)} {x:inT D ins} {vs0:List Value} (hE:Rl X z vs (qca 0 svs) fr) (ha:AOk X z vs fr ins avs) (hb:rdB X [] O1 ins avs []=some x)
  (hx:(fx.all fun p=>fxT [] p.2 (lkE (qca 0 svs) p.1))=true):∀p∈mkE X ins x++fx,rel X.G z vs0 p.2 (fr p.1):=by
 intro p hp
 rcases List.mem_append.1 hp with hp|hp
 ·exact qk4 (fun j i u hj _=>by simp at hj) hb ha p hp
 ·have ht:=List.all_eq_true.1 hx p hp
  have:=qlU (X:=X) (vs':=vs0) id ht (hE p.1) (by simp)
  rwa [qks] at this
theorem after {outs:List It} {y:inT D outs} {O0:List (Ob D)} {vs0 nv:List Value} {kk:Option Nat} {O2 O3:List (Ob D)} {τ:Nat→Nat} (h1:Mm X.G O2 z1 e m k vs) (h3:Mm X.G O3 z2 e m1 k vs) (h0:Mm X.G (O0++mkO X outs y) z2 m m1 kk (vs0++nv)) (hl:vs0.length=O0.length) (hn:qfi outs=true)
  (hlt:∀(j:Nat) (o:Ob D) (v:Value),O3[j]? =some o→vs[j]? =some v→o.live=true→∀b,blkV v=some b→b<m.next) (hτ:∀(j:Nat) (u:Value),(vs0++nv)[j]? =some u→(vs++nv)[τ j]? =some u):Mm X.G (O3++mkOr X τ outs y) z2 e m1 k (vs++nv):=by
 have hcl:(mkO X outs y).length=(mkOr X τ outs y).length:=by rw[qaJ,qbE,List.length_map,List.length_map]
 have hnl:nv.length=(mkO X outs y).length:=by
  have:=h0.len
  simp only[List.length_append] at this
  omega
 have up:∀(j:Nat) (o:Ob D) (v:Value),(mkOr X τ outs y)[j]? =some o→nv[j]? =some v→∃q∈cos outs y,o=OC.mkr X τ q.c q.x false∧(O0++mkO X outs y)[O0.length+j]? =some (OC.mk X q.c q.x false)∧(vs0++nv)[O0.length+j]? =some v:=by
  intro j o v ho hv
  rw[qbE,List.getElem?_map] at ho
  cases hq:(cos outs y)[j]? with
  |none=>rw[hq] at ho;cases ho
  |some q=>
   rw[hq] at ho
   cases ho
   refine ⟨q,List.mem_of_getElem? hq,rfl, ?_, ?_⟩
   ·rw[List.getElem?_append_right (by omega),show O0.length+j - O0.length=j by omega,qaJ,List.getElem?_map,hq]
    rfl
   ·rw[List.getElem?_append_right (by omega),hl,show O0.length+j - O0.length=j by omega]
    exact hv
 refine h3.adds (hnl.trans hcl) hlt (fun j o v ho hv=> ?_) (fun i j o p v w hij ho hp hv hw=> ?_)
 ·obtain ⟨q,hq,rfl,g1,g2⟩:=up j o v ho hv
  have hob:=h0.obj _ _ v g1 g2
  exact born (qes hn hq) h1.st.next (OC.mkr_ok (τ':=τ) (vs':=vs++nv) false hob fun n _ u hu=>hτ n u hu)
 ·obtain ⟨q,hq,rfl,g1,g2⟩:=up i o v ho hv
  obtain ⟨q',hq',rfl,g3,g4⟩:=up j p w hp hw
  exact h0.ap _ _ _ _ v w (by omega) g1 g3 OC.mk_live OC.mk_live g2 g4
theorem qet:∀{its:List It},qfi its=true→∀d c,It.v d c∈its→c.nc=true
 | .v d c::its,h,d',c',hm=>by
  have h:=Bool.and_eq_true_iff.1 h
  rcases List.mem_cons.1 hm with he|hm
  ·cases he;exact h.1
  ·exact qet (its:=its) h.2 d' c' hm
 | .u d c::its,h,d',c',hm=>by
  rcases List.mem_cons.1 hm with he|hm
  ·cases he
  ·exact qet (its:=its) h d' c' hm
 | .o d c::its,h,d',c',hm=>by
  rcases List.mem_cons.1 hm with he|hm
  ·cases he
  ·refine qet (its:=its) ?_ d' c' hm
   cases c<;>first|exact h|cases h
theorem qpO {outs:List It} {y:inT D outs} {ofx:List (Nat×SV D)} {vs0 vs1:List Value} {τ:Nat→Nat} (hn:qfi outs=true) (ho:(ofx.all fun p=>qgW p.2)=true) (h:∀q∈mkE X outs y++ofx,rel X.G z vs0 q.2 (fr q.1)) (hv:∀(j:Nat) (u:Value),vs0[j]? =some u→vs1[τ j]? =some u):
  Rl X z vs1 (mkE X outs y++ofx.map fun q=>(q.1,rnS τ q.2)) fr:=by
 refine qlp fun q hq=> ?_
 rcases List.mem_append.1 hq with hq|hq
 ·obtain ⟨d,c,a,hd,hc⟩:=qfD hq
  have:=h q (List.mem_append.2 (.inl hq))
  rw[hc] at this⊢
  exact Cl.mk_vs (qet hn d c hd) this
 ·obtain ⟨q0,hq0,rfl⟩:=List.mem_map.1 hq
  exact qrg (List.all_eq_true.1 ho q0 hq0) (h q0 (List.mem_append.2 (.inr hq0))) fun j u _ hu=>hv j u hu
theorem qre {t b:Nat} {o:Ob D} {x:D t} (hg:rcvG X t (some o)=some x) (ho:ObOk X.G z e m k vs o (.pointer (some ⟨b,0,none⟩))):
  o.live=true∧(e.next≤b∨k=some b)∧(∀vs',ObOk X.G z m m (some b) vs' (.recv t (lvX X t x) false:Ob D) (.pointer (some ⟨b,0,none⟩)))∧
  (∀{z2:Nat→Blk} {m1:Mem} {w:Bool} {a:D t} {ws:List Value},ObOk X.G z2 m m1 (some b) ws (.recv t (lvX X t a) w:Ob D) (.pointer (some ⟨b,0,none⟩))→ObOk X.G z2 e m1 k vs (rcvP t (lvX X t a) o) (.pointer (some ⟨b,0,none⟩))∧(o.clean=true→a=x→ObOk X.G z2 e m1 k vs o (.pointer (some ⟨b,0,none⟩)))):=by
 unfold rcvG at hg
 split at hg
 ·rename_i t' cs w heq
  cases heq
  obtain ⟨ht,hg⟩:=ite_some hg
  subst ht
  obtain ⟨c,ds,h1,h2,h3,h4⟩:=ho
  cases h1
  refine ⟨rfl, .inl h3,fun vs'=>⟨b,ds,rfl,⟨h2.blk,h2.lt,h2.dead, .inr rfl⟩,qeb hg h4⟩, ?_⟩
  intro z2 m1 w a ws hr
  obtain ⟨c,ds',g1,g2,g3⟩:=hr
  cases g1
  refine ⟨⟨b,ds',rfl,⟨g2.blk,g2.lt,g2.dead, .inl h3⟩,h3,qdl g3⟩,fun hc ha=> ?_⟩
  subst ha
  rw[qok hg hc]
  exact ⟨b,ds',rfl,⟨g2.blk,g2.lt,g2.dead, .inl h3⟩,h3,qdl g3⟩
 ·rename_i t' cs w heq
  cases heq
  obtain ⟨ht,hg⟩:=ite_some hg
  subst ht
  obtain ⟨c,ds,h1,h2,h4⟩:=ho
  cases h1
  refine ⟨rfl,h2.fresh,fun vs'=>⟨b,ds,rfl,⟨h2.blk,h2.lt,h2.dead, .inr rfl⟩,qeb hg h4⟩, ?_⟩
  intro z2 m1 w a ws hr
  obtain ⟨c,ds',g1,g2,g3⟩:=hr
  cases g1
  refine ⟨⟨b,ds',rfl,⟨g2.blk,g2.lt,g2.dead,h2.fresh⟩,qdl g3⟩,fun hc ha=> ?_⟩
  subst ha
  rw[qok hg hc]
  exact ⟨b,ds',rfl,⟨g2.blk,g2.lt,g2.dead,h2.fresh⟩,qdl g3⟩
 ·cases hg
def FD.quiet (d:FD D):Bool:=d.flat&&d.rcv.isNone
def CallOk (X:Ev P D) (d:FD D) (F:d.F):Prop:=∀(svs:List (SV D)) (O:List (Ob D)) {ρ:Type} (K:SV D→List (Ob D)→Option ρ) (r:ρ) {z:Nat→Blk} {e m:Mem} {k:Option Nat} {vs:List Value} (args:List Value),
 Mm X.G O z e m k vs→L2 (rel X.G z vs) svs args→d.call X F svs O K=some r→CallW P d.f args.toArray m fun v m'=>Nxt X O z e k vs K r v m'∧(d.quiet=true→m'=m)∧∃q,Chg m m' q∧TgtQ vs (qbr svs) q
theorem Same.chg {q:Option Nat} (h:Same m m1 q):Chg m m1 q:=⟨h.next,h.blk⟩
theorem qjR {i off d:Nat}:∀{l:List (SV D)} {n:Nat},lkE (qca n l) d= .box i off→i∈qbr l
 |[],n,h=>by cases h
 |s::l,n,h=>by
  simp only[qca,lkE] at h
  split at h
  ·subst h;exact List.mem_cons_self
  ·have:=qjR h
   cases s<;>first|exact this|exact List.mem_cons_of_mem _ this
theorem FOk.call {d:FD D} {F:d.F} (hF:FOk P X d F):CallOk X d F:=by
 intro svs O ρ K r z e m k vs args hM hL h
 obtain ⟨fn,c,f1,f2,f3,f4,f5,hB⟩:=hF.ex
 have hnew:=hF.new
 have hso:=hF.so
 unfold FD.call at h
 obtain ⟨hlen,h⟩:=ite_some h
 have hlen:=Nat.eq_of_beq_eq_true hlen
 split at h
 ·rename_i avs O1 hf
  obtain ⟨hx,h⟩:=ite_some h
  split at h
  ·rename_i x hb
   have hsz:args.toArray.size≤fn.ntmps:=by
    rw[List.size_toArray,←hL.length,hlen]
    exact Nat.le_of_ble_eq_true f4
   have hE:∀fr:Nat→Value,(∀i v,args.toArray.toList[i]? =some v→fr i=v)→Rl X z vs (qca 0 svs) fr:=fun fr hfr=>qgh hL fun j v hj=>by rw[Nat.zero_add];exact hfr j v (by simpa using hj)
   obtain ⟨f,np,ins,fx,rcv,rk,outs,ofx,rvs,flat⟩:=d
   cases rcv with
   |none=>
    obtain ⟨y,hy,h⟩:=bind_some h
    split at h
    ·rename_i sv hsv
     have body:∀fr:Nat→Value,(∀i v,args.toArray.toList[i]? =some v→fr i=v)→W P c (fun ex fr1 m1=>(ex= .normal∨ex= .ret)∧∃z1 z2 nv,Inv O O1∧Zx e.next z z1∧Mm X.G O1 z1 e m k vs∧Zx m.next z1 z2∧Mm X.G (mkO X outs (qay outs y)) z2 m m1 none nv∧∃fr2,qaV P fr1 m1 rvs ((qcs VB rvs).map fr2)∧(rel X.G z2 (vs++nv) sv (pack ((qcs VB rvs).map fr2))∧(((qcs VB rvs).map fr2).length=1∨∀x∈(qcs VB rvs).map fr2,storable x=true))) fr m:=by
      intro fr hfr
      obtain ⟨z1,g0,g1,g2,g3⟩:=qcZ hM (hE fr hfr) hf
      have hrl:=qkC (vs0:=[]) ((hE fr hfr).mono g1.le fun _ _ h=>h) g3 hb hx
      refine (hB () x y (z:=z1) (m:=m) (kk:=none) (vs0:=[]) hy g2.nil (qlp fun p hp=>hrl p (by simpa[rE] using hp))).mono ?_
      rintro ex fr1 m1 ⟨he,fr2,q1,z2,nv,k1,k2,k3⟩
      have k2:Mm X.G (mkO X outs (qay outs y)) z2 m m1 none nv:=k2
      refine ⟨he,z1,z2,nv,g0,g1,g2,k1,k2,fr2,q1,qjb (qpO (vs0:=nv) hnew hso k3 fun j u hu=> ?_) hsv⟩
      show (vs++nv)[O1.length+j]? =some u
      rw[List.getElem?_append_right (by rw[g2.len];omega),g2.len,show O1.length+j - O1.length=j by omega]
      exact hu
     split at h
     ·split at h
      ·rename_i w hw
       obtain ⟨w1,w2⟩:=qkN (X:=X) (z:=z) (vs:=vs) hw
       refine (CallW.flat (z:=z) f1 f2 f3 hsz w2 fun fr hfr=>(body fr hfr).mono ?_).mono ?_
       ·rintro ex fr1 m1 ⟨he,z1,z2,nv,_,_,_,_,k2,fr2,q1,k3,k4⟩
        exact ⟨he,z2,k2.st,_,by rw[f5];exact q1,k4,(qnM hw k3).1⟩
       ·rintro v m' ⟨rfl,rfl⟩
        exact ⟨Nxt.here hM w1 h,fun _=>rfl,none,Chg.refl _, .inl rfl⟩
      ·cases h
     ·rename_i hnf
      refine CallW.any f1 f2 f3 hsz fun fr hfr=>(body fr hfr).mono ?_
      rintro ex fr1 m1 ⟨he,z1,z2,nv,g0,g1,g2,k1,k2,fr2,q1,k3,k4⟩
      obtain ⟨s1,s2⟩:=qno (e:=e) (k:=k) g2.st k2.st (by simp)
      refine ⟨he,_,by rw[f5];exact q1,k4,⟨z2,vs++nv,sv,_,g0.trans (Inv.app _ _),g1.trans (k1.anti hM.st.next),qau, ?_,k3,h⟩,fun hq=>absurd (by simpa[FD.quiet] using hq) hnf,none,s2.chg, .inl rfl⟩
      have h3:=g2.call k1 s2 s1 rfl fun j o' hj=> .inl ⟨hj,fun _ v _=>Ap.none'⟩
      have hnum0:∀(j:Nat) (u:Value),([]++nv)[j]? =some u→(vs++nv)[O1.length+j]? =some u:=fun j u hu=>by
       rw[List.getElem?_append_right (by rw[g2.len];omega),g2.len,show O1.length+j - O1.length=j by omega]
       exact hu
      exact after (O0:=[]) (vs0:=[]) g2 h3 k2 rfl hnew (fun j o v ho hv hl b hb=>((g2.obj j o v ho hv).lt hl b hb).1) hnum0
    ·cases h
   |some p=>
    unfold qhV at h
    dsimp only at h
    split at h
    ·rename_i i hi
     split at h
     ·rename_i o ho
      obtain ⟨rr,hrr,h⟩:=bind_some h
      obtain ⟨y,hy,h⟩:=bind_some h
      split at h
      ·rename_i sv hsv
       refine CallW.any f1 f2 f3 hsz fun fr hfr=> ?_
       obtain ⟨z1,g0,g1,g2,g3⟩:=qcZ hM (hE fr hfr) hf
       have hrl:=fun vs0=>qkC (vs0:=vs0) ((hE fr hfr).mono g1.le fun _ _ h=>h) g3 hb hx
       have hp:=hE fr hfr p.1
       rw[hi] at hp
       obtain ⟨b,b1,b2⟩:=hp
       have hob:=g2.obj i o _ ho b1
       obtain ⟨r1,r2,r3,r4⟩:=qre hrr hob
       have hM0:Mm X.G (rO X (some p) rr) z1 m m (some b) [.pointer (some ⟨b,0,none⟩)]:=by
        refine ⟨St.start g2.st.fz g2.st.dead,rfl,fun j o' v hj hv=> ?_,fun a b' o' p' v w hab ha hb'=> ?_⟩
        ·cases j with
         |zero=>simp[rO] at hj hv;subst hj hv;exact r3 _
         |succ j=>simp[rO] at hj
        ·cases a with
         |zero=>cases b' with
          |zero=>exact absurd rfl hab
          |succ b'=>simp[rO] at hb'
         |succ a=>simp[rO] at ha
       refine (hB rr x y (z:=z1) (m:=m) (kk:=some b) (vs0:=[.pointer (some ⟨b,0,none⟩)]) hy hM0 (qlp fun q hq=> ?_)).mono ?_
       ·rcases List.mem_append.1 hq with hq|hq
        ·exact hrl _ q (List.mem_append.2 (.inl hq))
        ·rcases List.mem_append.1 hq with hq|hq
         ·exact hrl _ q (List.mem_append.2 (.inr hq))
         ·simp only[rE,List.mem_cons,List.not_mem_nil,or_false] at hq
          subst hq
          exact ⟨b,rfl,b2⟩
       rintro ex fr1 m1 ⟨he,fr2,q1,z2,nv,k1,k2,k3⟩
       obtain ⟨s1,s2⟩:=qno (e:=e) (k:=k) g2.st k2.st (fun c hc=>by cases hc;exact r2)
       have hi0:i<O1.length:=(List.getElem?_eq_some_iff.1 ho).1
       have hnum:∀(j:Nat) (u:Value),([Value.pointer (some ⟨b,0,none⟩)]++nv)[j]? =some u→(vs++nv)[num1 i O1.length j]? =some u:=by
        intro j u hu
        cases j with
        |zero=>
         simp at hu;subst hu
         show (vs++nv)[i]? =_
         exact qau _ _ b1
        |succ j=>
         simp at hu
         show (vs++nv)[O1.length+(j+1 - 1)]? =_
         rw[List.getElem?_append_right (by rw[g2.len];omega),g2.len,show O1.length+(j+1 - 1) - O1.length=j by omega]
         exact hu
       have hres:=qjb (qpO hnew hso k3 hnum) hsv
       have k2:Mm X.G (([if rk=1 then (.recv p.2 (lvX X p.2 rr) false:Ob D) else if rk=2 then qbi X idN outs (qay outs y) 0 else .dead]:List (Ob D))++mkO X outs (qay outs y)) z2 m m1 (some b) ([.pointer (some ⟨b,0,none⟩)]++nv):=k2
       have hh:=k2.obj 0 _ (.pointer (some ⟨b,0,none⟩)) rfl rfl
       have apart:∀(j:Nat) (o':Ob D),j≠i→O1[j]? =some o'→o'.live=true→∀v,vs[j]? =some v→Ap (blkV v) (some b):=fun j o' hji hj hl v hv=>g2.ap j i o' o v _ hji hj ho hl r1 hv b1
       have lt1:∀(j:Nat) (o':Ob D) (v:Value),O1[j]? =some o'→vs[j]? =some v→o'.live=true→∀c,blkV v=some c→c<m.next:=fun j o' v ho hv hl c hc=>((g2.obj j o' v ho hv).lt hl c hc).1
       have fin:∀{O3:List (Ob D)},Inv O1 O3→Mm X.G O3 z2 e m1 k vs→(∀(j:Nat) (o':Ob D) (v:Value),O3[j]? =some o'→vs[j]? =some v→o'.live=true→∀c,blkV v=some c→c<m.next)→K sv (O3++mkOr X (num1 i O1.length) outs (qay outs y))=some r→Nxt X O z e k vs K r (pack ((qcs VB rvs).map fr2)) m1:=by
        intro O3 hi3 h3 hlt hK
        exact ⟨z2,vs++nv,sv,_,(g0.trans hi3).trans (Inv.app _ _),g1.trans (k1.anti hM.st.next),qau,after g2 h3 k2 rfl hnew hlt hnum,hres.1,hK⟩
       have turn:∀{o3:Ob D},o3.tch=true→(∀v,vs[i]? =some v→ObOk X.G z2 e m1 k vs o3 v)→K sv (O1.set i o3++mkOr X (num1 i O1.length) outs (qay outs y))=some r→Nxt X O z e k vs K r (pack ((qcs VB rvs).map fr2)) m1:=by
        intro o3 ht h3 hK
        refine fin (Inv.set O1 i (.inr ht)) (g2.call k1 s2 s1 (by simp) fun j o' hj=> ?_) (fun j o' v hj hv hl c hc=> ?_) hK
        ·rw[List.getElem?_set] at hj
         split at hj
         ·rename_i hij
          subst hij
          simp[hi0] at hj
          subst hj
          exact .inr ⟨o,ho,r1,h3⟩
         ·rename_i hij
          exact .inl ⟨hj,fun hl v hv=>apart j o' (fun e=>hij e.symm) hj hl v hv⟩
        ·rw[List.getElem?_set] at hj
         split at hj
         ·rename_i hij
          subst hij
          exact lt1 i o v ho hv r1 c hc
         ·exact lt1 j o' v hj hv hl c hc
       refine ⟨he,_,by rw[f5];exact q1,hres.2, ?_,fun hq=>absurd hq (by simp[FD.quiet]),some b,s2.chg, .inr ⟨i,qjR hi,_,b1,rfl⟩⟩
       split at h
       ·rename_i hk2
        rw[if_neg (by omega),if_pos hk2] at hh
        split at h
        ·rename_i t cs w hu
         obtain ⟨ht,h⟩:=ite_some h
         rcases qbn (X:=X) (its:=outs) (x:=qay outs y) (j:=0) with hd|⟨_,c',a',_,hd⟩
         ·rw[hd] at hu;cases hu
         ·cases c' with
          |recv t'=>
           have hd:=hd idN
           have hd':=hd
           rw[hu] at hd
           simp only[OC.mkr] at hd
           cases hd
           subst ht
           rw[hd'] at hh
           refine turn ?_ (fun v hv=> ?_) h
           ·unfold rcvP;split<;>rfl
           ·rw[b1] at hv;cases hv
            exact (r4 hh).1
          |_=>rw[hd] at hu;cases hu
        ·cases h
       ·obtain ⟨hk1,h⟩:=ite_some h
        rw[if_pos hk1] at hh
        split at h
        ·rename_i hcl
         refine fin (Inv.refl O1) (g2.call k1 s2 s1 rfl fun j o' hj=> ?_) lt1 h
         by_cases hji:j=i
         ·subst hji
          rw[ho] at hj;cases hj
          exact .inr ⟨o,ho,r1,fun v hv=>by rw[b1] at hv;cases hv;exact (r4 hh).2 hcl rfl⟩
         ·exact .inl ⟨hj,fun hl v hv=>apart j o' hji hj hl v hv⟩
        ·refine turn ?_ (fun v hv=> ?_) h
         ·unfold rcvP;split<;>rfl
         ·rw[b1] at hv;cases hv
          exact (r4 hh).1
      ·cases h
     ·cases h
    ·cases h
  ·cases h
 ·cases h
structure FE (D:Nat→Type) where
 d:FD D
 F:d.F
def FD.fits (X:Ev P D) (d:FD D) (svs:List (SV D)) (O:List (Ob D)):Bool:=
 Nat.beq svs.length d.np&&match frzA (qca 0 svs) d.ins O with
 |some (avs,O1)=>(d.fx.all fun p=>fxT [] p.2 (lkE (qca 0 svs) p.1))&&(rdB X [] O1 d.ins avs []).isSome
 |none=>false
def qeN (X:Ev P D):List (FE D)→Nat→List (SV D)→List (Ob D)→{ρ:Type}→(SV D→List (Ob D)→Option ρ)→Option ρ
 |[],_,_,_,_,_=>none
 |x::l,f,svs,O,_,K=>if (Nat.beq x.d.f f&&x.d.fits X svs O)=true then x.d.call X x.F svs O K else qeN X l f svs O K
def qhW (X:Ev P D):List (FE D)→Nat→List (SV D)→List (Ob D)→Bool
 |[],_,_,_=>false
 |x::l,f,svs,O=>if (Nat.beq x.d.f f&&x.d.fits X svs O)=true then x.d.quiet else qhW X l f svs O
structure ChQ (D:Nat→Type) where
 F:(f:Nat)→List (SV D)→List (Ob D)→Bool
 U:Operand→Option Operand→Option Operand→Nat
 C:(f:Nat)→List (SV D)→List (Ob D)→{ρ:Type}→(SV D→List (Ob D)→Option ρ)→Option ρ
 W:(f:Nat)→Bool
def Ev.ch (X:Ev P D) (q:ChQ D):Ev P D:={X with C:=q.C,F:=q.F,U:=q.U,W:=q.W}
def Ev.with (X:Ev P D) (l:List (FE D)):Ev P D:=X.ch ⟨qhW X l,X.U,qeN X l,X.W⟩
def Ev.cuts (X:Ev P D) (f:Operand→Option Operand→Option Operand→Nat):Ev P D:=X.ch ⟨X.F,f,X.C,X.W⟩
theorem qpe (l:ChQ D) (t:Nat):zcX (X.ch l) t=zcX X t:=by
 cases hI:X.I t with
 |none=>
  have h2:(X.ch l).I t=none:=hI
  unfold zcX
  rw[hI,h2]
 |some ti=>
  have h2:(X.ch l).I t=some ti:=hI
  unfold zcX
  rw[hI,h2]
theorem qb1 (l:ChQ D) (t:Nat) (x:D t):lvX (X.ch l) t x=lvX X t x:=by
 cases hI:X.I t with
 |none=>
  have h2:(X.ch l).I t=none:=hI
  unfold lvX
  rw[hI,h2]
 |some ti=>
  have h2:(X.ch l).I t=some ti:=hI
  unfold lvX
  rw[hI,h2]
theorem qbG (l:ChQ D) (t:Nat) (cs:List (CV D)):pkX (X.ch l) t cs=pkX X t cs:=by
 cases hI:X.I t with
 |none=>
  have h2:(X.ch l).I t=none:=hI
  unfold pkX
  rw[hI,h2]
 |some ti=>
  have h2:(X.ch l).I t=some ti:=hI
  unfold pkX
  rw[hI,h2]
theorem qeX (l:ChQ D):∀(ts:List Nat) (x:inDs D ts),qdn (X.ch l) ts x=qdn X ts x
 |[],_=>rfl
 |t::ts,x=>by
  show (t,lvX (X.ch l) t x.1)::qdn (X.ch l) ts x.2=(t,lvX X t x.1)::qdn X ts x.2
  rw[qeX l ts x.2,qb1 l t x.1]
theorem qeQ (l:ChQ D):∀(ts:List Nat) (x:List (Nat×List (CV D))),qeP (X.ch l) ts x=qeP X ts x
 |[],[]=>rfl
 |[],_::_=>rfl
 |_::_,[]=>rfl
 |t::ts,p::x=>by
  simp only[qeP,qeQ l ts x,qbG]
theorem Cl.mk_with (l:ChQ D) (c:Cl) (x:c.ty D):Cl.mk (X.ch l) c x=Cl.mk X c x:=by
 cases c with
 |fn f ts=>exact congrArg (SV.fn f) (qeX l ts x)
 |agg t=>exact congrArg (SV.agg t) (qb1 l t x)
 |rp t=>exact congrArg (fun cs=>SV.rp t cs 0) (qb1 l t x)
 |_=>rfl
theorem Cl.get_with (l:ChQ D) (c:Cl) (s:SV D):Cl.get (X.ch l) c s=Cl.get X c s:=by
 unfold Cl.get
 split
 ·rfl
 ·rfl
 ·rfl
 ·rfl
 ·rfl
 ·rfl
 ·rfl
 ·rename_i t t' cs
  exact congrArg (fun q:Option (D t)=>if t'=t then q else none) (qbG l t cs)
 ·rename_i t t' cs off
  exact congrArg (fun q:Option (D t)=>if t'=t∧off=0 then q else none) (qbG l t cs)
 ·rename_i f ts f' cs
  exact congrArg (fun q:Option (inDs D ts)=>if f'=f then q else none) (qeQ l ts cs)
 ·rfl
 ·rfl
theorem OC.mkr_with (l:ChQ D) (τ:Nat→Nat) (c:OC) (x:c.ty D) (w:Bool):OC.mkr (X.ch l) τ c x w=OC.mkr X τ c x w:=by
 cases c with
 |box t=>exact congrArg (fun cs=>Ob.box t cs false w) (qb1 l t x)
 |recv t=>exact congrArg (fun cs=>Ob.recv t cs w) (qb1 l t x)
 |bx t p=>exact congrArg (fun cs=>Ob.box t (ownG τ p 0 cs) false w) (qb1 l t x)
 |_=>rfl
theorem OC.mk_with (l:ChQ D) (c:OC) (x:c.ty D) (w:Bool):OC.mk (X.ch l) c x w=OC.mk X c x w:=OC.mkr_with l _ c x w
theorem OC.get_with (l:ChQ D) (σ:List Nat) (c:OC) (o:Ob D):OC.get (X.ch l) σ c o=OC.get X σ c o:=by
 unfold OC.get
 split
 ·rfl
 ·rename_i t t' cs w
  exact congrArg (fun q:Option (D t)=>if t'=t then q else none) (qbG l t cs)
 ·rename_i t t' cs w
  exact congrArg (fun q:Option (D t)=>if t'=t then q else none) (qbG l t cs)
 ·rfl
 ·rfl
 ·rename_i t p t' cs w
  rw[qpe]
  exact congrArg (fun q:Option (D t)=>if t'=t∧ql9 σ cs p=true then q else none) (qbG l t (nilG (zcX X t) p 0 cs))
 ·rfl
 ·rfl
 ·rfl
theorem qmW (l:ChQ D) (t:Nat) (o:Option (Ob D)):rcvG (X.ch l) t o=rcvG X t o:=by
 unfold rcvG
 split
 ·rw[qbG]
 ·rw[qbG]
 ·rfl
theorem qdu (l:ChQ D) {σ0:List Nat}:∀(its:List It) (avs:List (SV D)) (σ:List Nat),rdB (X.ch l) σ0 O its avs σ=rdB X σ0 O its avs σ
 |[],_,[]=>rfl
 |[],_,_::_=>by simp[rdB]
 | .v _ _::_,[],_=>by simp[rdB]
 | .o _ _::_,[],_=>by simp[rdB]
 | .u _ _::_,[],_=>by simp[rdB]
 | .v d c::its,s::avs,σ=>by simp only[rdB,Cl.get_with,qdu l its avs σ]
 | .o d c::its,s::avs,[]=>rfl
 | .o d c::its,s::avs,i::σ=>by simp only[rdB,OC.get_with,qdu l its avs σ]
 | .u d c::its,s::avs,σ=>by simp only[rdB,OC.get_with,qdu l its avs σ]
theorem qgz (l:ChQ D):∀(its:List It) (x:inT D its),mkO (X.ch l) its x=mkO X its x
 |[],_=>rfl
 | .v d c::its,x=>qgz l its x.2
 | .u d c::its,x=>qgz l its x.2
 | .o d c::its,x=>by
  show OC.mk (X.ch l) c x.1 false::mkO (X.ch l) its x.2=OC.mk X c x.1 false::mkO X its x.2
  rw[qgz l its x.2]
  exact congrArg (fun q=>q::mkO X its x.2) (OC.mk_with l c x.1 false)
theorem qbN (l:ChQ D) {τ:Nat→Nat}:∀(its:List It) (x:inT D its),mkOr (X.ch l) τ its x=mkOr X τ its x
 |[],_=>rfl
 | .v d c::its,x=>qbN l its x.2
 | .u d c::its,x=>qbN l its x.2
 | .o d c::its,x=>by
  show OC.mkr (X.ch l) τ c x.1 false::mkOr (X.ch l) τ its x.2=OC.mkr X τ c x.1 false::mkOr X τ its x.2
  rw[qbN l its x.2]
  exact congrArg (fun q=>q::mkOr X τ its x.2) (OC.mkr_with l τ c x.1 false)
theorem qcG (l:ChQ D):∀(its:List It) (x:inT D its),mkE (X.ch l) its x=mkE X its x
 |[],_=>rfl
 | .v d c::its,x=>by
  show (d,Cl.mk (X.ch l) c x.1)::mkE (X.ch l) its x.2=(d,Cl.mk X c x.1)::mkE X its x.2
  rw[qcG l its x.2]
  exact congrArg (fun q=>(d,q)::mkE X its x.2) (Cl.mk_with l c x.1)
 | .u d c::its,x=>qcG l its x.2
 | .o d c::its,x=>qcG l its x.2
theorem qbT (l:ChQ D) {τ:Nat→Nat}:∀(its:List It) (x:inT D its) (j:Nat),qbi (X.ch l) τ its x j=qbi X τ its x j
 |[],_,_=>rfl
 | .v d c::its,x,j=>qbT l its x.2 j
 | .u d c::its,x,j=>by
  show (if Nat.beq d j=true then OC.mkr (X.ch l) τ c x.1 true else qbi (X.ch l) τ its x.2 j)=(if Nat.beq d j=true then OC.mkr X τ c x.1 true else qbi X τ its x.2 j)
  rw[qbT l its x.2 j]
  exact congrArg (fun q=>if Nat.beq d j=true then q else qbi X τ its x.2 j) (OC.mkr_with l τ c x.1 true)
 | .o d c::its,x,j=>qbT l its x.2 j
theorem qcc (l:ChQ D) (d:FD D) (F:d.F) (svs:List (SV D)) (O:List (Ob D)) {ρ:Type} (K:SV D→List (Ob D)→Option ρ):d.call (X.ch l) F svs O K=d.call X F svs O K:=by
 obtain ⟨f,np,ins,fx,rcv,rk,outs,ofx,res,flat⟩:=d
 unfold FD.call
 dsimp only
 simp only[qdu]
 cases rcv with
 |none=>simp only[qhV,qcG,qbN]
 |some p=>
  simp only[qhV,qcG,qbN,qbT,qmW,qb1]
theorem COk.cuts {f:Operand→Option Operand→Option Operand→Nat} (h:COk X):COk (X.cuts f):=h
theorem CallOk.cuts {f:Operand→Option Operand→Option Operand→Nat} {d:FD D} {F:d.F} (h:CallOk (X.cuts f) d F):CallOk X d F:=by
 intro svs O ρ K r z e m k vs args hM hL hc
 rw[←qcc ⟨X.F,f,X.C,X.W⟩] at hc
 exact h svs O K r args hM hL hc
def Ev.sub (X:Ev P D) (x:FE D):Ev P D:=X.ch ⟨fun f svs O=>if Nat.beq x.d.f f=true then false else X.F f svs O,X.U,fun f svs O _ K=>if Nat.beq x.d.f f=true then x.d.call X x.F svs O K else X.C f svs O K,X.W⟩
theorem COk.sub {x:FE D} (h:COk X) (hx:CallOk X x.d x.F):COk (X.sub x):=by
 intro f svs O ρ K r z e m k vs args hM hL hc
 have hc:(if Nat.beq x.d.f f=true then x.d.call X x.F svs O K else X.C f svs O K)=some r:=hc
 have hF:(X.sub x).F f svs O=if Nat.beq x.d.f f=true then false else X.F f svs O:=rfl
 rw[hF]
 split at hc
 ·rename_i hf
  rw[if_pos hf]
  have hf:=Nat.eq_of_beq_eq_true hf
  rw[←hf]
  exact (hx svs O K r args hM hL hc).mono fun v m' h=>⟨h.1,fun hh=>Bool.noConfusion hh,fun _=>h.2.2⟩
 ·rename_i hf
  rw[if_neg hf]
  exact h f svs O K r args hM hL hc
theorem CallOk.sub {x:FE D} {d:FD D} {F:d.F} (h:CallOk (X.sub x) d F):CallOk X d F:=by
 intro svs O ρ K r z e m k vs args hM hL hc
 unfold Ev.sub at h
 rw[←qcc ⟨fun f svs O=>if Nat.beq x.d.f f=true then false else X.F f svs O,X.U,fun f svs O _ K=>if Nat.beq x.d.f f=true then x.d.call X x.F svs O K else X.C f svs O K,X.W⟩] at hc
 exact h svs O K r args hM hL hc
def orI {α:Type} (a b:Option α):Option α:=match a with|some r=>some r|none=>b
theorem qsM {α:Type} {a b:Option α} {y:α} (h:orI a b=some y):a=some y∨b=some y:=by
 unfold orI at h
 split at h
 ·exact .inl h
 ·exact .inr h
theorem CallOk.or {d:FD D} {F F1 F2:d.F} (hr:d.rcv=none) (hF:∀r x y,F r x=some y→F1 r x=some y∨F2 r x=some y) (h1:CallOk X d F1) (h2:CallOk X d F2):CallOk X d F:=by
 intro svs O ρ K r z e m k vs args hM hL hc
 have key:d.call X F1 svs O K=some r∨d.call X F2 svs O K=some r:=by
  obtain ⟨f,np,ins,fx,rcv,rk,outs,ofx,rvs,flat⟩:=d
  unfold FD.call at hc⊢
  obtain ⟨hn,hc⟩:=ite_some hc
  rw[if_pos hn,if_pos hn]
  split at hc
  ·rename_i avs O1 hf
   obtain ⟨hx,hc⟩:=ite_some hc
   simp only[hf,if_pos hx]
   split at hc
   ·rename_i x hb
    simp only[hb]
    cases rcv with
    |none=>
     unfold qhV at hc⊢
     obtain ⟨y,hy,hc⟩:=bind_some hc
     rcases hF () x y hy with g|g
     ·left
      show Option.bind (F1 () x) _=some r
      rw[g];exact hc
     ·right
      show Option.bind (F2 () x) _=some r
      rw[g];exact hc
    |some p=>cases hr
   ·cases hc
  ·cases hc
 rcases key with hk|hk
 ·exact h1 svs O K r args hM hL hk
 ·exact h2 svs O K r args hM hL hk
theorem CallOk.up {l:List (FE D)} {d:FD D} {F:d.F} (h:CallOk X d F):CallOk (X.with l) d F:=by
 intro svs O ρ K r z e m k vs args hM hL hc
 have hc:d.call (X.ch ⟨qhW X l,X.U,qeN X l,X.W⟩) F svs O K=some r:=hc
 rw[qcc] at hc
 exact h svs O K r args hM hL hc
theorem qfz {f:Nat} {svs:List (SV D)} {K:SV D→List (Ob D)→Option ρ} {args:List Value} (hM:Mm X.G O z e m k vs) (hL:L2 (rel X.G z vs) svs args):∀{l:List (FE D)},(∀x∈l,CallOk X x.d x.F)→qeN X l f svs O K=some r→CallW P f args.toArray m fun v m'=>Nxt X O z e k vs K r v m'∧(qhW X l f svs O=true→m'=m)∧∃q,Chg m m' q∧TgtQ vs (qbr svs) q
 |[],_,hc=>by cases hc
 |x::l,h,hc=>by
  unfold qeN at hc
  unfold qhW
  split at hc
  ·rename_i hx
   rw[if_pos hx]
   simp only[Bool.and_eq_true] at hx
   have:=Nat.eq_of_beq_eq_true hx.1
   subst this
   exact h x List.mem_cons_self svs O K r args hM hL hc
  ·rename_i hx
   rw[if_neg hx]
   exact qfz hM hL (fun y hy=>h y (List.mem_cons_of_mem _ hy)) hc
theorem COk.of {l:List (FE D)} (h:∀x∈l,CallOk X x.d x.F):COk (X.with l):=by
 intro f svs O ρ K r z e m k vs args hM hL hc
 exact (qfz (X:=X) hM hL h hc).mono fun v m' hh=>⟨hh.1,hh.2.1,fun _=>hh.2.2⟩
theorem qlt {l:List (FE D)} {x:FE D} (h:CallOk X x.d x.F) (hl:∀y∈l,CallOk X y.d y.F):∀y∈x::l,CallOk X y.d y.F:=by
 intro y hy
 rcases List.mem_cons.1 hy with rfl|hy
 ·exact h
 ·exact hl y hy
end
end
end Go.AM
end
