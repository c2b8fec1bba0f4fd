/- Layer 7: patches are written, whatever the disk's power does: as a plain function. -/
import Derived.Test.YtcaaljlhljemoaaGreatP15jb
import Derived.Test.YtcaaljlhljemoaaGreatP15jd
import Derived.Test.YtcaaljlhljemoaaGreatP15jg
namespace Go.Moat
open Go.Mini
abbrev QP:=Nat×List UInt8×Nat
def Pat.q(p:Pat):QP:=(p.sec,p.b,p.t)
def wrQ(D:DskS)(p:QP):DskS:=z6u D (p.1:Int) p.2.1 (p.2.2:Int)
def wrE(D:DskS)(p:QP):Int:=writeE D (p.1:Int) p.2.1
def jwF:DskS→List QP→DskS×Int
 | D,[]=>(z68 D,powerE D)
 | D,p::l=>if wrE D p=0 then jwF (wrQ D p) l else(wrQ D p,wrE D p)
theorem zig(D:DskS):D.done≤(z45 D).done∧(z45 D).done≤D.done+1:=by
 unfold z45;split
 ·omega
 ·split
  ·dsimp only;omega
  ·dsimp only;omega
theorem zj5(D:DskS)(p:QP):(wrQ D p).secs.length=D.secs.length:=by
 unfold wrQ z6u;split
 ·split
  ·exact List.length_set
  ·rw[z48]
 ·rfl
theorem zpn(D:DskS)(p:QP):D.done≤(wrQ D p).done∧(wrQ D p).done≤D.done+1:=by
 have:=zig D
 unfold wrQ z6u;split
 ·split<;>exact this
 ·omega
theorem zmo(D:DskS)(p:QP):(wrQ D p).waits.length≤D.waits.length+1:=by
 unfold wrQ z6u;split
 ·split
  ·simp
  ·rw[z6t];omega
 ·omega
theorem zrl(D:DskS):(z68 D).secs=D.secs:=by
 unfold z68;split<;>exact z48
theorem zrm(D:DskS):D.done≤(z68 D).done∧(z68 D).done≤D.done+1:=by
 have:=zig D
 unfold z68;split<;>exact this
theorem zpo(D:DskS):(z68 D).waits.length≤D.waits.length:=by
 unfold z68;split
 ·simp
 ·rw[z6t];omega
theorem zpp:∀(l:List QP)(D:DskS),(jwF D l).1.secs.length=D.secs.length
 | [],D=>by unfold jwF;rw[zrl]
 | p::l,D=>by
  unfold jwF;split
  ·rw[zpp l,zj5]
  ·exact zj5 D p
theorem zpq:∀(l:List QP)(D:DskS),D.done≤(jwF D l).1.done∧(jwF D l).1.done≤D.done+l.length+1
 | [],D=>by have:=zrm D;unfold jwF;simp;omega
 | p::l,D=>by
  have h1:=zpn D p;have h2:=zpq l (wrQ D p);unfold jwF;rw[List.length_cons];split
  ·omega
  ·dsimp only;omega
theorem zmp:∀(l:List QP)(D:DskS),(jwF D l).1.waits.length≤D.waits.length+l.length
 | [],D=>by have:=zpo D;unfold jwF;simp;omega
 | p::l,D=>by
  have h1:=zmo D p;have h2:=zmp l (wrQ D p);unfold jwF;rw[List.length_cons];split
  ·omega
  ·dsimp only;omega
section
variable{N:Nat}{β:Type}{l:List HA}{S:β→HA}{d:Nat}{D:DskS}{m:M β}{T:HA}{g:Geo}
theorem zpr{j sq:Nat}{sl:Sl}{ps:List Pat}(hp:PatsIn T D.secs.length sl ps)(hn:ps.length<4000){X:DskS×Int} :
  ∀(K k:Nat)(D1:DskS),ps.length - k<K→k≤ps.length→jwF D1 ((ps.drop k).map Pat.q)=X→0≤D1.done→D1.done<4000000000000000000+k→D1.waits.length<300000000000+k →
  Tri (z00 [pts j (.cells (z3f d g sq) false),z1b d D1,T]) (z0l K (F_3d N (some ⟨j,0⟩) sl) (k:Int)) fun r=>exA fun D2:DskS=>pu ((r=.inl ()∧X=(z68 D2,powerE D2)∧0≤D2.done∧D2.done<4000000000000004000)∨(r=.inr X.2∧X.1=D2∧X.2≠0)) (z00 [pts j (.cells (z3f d g sq) false),z1b d D2,T]):=by
 have hlen:sl.len=ps.length:=by have:=hp.rd.1;rw[z0p z2h]at this;omega
 intro K;induction K with
 | zero=>intro k D1 h;omega
 | succ K ih=>
  intro k D1 h hk hX g1 g2 g3;rw[z18];generalize z0l K (F_3d N (some ⟨j,0⟩) sl)=go at ih ⊢;unfold F_3d;by_cases hkl:k<ps.length
  case neg=>
   obtain rfl:k=ps.length:=by omega
   rw[List.drop_length]at hX;exact z05 (by simp;omega) (z03 [0,0,0] fun q hq=>⟨D1,.inl ⟨rfl,hX.symm,g1,by omega⟩,hq⟩)
  refine z07 (by simp;omega) ?_;refine zm4 2 rfl hp hkl ?_;obtain⟨p1,p2,p3⟩:=hp.el _ (List.getElem_mem hkl);refine zcq 0 rfl rfl ?_;rw[List.drop_eq_getElem_cons hkl,List.map_cons]at hX;unfold jwF at hX;refine z02 [1,1] (zrz (T:=T) ((ps[k].sec:Nat):Int) ((ps[k].t:Nat):Int) p1 (by omega) (by omega) (by omega)) fun r10=>z04 fun h10=>z01 ?_;subst h10;have eD:z6u D1 ((ps[k].sec:Nat):Int) ps[k].b ((ps[k].t:Nat):Int)=wrQ D1 ps[k].q:=rfl;have eE:writeE D1 ((ps[k].sec:Nat):Int) ps[k].b=wrE D1 ps[k].q:=rfl;rw[eD,eE];dsimp only[sel,rem,nth,del,cat,upd];by_cases hE:wrE D1 ps[k].q=0
  ·rw[if_pos hE]at hX;refine z05 (by simp[hE]) ?_;rw[z0i (by omega) (by omega)];have h1:=zpn D1 ps[k].q;have h2:=zmo D1 ps[k].q;exact tri_last [2,0,0] (ih (k+1) _ (by omega) (by omega) hX (by omega) (by omega) (by omega))
  ·rw[if_neg hE]at hX;subst hX;exact z07 (by simp[hE]) (z03 [2,0,0] fun q hq=>⟨_,.inr ⟨rfl,rfl,hE⟩,hq⟩)
theorem zps{j sq:Nat}{sl:Sl}{ps:List Pat}(hp:PatsIn T D.secs.length sl ps)(h2:0≤D.done)(h3:D.done<4000000000000000000)(h4:D.waits.length<300000000000)(hn:ps.length<4000)(hN:5000<N) :
  Tri (z00 [pts j (.cells (z3f d g sq) false),z1b d D,T]) (F_17 N (some ⟨j,0⟩) sl) fun r=>pu (r=(jwF D (ps.map Pat.q)).2) (z00 [pts j (.cells (z3f d g sq) false),z1b d (jwF D (ps.map Pat.q)).1,T]):=by
 obtain⟨K,rfl⟩:∃K,N=K+1:=⟨N - 1,by omega⟩;unfold F_17;refine z02 [0,0,0] (zpr (N:=K+1) hp hn (K+1) 0 D (by omega) (by omega) rfl h2 (by omega) (by omega)) fun j11=>z1w fun D1=>z04 fun hj=>z01 ?_;rcases hj with⟨hj,hX,g1,g2⟩ | ⟨hj,hX,hne⟩
 ·subst hj;rw[List.drop_zero]at hX;rw[hX];dsimp only[sel,rem,nth,del,cat,upd];refine zcq 0 rfl rfl ?_;refine z02 [1] (zkv (D:=D1) g1 (by omega)) fun r17=>z04 fun h17=>z01 ?_;subst h17;dsimp only[sel,rem,nth,del,cat,upd];by_cases hE:powerE D1=0
  ·exact z05 (by simp[hE]) (z03 [1,0,0] fun q hq=>⟨hE.symm,hq⟩)
  ·refine z07 (by simp[hE]) ?_;rw[z18];exact z03 [1,0,0] fun q hq=>⟨rfl,hq⟩
 ·subst hj;rw[List.drop_zero]at hX hne ⊢;subst hX;dsimp only[sel,rem,nth,del,cat,upd];rw[z18];exact z03 [0,0,0] fun q hq=>⟨rfl,hq⟩
def z7o:Nat→List QP→List (List UInt8×Nat)
 | 0,_=>[]
 | n+1,ps=>if ps=[]then[]else(z1y (z3t 2 (((ps.take 15).map fun p=>[p.1,p.2.2]).flatten)) 64,0)::(ps.take 15).map (fun p=>(p.2.1,p.2.2))++z7o n (ps.drop 15)
def zam(ps:List QP):List QP:=(z7o (ps.length+1) ps).zipIdx.map fun x=>(2+x.2,x.1.1,x.1.2)
theorem zmq:∀(n m:Nat)(ps:List QP),ps.length<n→n≤m→z7o m ps=z7o n ps
 | 0,_,_,h,_=>by omega
 | n+1,0,ps,_,h=>by omega
 | n+1,m+1,ps,h,hm=>by
  unfold z7o;by_cases e:ps=[]
  ·rw[if_pos e,if_pos e]
  ·rw[if_neg e,if_neg e];have hl:=List.length_pos_iff.2 e;rw[zmq n m (ps.drop 15) (by rw[List.length_drop];omega) (by omega)]
theorem zf0:∀(n:Nat)(ps:List QP),ps.length<n→(z7o n ps).length=ps.length+(ps.length+14) / 15
 | 0,_,h=>by omega
 | n+1,ps,h=>by
  unfold z7o;by_cases e:ps=[]
  ·rw[if_pos e,e];rfl
  ·rw[if_neg e];have hl:=List.length_pos_iff.2 e;have ih:=zf0 n (ps.drop 15) (by rw[List.length_drop];omega);rw[List.length_append,List.length_cons,List.length_map,ih,List.length_take,List.length_drop];omega
theorem z14u(ps:List Pat):((ps.map Pat.q).map fun p=>[p.1,p.2.2]).flatten=z6r ps:=by
 unfold z6r;rw[List.map_map];rfl
structure LayG(ps:List Pat)(at':Nat)(out:List Pat)(L:List (Sl×List UInt8)):Prop where
 el:∀p∈out,p.b.length=64∧(((p.s,p.b)∈L∧p.s.len=64)∨∃p'∈ps,p.s=p'.s∧p.b=p'.b)
 eq:out.map (fun p=>(p.b,p.t))++z7o (ps.length+1) ((ps.map Pat.q).drop at')=z7o (ps.length+1) (ps.map Pat.q)
theorem zua{ps:List Pat}{n:Nat}{sl:Sl}(h:PatsOk T n sl ps)(hl:ps.length≤3000)(hN:5000<N):∀(K at':Nat)(o:Sl)(out:List Pat)(L:List (Sl×List UInt8)),ps.length+15 - at'<K→at'%15=0→at'≤ps.length+14→out.length=min at' ps.length+at' / 15→LayG ps at' out L →
  Tri (z00 [z08 o 3 (z1j z2n out),z1r L,T]) (z0l K (F_3i N sl) (o,(at':Int))) fun r=>exA fun x:List Pat×List (Sl×List UInt8)=>pu ((∀p∈x.1,p.b.length=64∧(((p.s,p.b)∈x.2∧p.s.len=64)∨∃p'∈ps,p.s=p'.s∧p.b=p'.b))∧x.1.map (fun p=>(p.b,p.t))=z7o (ps.length+1) (ps.map Pat.q)) (z00 [z08 r 3 (z1j z2n x.1),z1r x.2,T]):=by
 have hlen:sl.len=ps.length:=by have:=h.h.rd.1;rw[z0p z2h]at this;omega
 have hmost:most=70368744177664:=rfl;intro K;induction K with
 | zero=>intro at' o out L h;omega
 | succ K ih=>
  intro at' o out L hK ha ha2 hil hI;rw[z18];generalize z0l K (F_3i N sl)=go at ih ⊢;unfold F_3i;by_cases hlt:at'<ps.length
  case neg=>
   refine z05 (by simp;omega) (z03 [0,0,0] fun q hq=>⟨(out,L),⟨hI.el,?_⟩,hq⟩);have:=hI.eq
   rw[List.drop_of_length_le (by rw[List.length_map];omega)]at this;rw[←this];simp[z7o]
  refine z07 (by simp;omega) ?_;obtain⟨hi,hhi⟩:∃hi,hi=min ps.length (at'+15):=⟨_,rfl⟩;have e1:(if(sl.len:Int)<wr .i64 ((at':Int)+15)then(sl.len:Int)else wr .i64 ((at':Int)+15))=((hi:Nat):Int):=by
   rw[z0i (by omega) (by omega)];split<;>omega
  dsimp only;rw[e1];refine tri_slc (by omega) (by omega) (by omega) ?_;rw[Int.toNat_natCast,Int.toNat_natCast];have hp:PatsOk T n (z3q 3 sl at' hi) ((ps.drop at').take (hi - at')):=by
   refine⟨⟨?_,fun p hp=>h.h.el p (List.mem_of_mem_drop (List.mem_of_mem_take hp))⟩,fun p hp=>h.tag p (List.mem_of_mem_drop (List.mem_of_mem_take hp)),h.n⟩;have:=h.h.rd.sub (lo:=at') (hi:=hi) (by omega) (by omega)
   rw[catL_drop' z2h _ _ (by omega),catL_take' z2h _ _ (by rw[List.length_drop];omega)]at this;exact this
  have hsl:(z3q 3 sl at' hi).len=hi - at':=rfl;generalize (z3q 3 sl at' hi)=l5 at hp hsl;have hpl:((ps.drop at').take (hi - at')).length=hi - at':=by rw[List.length_take,List.length_drop];omega
  have hsub:∀p∈(ps.drop at').take (hi - at'),p∈ps:=fun p hp=>List.mem_of_mem_drop (List.mem_of_mem_take hp);have ht15:(ps.drop at').take (hi - at')=(ps.drop at').take 15:=by
   by_cases hc:at'+15≤ps.length
   ·rw[show hi - at'=15 by omega]
   ·rw[List.take_of_length_le (by rw[List.length_drop];omega),List.take_of_length_le (by rw[List.length_drop];omega)]
  have hlay:z7o (ps.length+1) ((ps.map Pat.q).drop at')=(z1y (z3t 2 (z6r ((ps.drop at').take 15))) 64,0)::((ps.drop at').take 15).map (fun p=>(p.b,p.t))++z7o (ps.length+1) ((ps.map Pat.q).drop (at'+15)):=by
   rw[show z7o (ps.length+1) ((ps.map Pat.q).drop at')=if(ps.map Pat.q).drop at'=[]then[]else(z1y (z3t 2 (((((ps.map Pat.q).drop at').take 15).map fun p=>[p.1,p.2.2]).flatten)) 64,0)::(((ps.map Pat.q).drop at').take 15).map (fun p=>(p.2.1,p.2.2))++z7o ps.length (((ps.map Pat.q).drop at').drop 15)from rfl];rw[if_neg (by rw[List.drop_eq_nil_iff,List.length_map];omega),List.drop_drop,←List.map_drop,←List.map_take,z14u,List.map_map,←List.map_drop,zmq ps.length (ps.length+1) _ (by rw[List.length_map,List.length_drop];omega) (by omega)];rfl
  rw[←ht15]at hlay;have heq:=hI.eq;rw[hlay]at heq;generalize (ps.drop at').take (hi - at')=part at hp hpl hsub heq;refine z02 [2] (Q:=fun r=>z00 [z08 r 1 (z1u (z6r part)),T]) ((Tri.pre (zub hp (by omega) N 0 ⟨none,0⟩ (by omega) (by omega)) fun q hq=>z2z (fun q h =>.nil 1 h) hq)) fun j12=>z01 ?_;dsimp only[sel,rem,nth,del,cat,upd];refine z0c 0 rfl fun l12=>?_;have hsm:∀x∈z6r part,x<256^2:=by
   intro x hx;unfold z6r at hx;obtain⟨y,hy,hxy⟩:=List.mem_flatten.1 hx;obtain⟨p,hpp,rfl⟩:=List.mem_map.1 hy;have h1:=(hp.h.el p hpp).2.2;have h2:=hp.tag p hpp;have h3:=hp.n;have:(256:Nat)^2=65536:=rfl
   simp at hxy;rcases hxy with rfl | rfl<;>omega
  have hpn:=zpv part;refine z02 [0] (z96 (size:=2) (ns:=z6r part) (by omega) (by omega) (z0k l12) hsm (by omega) hN) fun r13=>z04 fun h13=>z01 ?_;dsimp only[sel,rem,nth,del,cat,upd];refine z0c 0 rfl fun l13=>?_;refine z02 [0] (zd7 (n:=64) (z0k l13) (by rw[lays_len,hpn];omega) (by omega)) fun r14=>z04 fun h14=>z01 ?_;dsimp only[sel,rem,nth,del,cat,upd];have hf64:(z1y (z3t 2 (z6r part)) 64).length=64:=filled_len (by rw[lays_len,hpn];omega);generalize z1y (z3t 2 (z6r part)) 64=hb at hf64 heq;refine z0c 0 rfl fun l14=>?_;rw[z0e,hf64]at l14;refine z0z fun q15=>?_;refine z0c 5 rfl fun lo=>?_;rw[z0p z2h]at lo;refine z02 [5,0] (z2y (s:=o) (by':=40) (T:=pts q15 (.cells (z2n ⟨0,r14.1,hb,0⟩) false)) (rd_pts0 (by simp[z2n])) (by omega) (zda _) (by dsimp only;omega)) fun l16=>z01 ?_;dsimp only[sel,rem,nth,del,cat,upd];rw[show z1j z2n out++z2n ⟨0,r14.1,hb,0⟩=z1j z2n (out++[⟨0,r14.1,hb,0⟩]) by rw[z87,zff]];refine z0c 0 rfl fun lo2=>?_;rw[z0p z2h,List.length_append,List.length_singleton]at lo2;refine z02 [0,4] (z2y (s:=l16) (by':=40) hp.h.rd (by omega) (z9k zda _) (by omega)) fun l17=>z01 ?_;dsimp only[sel,rem,nth,del,cat,upd];rw[←z87];rw[z0i (n:=(at':Int)+15) (by omega) (by omega)];refine tri_last [0,2,4,0] (Tri.pre (ih (at'+15) l17 (out++[(⟨0,r14.1,hb,0⟩:Pat)]++part) ((r14.1,hb)::L) (by omega) (by omega) (by omega) ?_ ⟨fun p hp'=>?_,?_⟩) fun q(hq:z00 [z08 l17 3 (z1j z2n (out++[(⟨0,r14.1,hb,0⟩:Pat)]++part)),z08 r14.1 1 (bytesOf hb),z1r L,T] q)=>z1d (fun q hq=>zmw hq) hq)
  ·rw[List.length_append,List.length_append,List.length_singleton,hpl,hil];omega
  ·rcases List.mem_append.1 hp' with hp' | hp'
   ·rcases List.mem_append.1 hp' with hp' | hp'
    ·obtain⟨h1,h2⟩:=hI.el p hp';refine⟨h1,?_⟩;rcases h2 with⟨h2,h3⟩ | h2
     ·exact .inl ⟨List.mem_cons_of_mem _ h2,h3⟩
     ·exact .inr h2
    ·have:=List.mem_singleton.1 hp'
     subst this;exact⟨hf64,.inl ⟨List.mem_cons_self ..,by dsimp only;omega⟩⟩
   ·exact⟨(hp.h.el p hp').2.1,.inr ⟨p,hsub p hp',rfl,rfl⟩⟩
  ·rw[←heq];simp[List.append_assoc]
end
end Go.Moat

/- Layer 7: Commit, whatever the disk's power does: as a plain function. -/
namespace Go.Moat
open Go.Mini
def z55:DskS→List (List QP)→DskS×Int
 | D,[]=>(D,0)
 | D,l::r=>if(jwF D l).2=0 then z55 (jwF D l).1 r else jwF D l
def z3y(ps:List QP)(seq:Nat):List (List QP):=[zam ps,[(1,z4m seq ps.length,0)],ps,[(1,z4m seq 0,0)]]
def z2o(D:DskS)(ps:List QP)(sq:Nat):(DskS×Nat)×Int:=
 if ps=[]then((D,sq),0)else
  let x:=z55 D (z3y ps (sq+1))
  ((x.1,if x.2=0 then sq+1 else sq),x.2)
section
variable{N:Nat}{β:Type}{l:List HA}{S:β→HA}{d:Nat}{D:DskS}{m:M β}{T:HA}{g:Geo}
theorem zv2{j sq:Nat}{o:Sl}{out:List Pat}(hl:out.length≤5000):∀(K k:Nat)(ok:List Pat),out.length - k<K→k≤out.length→ok.length=out.length→(∀(i:Nat) p,ok[i]? = some p→∃p',out[i]? = some p'∧(p.s=p'.s∧p.b=p'.b∧p.t=p'.t)∧(i<k→p.sec=2+i)) →
  Tri (z00 [z08 o 3 (z1j z2n ok),pts j (.cells (z3f d g sq) false)]) (z0l K (F_3j N (some ⟨j,0⟩) o) (k:Int)) fun _=>exA fun ok:List Pat=>pu (ok.length=out.length∧∀(i:Nat) p,ok[i]? = some p→∃p',out[i]? = some p'∧(p.s=p'.s∧p.b=p'.b∧p.t=p'.t)∧p.sec=2+i) (z00 [z08 o 3 (z1j z2n ok),pts j (.cells (z3f d g sq) false)]):=by
 intro K;induction K with
 | zero=>intro k ok h;omega
 | succ K ih=>
  intro k ok hK hk hlen hin;rw[z18];generalize z0l K (F_3j N (some ⟨j,0⟩) o)=go at ih ⊢;unfold F_3j;refine z0c 0 rfl fun lo=>?_;rw[z0p z2h]at lo;by_cases hkl:k<out.length
  case neg=>
   refine z05 (by simp;omega) (z03 [0,0] fun q hq=>⟨ok,⟨hlen,fun i p hp=>?_⟩,hq⟩);obtain⟨p',h1,h2,h4⟩:=hin i p hp;exact⟨p',h1,h2,h4 (by have:=(List.getElem?_eq_some_iff.1 h1).1;omega)⟩
  refine z07 (by simp;omega) ?_;refine z85 1 rfl (v:=1) rfl ?_;have hkk:k<ok.length:=by omega
  have e2:wr .i64 (wr .i64 ((1:Int)+1)+(k:Int))=((2+k:Nat):Int):=by
   rw[z0i (n:=(1:Int)+1) (by omega) (by omega),z0i (by omega) (by omega)];omega
  rw[e2];refine z6w 0 rfl (fun _ h0=>?_) fun b ln h0 hl9=>?_
  ·have:=congrArg List.length h0
   rw[z0p z2h]at this;simp at this;omega
  subst h0;dsimp only at lo;refine z1x (by omega) (z06 (z1v 0 rfl (by rw[z0p z2h];omega) rfl ?_));rw[show 0+k * 3+0=k * 3 by omega,zpu ok hkk];refine z86 0 (B:=z08 ⟨some ⟨b,0⟩,ln⟩ 3 (z1j z2n (ok.set k {ok[k]with sec:=2+k}))) rfl (fun q hq =>.mk (by rw[z0p z2h,List.length_set];omega) hq) ?_;rw[z0i (by omega) (by omega)];refine tri_last [0,0] (ih (k+1) _ (by omega) (by omega) (by rw[List.length_set];exact hlen) fun i p hp=>?_);rw[List.getElem?_set]at hp;by_cases e:k=i
  ·subst e;rw[if_pos rfl,if_pos hkk]at hp;cases hp;obtain⟨p',h1,h2,_⟩:=hin k ok[k] (List.getElem?_eq_getElem hkk);exact⟨p',h1,h2,fun _=>rfl⟩
  ·rw[if_neg e]at hp;obtain⟨p',h1,h2,h4⟩:=hin i p hp;exact⟨p',h1,h2,fun _=>h4 (by omega)⟩
structure LaidG(ps out:List Pat)(L:List (Sl×List UInt8)):Prop where
 q:out.map Pat.q=zam (ps.map Pat.q)
 el:∀p∈out,p.b.length=64∧(((p.s,p.b)∈L∧p.s.len=64)∨∃p'∈ps,p.s=p'.s∧p.b=p'.b)
theorem zqv(ps:List QP):(zam ps).length=ps.length+(ps.length+14) / 15:=by
 unfold zam;rw[List.length_map,List.length_zipIdx,zf0 _ _ (by omega)]
theorem zqw{ps:List QP}{p:QP}(h:p∈zam ps):2≤p.1∧p.1<2+(ps.length+(ps.length+14) / 15):=by
 unfold zam at h;obtain⟨x,h1,rfl⟩:=List.mem_map.1 h;obtain⟨i,hi,e⟩:=List.mem_iff_getElem.1 h1;rw[List.length_zipIdx,zf0 _ _ (by omega)]at hi;rw[List.getElem_zipIdx]at e;subst e;dsimp only;omega
theorem zv3{j sq:Nat}{ps:List Pat}{n:Nat}{sl:Sl}(h:PatsOk T n sl ps)(hl:ps.length≤3000)(hN:5000<N) :
  Tri (z00 [pts j (.cells (z3f d g sq) false),T]) (F_2w N (some ⟨j,0⟩) sl) fun r=>exA fun x:List Pat×List (Sl×List UInt8)=>pu (LaidG ps x.1 x.2) (z00 [z08 r 3 (z1j z2n x.1),z1r x.2,pts j (.cells (z3f d g sq) false),T]):=by
 unfold F_2w;refine z02 [1] (Tri.pre (zua h hl hN N 0 ⟨none,0⟩ [] [] (by omega) (by omega) (by omega) (by simp) ⟨fun p hp=>(by cases hp),(by simp)⟩) fun q hq=>z2z (fun q h =>.nil 3 h) (z2z (A:=z1r []) (fun q h=>h) hq)) fun j18=>z1w fun x=>z04 fun hx=>z01 ?_;obtain⟨out,L⟩:=x;obtain⟨hx2,hx1⟩:=hx;have hx1:out.map (fun p=>(p.b,p.t))=z7o (ps.length+1) (ps.map Pat.q):=hx1;have hx2:∀p∈out,p.b.length=64∧(((p.s,p.b)∈L∧p.s.len=64)∨∃p'∈ps,p.s=p'.s∧p.b=p'.b):=hx2;have hol:out.length=ps.length+(ps.length+14) / 15:=by
  have:=congrArg List.length hx1
  rw[List.length_map,zf0 _ _ (by rw[List.length_map];omega),List.length_map]at this;exact this
 dsimp only[sel,rem,nth,del,cat,upd];refine z02 [0,2] (zv2 (out:=out) (by omega) N 0 out (by omega) (by omega) rfl fun i p hp=>⟨p,hp,⟨rfl,rfl,rfl⟩,fun h=>by omega⟩) fun _=>z1w fun ok=>z04 fun hk=>z01 ?_;obtain⟨k1,k2⟩:=hk;dsimp only[sel,rem,nth,del,cat,upd];refine z03 [0,1,0,0] fun q hq=>⟨(ok,L),⟨?_,fun p hp=>?_⟩,hq⟩
 ·show ok.map Pat.q=zam (ps.map Pat.q);unfold zam;rw[List.length_map,←hx1];refine List.ext_getElem? fun i=>?_;rw[List.getElem?_map,List.getElem?_map,List.getElem?_zipIdx,List.getElem?_map];cases hi:ok[i]? with
  | none=>
   have:out[i]? = none:=by
    rw[List.getElem?_eq_none_iff]at hi ⊢;omega
   rw[this];rfl
  | some p=>
   obtain⟨p',h1,⟨h2,h3,h4⟩,h5⟩:=k2 i p hi;rw[h1];show some (p.sec,p.b,p.t)=some (2+(0+i),p'.b,p'.t);rw[h5,h3,h4,Nat.zero_add]
 ·obtain⟨i,hi⟩:=List.getElem?_of_mem hp;obtain⟨p',h1,⟨h2,h3,_⟩,_⟩:=k2 i p hi;rw[h2,h3];exact hx2 p' (List.mem_of_getElem? h1)
theorem zqx{j sq:Nat}{q:Option MA}{ls:List (Sl×List Pat)}(h4:ls.length=4)(hq:RdC T ⟨q,4⟩ 1 (lsC ls))(hp:∀x∈ls,PatsIn T D.secs.length x.1 x.2∧x.2.length≤3500)(hN:5000<N){X:DskS×Int} :
  ∀(K k:Nat)(D1:DskS),4 - k<K→k≤4→z55 D1 ((ls.drop k).map fun x=>x.2.map Pat.q)=X→D1.secs.length=D.secs.length→0≤D1.done→D1.done<3000000000000000000+k * 4000→D1.waits.length<200000000000+k * 4000 →
  Tri (z00 [pts j (.cells (z3f d g sq) false),z1b d D1,T]) (z0l K (F_3l N (some ⟨j,0⟩) q) (k:Int)) fun r=>pu ((r=.inl ()∧X.2=0)∨(r=.inr X.2∧X.2≠0)) (z00 [pts j (.cells (z3f d g sq) false),z1b d X.1,T]):=by
 intro K;induction K with
 | zero=>intro k D1 h;omega
 | succ K ih=>
  intro k D1 hK hk hX g0 g1 g2 g3;rw[z18];generalize z0l K (F_3l N (some ⟨j,0⟩) q)=go at ih ⊢;unfold F_3l;by_cases hkl:k<4
  case neg=>
   obtain rfl:k=4:=by omega
   rw[List.drop_of_length_le (by omega)]at hX;subst hX;exact z05 (by simp) (z03 [0,0,0] fun q hq=>⟨.inl ⟨rfl,rfl⟩,hq⟩)
  have hkk:k<ls.length:=by omega
  refine z07 (by simp;omega) ?_;refine zkz 2 rfl hq (i:=k) (by unfold lsC;rw[List.getElem?_map,List.getElem?_eq_getElem hkk];rfl) ?_;obtain⟨p1,p2⟩:=hp _ (List.getElem_mem hkk);rw[List.drop_eq_getElem_cons hkk,List.map_cons]at hX;unfold z55 at hX;refine z02 [0,0,0] (zps (D:=D1) (sl:=ls[k].1) (ps:=ls[k].2) (by rw[g0];exact p1) g1 (by omega) (by omega) (by omega) hN) fun r25=>z04 fun h25=>z01 ?_;subst h25;dsimp only[sel,rem,nth,del,cat,upd];have hd:=zpq (ls[k].2.map Pat.q) D1;have hw:=zmp (ls[k].2.map Pat.q) D1;rw[List.length_map]at hd hw;by_cases hE:(jwF D1 (ls[k].2.map Pat.q)).2=0
  ·rw[if_pos hE]at hX;refine z05 (by simp[hE]) ?_;rw[z0i (by omega) (by omega)];exact tri_last [0,0,0] (ih (k+1) _ (by omega) (by omega) hX (by rw[zpp];exact g0) (by omega) (by omega) (by omega))
  ·rw[if_neg hE]at hX;subst hX;exact z07 (by simp[hE]) (z03 [0,0,0] fun q hq=>⟨.inr ⟨rfl,hE⟩,hq⟩)
theorem zqy(hg:g.ok){j sq:Nat}{sl:Sl}{ps:List Pat}(hp:PatsOk T D.secs.length sl ps)(ho:∀p∈ps,1+g.J≤p.sec)(hroom:ps.length≤z4n g.J)(hlen:1+g.J≤D.secs.length)(h2:0≤D.done)(h3:D.done<3000000000000000000)(hw:D.waits.length<200000000000)(hsq:sq<9000000000000000000)(hN:5000<N) :
  Tri (z00 [pts j (.cells (z3f d g sq) false),z1b d D,T]) (F_2x N (some ⟨j,0⟩) sl) fun r=>pu (r=(z2o D (ps.map Pat.q) sq).2) (z00 [pts j (.cells (z3f d g (z2o D (ps.map Pat.q) sq).1.2) false),z1b d (z2o D (ps.map Pat.q) sq).1.1,T]):=by
 have hJ:=hg.j2;have hJ1:=hg.j1;have hln:sl.len=ps.length:=by have:=hp.h.rd.1;rw[z0p z2h]at this;omega
 have hr2:z4n g.J≤g.J:=by unfold z4n;omega
 unfold F_2x;by_cases hne:0<ps.length
 case neg=>
  have hz:ps=[]:=List.length_eq_zero_iff.1 (by omega);subst hz;exact z05 (by simp) (z07 (by simp at hln ⊢;omega) (z03 [0,0,0] fun q hq=>⟨rfl,hq⟩))
 refine z05 (by simp) (z05 (by simp;omega) ?_);refine z02 [0] (zgu (sq:=sq) hg) fun r3=>z04 fun h3'=>z01 ?_;subst h3';dsimp only[sel,rem,nth,del,cat,upd];refine z05 (by simp;omega) ?_;refine z02 [0,0,0] (zye (n:=0) hp.h ho hJ hp.n (by omega) N 0 (by omega) (by omega)) fun j9=>z04 fun hj=>z01 ?_;subst hj;dsimp only[sel,rem,nth,del,cat,upd];refine z0m (z06 (z2d 0 rfl rfl ?_));have esq:wr .u64 ((sq:Int)+1)=((sq+1:Nat):Int):=by
  rw[z6a (by omega) (by omega)];omega
 rw[esq];refine z05 (by simp;omega) ?_;refine z02 [0,1] (zv3 (d:=d) (g:=g) (j:=j) (sq:=sq) hp (by omega) hN) fun r15=>z1w fun x=>z04 fun hL=>z01 ?_;obtain⟨out,L⟩:=x;have hL:LaidG ps out L:=hL;dsimp only[sel,rem,nth,del,cat,upd];refine z02 [2] (zgt (d:=d) (g:=g) (j:=j) (sq:=sq) (seq:=sq+1) (cnt:=ps.length) (by omega) (by omega) hN |> fun t=>by rw[hln];exact t) fun r16=>z04 fun h16=>z01 ?_;obtain⟨a1,a2⟩:=h16;rw[a1,a2];dsimp only[sel,rem,nth,del,cat,upd];refine z0z fun q17=>?_;refine z02 [2] (zgt (d:=d) (g:=g) (j:=j) (sq:=sq) (seq:=sq+1) (cnt:=0) (by omega) (by omega) hN) fun r18=>z04 fun h18=>z01 ?_;obtain⟨b1,b2⟩:=h18;rw[b1,b2];dsimp only[sel,rem,nth,del,cat,upd];refine z0z fun q19=>?_;refine z0z fun q20=>?_;refine z0c 2 rfl fun lh0=>?_;refine z0c 5 rfl fun lh1=>?_;refine z0c 6 rfl fun lo=>?_;rw[z0e,z71]at lh0 lh1;rw[z0p z2h]at lo;have hol:out.length=ps.length+(ps.length+14) / 15:=by
  have:=congrArg List.length hL.q
  rw[List.length_map,zqv,List.length_map]at this;exact this
 have hbound:ps.length+(ps.length+14) / 15≤g.J - 1:=by unfold z4n at hroom;omega
 obtain⟨P1,hP1⟩:∃P:Pat,P=⟨1,r16.2.1,z4m (sq+1) ps.length,0⟩:=⟨_,rfl⟩;obtain⟨P0,hP0⟩:∃P:Pat,P=⟨1,r18.2.1,z4m (sq+1) 0,0⟩:=⟨_,rfl⟩;refine z8b [0,0,0,1,1,1,1,1] ?_;dsimp only[sel,rem,nth,del,cat,upd];generalize hls:[(r15,out),(⟨some ⟨q17,0⟩,1⟩,[P1]),(sl,ps),(⟨some ⟨q19,0⟩,1⟩,[P0])]=ls;have hls4:ls.length=4:=by rw[←hls];rfl
 have hq:RdC (z00 [pts q20 (.cells [MV.sl r15.p r15.len 3,MV.sl (some ⟨q17,0⟩) 1 3,MV.sl sl.p sl.len 3,MV.sl (some ⟨q19,0⟩) 1 3] false),pts q19 (.cells [MV.int .i64 1,MV.sl r18.2.1.p r18.2.1.len 1,MV.int .u16 0] false),z08 r18.2.1 1 (bytesOf (z4m (sq+1) 0)),pts q17 (.cells [MV.int .i64 1,MV.sl r16.2.1.p r16.2.1.len 1,MV.int .u16 0] false),z08 r16.2.1 1 (bytesOf (z4m (sq+1) ps.length)),z08 r15 3 (z1j z2n out),z1r L,T]) ⟨some ⟨q20,0⟩,4⟩ 1 (lsC ls):=by
  rw[←hls];exact RdC.at 0 rfl (rd_pts0 (by simp))
 have hpp:∀x∈ls,PatsIn (z00 [pts q20 (.cells [MV.sl r15.p r15.len 3,MV.sl (some ⟨q17,0⟩) 1 3,MV.sl sl.p sl.len 3,MV.sl (some ⟨q19,0⟩) 1 3] false),pts q19 (.cells [MV.int .i64 1,MV.sl r18.2.1.p r18.2.1.len 1,MV.int .u16 0] false),z08 r18.2.1 1 (bytesOf (z4m (sq+1) 0)),pts q17 (.cells [MV.int .i64 1,MV.sl r16.2.1.p r16.2.1.len 1,MV.int .u16 0] false),z08 r16.2.1 1 (bytesOf (z4m (sq+1) ps.length)),z08 r15 3 (z1j z2n out),z1r L,T]) D.secs.length x.1 x.2∧x.2.length≤3500:=by
  intro x hx;rw[←hls]at hx;simp only[List.mem_cons,List.not_mem_nil,or_false]at hx;rcases hx with rfl | rfl | rfl | rfl
  ·refine⟨⟨RdC.at 5 rfl (z0k (by rw[z0p z2h];omega)),fun p hp'=>?_⟩,by dsimp only;omega⟩;obtain⟨k2,k3⟩:=hL.el p hp';have hs:p.q∈zam (ps.map Pat.q):=by rw[←hL.q];exact List.mem_map_of_mem hp'
   have hs:=zqw hs;rw[List.length_map]at hs;have hs:p.sec<2+(ps.length+(ps.length+14) / 15):=hs.2;refine⟨?_,k2,by omega⟩;rcases k3 with⟨k3,k4⟩ | ⟨p',k3,k4,k5⟩
   ·exact RdC.at 6 rfl (zcb k3 (by omega))
   ·rw[k4,k5];exact RdC.at 7 rfl (hp.h.el p' k3).1
  ·refine⟨⟨RdC.at 3 rfl (by rw[hP1];exact rd_pts0 (by simp[z1j,z2n])),fun p hp'=>?_⟩,by simp⟩;rw[List.mem_singleton.1 hp',hP1];exact⟨RdC.at 4 rfl (z0k (by rw[z0e,z71];exact lh1)),z71 _ _,by dsimp only;omega⟩
  ·exact⟨⟨RdC.at 7 rfl hp.h.rd,fun p hp'=>⟨RdC.at 7 rfl (hp.h.el p hp').1,(hp.h.el p hp').2⟩⟩,by dsimp only;omega⟩
  ·refine⟨⟨RdC.at 1 rfl (by rw[hP0];exact rd_pts0 (by simp[z1j,z2n])),fun p hp'=>?_⟩,by simp⟩;rw[List.mem_singleton.1 hp',hP0];exact⟨RdC.at 2 rfl (z0k (by rw[z0e,z71];exact lh0)),z71 _ _,by dsimp only;omega⟩
 have ecp:(ls.drop 0).map (fun x=>x.2.map Pat.q)=z3y (ps.map Pat.q) (sq+1):=by
  rw[←hls];unfold z3y;rw[←hL.q,hP1,hP0,List.length_map];rfl
 have ecf:z2o D (ps.map Pat.q) sq=((( z55 D (z3y (ps.map Pat.q) (sq+1))).1,if(z55 D (z3y (ps.map Pat.q) (sq+1))).2=0 then sq+1 else sq),(z55 D (z3y (ps.map Pat.q) (sq+1))).2):=by
  unfold z2o;rw[if_neg (by intro h;have:=congrArg List.length h;rw[List.length_map]at this;simp at this;subst this;simp at hne)]
 rw[ecf];refine z02 [1,1,0] (zqx (sq:=sq) hls4 hq hpp hN N 0 D (by omega) (by omega) (congrArg (z55 D) ecp) rfl h2 (by omega) (by omega)) fun j26=>z04 fun hD=>z01 ?_;generalize z55 D (z3y (ps.map Pat.q) (sq+1))=X at hD ⊢;dsimp only[sel,rem,nth,del,cat,upd];rcases hD with⟨hj,hX⟩ | ⟨hj,hX⟩
 ·subst hj;refine z0m (z06 (z1v 0 rfl (by simp[z3f]) rfl ?_));refine z5l 2 rfl ?_;dsimp only[sel,rem,nth,del,cat,upd];rw[if_pos hX];exact z03 [8,8,7] fun q hq=>⟨hX.symm,hq⟩
 ·subst hj;refine z5l 2 rfl ?_;dsimp only[sel,rem,nth,del,cat,upd];rw[if_neg hX];exact z03 [8,8,7] fun q hq=>⟨rfl,hq⟩
end
end Go.Moat

/- Layer 15: Sync and Begin, whatever the disk's power does: as plain functions. -/
namespace Go.Moat
open Go.Mini
def mQ(g:Geo)(B sf:List (List UInt8)):List QP:=((List.range B.length).filter fun i => !decide (B[i]?.getD []=sf[i]?.getD [])).map fun i=>(g.lab+i,B[i]?.getD [],0)
def dQ(g:Geo)(L:List (Int×(List UInt8×Nat))):List QP:=(zba (L.map (·.1))).map fun k=>match z3o L k with
 | some x=>((g.blk+k).toNat,x.1,x.2)
 | none=>(0,[],0)
def psQ(g:Geo)(V:VolS):List QP:=mQ g (z1z V.n.m) V.safe++dQ g V.n.dirty
def z3d(g:Geo)(V:VolS):VolS×Int:=
 if V.dead=true then(V,6)else
  let x:=z2o V.disk (psQ g V) V.seq
  if x.2=0 then(⟨⟨V.n.m,[]⟩,x.1.1,x.1.2,z1z V.n.m,none,false⟩,0)else({V with disk:=x.1.1,seq:=x.1.2,dead:=decide (x.2=6)},x.2)
def z8w(g:Geo)(V:VolS):VolS×Int:=
 if V.tight g=true then
  let x:=z3d g V
  if x.2=0 then({x.1 with before:=some x.1.n},0)else x
 else({V with before:=some V.n},0)
structure SyncG(g:Geo)(V:VolS):Prop where
 inv:Inv g V.n.m
 len:g.all≤V.disk.secs.length
 n:V.disk.secs.length≤4096
 safe:V.safe.length=g.M
 key:∀e∈V.n.dirty,0≤e.1∧e.1<g.B
 room:g.M+V.n.dirty.length≤z4n g.J
 done:0≤V.disk.done∧V.disk.done<1000000000000000000
 waits:V.disk.waits.length<1000000000
 seq:V.seq<1000000000000000000
section
variable{N:Nat}{β:Type}{l:List HA}{S:β→HA}{d v:Nat}{D:DskS}{T:HA}{g:Geo}{V:VolS}
theorem z11k(L sf:List (Sl×List UInt8)):(mPs g L (sf.map (·.2)) L.length).map Pat.q=mQ g (L.map (·.2)) (sf.map (·.2)):=by
 unfold mPs mQ;rw[List.map_map,List.length_map];have e:∀i:Nat,(L.map (·.2))[i]?.getD []=(L[i]?.map (·.2)).getD []:=fun i=>by rw[List.getElem?_map]
 have e2:((List.range L.length).filter fun i => !decide ((L[i]?.map (·.2)).getD []=(sf.map (·.2))[i]?.getD []))=(List.range L.length).filter fun i => !decide ((L.map (·.2))[i]?.getD []=(sf.map (·.2))[i]?.getD []):=List.filter_congr fun i _=>by rw[e]
 rw[e2];refine List.map_congr_left fun i hi=>?_;have hi:=List.mem_range.1 (List.mem_filter.1 hi).1;show(mP g L i).q=_;unfold mP;rw[e,List.getElem?_eq_getElem hi];rfl
theorem z11l(L:List (Int×DV)):(dPs g L).map Pat.q=dQ g (z5t L):=by
 unfold dPs dQ;have e:(z5t L).map (·.1)=L.map (·.1):=by unfold z5t;rw[List.map_map];rfl
 rw[List.map_map,e];refine List.map_congr_left fun k _=>?_;show(dP g L k).q=_;have e2:z3o (z5t L) k=(z3o L k).map DV.f:=zj9 DV.f L k;unfold dP;rw[e2];cases z3o L k<;>rfl
theorem za8(hg:g.ok)(hi:SyncG g V)(hN:5000<N):Tri (z00 [z1f v d g V]) (F_0b N (some ⟨v,0⟩)) fun r=>pu (r=(z3d g V).2) (z00 [z1f v d g (z3d g V).1]):=by
 have hM:(z1z V.n.m).length=g.M:=by
  rw[z9p hi.inv.ok,hi.inv.ok.inol];rfl
 have hgM:g.M=3+g.I / 2:=rfl;have hi2:=hg.i2;have hlab:g.lab=1+g.J:=rfl;have hga:g.all=g.blk+g.B:=rfl;have hblk:g.blk=4+g.J+g.I / 2:=rfl;have hln:=hi.len;unfold F_0b;refine z05 (by simp) ?_;refine z2m 0 rfl fun y hy hd=>?_;dsimp only[sel,rem,nth,del,cat,upd,z2f];refine z0m (z06 (z133 0 rfl (v:=y.x.dead) rfl ?_));cases hdd:V.dead with
 | true=>
  have e:z3d g V=(V,6):=by unfold z3d;rw[if_pos hdd]
  rw[e];exact z07 (by rw[hy.dead,hdd]) (z03 [0,0,0,0,0,0,0,0,0,0,0] fun q hq=>⟨rfl,z1o hy hd hq⟩)
 | false=>
 have esy:z3d g V=(if(z2o V.disk (psQ g V) V.seq).2=0 then(⟨⟨V.n.m,[]⟩,(z2o V.disk (psQ g V) V.seq).1.1,(z2o V.disk (psQ g V) V.seq).1.2,z1z V.n.m,none,false⟩,0)else({V with disk:=(z2o V.disk (psQ g V) V.seq).1.1,seq:=(z2o V.disk (psQ g V) V.seq).1.2,dead:=decide ((z2o V.disk (psQ g V) V.seq).2=6)},(z2o V.disk (psQ g V) V.seq).2)):=by
  unfold z3d;rw[if_neg (by rw[hdd];simp)]
 rw[esy];refine z05 (by rw[hy.dead,hdd];simp) ?_;refine z0m (z06 (zcx 0 rfl (ts:=[.int .i64,.int .i64,.int .i64,.int .i64]) (x:=g.t) (by simp[volC]) rfl ?_));refine z0m (z06 (z06 (zcx 0 rfl (ts:=[.sl 2,.sl 1,.sl 1,.sl 14]) (x:=(y.x.rows,y.x.own,y.x.used,y.x.ino)) (by simp[volC]) rfl ?_)));refine z0c 1 rfl fun l1=>z0c 2 rfl fun l2=>z0c 3 rfl fun l3=>z0c 4 rfl fun l4=>?_;refine z8b [1,1,1,1] ?_;dsimp only[sel,rem,nth,del,cat,upd];refine z02 [0] (zyd (m:=(y.x.rows,y.x.own,y.x.used,y.x.ino)) hg hi.inv.ok ⟨RdC.at 0 rfl (z0k l1),RdC.at 1 rfl (z0k l2),RdC.at 2 rfl (z0k l3),RdC.at 3 rfl (z0k l4)⟩ hN) fun r12=>z1w fun L=>z04 fun h12=>z01 ?_;obtain⟨_,hL,hL2⟩:=h12;dsimp only[sel,rem,nth,del,cat,upd];refine z10c fun vb=>?_;refine zcq 4 rfl (o:=17) (v:=some ⟨y.x.j,0⟩) rfl ?_;refine z0c 1 rfl fun ls=>z0c 9 rfl fun lsf=>?_;refine z5u 5 rfl (φ:=(y.L.map (·.1)).Nodup) (fun q h=>by have:=h.1;rwa [zcw]at this) fun hnd=>?_;have hLl:L.length=g.M:=by rw[←hM,←hL,List.length_map]
 have hsl:y.sf.length=g.M:=by rw[←hi.safe,←hy.safe,List.length_map]
 have hdl:y.L.length=V.n.dirty.length:=by rw[←hy.dirty];simp[z5t]
 have hdin:DIn g y.L:=⟨fun e he=>by
  have:(e.1,e.2.f)∈V.n.dirty:=by rw[←hy.dirty];exact List.mem_map_of_mem (f:=fun e:Int×DV=>(e.1,e.2.f)) he
  exact hi.key _ this,hnd⟩
 have hroom:=hi.room;have hr2:z4n g.J≤g.J:=by unfold z4n;omega
 have hj2:=hg.j2;refine z8b [1,1,2,2,2,4] ?_;dsimp only[sel,rem,nth,del,cat,upd];refine z02 [0] (z110 (Q:=fun r=>z08 r 3 (z1j z2n (mPs g L (y.sf.map (·.2)) L.length++dPs g y.L))) fun q0 hq0=>zr1 (N:=N) (x:=y.x) (sec:=r12.1) (L:=L) (sf:=y.sf) (Ld:=y.L) (PIn.pre (T:=z00 [z08 r12.1 1 (z3r L),z1r L,pts v (.cells (volC g y.x) false),z5v .i64 y.x.mp (dkv g y.L),z1r y.P,z08 y.x.safe 1 (z3r y.sf)]) ⟨RdC.at 0 rfl (z0k ls),fun e he=>RdC.at 1 rfl (zcb he (by have:=hL2 e he;omega)),RdC.at 2 rfl (rd_pts0 (by simp[volC])),RdC.at 5 rfl (z0k lsf),fun e he=>RdC.at 4 rfl (zcb (hy.smem e he).1 (by have:=(hy.smem e he).2;omega)),fun h q hq hh=>?_⟩ (fun q hq=>hq ▸ hq0)) hdin hg (by omega) (by omega) (by omega) hN) fun r17=>z01 ?_
 ·rw[stars_pick 3 _ rfl]at hq;obtain⟨q1,q2,h1,_,dd,rfl⟩:=hq;exact(z8l h1.2 ((z6v dd).1 hh).1).2
 dsimp only[sel,rem,nth,del,cat,upd];refine z5l 1 rfl ?_;dsimp only[sel,rem,nth,del,cat,upd];refine z0c 6 rfl fun l17=>?_;refine z8b [6,1,3] ?_;dsimp only[sel,rem,nth,del,cat,upd];have hsync:∀p∈mPs g L (y.sf.map (·.2)) L.length++dPs g y.L,RdC (z00 [z08 r17 3 (z1j z2n (mPs g L (y.sf.map (·.2)) L.length++dPs g y.L)),z1r L,z1r y.P]) p.s 1 (bytesOf p.b)∧p.b.length=64∧p.sec<V.disk.secs.length∧p.t<65536∧1+g.J≤p.sec:=by
  intro p hp;rcases List.mem_append.1 hp with hp | hp
  ·obtain⟨i,h1,h2,rfl,_⟩:=zed hp (Nat.le_refl _);have:=hL2 _ (List.getElem_mem h1)
   exact⟨RdC.at 1 rfl (zcb (s:=L[i].1) (bs:=L[i].2) (List.getElem_mem h1) (by omega)),this.2,by dsimp only;omega,by dsimp only;omega,by dsimp only;omega⟩
  ·obtain⟨b,z,h1,h2,rfl⟩:=zee hdin hp;have h3:=zcn h2;have h4:=hy.dok.mem _ h3;have h5:=hy.dok.len _ h3;have h6:=hy.dok.tag _ h3;dsimp only at h4 h5 h6;exact⟨RdC.at 2 rfl (zcb (s:=z.s) (bs:=z.b) h4 (by omega)),h5.2,by dsimp only;omega,h6,by dsimp only;omega⟩
 have hpl:(mPs g L (y.sf.map (·.2)) L.length++dPs g y.L).length≤z4n g.J:=by
  have:=zld (g:=g) L (y.sf.map (·.2)) L.length
  rw[List.length_append,zta];omega
 have hdone:=hi.done;have hwaits:=hi.waits;have hseq:=hi.seq;have eps:(mPs g L (y.sf.map (·.2)) L.length++dPs g y.L).map Pat.q=psQ g V:=by
  unfold psQ;rw[List.map_append,z11k,z11l,hL,hy.safe,hy.dirty]
 refine z02 [8,7,0] (zqy hg (sq:=V.seq) (D:=V.disk) ⟨⟨RdC.at 0 rfl (z0k l17),fun p hp=>⟨(hsync p hp).1,(hsync p hp).2.1,(hsync p hp).2.2.1⟩⟩,fun p hp=>(hsync p hp).2.2.2.1,hi.n⟩ (fun p hp=>(hsync p hp).2.2.2.2) hpl (by omega) (by omega) (by omega) (by omega) (by omega) hN) fun r18=>z04 fun h18=>z01 ?_;rw[eps]at h18 ⊢;generalize z2o V.disk (psQ g V) V.seq=x at h18 ⊢;subst h18;dsimp only[sel,rem,nth,del,cat,upd];refine zyi 4 rfl ?_;by_cases hx:x.2=0
 case neg=>
  simp only[if_neg hx];refine z07 (by simp[hx]) ?_;dsimp only[sel,rem,nth,del,cat,upd];refine z5l 8 rfl ?_;dsimp only[sel,rem,nth,del,cat,upd];refine z5l 6 rfl ?_;dsimp only[sel,rem,nth,del,cat,upd];refine z03 [10,3,3,3,3,6,2,3,2,3,4] fun q hq=>⟨rfl,?_⟩;refine z1o (V:={V with disk:=x.1.1,seq:=x.1.2,dead:=decide (x.2=6)}) (y:=⟨{y.x with dead:=decide (x.2=6)},y.L,y.P,y.sf⟩) ⟨hy.1,hy.2,hy.3,hy.4,rfl⟩ hd ?_;exact hq
 simp only[if_pos hx];refine z05 (by simp[hx]) ?_;rw[show decide (x.2=6)=false by rw[hx];rfl];refine zyj 4 rfl ?_;refine zr2 4 rfl ?_;refine z0m (z06 (z06 (z3g 4 rfl (fun _ hg=>zkw hg rfl) ?_)));refine z114 5 rfl ?_;dsimp only[sel,rem,nth,del,cat,upd];refine z5l 8 rfl ?_;dsimp only[sel,rem,nth,del,cat,upd];refine z5l 6 rfl ?_;dsimp only[sel,rem,nth,del,cat,upd];refine z03 [10,3,3,3,3,6,1,1,2,1,1] fun q hq=>⟨rfl,?_⟩;refine z1o (V:=⟨⟨V.n.m,[]⟩,x.1.1,x.1.2,z1z V.n.m,none,false⟩) (y:=⟨⟨y.x.rows,y.x.own,y.x.used,y.x.ino,y.x.mp,y.x.d,y.x.j,r12.1,none,false⟩,[],L++y.P,L⟩) ⟨rfl,⟨by simp,by simp,by simp⟩,hL,fun e he=>⟨List.mem_append_left _ he,hL2 e he⟩,rfl⟩ hd ?_;have hq:=z116 hq;exact z1d (fun q=>z1d (fun q=>z1d (fun q=>z1d (fun q=>z1d (fun q=>z1d (fun q=>zyh)))))) hq
theorem zit(hg:g.ok)(hi:SyncG g V)(hN:5000<N):Tri (z00 [z1f v d g V]) (F_1k N (some ⟨v,0⟩)) fun r=>pu (r=(z8w g V).2) (z00 [z1f v d g (z8w g V).1]):=by
 have hj1:=hg.j1;have hj2:=hg.j2;have hi2:=hg.i2;have hgM:g.M=3+g.I / 2:=rfl;have hroom:=hi.room;have hr2:z4n g.J≤g.J:=by unfold z4n;omega
 unfold F_1k;refine z05 (by simp) ?_;rw[za2 (z117 _)];refine z02 [0] zv7 fun r2=>z04 fun h2=>z01 ?_;subst h2;dsimp only[sel,rem,nth,del,cat,upd];refine z2m 0 rfl fun y hy hd=>?_;dsimp only[sel,rem,nth,del,cat,upd,z2f];refine zcq 0 rfl (o:=17) (v:=some ⟨y.x.j,0⟩) rfl ?_;rw[za2 (zsw _)];refine z02 [8] (zgu hg) fun r6=>z04 fun h6=>z01 ?_;subst h6;dsimp only[sel,rem,nth,del,cat,upd];refine z0m (z06 (zcx 1 rfl (ts:=[.int .i64,.int .i64,.int .i64,.int .i64]) (x:=g.t) (by simp[volC]) rfl ?_));have em:frz (F_03 N (g.t.1,g.t.2.1,g.t.2.2.1,g.t.2.2.2))=ret (g.M:Int):=by
  rw[show F_03 N (g.t.1,g.t.2.1,g.t.2.2.1,g.t.2.2.2)=ret (g.M:Int)from zec hg];exact za2 (z5c _)
 rw[em];refine z0s ?_;refine Tri.pre (B:=z00 [z1f v d g V]) ?_ fun q hq=>z1o hy hd (zsy [1,1,1,1,1,1,1,1,0,0,0] hq);rw[z0i (n:=((z4n g.J:Nat):Int) - (g.M:Int)) (by omega) (by omega),z0i (by omega) (by omega)];by_cases ht:(z4n g.J:Int) - g.M - 80<V.n.dirty.length
 ·have ebg:z8w g V=if(z3d g V).2=0 then({(z3d g V).1 with before:=some (z3d g V).1.n},0)else z3d g V:=by
   unfold z8w VolS.tight;rw[if_pos (by simpa using ht)]
  rw[ebg];refine z02 [0] (Q:=fun j=>pu (((z3d g V).2=0∧j=.inl ())∨((z3d g V).2≠0∧j=.inr (z3d g V).2)) (z00 [z1f v d g (z3d g V).1])) ?_ fun j=>z04 fun hj=>z01 ?_
  ·refine z07 (by simpa using ht) ?_;refine z02 [0] (za8 hg hi hN) fun r11=>z04 fun h11=>z01 ?_;subst h11;by_cases hx:(z3d g V).2=0
   ·exact z05 (by simp[hx]) (z03 [0] fun q hq=>⟨.inl ⟨hx,rfl⟩,hq⟩)
   ·exact z07 (by simp[hx]) (z03 [0] fun q hq=>⟨.inr ⟨hx,rfl⟩,hq⟩)
  have hm:MetaOk g (z3d g V).1.n.m:=by
   have e:(z3d g V).1.n.m=V.n.m:=by
    unfold z3d;split
    ·rfl
    ·dsimp only;split<;>rfl
   rw[e];exact hi.inv.ok
  generalize z3d g V=x at hj hm ⊢;rcases hj with⟨hx,hj⟩ | ⟨hx,hj⟩
  ·subst hj;dsimp only[sel,rem,nth,del,cat,upd];rw[if_pos hx];exact zyk (N:=N) hg (V:=x.1) hm
  ·subst hj;rw[if_neg hx];exact z03 [0] fun q hq=>⟨rfl,hq⟩
 ·have ebg:z8w g V=({V with before:=some V.n},0):=by
   unfold z8w VolS.tight;rw[if_neg (by simpa using ht)]
  rw[ebg];refine z02 [0] (Q:=fun j=>pu (j=.inl ()) (z00 [z1f v d g V])) (z05 (by simpa using ht) (z03 [0] fun q hq=>⟨rfl,hq⟩)) fun j=>z04 fun hj=>z01 ?_;subst hj;dsimp only[sel,rem,nth,del,cat,upd];exact zyk (N:=N) hg hi.inv.ok
end
end Go.Moat

/- Layer 7, 15: while the power is on. -/
namespace Go.Moat
open Go.Mini
def z6f(secs:List SecS)(l:List QP):List SecS:=l.foldl (fun s p=>s.set p.1 ⟨p.2.1,p.2.2⟩) secs
theorem z7i(l:List QP):∀secs:List SecS,(z6f secs l).length=secs.length:=by
 induction l with
 | nil=>intro secs;rfl
 | cons p l ih=>
  intro secs;show(z6f (secs.set p.1 ⟨p.2.1,p.2.2⟩) l).length=_;rw[ih,List.length_set]
theorem z10x(ps:List Pat):∀secs:List SecS,z6f secs (ps.map Pat.q)=z70 secs ps:=by
 induction ps with
 | nil=>intro secs;rfl
 | cons p ps ih=>intro secs;exact ih _
theorem zaz:∀{l:List QP}{secs:List SecS}{i:Nat},(∀p∈l,p.1≠i)→(z6f secs l)[i]? = secs[i]?
 | [],secs,i,_=>rfl
 | p::l,secs,i,h=>by
  show(z6f (secs.set p.1 ⟨p.2.1,p.2.2⟩) l)[i]? = _;rw[zaz fun q hq=>h q (List.mem_cons_of_mem _ hq),List.getElem?_set,if_neg (h p (List.mem_cons_self ..))]
theorem zlb:∀{l:List QP}{s1 s2:List SecS}{i:Nat},s1[i]? = s2[i]? → s1.length=s2.length→(z6f s1 l)[i]? = (z6f s2 l)[i]?
 | [],_,_,_,h,_=>h
 | p::l,s1,s2,i,h,hl=>by
  show(z6f (s1.set p.1 ⟨p.2.1,p.2.2⟩) l)[i]? = (z6f (s2.set p.1 ⟨p.2.1,p.2.2⟩) l)[i]?;refine zlb ?_ (by simp[hl]);rw[List.getElem?_set,List.getElem?_set,hl,h]
def QsOk(n:Nat)(l:List QP):Prop:=∀p∈l,p.1<n∧p.2.1.length=64
theorem zjg:∀{l:List QP}{D:DskS},D.dead=false→D.fuse = -1→QsOk D.secs.length l→jwF D l=({D with secs:=z6f D.secs l,waits:=[],done:=D.done+l.length+1},0)
 | [],D,h0,h1,_=>by
  obtain⟨f1,f2⟩:=zks h0 h1;unfold jwF;rw[f1,f2];simp[z6f]
 | p::l,D,h0,h1,h=>by
  obtain⟨p1,p2⟩:=h p (List.mem_cons_self ..);obtain⟨w1,w2⟩:=zkr h0 h1 p1 p2 (p.2.2:Int);have e1:wrE D p=0:=w1;unfold jwF;rw[if_pos e1];have e2:wrQ D p=_:=w2;rw[zjg (D:=wrQ D p) (by rw[e2];exact h0) (by rw[e2];exact h1) (fun q hq=>by rw[zj5];exact h q (List.mem_cons_of_mem _ hq)),e2];dsimp only;rw[List.length_cons];refine Prod.ext (by
   show DskS.mk _ _ _ _ _=DskS.mk _ _ _ _ _;congr 1;show D.done+1+(l.length:Int)+1=D.done+((l.length+1:Nat):Int)+1;omega) rfl
theorem ziu:∀{L:List (List QP)}{D:DskS},D.dead=false→D.fuse = -1→(∀l∈L,QsOk D.secs.length l)→L≠[]→z55 D L=({D with secs:=L.foldl z6f D.secs,waits:=[],done:=D.done+((L.map fun l=>l.length+1).sum:Nat)},0)
 | [],_,_,_,_,h=>absurd rfl h
 | [l],D,h0,h1,h,_=>by
  unfold z55;rw[zjg h0 h1 (h l (List.mem_cons_self ..)),if_pos rfl];unfold z55;refine Prod.ext (by
   show DskS.mk _ _ _ _ _=DskS.mk _ _ _ _ _;congr 1;simp;omega) rfl
 | l::l2::L,D,h0,h1,h,_=>by
  rw[show z55 D (l::l2::L)=if(jwF D l).2=0 then z55 (jwF D l).1 (l2::L)else jwF D l from rfl,zjg h0 h1 (h l (List.mem_cons_self ..)),if_pos rfl];rw[ziu (D:={D with secs:=z6f D.secs l,waits:=[],done:=D.done+l.length+1}) h0 h1 (fun q hq=>by dsimp only;rw[z7i];exact h q (List.mem_cons_of_mem _ hq)) (by simp)];refine Prod.ext (by
   show DskS.mk _ _ _ _ _=DskS.mk _ _ _ _ _;congr 1;simp only[List.map_cons,List.sum_cons];push_cast
   omega) rfl
section
variable{N:Nat}{β:Type}{l:List HA}{S:β→HA}{d v:Nat}{D:DskS}{T:HA}{g:Geo}{V:VolS}
theorem z13c{ps:List QP}(h:∀p∈ps,p.2.1.length=64):∀p∈zam ps,p.2.1.length=64:=by
 have key:∀(n:Nat)(ps:List QP),(∀p∈ps,p.2.1.length=64)→∀x∈z7o n ps,x.1.length=64:=by
  intro n;induction n with
  | zero=>intro ps _ x hx;cases hx
  | succ n ih=>
   intro ps h x hx;unfold z7o at hx;split at hx
   ·cases hx
   ·rcases List.mem_cons.1 hx with hx | hx
    ·rw[hx];refine filled_len ?_;rw[lays_len];have e:∀l:List QP,((l.map fun p=>[p.1,p.2.2]).flatten).length=2 * l.length:=fun l=>by
      induction l with
      | nil=>rfl
      | cons p l ih2=>show(_::_::_).length=_;simp[ih2];omega
     rw[e,List.length_take];omega
    ·rcases List.mem_append.1 hx with hx | hx
     ·obtain⟨p,hp,rfl⟩:=List.mem_map.1 hx;exact h p (List.mem_of_mem_take hp)
     ·exact ih _ (fun p hp=>h p (List.mem_of_mem_drop hp)) x hx
 intro p hp;unfold zam at hp;obtain⟨x,hx,rfl⟩:=List.mem_map.1 hp;obtain⟨⟨y,z⟩,i⟩:=x;exact key _ _ h (y,z) (List.fst_mem_of_mem_zipIdx hx)
theorem zv4(hg:g.ok){ps:List Pat}{sq:Nat}(h0:D.dead=false)(h1:D.fuse = -1)(hp:∀p∈ps,1+g.J≤p.sec∧p.sec<D.secs.length∧p.b.length=64)(hne:0<ps.length)(hroom:ps.length≤z4n g.J)(hlen:1+g.J≤D.secs.length) :
  (z2o D (ps.map Pat.q) sq).2=0∧(z2o D (ps.map Pat.q) sq).1.2=sq+1∧Comm g D ps (sq+1) (z2o D (ps.map Pat.q) sq).1.1:=by
 have hJ:=hg.j2;have hJ1:=hg.j1;have hr2:z4n g.J≤g.J:=by unfold z4n;omega
 have hbound:ps.length+(ps.length+14) / 15≤g.J - 1:=by unfold z4n at hroom;omega
 have hne2:ps.map Pat.q≠[]:=fun h=>by have:=congrArg List.length h;rw[List.length_map]at this;simp at this;subst this;simp at hne
 have hsec:∀p∈zam (ps.map Pat.q),2≤p.1∧p.1<1+g.J:=fun p hp=>by
  have:=zqw hp
  rw[List.length_map]at this;omega
 have hL:∀l∈z3y (ps.map Pat.q) (sq+1),QsOk D.secs.length l:=by
  intro l hl;unfold z3y at hl;simp only[List.mem_cons,List.not_mem_nil,or_false]at hl;rcases hl with rfl | rfl | rfl | rfl
  ·intro p h;have:=hsec p h
   refine⟨by omega,z13c (fun p h=>?_) p h⟩;obtain⟨p',h',rfl⟩:=List.mem_map.1 h;exact(hp p' h').2.2
  ·intro p h;rw[List.mem_singleton.1 h];exact⟨by dsimp only;omega,z71 _ _⟩
  ·intro p h;obtain⟨p',h',rfl⟩:=List.mem_map.1 h;exact(hp p' h').2
  ·intro p h;rw[List.mem_singleton.1 h];exact⟨by dsimp only;omega,z71 _ _⟩
 have e:=ziu h0 h1 hL (by simp[z3y]);have ef:z2o D (ps.map Pat.q) sq=(((z55 D (z3y (ps.map Pat.q) (sq+1))).1,if(z55 D (z3y (ps.map Pat.q) (sq+1))).2=0 then sq+1 else sq),(z55 D (z3y (ps.map Pat.q) (sq+1))).2):=by
  unfold z2o;rw[if_neg hne2]
 rw[ef,e];have es:(z3y (ps.map Pat.q) (sq+1)).foldl z6f D.secs=(z6f (z6f (z6f D.secs (zam (ps.map Pat.q))) [(1,z4m (sq+1) (ps.map Pat.q).length,0)]) (ps.map Pat.q)).set 1 ⟨z4m (sq+1) 0,(0:Nat)⟩:=rfl;refine⟨rfl,rfl,⟨h0,h1,?_,fun i hi=>?_,?_,?_,⟨?_,?_⟩,rfl⟩⟩
 ·show((z3y (ps.map Pat.q) (sq+1)).foldl z6f D.secs).length=_;rw[es,List.length_set,z7i,z7i,z7i]
 ·show((z3y (ps.map Pat.q) (sq+1)).foldl z6f D.secs)[i]? = _;rw[es,List.getElem?_set,if_neg (by omega),←z10x];refine zlb ?_ (by rw[z7i,z7i]);rw[zaz (fun p hp=>by rw[List.mem_singleton.1 hp];dsimp only;omega),zaz (fun p hp=>by have:=hsec p hp;omega)]
 ·show((z3y (ps.map Pat.q) (sq+1)).foldl z6f D.secs)[0]? = _;rw[es,List.getElem?_set,if_neg (by omega),zaz (fun p hp'=>by
   obtain⟨p',h',rfl⟩:=List.mem_map.1 hp';have:=(hp p' h').1
   show p'.sec≠0;omega),zaz (fun p hp=>by rw[List.mem_singleton.1 hp];dsimp only;omega),zaz (fun p hp=>by have:=hsec p hp;omega)]
 ·show((z3y (ps.map Pat.q) (sq+1)).foldl z6f D.secs)[1]? = _;rw[es,List.getElem?_set,if_pos rfl,if_pos (by rw[z7i,z7i,z7i];omega)];rfl
 ·show D.done≤D.done+_;omega
 ·show D.done+(((z3y (ps.map Pat.q) (sq+1)).map fun l=>l.length+1).sum:Nat)≤_;have:((z3y (ps.map Pat.q) (sq+1)).map fun l=>l.length+1).sum≤16000:=by
   unfold z3y;simp only[List.map_cons,List.map_nil,List.sum_cons,List.sum_nil,zqv,List.length_map,List.length_singleton];omega
  omega
theorem zfv(hg:g.ok)(hi:SyncIn g V)(hnd:(V.n.dirty.map (·.1)).Nodup)(h64:∀e∈V.n.dirty,e.2.1.length=64)(hB:∀b∈z1z V.n.m,b.length=64):(z3d g V).2=0∧Synced g V (z3d g V).1:=by
 have hM:(z1z V.n.m).length=g.M:=by
  rw[z9p hi.inv.ok,hi.inv.ok.inol];rfl
 have hga:g.all=g.blk+g.B:=rfl;have hblk:g.blk=g.lab+g.M:=by
  show 4+g.J+g.I / 2=1+g.J+(3+g.I / 2);omega
 have hlab:g.lab=1+g.J:=rfl;have hln:=hi.len;let L:List (Sl×List UInt8):=(z1z V.n.m).map fun b=>(⟨none,0⟩,b)
 let sf:List (Sl×List UInt8):=V.safe.map fun b=>(⟨none,0⟩,b)
 let Ld:List (Int×DV):=V.n.dirty.map fun e=>(e.1,⟨⟨none,0⟩,e.2.1,e.2.2⟩)
 have hL:L.map (·.2)=z1z V.n.m:=by simp[L,Function.comp_def]
 have hsf:sf.map (·.2)=V.safe:=by simp[sf,Function.comp_def]
 have hLd:z5t Ld=V.n.dirty:=by simp[z5t,Ld,Function.comp_def,DV.f]
 have hd:DIn g Ld:=⟨fun e he=>by
  obtain⟨e',h1,rfl⟩:=List.mem_map.1 he;exact hi.key e' h1,by simpa[Ld,Function.comp_def]using hnd⟩
 have eps:(mPs g L (sf.map (·.2)) L.length++dPs g Ld).map Pat.q=psQ g V:=by
  unfold psQ;rw[List.map_append,z11k,z11l,hL,hsf,hLd]
 have hLl:L.length=g.M:=by rw[←hM];exact List.length_map _
 have hpl:(mPs g L (sf.map (·.2)) L.length++dPs g Ld).length≤z4n g.J:=by
  have:=zld (g:=g) L (sf.map (·.2)) L.length
  have h2:Ld.length=V.n.dirty.length:=List.length_map _;have h3:=hi.room;rw[List.length_append,zta];omega
 have hps:∀p∈mPs g L (sf.map (·.2)) L.length++dPs g Ld,1+g.J≤p.sec∧p.sec<V.disk.secs.length∧p.b.length=64:=by
  intro p hp;rcases List.mem_append.1 hp with hp | hp
  ·obtain⟨i,h1,h2,rfl,_⟩:=zed hp (Nat.le_refl _);have hm:L[i].2∈z1z V.n.m:=by rw[←hL];exact List.mem_map_of_mem (List.getElem_mem h1)
   exact⟨by dsimp only;omega,by dsimp only;omega,hB _ hm⟩
  ·obtain⟨b,y,h1,h2,rfl⟩:=zee hd hp;have h3:=zcn h2;obtain⟨e',h4,h5⟩:=List.mem_map.1 h3;have h6:=h64 e' h4;have h7:y.b=e'.2.1:=by have:=congrArg (·.2.b) h5;exact this.symm
   exact⟨by dsimp only;omega,by dsimp only;omega,by rw[h7];exact h6⟩
 have hc:(z2o V.disk (psQ g V) V.seq).2=0∧z11m g V.disk (mPs g L (sf.map (·.2)) L.length++dPs g Ld) V.seq (z2o V.disk (psQ g V) V.seq).1:=by
  by_cases hne:0<(mPs g L (sf.map (·.2)) L.length++dPs g Ld).length
  ·obtain⟨c1,c2,c3⟩:=zv4 hg (sq:=V.seq) hi.ddead hi.fuse hps hne hpl (by omega);rw[eps]at c1 c2 c3;exact⟨c1,.inr ⟨hne,c3,c2⟩⟩
  ·have hz:=List.length_eq_zero_iff.1 (show(mPs g L (sf.map (·.2)) L.length++dPs g Ld).length=0 by omega);have:psQ g V=[]:=by rw[←eps,hz];rfl
   rw[this];exact⟨rfl,.inl ⟨hz,rfl⟩⟩
 have hs:=synced hg hi hL hsf hLd hd hc.2;have e:z3d g V=(⟨⟨V.n.m,[]⟩,(z2o V.disk (psQ g V) V.seq).1.1,(z2o V.disk (psQ g V) V.seq).1.2,z1z V.n.m,none,false⟩,0):=by
  unfold z3d;rw[if_neg (by rw[hi.dead];simp)];dsimp only;rw[if_pos hc.1]
 rw[e];exact⟨rfl,hs⟩
theorem zs0(hg:g.ok)(hi:SyncIn g V)(hnd:(V.n.dirty.map (·.1)).Nodup)(h64:∀e∈V.n.dirty,e.2.1.length=64)(hB:∀b∈z1z V.n.m,b.length=64):(z8w g V).2=0∧zo2 g V (z8w g V).1:=by
 obtain⟨h1,h2⟩:=zfv hg hi hnd h64 hB;unfold z8w zo2;by_cases ht:V.tight g=true
 ·rw[if_pos ht,if_pos ht];dsimp only;rw[if_pos h1];exact⟨rfl,_,h2,rfl⟩
 ·rw[if_neg ht,if_neg ht];exact⟨rfl,rfl⟩
end
end Go.Moat

/- Layer 15: what is done twice, in the same way, leaves the same sectors. -/
namespace Go.Moat
open Go.Mini
theorem zlc:∀rs:List Row,(z3b rs).length=2 * rs.length
 | []=>rfl
 | r::rs=>by
  have:=zlc rs
  show(_::_::z3b rs).length=_;simp[this];omega
theorem znb:∀(l:List Ino),∀b∈z5w l,b.length=64
 | [],b,h=>by cases h
 | [_],b,h=>by cases h
 | a::c::r,b,h=>by
  unfold z5w at h;rcases List.mem_cons.1 h with h | h
  ·rw[h,List.length_append,z2g,z2g]
  ·exact znb r b h
theorem zqz{g:Geo}{M:MetaS}(hg:g.ok)(ok:MetaOk g M):∀b∈z1z M,b.length=64:=by
 intro b hb;unfold z1z at hb;rcases List.mem_cons.1 hb with hb | hb
 ·rw[hb];unfold z6j;rw[lays_len,zlc,ok.rows.len]
 rcases List.mem_cons.1 hb with hb | hb
 ·rw[hb];unfold z94;have:=hg.g2
  exact filled_len (by rw[List.length_map,ok.ownl];omega)
 rcases List.mem_cons.1 hb with hb | hb
 ·rw[hb];exact ok.usedl
 ·exact znb _ b hb
section
variable{N:Nat}{β:Type}{l:List HA}{S:β→HA}{d v c u w x:Nat}{D:DskS}{T:HA}{g:Geo}{V:VolS}{W:RefS}{acts:List ActS}{s:Sl}{i:Nat}
theorem zyf{q:PH}(h:z1f v d g V q):∀e∈V.n.dirty,e.2.1.length=64:=by
 obtain⟨y,⟨hy,_⟩,h⟩:=h;intro e he;rw[←hy.dirty]at he;unfold z5t at he;obtain⟨e',h1,rfl⟩:=List.mem_map.1 he;exact(hy.dok.len e' h1).2
theorem SyncIn.any(h:SyncIn g V):SyncG g V:=⟨h.inv,h.len,h.n,h.safe,h.key,h.room,h.done,h.waits,h.seq⟩
structure TI(V:VolS)(W:RefS)(i:Nat):Prop where
 v:VInv g6 V i
 w:RWok g6 W
theorem zv5(hN:5000<N){r:Sl}{k:Nat}(hin:∀A∈acts,ActIn T A)(hf:FewOk T acts r k):∀(K i:Nat)(V:VolS)(W:RefS),k - i<K→i≤k→TI V W i →
  Tri (z00 [z1f v d g6 V,z1f u c g6 V,z2e w g6 W,z2e x g6 W,T]) (z0l K (F_3n N (some ⟨d,0⟩,some ⟨v,0⟩,true) (some ⟨c,0⟩,some ⟨u,0⟩,true) (some ⟨w,0⟩) (some ⟨x,0⟩) r) (i:Int)) fun j=>exA fun V:VolS=>pu (j=.inl ()∧VInv g6 V k) (z00 [z1f v d g6 V,z1f u c g6 V]):=by
 intro K;induction K with
 | zero=>intro i V W h;omega
 | succ K ih=>
  intro i V W h hi ht;have hle:=hf.le;have hlen:=hf.len;have h100:=hf.k100;rw[z18];generalize z0l K (F_3n N (some ⟨d,0⟩,some ⟨v,0⟩,true) (some ⟨c,0⟩,some ⟨u,0⟩,true) (some ⟨w,0⟩) (some ⟨x,0⟩) r)=go at ih ⊢;unfold F_3n;by_cases hik:i<k
  case neg=>
   obtain rfl:i=k:=by omega
   exact z05 (by simp;omega) (z03 [0,0] fun q hq=>⟨V,⟨rfl,ht.v⟩,hq⟩)
  have hia:i<acts.length:=by omega
  have hit:i<(acts.take k).length:=by rw[List.length_take];omega
  have hA:=(hin _ (List.getElem_mem hia)).ok (hf.small i hia hik);have eA:(acts.take k)[i]=acts[i]:=by simp
  refine z07 (by simp;omega) ?_;refine zxj 4 rfl (hf.rd (by omega)) (i:=i) (by omega) ?_;rw[zcc z6c hit,eA,z14v,if_pos ⟨z6c _,by rw[z6c];omega,zwy _⟩];refine z0s ?_;rw[z100];have g0:(z3z acts[i])[0]? = some (.int .u8 acts[i].k):=rfl;rw[g0];refine z15 (z1t ?_);have e20:0+20≤(z3z acts[i]).length:=by rw[z6c];omega
  have t20:((z3z acts[i]).drop 0).take 20=z3z acts[i]:=by rw[List.drop_zero,List.take_of_length_le (by rw[z6c];omega)]
  refine z5u 0 rfl (φ:=(V.n.dirty.map (·.1)).Nodup) (fun q h=>zne h) fun hnd=>?_;refine z5u 0 rfl (fun q h=>zyf h) fun h64=>?_;have hv:=ht.v;have hsy:SyncIn g6 V:=hv.sync (by omega) (by decide) hnd;have hB:=zqz z4d hv.now.inv.ok;obtain⟨s1,s2⟩:=zfv z4d hsy hnd h64 hB;obtain⟨b1,b2⟩:=zs0 z4d hsy hnd h64 hB;refine z02 [0,0,0,0,0] (Q:=fun j=>exA fun y:VolS×RefS=>pu (j=.inl ()∧TI y.1 y.2 (i+1)) (z00 [z1f v d g6 y.1,z1f u c g6 y.1,z2e w g6 y.2,z2e x g6 y.2,T])) ?_ fun j34=>z1w fun y=>z04 fun hy=>z01 ?_
  ·by_cases c6:(decide (((acts[i].k:Nat):Int).tmod 13=6))=true
   ·refine z07 c6 ?_;refine z02 [0] (zit z4d hsy.any hN) fun _=>z04 fun _=>z01 ?_;dsimp only[sel,rem,nth,del,cat,upd];refine z02 [1] (zit z4d hsy.any hN) fun _=>z04 fun _=>z01 ?_;dsimp only[sel,rem,nth,del,cat,upd];exact z03 [1,0,0,0,0] fun q hq=>⟨((z8w g6 V).1,W),⟨rfl,hv.begun b2,ht.w⟩,hq⟩
   refine z05 c6 ?_;refine z02 [0,0,0,0,0] (Q:=fun j=>exA fun y:VolS×RefS=>pu (j=.inl ()∧TI y.1 y.2 (i+1)) (z00 [z1f v d g6 y.1,z1f u c g6 y.1,z2e w g6 y.2,z2e x g6 y.2,T])) ?_ fun j=>z1w fun y=>z04 fun hy=>z01 (by rw[hy.1];exact z03 [0,0,0,0,0] fun q hq=>⟨y,⟨rfl,hy.2⟩,hq⟩);by_cases c7:(decide (((acts[i].k:Nat):Int).tmod 13=7))=true
   ·refine z07 c7 ?_;have hbm:∀n,V.before=some n→MetaOk g6 n.m:=fun n hn=>(hv.bef n hn).inv.ok;refine z02 [0] (zle z4d hbm) fun _=>z01 ?_;dsimp only[sel,rem,nth,del,cat,upd];refine z02 [1] (zle z4d hbm) fun _=>z01 ?_;dsimp only[sel,rem,nth,del,cat,upd];exact z03 [1,0,0,0,0] fun q hq=>⟨(V.abort,W),⟨rfl,hv.abort.mono (by omega),ht.w⟩,hq⟩
   refine z05 c7 ?_;refine z02 [0,0,0,0,0] (Q:=fun j=>exA fun y:VolS×RefS=>pu (j=.inl ()∧TI y.1 y.2 (i+1)) (z00 [z1f v d g6 y.1,z1f u c g6 y.1,z2e w g6 y.2,z2e x g6 y.2,T])) ?_ fun j=>z1w fun y=>z04 fun hy=>z01 (by rw[hy.1];exact z03 [0,0,0,0,0] fun q hq=>⟨y,⟨rfl,hy.2⟩,hq⟩);by_cases c8:(decide (((acts[i].k:Nat):Int).tmod 13=8))=true
   ·refine z07 c8 ?_;refine z02 [0] (za8 z4d hsy.any hN) fun r22=>z04 fun h22=>z01 ?_;dsimp only[sel,rem,nth,del,cat,upd];refine z02 [1] (za8 z4d hsy.any hN) fun r23=>z04 fun h23=>z01 ?_;dsimp only[sel,rem,nth,del,cat,upd];refine z05 (by rw[h22,h23];simp) ?_;exact z03 [1,0,0,0,0] fun q hq=>⟨((z3d g6 V).1,W),⟨rfl,hv.synced s2,ht.w⟩,hq⟩
   refine z05 c8 ?_;rw[if_pos e20,t20];refine z0s ?_;obtain⟨k1,k2⟩:=z10s (W:=W) z4d hv.now hA.lab;have k3:=z10t (V:=V) z4d ht.w hA.lab;refine z02 [0,1,2] (zt9 z4d hN hv.now.inv ht.w hA) fun r25=>z1w fun y=>z04 fun hy=>z01 ?_;obtain⟨hy,_⟩:=hy;subst hy;refine z0s ?_;dsimp only[sel,rem,nth,del,cat,upd];refine z02 [3,3,2] (zt9 z4d hN hv.now.inv ht.w hA) fun r27=>z1w fun y=>z04 fun hy=>z01 ?_;obtain⟨hy,_⟩:=hy;subst hy;dsimp only[sel,rem,nth,del,cat,upd];exact z03 [3,0,2,0,0] fun q hq=>⟨_,⟨rfl,(hv.keeps k2 k1).mono (by omega),k3⟩,hq⟩
  obtain⟨V',W'⟩:=y;obtain⟨hj,ht'⟩:=hy;subst hj;dsimp only[sel,rem,nth,del,cat,upd];rw[z0i (n:=(i:Int)+1) (by omega) (by omega)];exact tri_last [0,0,0,0,0] (ih (i+1) V' W' (by omega) (by omega) ht')
theorem z10z{v1 v2:Option MA}{b1 b2:Bool}(hd:D.dead=false)(hn:D.secs.length≤4096):∀(K k:Nat),D.secs.length - k<K→k≤D.secs.length →
  Tri (z00 [z1b d D,z1b c D]) (z0l K (F_3o N (some ⟨d,0⟩,v1,b1) (some ⟨c,0⟩,v2,b2) (D.secs.length:Int)) (k:Int)) fun j=>pu (j=.inl ()) (z00 []):=by
 intro K;induction K with
 | zero=>intro k h;omega
 | succ K ih=>
  intro k hK hk;rw[z18];generalize z0l K (F_3o N (some ⟨d,0⟩,v1,b1) (some ⟨c,0⟩,v2,b2) (D.secs.length:Int))=go at ih ⊢;unfold F_3o;by_cases hkl:k<D.secs.length
  case neg=>exact z05 (by simp;omega) (z03 [] fun q hq=>⟨rfl,hq⟩)
  refine z07 (by simp;omega) ?_;have hE:z6d D (k:Int)=0:=z9o hd hkl;refine z02 [0] (zh1 (D:=D) (k:Int)) fun r49=>z04 fun h49=>z01 ?_;rw[if_pos hE];dsimp only[sel,rem,nth,del,cat,upd];refine z02 [2] (zh1 (D:=D) (k:Int)) fun r50=>z04 fun h50=>z01 ?_;rw[if_pos hE];dsimp only[sel,rem,nth,del,cat,upd];refine z02 [2] (zq9 (D:=D) (k:Int)) fun r51=>z04 fun h51=>z01 ?_;subst h51;dsimp only[sel,rem,nth,del,cat,upd];refine z02 [1] (zq9 (D:=D) (k:Int)) fun r52=>z04 fun h52=>z01 ?_;subst h52;dsimp only[sel,rem,nth,del,cat,upd];refine z0c 2 rfl fun l50=>z0c 3 rfl fun l49=>?_;refine z4t 3 rfl (z0k l49) ?_;refine z4t 2 rfl (z0k l50) ?_;refine z05 (by simp) ?_;rw[z0i (n:=(k:Int)+1) (by omega) (by omega)];exact tri_last [1,0] (ih (k+1) (by omega) (by omega))
theorem zyg(hN:5000<N)(hin:∀A∈acts,ActIn T A)(hr:acts≠[]→RdC T s 20 (z1j z3z acts))(hlen:s.len=acts.length):Tri (z00 [T]) (F_43 N s) fun r=>pu (r=true) emp:=by
 unfold F_43;refine z02 [] (zuv hN) fun r2=>z04 fun h2=>z01 ?_;subst h2;dsimp only[sel,rem,nth,del,cat,upd];refine ze4 (a:=g6.t) (fun h=>rfl) ?_;refine z02 [] (zfr (N:=N) z4d zqr hN) fun r4=>z1w fun y=>z04 fun h4=>z01 ?_;obtain⟨d,v⟩:=y;subst h4;dsimp only[sel,rem,nth,del,cat,upd];refine ze4 (a:=g6.t) (fun h=>rfl) ?_;refine z02 [] (zfr (N:=N) z4d zqr hN) fun r6=>z1w fun y=>z04 fun h6=>z01 ?_;obtain⟨c,u⟩:=y;subst h6;dsimp only[sel,rem,nth,del,cat,upd];refine z05 (by simp) ?_;refine ze4 (a:=g6.t) (fun h=>rfl) ?_;refine z02 [] (zmu (N:=N) z4d hN) fun r8=>z1w fun w=>z04 fun h8=>z01 ?_;subst h8;dsimp only[sel,rem,nth,del,cat,upd];refine ze4 (a:=g6.t) (fun h=>rfl) ?_;refine z02 [] (zmu (N:=N) z4d hN) fun r10=>z1w fun x=>z04 fun h10=>z01 ?_;subst h10;dsimp only[sel,rem,nth,del,cat,upd];refine z02 [4] (z10u hr hlen (by omega)) fun r11=>z1w fun k=>z04 fun h11=>z01 ?_;dsimp only[sel,rem,nth,del,cat,upd];refine z02 [4,3,2,1,0] (zv5 (N:=N) hN hin h11 N 0 (zfq g6) (zj7 g6) (by have:=h11.k100;omega) (by omega) ⟨z118 z4d (by decide),(z10v z4d).rok⟩) fun j37=>z1w fun V=>z04 fun h37=>z01 ?_;obtain⟨h37,hv⟩:=h37;subst h37;dsimp only[sel,rem,nth,del,cat,upd];refine z5u 0 rfl (φ:=(V.n.dirty.map (·.1)).Nodup) (fun q h=>zne h) fun hnd=>?_;refine z5u 0 rfl (fun q h=>zyf h) fun h64=>?_;have hk100:=h11.k100;have hsy:SyncIn g6 V:=hv.sync (by omega) (by decide) hnd;obtain⟨s1,s2⟩:=zfv z4d hsy hnd h64 (zqz z4d hv.now.inv.ok);refine z02 [0] (za8 z4d hsy.any hN) fun r40=>z04 fun h40=>z01 ?_;rw[s1]at h40;subst h40;dsimp only[sel,rem,nth,del,cat,upd];refine z02 [1,0] (Q:=fun c42=>pu (c42=false) (z00 [z1f u c g6 (z3d g6 V).1,z1f v d g6 (z3d g6 V).1])) ?_ fun c42=>z04 fun h42=>z01 ?_
 ·refine z07 (by simp) ?_;refine z02 [0] (za8 z4d hsy.any hN) fun r41=>z04 fun h41=>z01 ?_;exact z03 [0,0] fun q hq=>⟨by rw[h41,s1];rfl,hq⟩
 subst h42;generalize (z3d g6 V).1=V' at s2;dsimp only[sel,rem,nth,del,cat,upd];refine z2m 0 rfl fun y hy hyd=>?_;dsimp only[sel,rem,nth,del,cat,upd,z2f];refine z2m 11 rfl fun z hz hzd=>?_;dsimp only[sel,rem,nth,del,cat,upd,z2f];have hlenD:V'.disk.secs.length≤4096:=by rw[s2.len];exact hv.n
 refine z8b [7,17] ?_;dsimp only[sel,rem,nth,del,cat,upd];refine z5l 0 rfl ?_;dsimp only[sel,rem,nth,del,cat,upd];refine tri_last [0,0] ?_;refine z02 [0,0] (Q:=fun c45=>pu (c45=false) (z00 [z1b d V'.disk,z1b c V'.disk])) ?_ fun c45=>z04 fun h45=>z01 ?_
 ·refine z07 rfl ?_;refine z02 [0] (zmx (D:=V'.disk)) fun r43=>z04 fun h43=>z01 ?_;dsimp only[sel,rem,nth,del,cat,upd];refine z02 [1] (zmx (D:=V'.disk)) fun r44=>z04 fun h44=>z01 ?_;dsimp only[sel,rem,nth,del,cat,upd];exact z03 [1,0] fun q hq=>⟨by rw[h43,h44];simp,hq⟩
 subst h45;dsimp only[sel,rem,nth,del,cat,upd];refine z05 (by simp) ?_;refine z02 [0] (z93 (D:=V'.disk)) fun r46=>z04 fun h46=>z01 ?_;subst h46;dsimp only[sel,rem,nth,del,cat,upd];refine z02 [0,0] (z10z (N:=N) s2.ddead hlenD N 0 (by omega) (by omega)) fun j55=>z04 fun h55=>z01 ?_;subst h55;exact z03 [] fun q hq=>⟨rfl,hq⟩
end
end Go.Moat
