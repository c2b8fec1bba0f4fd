/- Layer 7: the sectors that patches need. -/
import Derived.Test.YtcaaljlhljemoaaGreatP15u
namespace Go.Moat
open Go.Mini
section
variable{N:Nat}{β:Type}{l:List HA}{S:β→HA}{d:Nat}{D:DskS}{m:M β}{T:HA}{g:Geo}
theorem zqv{j sq i:Nat}(h1:1+g.J≤i)(h2:i<D.secs.length)(hJ:g.J≤1000)(hi:i<100000):Tri (z00 [pts j (.cells (z3b d g sq) false),z1h d D]) (F_1a N (some ⟨j,0⟩) (i:Int)) fun r=>pu (r=true) (z00 [pts j (.cells (z3b d g sq) false),z1h d D]):=by
 unfold F_1a;refine z02 [0,0] (Q:=fun c=>pu (c=true) (z00 [pts j (.cells (z3b d g sq) false),z1h d D])) ?_ fun c7=>z04 fun h7=>z01 ?_
 ·refine z08 (by simp) (zbw 0 rfl rfl ?_);refine z02 [1] (zay (D:=D)) fun r6=>z04 fun h6=>z01 ?_;subst h6;dsimp only[sel,rem,nth,del,cat,upd];exact z03 [1,0] fun q hq=>⟨by simp;omega,hq⟩
 subst h7;dsimp only[sel,rem,nth,del,cat,upd];refine z02 [0,0] (Q:=fun c=>pu (c=true) (z00 [pts j (.cells (z3b d g sq) false),z1h d D])) ?_ fun c18=>z04 fun h18=>z01 (z03 [0,0] fun q hq=>⟨h18,hq⟩);refine z08 rfl (z90 0 rfl (v:=1) rfl ?_);refine z02 [0,0] (Q:=fun c=>pu (c=true) (z00 [pts j (.cells (z3b d g sq) false),z1h d D])) ?_ fun c17=>z04 fun h17=>z01 (z03 [0,0] fun q hq=>⟨h17,hq⟩);refine z08 (by simp;omega) (z90 0 rfl (v:=1) rfl (z90 0 rfl (v:=g.J) rfl ?_));rw[z0f (n:=1+(g.J:Int)) (by omega) (by omega)];exact z03 [0,0] fun q hq=>⟨by simp;omega,hq⟩
theorem zqw:∀(L:List Pat){i:Nat}(hi:i<L.length)(x:Nat),(z1n z2v L).set (i * 3) (.int .i64 (x:Int))=z1n z2v (L.set i {L[i]with sec:=x})
 | p::L,0,_,x=>rfl
 | p::L,i+1,hi,x=>by
  have:=zqw L (i:=i) (by simpa using hi) x
  have e:∀L:List Pat,z1n z2v (p::L)=z2v p++z1n z2v L:=fun L=>rfl;rw[e,show(i+1) * 3=i * 3+3 by omega,List.set_append_right _ _ (by rw[z2c];omega),z2c,Nat.add_sub_cancel,this];rfl
def z8l(l:List Pat):List Nat:=(l.map fun p=>[p.sec,p.t]).flatten
theorem z10r(a b:List Pat):z8l (a++b)=z8l a++z8l b:=by simp[z8l]
theorem zqx(l:List Pat):(z8l l).length=2 * l.length:=by
 induction l with
 | nil=>rfl
 | cons p l ih=>show(p.sec::p.t::z8l l).length=_;simp[ih];omega
structure PatsOk(T:HA)(n:Nat)(s:Sl)(l:List Pat):Prop where
 h:PatsIn T n s l
 tag:∀p∈l,p.t<65536
 n:n≤4096
theorem zux{ps:List Pat}{n:Nat}{sl:Sl}(h:PatsOk T n sl ps)(hl:ps.length≤15):∀(K k:Nat)(acc:Sl),ps.length - k<K→k≤ps.length →
  Tri (z00 [z07 acc 1 (z1y (z8l (ps.take k))),T]) (z0l K (F_3u N sl) (acc,(k:Int))) fun r=>z00 [z07 r 1 (z1y (z8l ps)),T]:=by
 have hlen:sl.len=ps.length:=by have:=h.h.rd.1;rw[z0o z2c]at this;omega
 have hmost:z1z=70368744177664:=rfl;intro K;induction K with
 | zero=>intro k acc h;omega
 | succ K ih=>
  intro k acc hK hk;rw[z16];generalize z0l K (F_3u N sl)=go at ih ⊢;unfold F_3u;by_cases hkl:k<ps.length
  case neg=>
   obtain rfl:k=ps.length:=by omega
   rw[List.take_length];exact z05 (by simp;omega) (z03 [0,0] fun q hq=>hq)
  have p3:=(h.h.el _ (List.getElem_mem hkl)).2.2;have p4:=h.tag _ (List.getElem_mem hkl);have hn:=h.n;refine z08 (by simp;omega) ?_;refine z0a 0 rfl fun la=>?_;rw[z4z,zqx,List.length_take]at la;refine zmj 1 rfl h.h hkl ?_;rw[z6m (n:=((ps[k].sec:Nat):Int)) (by omega) (by omega),z6m (n:=((ps[k].t:Nat):Int)) (by omega) (by omega)];refine z11 fun b=>?_;refine z02 [1,0] (z2a (s:=acc) (by':=8) (T:=pts b (.cells [.int .u64 ((ps[k].sec:Nat):Int),.int .u64 ((ps[k].t:Nat):Int)] false)) (rd_pts0 (by simp)) (by omega) rfl (by dsimp only;omega)) fun o2=>z01 ?_;dsimp only[sel,rem,nth,del,cat,upd];rw[z0f (n:=(k:Int)+1) (by omega) (by omega)];refine tri_last [0,1] (Tri.pre (ih (k+1) o2 (by omega) (by omega)) fun q hq=>z49 (fun q h=>?_) hq);have e:z1y (z8l (ps.take k))++[.int .u64 ((ps[k].sec:Nat):Int),.int .u64 ((ps[k].t:Nat):Int)]=z1y (z8l (ps.take (k+1))):=by
   rw[List.take_add_one,List.getElem?_eq_getElem hkl,z10r];simp[z1y,z8l]
  rw[←e];exact h
theorem catL_drop'{α:Type}{c:α→List MV}{e:Nat}(h:∀x,(c x).length=e)(l:List α)(i:Nat)(hi:i≤l.length):(z1n c l).drop (i * e)=z1n c (l.drop i):=by
 have e2:z1n c l=z1n c (l.take i)++z1n c (l.drop i):=by rw[←z8j,List.take_append_drop]
 rw[e2];exact List.drop_left' (by rw[z0o h,List.length_take,Nat.min_eq_left hi])
theorem catL_take'{α:Type}{c:α→List MV}{e:Nat}(h:∀x,(c x).length=e)(l:List α)(i:Nat)(hi:i≤l.length):(z1n c l).take (i * e)=z1n c (l.take i):=by
 have e2:z1n c l=z1n c (l.take i)++z1n c (l.drop i):=by rw[←z8j,List.take_append_drop]
 rw[e2];exact List.take_left' (by rw[z0o h,List.length_take,Nat.min_eq_left hi])
structure LayInv(ps:List Pat)(at':Nat)(out:List Pat)(L:List (Sl×List UInt8)):Prop where
 len:out.length=min at' ps.length+at' / 15
 el:∀p∈out,p.b.length=64∧(((p.s,p.b)∈L∧p.s.len=64)∨∃p'∈ps,p.s=p'.s∧p.b=p'.b)
theorem zuy{ps:List Pat}{n:Nat}{sl:Sl}(h:PatsOk T n sl ps)(hl:ps.length≤3000)(hN:5000<N):∀(K at':Nat)(o:Sl)(out:List Pat)(L:List (Sl×List UInt8)),ps.length+15 - at'<K→at'%15=0→at'≤ps.length+14→LayInv ps at' out L →
  Tri (z00 [z07 o 3 (z1n z2v out),z1u L,T]) (z0l K (F_3v N sl) (o,(at':Int))) fun r=>exA fun x:List Pat×List (Sl×List UInt8)=>pu (x.1.length=ps.length+(ps.length+14) / 15∧∀p∈x.1,p.b.length=64∧(((p.s,p.b)∈x.2∧p.s.len=64)∨∃p'∈ps,p.s=p'.s∧p.b=p'.b)) (z00 [z07 r 3 (z1n z2v x.1),z1u x.2,T]):=by
 have hlen:sl.len=ps.length:=by have:=h.h.rd.1;rw[z0o z2c]at this;omega
 have hmost:z1z=70368744177664:=rfl;intro K;induction K with
 | zero=>intro at' o out L h;omega
 | succ K ih=>
  intro at' o out L hK ha ha2 hI;rw[z16];generalize z0l K (F_3v N sl)=go at ih ⊢;unfold F_3v;have hil:=hI.len;by_cases hlt:at'<ps.length
  case neg=>
   refine z05 (by simp;omega) (z03 [0,0,0] fun q hq=>⟨(out,L),⟨?_,hI.el⟩,hq⟩);show out.length=_;omega
  refine z08 (by simp;omega) ?_;obtain⟨hi,hhi⟩:∃hi,hi=min ps.length (at'+15):=⟨_,rfl⟩;have e1:(if(sl.len:Int)<wr .i64 ((at':Int)+15)then(sl.len:Int)else wr .i64 ((at':Int)+15))=((hi:Nat):Int):=by
   rw[z0f (by omega) (by omega)];split<;>omega
  dsimp only;rw[e1];refine z5e (by omega) (by omega) (by omega) ?_;rw[Int.toNat_natCast,Int.toNat_natCast];have hp:PatsOk T n (z3v 3 sl at' hi) ((ps.drop at').take (hi - at')):=by
   refine⟨⟨?_,fun p hp=>h.h.el p (List.mem_of_mem_drop (List.mem_of_mem_take hp))⟩,fun p hp=>h.tag p (List.mem_of_mem_drop (List.mem_of_mem_take hp)),h.n⟩;have:=h.h.rd.sub (lo:=at') (hi:=hi) (by omega) (by omega)
   rw[catL_drop' z2c _ _ (by omega),catL_take' z2c _ _ (by rw[List.length_drop];omega)]at this;exact this
  have hsl:(z3v 3 sl at' hi).len=hi - at':=rfl;generalize (z3v 3 sl at' hi)=l5 at hp hsl;have hpl:((ps.drop at').take (hi - at')).length=hi - at':=by rw[List.length_take,List.length_drop];omega
  have hsub:∀p∈(ps.drop at').take (hi - at'),p∈ps:=fun p hp=>List.mem_of_mem_drop (List.mem_of_mem_take hp);generalize (ps.drop at').take (hi - at')=part at hp hpl hsub;refine z02 [2] (Q:=fun r=>z00 [z07 r 1 (z1y (z8l part)),T]) ((Tri.pre (zux hp (by omega) N 0 ⟨none,0⟩ (by omega) (by omega)) fun q hq=>z2r (fun q h =>.nil 1 h) hq)) fun j12=>z01 ?_;dsimp only[sel,rem,nth,del,cat,upd];refine z0a 0 rfl fun l12=>?_;have hsm:∀x∈z8l part,x<256^2:=by
   intro x hx;unfold z8l at hx;obtain⟨y,hy,hxy⟩:=List.mem_flatten.1 hx;obtain⟨p,hpp,rfl⟩:=List.mem_map.1 hy;have h1:=(hp.h.el p hpp).2.2;have h2:=hp.tag p hpp;have h3:=hp.n;have:(256:Nat)^2=65536:=rfl
   simp at hxy;rcases hxy with rfl | rfl<;>omega
  have hpn:=zqx part;refine z02 [0] (z9e (size:=2) (ns:=z8l part) (by omega) (by omega) (z0e l12) hsm (by omega) hN) fun r13=>z04 fun h13=>z01 ?_;dsimp only[sel,rem,nth,del,cat,upd];refine z0a 0 rfl fun l13=>?_;refine z02 [0] (zdf (n:=64) (z0e l13) (by rw[z2k,hpn];omega) (by omega)) fun r14=>z04 fun h14=>z01 ?_;dsimp only[sel,rem,nth,del,cat,upd];have hf64:(filled (z4e 2 (z8l part)) 64).length=64:=z2i (by rw[z2k,hpn];omega);generalize filled (z4e 2 (z8l part)) 64=hb at hf64;refine z0a 0 rfl fun l14=>?_;rw[z0i,hf64]at l14;refine z11 fun q15=>?_;refine z0a 5 rfl fun lo=>?_;rw[z0o z2c]at lo;refine z02 [5,0] (z2a (s:=o) (by':=40) (T:=pts q15 (.cells (z2v ⟨0,r14.1,hb,0⟩) false)) (rd_pts0 (by simp[z2v])) (by omega) (zdi _) (by dsimp only;omega)) fun l16=>z01 ?_;dsimp only[sel,rem,nth,del,cat,upd];rw[show z1n z2v out++z2v ⟨0,r14.1,hb,0⟩=z1n z2v (out++[⟨0,r14.1,hb,0⟩]) by rw[z8j,zfh]];refine z0a 0 rfl fun lo2=>?_;rw[z0o z2c,List.length_append,List.length_singleton]at lo2;refine z02 [0,4] (z2a (s:=l16) (by':=40) hp.h.rd (by omega) (z7c zdi _) (by omega)) fun l17=>z01 ?_;dsimp only[sel,rem,nth,del,cat,upd];rw[←z8j];rw[z0f (n:=(at':Int)+15) (by omega) (by omega)];refine tri_last [0,2,4,0] (Tri.pre (ih (at'+15) l17 (out++[(⟨0,r14.1,hb,0⟩:Pat)]++part) ((r14.1,hb)::L) (by omega) (by omega) (by omega) ⟨?_,fun p hp'=>?_⟩) fun q(hq:z00 [z07 l17 3 (z1n z2v (out++[(⟨0,r14.1,hb,0⟩:Pat)]++part)),z07 r14.1 1 (bytesOf hb),z1u L,T] q)=>z1d (fun q hq=>zn6 hq) hq)
  ·rw[List.length_append,List.length_append,List.length_singleton,hpl,hil];omega
  ·rcases List.mem_append.1 hp' with hp' | hp'
   ·rcases List.mem_append.1 hp' with hp' | hp'
    ·obtain⟨h1,h2⟩:=hI.el p hp';refine⟨h1,?_⟩;rcases h2 with⟨h2,h3⟩ | h2
     ·exact .inl ⟨List.mem_cons_of_mem _ h2,h3⟩
     ·exact .inr h2
    ·have:=List.mem_singleton.1 hp'
     subst this;exact⟨hf64,.inl ⟨List.mem_cons_self ..,by dsimp only;omega⟩⟩
   ·exact⟨(hp.h.el p hp').2.1,.inr ⟨p,hsub p hp',rfl,rfl⟩⟩
theorem zuz{j sq:Nat}{o:Sl}{out:List Pat}(hl:out.length≤5000):∀(K k:Nat)(ok:List Pat),out.length - k<K→k≤out.length→ok.length=out.length→(∀(i:Nat) p,ok[i]? = some p→∃p',out[i]? = some p'∧p.s=p'.s∧p.b=p'.b∧(i<k→p.sec=2+i)) →
  Tri (z00 [z07 o 3 (z1n z2v ok),pts j (.cells (z3b d g sq) false)]) (z0l K (F_3w N (some ⟨j,0⟩) o) (k:Int)) fun _=>exA fun ok:List Pat=>pu (ok.length=out.length∧∀(i:Nat) p,ok[i]? = some p→∃p',out[i]? = some p'∧p.s=p'.s∧p.b=p'.b∧p.sec=2+i) (z00 [z07 o 3 (z1n z2v ok),pts j (.cells (z3b d g sq) false)]):=by
 intro K;induction K with
 | zero=>intro k ok h;omega
 | succ K ih=>
  intro k ok hK hk hlen hin;rw[z16];generalize z0l K (F_3w N (some ⟨j,0⟩) o)=go at ih ⊢;unfold F_3w;refine z0a 0 rfl fun lo=>?_;rw[z0o z2c]at lo;by_cases hkl:k<out.length
  case neg=>
   refine z05 (by simp;omega) (z03 [0,0] fun q hq=>⟨ok,⟨hlen,fun i p hp=>?_⟩,hq⟩);obtain⟨p',h1,h2,h3,h4⟩:=hin i p hp;exact⟨p',h1,h2,h3,h4 (by have:=(List.getElem?_eq_some_iff.1 h1).1;omega)⟩
  refine z08 (by simp;omega) ?_;refine z90 1 rfl (v:=1) rfl ?_;have hkk:k<ok.length:=by omega
  have e2:wr .i64 (wr .i64 ((1:Int)+1)+(k:Int))=((2+k:Nat):Int):=by
   rw[z0f (n:=(1:Int)+1) (by omega) (by omega),z0f (by omega) (by omega)];omega
  rw[e2];refine z77 0 rfl (fun _ h0=>?_) fun b ln h0 hl9=>?_
  ·have:=congrArg List.length h0
   rw[z0o z2c]at this;simp at this;omega
  subst h0;dsimp only at lo;refine z21 (by omega) (z06 (z1x 0 rfl (by rw[z0o z2c];omega) rfl ?_));rw[show 0+k * 3+0=k * 3 by omega,zqw ok hkk];refine z3c 0 (B:=z07 ⟨some ⟨b,0⟩,ln⟩ 3 (z1n z2v (ok.set k {ok[k]with sec:=2+k}))) rfl (fun q hq =>.mk (by rw[z0o z2c,List.length_set];omega) hq) ?_;rw[z0f (by omega) (by omega)];refine tri_last [0,0] (ih (k+1) _ (by omega) (by omega) (by rw[List.length_set];exact hlen) fun i p hp=>?_);rw[List.getElem?_set]at hp;by_cases e:k=i
  ·subst e;rw[if_pos rfl,if_pos hkk]at hp;cases hp;obtain⟨p',h1,h2,h3,_⟩:=hin k ok[k] (List.getElem?_eq_getElem hkk);exact⟨p',h1,h2,h3,fun _=>rfl⟩
  ·rw[if_neg e]at hp;obtain⟨p',h1,h2,h3,h4⟩:=hin i p hp;exact⟨p',h1,h2,h3,fun _=>h4 (by omega)⟩
structure LaidP(ps out:List Pat)(L:List (Sl×List UInt8)):Prop where
 len:out.length=ps.length+(ps.length+14) / 15
 el:∀(i:Nat) p,out[i]? = some p→p.sec=2+i∧p.b.length=64∧(((p.s,p.b)∈L∧p.s.len=64)∨∃p'∈ps,p.s=p'.s∧p.b=p'.b)
theorem zy1{j sq:Nat}{ps:List Pat}{n:Nat}{sl:Sl}(h:PatsOk T n sl ps)(hl:ps.length≤3000)(hN:5000<N) :
  Tri (z00 [pts j (.cells (z3b d g sq) false),T]) (F_33 N (some ⟨j,0⟩) sl) fun r=>exA fun x:List Pat×List (Sl×List UInt8)=>pu (LaidP ps x.1 x.2) (z00 [z07 r 3 (z1n z2v x.1),z1u x.2,pts j (.cells (z3b d g sq) false),T]):=by
 unfold F_33;refine z02 [1] (Tri.pre (zuy h hl hN N 0 ⟨none,0⟩ [] [] (by omega) (by omega) (by omega) ⟨by simp,fun p hp=>by cases hp⟩) fun q hq=>z2r (fun q h =>.nil 3 h) (z2r (A:=z1u []) (fun q h=>h) hq)) fun j18=>z1g fun x=>z04 fun hx=>z01 ?_;obtain⟨out,L⟩:=x;obtain⟨hx1,hx2⟩:=hx;have hx1:out.length=ps.length+(ps.length+14) / 15:=hx1;have hx2:∀p∈out,p.b.length=64∧(((p.s,p.b)∈L∧p.s.len=64)∨∃p'∈ps,p.s=p'.s∧p.b=p'.b):=hx2;dsimp only[sel,rem,nth,del,cat,upd];refine z02 [0,2] (zuz (out:=out) (by omega) N 0 out (by omega) (by omega) rfl fun i p hp=>⟨p,hp,rfl,rfl,fun h=>by omega⟩) fun _=>z1g fun ok=>z04 fun hk=>z01 ?_;obtain⟨k1,k2⟩:=hk;dsimp only[sel,rem,nth,del,cat,upd];refine z03 [0,1,0,0] fun q hq=>⟨(ok,L),⟨by rw[←hx1];exact k1,fun i p hp=>?_⟩,hq⟩;obtain⟨p',h1,h2,h3,h4⟩:=k2 i p hp;obtain⟨h5,h6⟩:=hx2 p' (List.mem_of_getElem? h1);rw[h2,h3];exact⟨h4,h5,h6⟩
end
end Go.Moat

/- Layer 7: Commit. -/
namespace Go.Moat
open Go.Mini
section
variable{N:Nat}{β:Type}{l:List HA}{S:β→HA}{d:Nat}{D:DskS}{m:M β}{T:HA}{g:Geo}
def lsC(ls:List (Sl×List Pat)):List MV:=ls.map fun x =>.sl x.1.p x.1.len 3
def zoc(ls:List (Sl×List Pat)):List Pat:=(ls.map (·.2)).flatten
theorem zs0{j sq:Nat}{q:Option MA}{ls:List (Sl×List Pat)}(h4:ls.length=4)(hq:RdC T ⟨q,4⟩ 1 (lsC ls))(hp:∀x∈ls,PatsIn T D.secs.length x.1 x.2∧x.2.length≤3500)(h2:0≤D.done)(h3:D.done<3000000000000000000)(hw:D.waits.length<300000000000)(hN:5000<N) :
  ∀(K k:Nat)(D1:DskS),4 - k<K→k≤4→D1.dead=false→D1.fuse = -1→D1.secs=z2n D.secs (zoc (ls.take k))→D.done≤D1.done→D1.done≤D.done+k * 4000→D1.waits.length≤D.waits.length →
  Tri (z00 [pts j (.cells (z3b d g sq) false),z1h d D1,T]) (z0l K (F_3y N (some ⟨j,0⟩) q) (k:Int)) fun r=>exA fun D2:DskS=>pu (r=.inl ()∧D2.dead=false∧D2.fuse = -1∧D2.secs=z2n D.secs (zoc ls)∧D.done≤D2.done∧D2.done≤D.done+16000∧(k<4→D2.waits=[])∧(k=4→D2.waits=D1.waits)) (z00 [pts j (.cells (z3b d g sq) false),z1h d D2,T]):=by
 intro K;induction K with
 | zero=>intro k D1 h;omega
 | succ K ih=>
  intro k D1 hK hk g0 g1 g2 g3 g4 g5;rw[z16];generalize z0l K (F_3y N (some ⟨j,0⟩) q)=go at ih ⊢;unfold F_3y;by_cases hkl:k<4
  case neg=>
   obtain rfl:k=4:=by omega
   rw[List.take_of_length_le (by omega)]at g2;exact z05 (by simp) (z03 [0,0,0] fun q hq=>⟨D1,⟨rfl,g0,g1,g2,g3,by omega,fun h=>by omega,fun _=>rfl⟩,hq⟩)
  have hkk:k<ls.length:=by omega
  refine z08 (by simp;omega) ?_;refine zl7 2 rfl hq (i:=k) (by unfold lsC;rw[List.getElem?_map,List.getElem?_eq_getElem hkk];rfl) ?_;obtain⟨p1,p2⟩:=hp _ (List.getElem_mem hkk);have el:D1.secs.length=D.secs.length:=by rw[g2,z47]
  refine z02 [0,0,0] (zrz (D:=D1) (sl:=ls[k].1) (ps:=ls[k].2) (by rw[el];exact p1) g0 g1 (by omega) (by omega) (by omega) (by omega) hN) fun r25=>z1g fun D2=>z04 fun h25=>z01 ?_;obtain⟨h25,k0,k1,k2,k3,k4⟩:=h25;subst h25;dsimp only[sel,rem,nth,del,cat,upd];refine z05 (by simp) ?_;rw[z0f (by omega) (by omega)];refine Tri.post (tri_last [0,0,0] (ih (k+1) D2 (by omega) (by omega) k0 k1 ?_ (by omega) (by omega) (by rw[k3];simp))) fun r q hq=>?_
  ·rw[k2,g2,List.take_add_one,List.getElem?_eq_getElem hkk];unfold zoc;rw[List.map_append,List.flatten_append,z7u];simp
  ·obtain⟨D3,⟨a1,a2,a3,a4,a5,a6,a7,a8⟩,hq⟩:=hq;refine⟨D3,⟨a1,a2,a3,a4,a5,a6,fun _=>?_,fun h=>by omega⟩,hq⟩;by_cases e:k+1<4
   ·exact a7 e
   ·rw[a8 (by omega),k3]
theorem zyg{j sq n:Nat}{sl:Sl}{ps:List Pat}(hp:PatsIn T D.secs.length sl ps)(ho:∀p∈ps,1+g.J≤p.sec)(hJ:g.J≤1000)(hn:D.secs.length≤4096)(hl:ps.length≤4000):∀(K k:Nat),ps.length - k<K→k≤ps.length →
  Tri (z00 [pts j (.cells (z3b d g sq) false),z1h d D,T]) (z0l K (F_3x N (some ⟨j,0⟩) sl) (k:Int)) fun r=>pu (r=.inl ()) (z00 [pts j (.cells (z3b d g sq) false),z1h d D,T]):=by
 have hlen:sl.len=ps.length:=by have:=hp.rd.1;rw[z0o z2c]at this;omega
 intro K;induction K with
 | zero=>intro k h;omega
 | succ K ih=>
  intro k hK hk;rw[z16];generalize z0l K (F_3x N (some ⟨j,0⟩) sl)=go at ih ⊢;unfold F_3x;by_cases hkl:k<ps.length
  case neg=>exact z05 (by simp;omega) (z03 [0,0,0] fun q hq=>⟨rfl,hq⟩)
  refine z08 (by simp;omega) ?_;refine zmj 2 rfl hp hkl ?_;obtain⟨p1,p2,p3⟩:=hp.el _ (List.getElem_mem hkl);have p4:=ho _ (List.getElem_mem hkl);refine z02 [0,0] (zqv (D:=D) p4 p3 hJ (by omega)) fun r8=>z04 fun h8=>z01 ?_;subst h8;dsimp only[sel,rem,nth,del,cat,upd];have ls64:=z4t p1;refine z05 (by simp;omega) ?_;rw[z0f (by omega) (by omega)];exact tri_last [0,0,0] (ih (k+1) (by omega) (by omega))
theorem z3y{secs:List SecS}:∀{l:List Pat}{secs:List SecS}{i:Nat},(∀p∈l,p.sec≠i)→(z2n secs l)[i]? = secs[i]?
 | [],secs,i,_=>rfl
 | p::l,secs,i,h=>by
  show(z2n (secs.set p.sec ⟨p.b,p.t⟩) l)[i]? = _;rw[z3y (secs:=secs) fun q hq=>h q (List.mem_cons_of_mem _ hq),List.getElem?_set,if_neg (h p (List.mem_cons_self ..))]
theorem zhe:∀{l:List Pat}{s1 s2:List SecS}{i:Nat},s1[i]? = s2[i]? → (s1.length=s2.length)→(z2n s1 l)[i]? = (z2n s2 l)[i]?
 | [],_,_,_,h,_=>h
 | p::l,s1,s2,i,h,hl=>by
  show(z2n (s1.set p.sec ⟨p.b,p.t⟩) l)[i]? = (z2n (s2.set p.sec ⟨p.b,p.t⟩) l)[i]?;refine zhe ?_ (by simp[hl]);rw[List.getElem?_set,List.getElem?_set,hl,h]
structure Comm(g:Geo)(D:DskS)(ps:List Pat)(seq:Nat)(D':DskS):Prop where
 dead:D'.dead=false
 fuse:D'.fuse = -1
 len:D'.secs.length=D.secs.length
 secs:∀i,1+g.J≤i→D'.secs[i]? = (z2n D.secs ps)[i]?
 sup:D'.secs[0]? = D.secs[0]?
 head:D'.secs[1]? = some ⟨z6a seq 0,0⟩
 done:D.done≤D'.done∧D'.done≤D.done+16000
 waits:D'.waits=[]
theorem zs1(hg:g.ok){j sq:Nat}{sl:Sl}{ps:List Pat}(hp:PatsOk T D.secs.length sl ps)(ho:∀p∈ps,1+g.J≤p.sec)(hne:0<ps.length)(hroom:ps.length≤roomN g.J)(hlen:1+g.J≤D.secs.length)(h0:D.dead=false)(h1:D.fuse = -1)(h2:0≤D.done)(h3:D.done<3000000000000000000)(hw:D.waits.length<300000000000)(hsq:sq<9000000000000000000)(hN:5000<N) :
  Tri (z00 [pts j (.cells (z3b d g sq) false),z1h d D,T]) (F_0w N (some ⟨j,0⟩) sl) fun r=>exA fun D':DskS=>pu (r=0∧Comm g D ps (sq+1) D') (z00 [pts j (.cells (z3b d g (sq+1)) false),z1h d D',T]):=by
 have hJ:=hg.j2;have hJ1:=hg.j1;have hln:sl.len=ps.length:=by have:=hp.h.rd.1;rw[z0o z2c]at this;omega
 have hr2:roomN g.J≤g.J:=by unfold roomN;omega
 unfold F_0w;refine z05 (by simp) (z05 (by simp;omega) ?_);refine z02 [0] (zgs (sq:=sq) hg) fun r3=>z04 fun h3'=>z01 ?_;subst h3';dsimp only[sel,rem,nth,del,cat,upd];refine z05 (by simp;omega) ?_;refine z02 [0,0,0] (zyg (n:=0) hp.h ho hJ hp.n (by omega) N 0 (by omega) (by omega)) fun j9=>z04 fun hj=>z01 ?_;subst hj;dsimp only[sel,rem,nth,del,cat,upd];refine z0h (z06 (z29 0 rfl rfl ?_));have esq:wr .u64 ((sq:Int)+1)=((sq+1:Nat):Int):=by
  rw[z6m (by omega) (by omega)];omega
 rw[esq];refine z05 (by simp;omega) ?_;refine z02 [0,1] (zy1 (d:=d) (g:=g) (j:=j) (sq:=sq) hp (by omega) hN) fun r15=>z1g fun x=>z04 fun hL=>z01 ?_;obtain⟨out,L⟩:=x;have hL:LaidP ps out L:=hL;dsimp only[sel,rem,nth,del,cat,upd];refine z02 [2] (zgr (d:=d) (g:=g) (j:=j) (sq:=sq) (seq:=sq+1) (cnt:=ps.length) (by omega) (by omega) hN |> fun t=>by rw[hln];exact t) fun r16=>z04 fun h16=>z01 ?_;obtain⟨a1,a2⟩:=h16;rw[a1,a2];dsimp only[sel,rem,nth,del,cat,upd];refine z11 fun q17=>?_;refine z02 [2] (zgr (d:=d) (g:=g) (j:=j) (sq:=sq) (seq:=sq+1) (cnt:=0) (by omega) (by omega) hN) fun r18=>z04 fun h18=>z01 ?_;obtain⟨b1,b2⟩:=h18;rw[b1,b2];dsimp only[sel,rem,nth,del,cat,upd];refine z11 fun q19=>?_;refine z11 fun q20=>?_;refine z0a 2 rfl fun lh0=>?_;refine z0a 5 rfl fun lh1=>?_;refine z0a 6 rfl fun lo=>?_;rw[z0i,z9q]at lh0 lh1;rw[z0o z2c]at lo;have hol:=hL.len;have hbound:ps.length+(ps.length+14) / 15≤g.J - 1:=by unfold roomN at hroom;omega
 obtain⟨P1,hP1⟩:∃P:Pat,P=⟨1,r16.2.1,z6a (sq+1) ps.length,0⟩:=⟨_,rfl⟩;obtain⟨P0,hP0⟩:∃P:Pat,P=⟨1,r18.2.1,z6a (sq+1) 0,0⟩:=⟨_,rfl⟩;refine z4m [0,0,0,1,1,1,1,1] ?_;dsimp only[sel,rem,nth,del,cat,upd];generalize hls:[(r15,out),(⟨some ⟨q17,0⟩,1⟩,[P1]),(sl,ps),(⟨some ⟨q19,0⟩,1⟩,[P0])]=ls;have hls4:ls.length=4:=by rw[←hls];rfl
 have hq:RdC (z00 [pts q20 (.cells [MV.sl r15.p r15.len 3,MV.sl (some ⟨q17,0⟩) 1 3,MV.sl sl.p sl.len 3,MV.sl (some ⟨q19,0⟩) 1 3] false),pts q19 (.cells [MV.int .i64 1,MV.sl r18.2.1.p r18.2.1.len 1,MV.int .u16 0] false),z07 r18.2.1 1 (bytesOf (z6a (sq+1) 0)),pts q17 (.cells [MV.int .i64 1,MV.sl r16.2.1.p r16.2.1.len 1,MV.int .u16 0] false),z07 r16.2.1 1 (bytesOf (z6a (sq+1) ps.length)),z07 r15 3 (z1n z2v out),z1u L,T]) ⟨some ⟨q20,0⟩,4⟩ 1 (lsC ls):=by
  rw[←hls];exact RdC.at 0 rfl (rd_pts0 (by simp))
 have hpp:∀x∈ls,PatsIn (z00 [pts q20 (.cells [MV.sl r15.p r15.len 3,MV.sl (some ⟨q17,0⟩) 1 3,MV.sl sl.p sl.len 3,MV.sl (some ⟨q19,0⟩) 1 3] false),pts q19 (.cells [MV.int .i64 1,MV.sl r18.2.1.p r18.2.1.len 1,MV.int .u16 0] false),z07 r18.2.1 1 (bytesOf (z6a (sq+1) 0)),pts q17 (.cells [MV.int .i64 1,MV.sl r16.2.1.p r16.2.1.len 1,MV.int .u16 0] false),z07 r16.2.1 1 (bytesOf (z6a (sq+1) ps.length)),z07 r15 3 (z1n z2v out),z1u L,T]) D.secs.length x.1 x.2∧x.2.length≤3500:=by
  intro x hx;rw[←hls]at hx;simp only[List.mem_cons,List.not_mem_nil,or_false]at hx;rcases hx with rfl | rfl | rfl | rfl
  ·refine⟨⟨RdC.at 5 rfl (z0e (by rw[z0o z2c];omega)),fun p hp'=>?_⟩,by dsimp only;omega⟩;obtain⟨i,hi⟩:=List.getElem?_of_mem hp';obtain⟨k1,k2,k3⟩:=hL.el i p hi;have hil:i<out.length:=(List.getElem?_eq_some_iff.1 hi).1;refine⟨?_,k2,by omega⟩;rcases k3 with⟨k3,k4⟩ | ⟨p',k3,k4,k5⟩
   ·exact RdC.at 6 rfl (zav k3 (by omega))
   ·rw[k4,k5];exact RdC.at 7 rfl (hp.h.el p' k3).1
  ·refine⟨⟨RdC.at 3 rfl (by rw[hP1];exact rd_pts0 (by simp[z1n,z2v])),fun p hp'=>?_⟩,by simp⟩;rw[List.mem_singleton.1 hp',hP1];exact⟨RdC.at 4 rfl (z0e (by rw[z0i,z9q];exact lh1)),z9q _ _,by dsimp only;omega⟩
  ·exact⟨⟨RdC.at 7 rfl hp.h.rd,fun p hp'=>⟨RdC.at 7 rfl (hp.h.el p hp').1,(hp.h.el p hp').2⟩⟩,by dsimp only;omega⟩
  ·refine⟨⟨RdC.at 1 rfl (by rw[hP0];exact rd_pts0 (by simp[z1n,z2v])),fun p hp'=>?_⟩,by simp⟩;rw[List.mem_singleton.1 hp',hP0];exact⟨RdC.at 2 rfl (z0e (by rw[z0i,z9q];exact lh0)),z9q _ _,by dsimp only;omega⟩
 refine z02 [1,1,0] (zs0 (sq:=sq) hls4 hq hpp h2 h3 hw hN N 0 D (by omega) (by omega) h0 h1 rfl (Int.le_refl _) (by omega) (Nat.le_refl _)) fun j26=>z1g fun D2=>z04 fun hD=>z01 ?_;obtain⟨hD,d1,d2,d3,d4,d5,d6,_⟩:=hD;subst hD;dsimp only[sel,rem,nth,del,cat,upd];refine z0h (z06 (z1x 0 rfl (by simp[z3b]) rfl ?_));refine z5u 2 rfl ?_;dsimp only[sel,rem,nth,del,cat,upd];have d3:D2.secs=z2n (z2n (z2n (z2n D.secs out) [P1]) ps) [P0]:=by
  rw[d3,←hls,←z7u,←z7u,←z7u];simp[zoc]
 have ho2:∀i,(i=0∨1+g.J≤i)→∀p∈out,p.sec≠i:=by
  intro i hi p hp';obtain⟨k,hk⟩:=List.getElem?_of_mem hp';have k1:=(hL.el k p hk).1;have hil:=(List.getElem?_eq_some_iff.1 hk).1;omega
 refine z03 [8,8,7] fun q hq=>⟨D2,⟨rfl,⟨d1,d2,by rw[d3,z47,z47,z47,z47],fun i hi=>?_,?_,?_,⟨d4,d5⟩,d6 (by omega)⟩⟩,hq⟩
 ·rw[d3,z3y (secs:=[]) (by intro p hp';rw[List.mem_singleton.1 hp',hP0];dsimp only;omega)];refine zhe ?_ (by rw[z47,z47]);rw[z3y (secs:=[]) (by intro p hp';rw[List.mem_singleton.1 hp',hP1];dsimp only;omega),z3y (secs:=[]) (ho2 i (.inr hi))]
 ·rw[d3,z3y (secs:=[]) (by intro p hp';rw[List.mem_singleton.1 hp',hP0];dsimp only;omega),z3y (secs:=[]) (by intro p hp';have:=ho p hp';omega),z3y (secs:=[]) (by intro p hp';rw[List.mem_singleton.1 hp',hP1];dsimp only;omega),z3y (secs:=[]) (ho2 0 (.inl rfl))]
 ·rw[d3];show((z2n (z2n (z2n D.secs out) [P1]) ps).set P0.sec ⟨P0.b,P0.t⟩)[1]? = _;rw[hP0,List.getElem?_set,if_pos rfl,if_pos (by rw[z47,z47,z47];dsimp only;omega)];rfl
end
end Go.Moat
