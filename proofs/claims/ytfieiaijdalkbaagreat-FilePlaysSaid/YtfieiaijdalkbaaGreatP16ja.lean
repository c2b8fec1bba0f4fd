/- Layer 7: patches are written. -/
import Derived.Test.YtfieiaijdalkbaaGreatP16j
namespace Go.Mini
section
variable{β:Type}{l:List HA}{S:β→HA}{T:HA}{s:Sl}{cs:List MV}
theorem z161(n:Nat)(hl:l[n]? = some T)(hr:RdC T s 1 cs){k:Nat}(hk:0<k)(hs:s.len=k){f:List MV→M β}(kk:Tri (z00 l) (f cs) S):Tri (z00 l) (bd (arrAt k s) fun q=>bd (ldn k q) f) S:=by
 rw[←bd_bd];refine z6j n hl (fun h q hq hh=>?_) kk;unfold arrAt;rw[if_pos ⟨hk,by omega⟩];rcases hr.2 h q hq hh with⟨_,h2⟩ | ⟨a,r,ro,h1,h2,h3,h4⟩
 ·omega
 ·rw[hs,Nat.mul_one]at h3 h4;show ldn k s.p h=_;rw[h1];unfold ldn;dsimp only;rw[h2];dsimp only;rw[if_pos h3,h4]
end
end Go.Mini
namespace Go.Moat
open Go.Mini
section
variable{N:Nat}{β:Type}{l:List HA}{S:β→HA}{d:Nat}{D:DskS}{m:M β}{T:HA}{g:Geo}
theorem zvy(i:Int){s:Sl}{bs:List UInt8}(t:Int)(hr':RdC T s 1 (bytesOf bs))(hd:0≤D.done)(hd2:D.done<9223372036854775807)(hw:D.waits.length<400000000000) :
  Tri (z00 [z1e d D,T]) (F_0k N (some ⟨d,0⟩) (i,s,t)) fun r=>pu (r=writeE D i bs) (z00 [z1e d (zcx D i bs t),T]):=by
 have hs:=z4m hr';unfold F_0k;rw[if_neg (by simp)];refine z02 [0] (zh8 i) fun r=>z04 fun hr=>z01 ?_;by_cases h:0≤i∧i<D.secs.length∧bs.length=64
 case neg=>
  refine z07 (by
   rw[hr];dsimp only;rw[hs];simp;omega) ?_
  refine z03 [0,0] fun q hq=>⟨by unfold writeE;rw[if_neg h],?_⟩;unfold zcx;rw[if_neg h];exact hq
 have hcan:=h;obtain⟨h1,h2,h3⟩:=h;refine z05 (by
  rw[hr];dsimp only;rw[hs];simp[h1,h2,h3]) ?_
 refine z02 [0] (zh9 hd hd2) fun r=>z04 fun hr=>z01 ?_;subst hr;unfold writeE zcx;rw[if_pos hcan,if_pos hcan];by_cases hp:z5a D=0
 case neg=>
  refine z07 (by simp[hp]) ?_;rw[if_neg hp];exact z03 [0,0] fun q hq=>⟨rfl,hq⟩
 refine z05 (by simp[hp]) ?_;rw[if_pos hp];obtain⟨k,rfl⟩:∃k:Nat,i=k:=⟨i.toNat,by omega⟩;have hk:k<D.secs.length:=by omega
 refine z161 1 rfl hr' (by omega) (by omega) ?_;rw[ze9,zu4 h3];have hz:z47.c.length=65:=SecS.len z87;have hnow:SecS.ok ⟨bs,t⟩:=h3;have hnl:=SecS.len hnow;refine zcv (z0v fun nw=>?_);dsimp only[sel,rem,nth,del,cat,upd];refine z50 0 rfl hnl (by omega) (SecS.cell _) ?_;rw[z9w (by omega)];refine z9v 1 rfl fun bs' ws hD=>?_;rw[z5x,zb1];dsimp only[sel,rem,nth,del,cat,upd];have hsk:∀s∈D.secs,s.ok:=by rw[←z5x (D:=D)];exact hD.secs
 have hwk:∀w∈D.waits,w.was.ok∧w.now.ok∧w.at'<D.secs.length:=by
  have:=hD.waits
  rwa [zb1,z5x]at this
 refine z9i 0 rfl rfl (z9i 0 rfl rfl ?_);refine z2l hk (z5f 1 rfl (by rw[zcw hsk];have:=z3s (e:=65) hk;omega) ?_);rw[Nat.zero_add,zj2 hsk hk];refine z5f 3 rfl (by omega) ?_;rw[List.drop_zero,List.take_of_length_le (by omega)];have hwas:=hsk _ (List.getElem_mem hk);rw[zq8 hwas hnow];have hwl:(WaitS.c ⟨k,D.secs[k],⟨bs,t⟩⟩).length=131:=WaitS.len hwas hnow;refine zcv ?_;rw[zq9 hwl (by simp[ze5])];refine zcv (z0v fun wb=>?_);refine z7v 3 rfl (fun q hq=>z06.len hq) fun hwsl=>?_;rw[znf fun w hw=>⟨(hwk w hw).1,(hwk w hw).2.1⟩]at hwsl;refine z02 [3,0] (zon (k:=1) (e:=131) (by':=144) (by omega) (by omega) (by
  rw[List.take_of_length_le (by omega)];exact WaitS.cell _) (by have:most=70368744177664:=rfl;omega)) fun r=>?_
 refine z01 ?_;dsimp only[sel,rem,nth,del,cat,upd];refine zcu 2 rfl ?_;dsimp only[sel,rem,nth,del,cat,upd];refine z9i 2 rfl rfl ?_;refine z5f 4 rfl (by omega) ?_;rw[List.drop_zero,List.take_of_length_le (l:=SecS.c _) (by omega)];refine z2l hk (z50 3 rfl hnl (by rw[zcw hsk,hnl];have:=z3s (e:=65) hk;omega) (SecS.cell _) ?_);rw[Nat.zero_add,zne hsk hnow hk,List.take_of_length_le (by omega)];dsimp only[sel,rem,nth,del,cat,upd];refine z03 [2,2,0,2] fun q hq=>⟨hp.symm,?_⟩;rw[Int.toNat_natCast,List.getElem?_eq_getElem hk];have hwc:z6n D.waits++WaitS.c ⟨k,D.secs[k],⟨bs,t⟩⟩=z6n (D.waits++[⟨k,D.secs[k],⟨bs,t⟩⟩]):=by
  simp[z6n]
 rw[hwc]at hq;dsimp only[sel,rem,nth,del,cat,upd]at hq;refine zgz (l:=[T]) [_,_,_] (fun q h=>?_) hq;refine⟨(bs',r),⟨?_,?_,?_,hD.4⟩,?_⟩
 ·intro s hs;rcases List.mem_or_eq_of_mem_set hs with hs | rfl
  ·exact hsk s hs
  ·exact hnow
 ·intro w hw;rw[List.length_set];rcases List.mem_append.1 hw with hw | hw
  ·exact hwk w hw
  ·simp at hw;subst hw;exact⟨hwas,hnow,hk⟩
 ·have:=hD.many
  rw[z5x]at this;rw[List.length_set];exact this
 ·dsimp only;rw[List.length_set];exact h
structure Pat where
 sec:Nat
 s:Sl
 b:List UInt8
 t:Nat
def z2y(p:Pat):List MV:=[.int .i64 p.sec,.sl p.s.p p.s.len 1,.int .u16 p.t]
theorem z2j(p:Pat):(z2y p).length=3:=rfl
theorem zey(p:Pat):(z2y p).all z10=true:=rfl
structure PatsIn(T:HA)(n:Nat)(s:Sl)(l:List Pat):Prop where
 rd:RdC T s 3 (z0x z2y l)
 el:∀p∈l,RdC T p.s 1 (bytesOf p.b)∧p.b.length=64∧p.sec<n
def z2r(secs:List SecS)(l:List Pat):List SecS:=l.foldl (fun s p=>s.set p.sec ⟨p.b,p.t⟩) secs
theorem setAll_len(l:List Pat):∀secs:List SecS,(z2r secs l).length=secs.length:=by
 induction l with
 | nil=>intro secs;rfl
 | cons p l ih=>
  intro secs;show(z2r (secs.set p.sec ⟨p.b,p.t⟩) l).length=_;rw[ih,List.length_set]
theorem z80(l r:List Pat)(secs:List SecS):z2r secs (l++r)=z2r (z2r secs l) r:=by
 unfold z2r;rw[List.foldl_append]
theorem z6w(js:List Nat)(k:Tri (z00 (z00 (sel js l)::rem js l)) m S):Tri (z00 l) m S:=k.pre fun q hq=>by
 rw[z7i js l]at hq;exact hq
theorem PatsIn.mono{T':HA}{n:Nat}{s:Sl}{l:List Pat}(h:PatsIn T n s l)(k:∀q,T' q→∃q',q'=q∧T q'):PatsIn T' n s l:=
 ⟨h.rd.pre fun q hq=>by obtain⟨_,rfl,h⟩:=k q hq;exact h,fun p hp=>⟨(h.el p hp).1.pre fun q hq=>by obtain⟨_,rfl,h⟩:=k q hq;exact h,(h.el p hp).2⟩⟩
theorem zoy{s:Sl}{ps:List Pat}{n:Nat}(k:Nat)(hl:l[k]? = some T)(h:PatsIn T n s ps){i:Nat}(hi:i<ps.length){f:Int×Sl×Int→M β}(kk:Tri (z00 l) (f ((ps[i].sec:Int),ps[i].s,(ps[i].t:Int))) S):Tri (z00 l) (bd (idx 3 s (i:Int)) fun q=>bd (z4f [.int .i64,.sl 1,.int .u16] q) f) S:=
 zop k hl (ts:=[.int .i64,.sl 1,.int .u16]) h.rd (i:=i) (by have:=h.rd.1;rw[z0u z2j]at this;omega) (x:=((ps[i].sec:Int),ps[i].s,(ps[i].t:Int))) (by
  show HC.dec _ (((z0x z2y ps).drop (i * 3)).take 3)=_;rw[zdo z2j hi];rfl) kk
theorem zvz{j sq:Nat}{sl:Sl}{ps:List Pat}(hp:PatsIn T D.secs.length sl ps)(h0:D.dead=false)(h1:D.fuse = -1)(h2:0≤D.done)(h3:D.done+ps.length<4000000000000000000)(h4:D.waits.length+ps.length<400000000000) :
  ∀(K k:Nat)(D1:DskS),ps.length - k<K→k≤ps.length→D1.dead=false→D1.fuse = -1→D1.secs=z2r D.secs (ps.take k)→D1.done=D.done+k→D1.waits.length=D.waits.length+k →
  Tri (z00 [pts j (.cells (z3d d g sq) false),z1e d D1,T]) (z0e K (F_3m N (some ⟨j,0⟩) sl) (k:Int)) fun r=>exA fun D2:DskS=>pu (r=.inl ()∧D2.dead=false∧D2.fuse = -1∧D2.secs=z2r D.secs ps∧D2.done=D.done+ps.length) (z00 [pts j (.cells (z3d d g sq) false),z1e d D2,T]):=by
 have hlen:sl.len=ps.length:=by have:=hp.rd.1;rw[z0u z2j]at this;omega
 intro K;induction K with
 | zero=>intro k D1 h;omega
 | succ K ih=>
  intro k D1 h hk g0 g1 g2 g3 g4;rw[z13];generalize z0e K (F_3m N (some ⟨j,0⟩) sl)=go at ih ⊢;unfold F_3m;by_cases hkl:k<ps.length
  case neg=>
   obtain rfl:k=ps.length:=by omega
   rw[List.take_length]at g2;exact z05 (by simp;omega) (z03 [0,0,0] fun q hq=>⟨D1,⟨rfl,g0,g1,g2,g3⟩,hq⟩)
  refine z07 (by simp;omega) ?_;refine zoy 2 rfl hp hkl ?_;obtain⟨p1,p2,p3⟩:=hp.el _ (List.getElem_mem hkl);refine zct 0 rfl rfl ?_;have hin:ps[k].sec<D1.secs.length:=by rw[g2,setAll_len];exact p3
  obtain⟨w1,w2⟩:=zn2 g0 g1 hin p2 (ps[k].t:Int);refine z02 [1,1] (zvy (T:=T) ((ps[k].sec:Nat):Int) ((ps[k].t:Nat):Int) p1 (by omega) (by omega) (by omega)) fun r10=>z04 fun h10=>z01 ?_;rw[w1]at h10;rw[w2];subst h10;dsimp only[sel,rem,nth,del,cat,upd];refine z05 (by simp) ?_;rw[z09 (by omega) (by omega)];refine z1u [2,0,0] (ih (k+1) _ (by omega) (by omega) g0 g1 ?_ ?_ ?_)
  ·show D1.secs.set ps[k].sec ⟨ps[k].b,ps[k].t⟩=_;rw[g2,List.take_add_one,List.getElem?_eq_getElem hkl,z80];rfl
  ·show D1.done+1=_;omega
  ·show(D1.waits++[_]).length=_;rw[List.length_append];simp;omega
theorem zw0{j sq:Nat}{sl:Sl}{ps:List Pat}(hp:PatsIn T D.secs.length sl ps)(h0:D.dead=false)(h1:D.fuse = -1)(h2:0≤D.done)(h3:D.done+ps.length<4000000000000000000)(h4:D.waits.length+ps.length<400000000000)(hn:ps.length<4000)(hN:5000<N) :
  Tri (z00 [pts j (.cells (z3d d g sq) false),z1e d D,T]) (F_1h N (some ⟨j,0⟩) sl) fun r=>exA fun D2:DskS=>pu (r=0∧D2.dead=false∧D2.fuse = -1∧D2.secs=z2r D.secs ps∧D2.waits=[]∧D2.done=D.done+ps.length+1) (z00 [pts j (.cells (z3d d g sq) false),z1e d D2,T]):=by
 unfold F_1h;refine z02 [0,0,0] (zvz hp h0 h1 h2 h3 h4 N 0 D (by omega) (by omega) h0 h1 rfl (by omega) (by omega)) fun j11=>z12 fun D1=>z04 fun hj=>z01 ?_;obtain⟨hj,g0,g1,g2,g3⟩:=hj;subst hj;dsimp only[sel,rem,nth,del,cat,upd];refine zct 0 rfl rfl ?_;obtain⟨f1,f2⟩:=zn3 g0 g1;refine z02 [1] (zng (D:=D1) (by omega) (by omega)) fun r17=>z04 fun h17=>z01 ?_;rw[f1]at h17;rw[f2];subst h17;dsimp only[sel,rem,nth,del,cat,upd];refine z05 (by simp) (z03 [1,0,0] fun q hq=>⟨{D1 with waits:=[],done:=D1.done+1},⟨rfl,g0,g1,g2,rfl,?_⟩,hq⟩);show D1.done+1=_;omega
end
end Go.Moat

/- Layer 7: the sectors that patches need. -/
namespace Go.Moat
open Go.Mini
section
variable{N:Nat}{β:Type}{l:List HA}{S:β→HA}{d:Nat}{D:DskS}{m:M β}{T:HA}{g:Geo}
theorem zuq{j sq i:Nat}(h1:1+g.J≤i)(h2:i<D.secs.length)(hJ:g.J≤1000)(hi:i<100000):Tri (z00 [pts j (.cells (z3d d g sq) false),z1e d D]) (F_1g N (some ⟨j,0⟩) (i:Int)) fun r=>pu (r=true) (z00 [pts j (.cells (z3d d g sq) false),z1e d D]):=by
 unfold F_1g;refine z02 [0,0] (Q:=fun c=>pu (c=true) (z00 [pts j (.cells (z3d d g sq) false),z1e d D])) ?_ fun c7=>z04 fun h7=>z01 ?_
 ·refine z07 (by simp) (zct 0 rfl rfl ?_);refine z02 [1] (zbs (D:=D)) fun r6=>z04 fun h6=>z01 ?_;subst h6;dsimp only[sel,rem,nth,del,cat,upd];exact z03 [1,0] fun q hq=>⟨by simp;omega,hq⟩
 subst h7;dsimp only[sel,rem,nth,del,cat,upd];refine z02 [0,0] (Q:=fun c=>pu (c=true) (z00 [pts j (.cells (z3d d g sq) false),z1e d D])) ?_ fun c18=>z04 fun h18=>z01 (z03 [0,0] fun q hq=>⟨h18,hq⟩);refine z07 rfl (z9h 0 rfl (v:=1) rfl ?_);refine z02 [0,0] (Q:=fun c=>pu (c=true) (z00 [pts j (.cells (z3d d g sq) false),z1e d D])) ?_ fun c17=>z04 fun h17=>z01 (z03 [0,0] fun q hq=>⟨h17,hq⟩);refine z07 (by simp;omega) (z9h 0 rfl (v:=1) rfl (z9h 0 rfl (v:=g.J) rfl ?_));rw[z09 (n:=1+(g.J:Int)) (by omega) (by omega)];exact z03 [0,0] fun q hq=>⟨by simp;omega,hq⟩
theorem zur:∀(L:List Pat){i:Nat}(hi:i<L.length)(x:Nat),(z0x z2y L).set (i * 3) (.int .i64 (x:Int))=z0x z2y (L.set i {L[i]with sec:=x})
 | p::L,0,_,x=>rfl
 | p::L,i+1,hi,x=>by
  have:=zur L (i:=i) (by simpa using hi) x
  have e:∀L:List Pat,z0x z2y (p::L)=z2y p++z0x z2y L:=fun L=>rfl;rw[e,show(i+1) * 3=i * 3+3 by omega,List.set_append_right _ _ (by rw[z2j];omega),z2j,Nat.add_sub_cancel,this];rfl
def z8s(l:List Pat):List Nat:=(l.map fun p=>[p.sec,p.t]).flatten
theorem z162(a b:List Pat):z8s (a++b)=z8s a++z8s b:=by simp[z8s]
theorem zus(l:List Pat):(z8s l).length=2 * l.length:=by
 induction l with
 | nil=>rfl
 | cons p l ih=>show(p.sec::p.t::z8s l).length=_;simp[ih];omega
structure PatsOk(T:HA)(n:Nat)(s:Sl)(l:List Pat):Prop where
 h:PatsIn T n s l
 tag:∀p∈l,p.t<65536
 n:n≤4096
theorem zzf{ps:List Pat}{n:Nat}{sl:Sl}(h:PatsOk T n sl ps)(hl:ps.length≤15):∀(K k:Nat)(acc:Sl),ps.length - k<K→k≤ps.length →
  Tri (z00 [z06 acc 1 (z1q (z8s (ps.take k))),T]) (z0e K (F_40 N sl) (acc,(k:Int))) fun r=>z00 [z06 r 1 (z1q (z8s ps)),T]:=by
 have hlen:sl.len=ps.length:=by have:=h.h.rd.1;rw[z0u z2j]at this;omega
 have hmost:most=70368744177664:=rfl;intro K;induction K with
 | zero=>intro k acc h;omega
 | succ K ih=>
  intro k acc hK hk;rw[z13];generalize z0e K (F_40 N sl)=go at ih ⊢;unfold F_40;by_cases hkl:k<ps.length
  case neg=>
   obtain rfl:k=ps.length:=by omega
   rw[List.take_length];exact z05 (by simp;omega) (z03 [0,0] fun q hq=>hq)
  have p3:=(h.h.el _ (List.getElem_mem hkl)).2.2;have p4:=h.tag _ (List.getElem_mem hkl);have hn:=h.n;refine z07 (by simp;omega) ?_;refine z0c 0 rfl fun la=>?_;rw[z45,zus,List.length_take]at la;refine zoy 1 rfl h.h hkl ?_;rw[z6d (n:=((ps[k].sec:Nat):Int)) (by omega) (by omega),z6d (n:=((ps[k].t:Nat):Int)) (by omega) (by omega)];refine z0v fun b=>?_;refine z02 [1,0] (z3a (s:=acc) (by':=8) (T:=pts b (.cells [.int .u64 ((ps[k].sec:Nat):Int),.int .u64 ((ps[k].t:Nat):Int)] false)) (rd_pts0 (by simp)) (by omega) rfl (by dsimp only;omega)) fun o2=>z01 ?_;dsimp only[sel,rem,nth,del,cat,upd];rw[z09 (n:=(k:Int)+1) (by omega) (by omega)];refine z1u [0,1] (Tri.pre (ih (k+1) o2 (by omega) (by omega)) fun q hq=>z4k (fun q h=>?_) hq);have e:z1q (z8s (ps.take k))++[.int .u64 ((ps[k].sec:Nat):Int),.int .u64 ((ps[k].t:Nat):Int)]=z1q (z8s (ps.take (k+1))):=by
   rw[List.take_add_one,List.getElem?_eq_getElem hkl,z162];simp[z1q,z8s]
  rw[←e];exact h
theorem catL_drop'{α:Type}{c:α→List MV}{e:Nat}(h:∀x,(c x).length=e)(l:List α)(i:Nat)(hi:i≤l.length):(z0x c l).drop (i * e)=z0x c (l.drop i):=by
 have e2:z0x c l=z0x c (l.take i)++z0x c (l.drop i):=by rw[←z8p,List.take_append_drop]
 rw[e2];exact List.drop_left' (by rw[z0u h,List.length_take,Nat.min_eq_left hi])
theorem catL_take'{α:Type}{c:α→List MV}{e:Nat}(h:∀x,(c x).length=e)(l:List α)(i:Nat)(hi:i≤l.length):(z0x c l).take (i * e)=z0x c (l.take i):=by
 have e2:z0x c l=z0x c (l.take i)++z0x c (l.drop i):=by rw[←z8p,List.take_append_drop]
 rw[e2];exact List.take_left' (by rw[z0u h,List.length_take,Nat.min_eq_left hi])
structure LayInv(ps:List Pat)(at':Nat)(out:List Pat)(L:List (Sl×List UInt8)):Prop where
 len:out.length=min at' ps.length+at' / 15
 el:∀p∈out,p.b.length=64∧(((p.s,p.b)∈L∧p.s.len=64)∨∃p'∈ps,p.s=p'.s∧p.b=p'.b)
theorem zzg{ps:List Pat}{n:Nat}{sl:Sl}(h:PatsOk T n sl ps)(hl:ps.length≤3000)(hN:5000<N):∀(K at':Nat)(o:Sl)(out:List Pat)(L:List (Sl×List UInt8)),ps.length+15 - at'<K→at'%15=0→at'≤ps.length+14→LayInv ps at' out L →
  Tri (z00 [z06 o 3 (z0x z2y out),z1v L,T]) (z0e K (F_41 N sl) (o,(at':Int))) fun r=>exA fun x:List Pat×List (Sl×List UInt8)=>pu (x.1.length=ps.length+(ps.length+14) / 15∧∀p∈x.1,p.b.length=64∧(((p.s,p.b)∈x.2∧p.s.len=64)∨∃p'∈ps,p.s=p'.s∧p.b=p'.b)) (z00 [z06 r 3 (z0x z2y x.1),z1v x.2,T]):=by
 have hlen:sl.len=ps.length:=by have:=h.h.rd.1;rw[z0u z2j]at this;omega
 have hmost:most=70368744177664:=rfl;intro K;induction K with
 | zero=>intro at' o out L h;omega
 | succ K ih=>
  intro at' o out L hK ha ha2 hI;rw[z13];generalize z0e K (F_41 N sl)=go at ih ⊢;unfold F_41;have hil:=hI.len;by_cases hlt:at'<ps.length
  case neg=>
   refine z05 (by simp;omega) (z03 [0,0,0] fun q hq=>⟨(out,L),⟨?_,hI.el⟩,hq⟩);show out.length=_;omega
  refine z07 (by simp;omega) ?_;obtain⟨hi,hhi⟩:∃hi,hi=min ps.length (at'+15):=⟨_,rfl⟩;have e1:(if(sl.len:Int)<wr .i64 ((at':Int)+15)then(sl.len:Int)else wr .i64 ((at':Int)+15))=((hi:Nat):Int):=by
   rw[z09 (by omega) (by omega)];split<;>omega
  dsimp only;rw[e1];refine z3t (by omega) (by omega) (by omega) ?_;rw[Int.toNat_natCast,Int.toNat_natCast];have hp:PatsOk T n (z2w 3 sl at' hi) ((ps.drop at').take (hi - at')):=by
   refine⟨⟨?_,fun p hp=>h.h.el p (List.mem_of_mem_drop (List.mem_of_mem_take hp))⟩,fun p hp=>h.tag p (List.mem_of_mem_drop (List.mem_of_mem_take hp)),h.n⟩;have:=h.h.rd.sub (lo:=at') (hi:=hi) (by omega) (by omega)
   rw[catL_drop' z2j _ _ (by omega),catL_take' z2j _ _ (by rw[List.length_drop];omega)]at this;exact this
  have hsl:(z2w 3 sl at' hi).len=hi - at':=rfl;generalize (z2w 3 sl at' hi)=l5 at hp hsl;have hpl:((ps.drop at').take (hi - at')).length=hi - at':=by rw[List.length_take,List.length_drop];omega
  have hsub:∀p∈(ps.drop at').take (hi - at'),p∈ps:=fun p hp=>List.mem_of_mem_drop (List.mem_of_mem_take hp);generalize (ps.drop at').take (hi - at')=part at hp hpl hsub;refine z02 [2] (Q:=fun r=>z00 [z06 r 1 (z1q (z8s part)),T]) ((Tri.pre (zzf hp (by omega) N 0 ⟨none,0⟩ (by omega) (by omega)) fun q hq=>z2h (fun q h =>.nil 1 h) hq)) fun j12=>z01 ?_;dsimp only[sel,rem,nth,del,cat,upd];refine z0c 0 rfl fun l12=>?_;have hsm:∀x∈z8s part,x<256^2:=by
   intro x hx;unfold z8s at hx;obtain⟨y,hy,hxy⟩:=List.mem_flatten.1 hx;obtain⟨p,hpp,rfl⟩:=List.mem_map.1 hy;have h1:=(hp.h.el p hpp).2.2;have h2:=hp.tag p hpp;have h3:=hp.n;have:(256:Nat)^2=65536:=rfl
   simp at hxy;rcases hxy with rfl | rfl<;>omega
  have hpn:=zus part;refine z02 [0] (z8m (size:=2) (ns:=z8s part) (by omega) (by omega) (z0k l12) hsm (by omega) hN) fun r13=>z04 fun h13=>z01 ?_;dsimp only[sel,rem,nth,del,cat,upd];refine z0c 0 rfl fun l13=>?_;refine z02 [0] (zer (n:=64) (z0k l13) (by rw[z2n,hpn];omega) (by omega)) fun r14=>z04 fun h14=>z01 ?_;dsimp only[sel,rem,nth,del,cat,upd];have hf64:(z2g (lays 2 (z8s part)) 64).length=64:=z2o (by rw[z2n,hpn];omega);generalize z2g (lays 2 (z8s part)) 64=hb at hf64;refine z0c 0 rfl fun l14=>?_;rw[z0d,hf64]at l14;refine z0v fun q15=>?_;refine z0c 5 rfl fun lo=>?_;rw[z0u z2j]at lo;refine z02 [5,0] (z3a (s:=o) (by':=40) (T:=pts q15 (.cells (z2y ⟨0,r14.1,hb,0⟩) false)) (rd_pts0 (by simp[z2y])) (by omega) (zey _) (by dsimp only;omega)) fun l16=>z01 ?_;dsimp only[sel,rem,nth,del,cat,upd];rw[show z0x z2y out++z2y ⟨0,r14.1,hb,0⟩=z0x z2y (out++[⟨0,r14.1,hb,0⟩]) by rw[z8p,zbo]];refine z0c 0 rfl fun lo2=>?_;rw[z0u z2j,List.length_append,List.length_singleton]at lo2;refine z02 [0,4] (z3a (s:=l16) (by':=40) hp.h.rd (by omega) (zeu zey _) (by omega)) fun l17=>z01 ?_;dsimp only[sel,rem,nth,del,cat,upd];rw[←z8p];rw[z09 (n:=(at':Int)+15) (by omega) (by omega)];refine z1u [0,2,4,0] (Tri.pre (ih (at'+15) l17 (out++[(⟨0,r14.1,hb,0⟩:Pat)]++part) ((r14.1,hb)::L) (by omega) (by omega) (by omega) ⟨?_,fun p hp'=>?_⟩) fun q(hq:z00 [z06 l17 3 (z0x z2y (out++[(⟨0,r14.1,hb,0⟩:Pat)]++part)),z06 r14.1 1 (bytesOf hb),z1v L,T] q)=>z1g (fun q hq=>zq0 hq) hq)
  ·rw[List.length_append,List.length_append,List.length_singleton,hpl,hil];omega
  ·rcases List.mem_append.1 hp' with hp' | hp'
   ·rcases List.mem_append.1 hp' with hp' | hp'
    ·obtain⟨h1,h2⟩:=hI.el p hp';refine⟨h1,?_⟩;rcases h2 with⟨h2,h3⟩ | h2
     ·exact .inl ⟨List.mem_cons_of_mem _ h2,h3⟩
     ·exact .inr h2
    ·have:=List.mem_singleton.1 hp'
     subst this;exact⟨hf64,.inl ⟨List.mem_cons_self ..,by dsimp only;omega⟩⟩
   ·exact⟨(hp.h.el p hp').2.1,.inr ⟨p,hsub p hp',rfl,rfl⟩⟩
theorem zzh{j sq:Nat}{o:Sl}{out:List Pat}(hl:out.length≤5000):∀(K k:Nat)(ok:List Pat),out.length - k<K→k≤out.length→ok.length=out.length→(∀(i:Nat) p,ok[i]? = some p→∃p',out[i]? = some p'∧p.s=p'.s∧p.b=p'.b∧(i<k→p.sec=2+i)) →
  Tri (z00 [z06 o 3 (z0x z2y ok),pts j (.cells (z3d d g sq) false)]) (z0e K (F_42 N (some ⟨j,0⟩) o) (k:Int)) fun _=>exA fun ok:List Pat=>pu (ok.length=out.length∧∀(i:Nat) p,ok[i]? = some p→∃p',out[i]? = some p'∧p.s=p'.s∧p.b=p'.b∧p.sec=2+i) (z00 [z06 o 3 (z0x z2y ok),pts j (.cells (z3d d g sq) false)]):=by
 intro K;induction K with
 | zero=>intro k ok h;omega
 | succ K ih=>
  intro k ok hK hk hlen hin;rw[z13];generalize z0e K (F_42 N (some ⟨j,0⟩) o)=go at ih ⊢;unfold F_42;refine z0c 0 rfl fun lo=>?_;rw[z0u z2j]at lo;by_cases hkl:k<out.length
  case neg=>
   refine z05 (by simp;omega) (z03 [0,0] fun q hq=>⟨ok,⟨hlen,fun i p hp=>?_⟩,hq⟩);obtain⟨p',h1,h2,h3,h4⟩:=hin i p hp;exact⟨p',h1,h2,h3,h4 (by have:=(List.getElem?_eq_some_iff.1 h1).1;omega)⟩
  refine z07 (by simp;omega) ?_;refine z9h 1 rfl (v:=1) rfl ?_;have hkk:k<ok.length:=by omega
  have e2:wr .i64 (wr .i64 ((1:Int)+1)+(k:Int))=((2+k:Nat):Int):=by
   rw[z09 (n:=(1:Int)+1) (by omega) (by omega),z09 (by omega) (by omega)];omega
  rw[e2];refine z93 0 rfl (fun _ h0=>?_) fun b ln h0 hl9=>?_
  ·have:=congrArg List.length h0
   rw[z0u z2j]at this;simp at this;omega
  subst h0;dsimp only at lo;refine z2l (by omega) (z0b (z21 0 rfl (by rw[z0u z2j];omega) rfl ?_));rw[show 0+k * 3+0=k * 3 by omega,zur ok hkk];refine z6s 0 (B:=z06 ⟨some ⟨b,0⟩,ln⟩ 3 (z0x z2y (ok.set k {ok[k]with sec:=2+k}))) rfl (fun q hq =>.mk (by rw[z0u z2j,List.length_set];omega) hq) ?_;rw[z09 (by omega) (by omega)];refine z1u [0,0] (ih (k+1) _ (by omega) (by omega) (by rw[List.length_set];exact hlen) fun i p hp=>?_);rw[List.getElem?_set]at hp;by_cases e:k=i
  ·subst e;rw[if_pos rfl,if_pos hkk]at hp;cases hp;obtain⟨p',h1,h2,h3,_⟩:=hin k ok[k] (List.getElem?_eq_getElem hkk);exact⟨p',h1,h2,h3,fun _=>rfl⟩
  ·rw[if_neg e]at hp;obtain⟨p',h1,h2,h3,h4⟩:=hin i p hp;exact⟨p',h1,h2,h3,fun _=>h4 (by omega)⟩
structure LaidP(ps out:List Pat)(L:List (Sl×List UInt8)):Prop where
 len:out.length=ps.length+(ps.length+14) / 15
 el:∀(i:Nat) p,out[i]? = some p→p.sec=2+i∧p.b.length=64∧(((p.s,p.b)∈L∧p.s.len=64)∨∃p'∈ps,p.s=p'.s∧p.b=p'.b)
theorem z130{j sq:Nat}{ps:List Pat}{n:Nat}{sl:Sl}(h:PatsOk T n sl ps)(hl:ps.length≤3000)(hN:5000<N) :
  Tri (z00 [pts j (.cells (z3d d g sq) false),T]) (F_3f N (some ⟨j,0⟩) sl) fun r=>exA fun x:List Pat×List (Sl×List UInt8)=>pu (LaidP ps x.1 x.2) (z00 [z06 r 3 (z0x z2y x.1),z1v x.2,pts j (.cells (z3d d g sq) false),T]):=by
 unfold F_3f;refine z02 [1] (Tri.pre (zzg h hl hN N 0 ⟨none,0⟩ [] [] (by omega) (by omega) (by omega) ⟨by simp,fun p hp=>by cases hp⟩) fun q hq=>z2h (fun q h =>.nil 3 h) (z2h (A:=z1v []) (fun q h=>h) hq)) fun j18=>z12 fun x=>z04 fun hx=>z01 ?_;obtain⟨out,L⟩:=x;obtain⟨hx1,hx2⟩:=hx;have hx1:out.length=ps.length+(ps.length+14) / 15:=hx1;have hx2:∀p∈out,p.b.length=64∧(((p.s,p.b)∈L∧p.s.len=64)∨∃p'∈ps,p.s=p'.s∧p.b=p'.b):=hx2;dsimp only[sel,rem,nth,del,cat,upd];refine z02 [0,2] (zzh (out:=out) (by omega) N 0 out (by omega) (by omega) rfl fun i p hp=>⟨p,hp,rfl,rfl,fun h=>by omega⟩) fun _=>z12 fun ok=>z04 fun hk=>z01 ?_;obtain⟨k1,k2⟩:=hk;dsimp only[sel,rem,nth,del,cat,upd];refine z03 [0,1,0,0] fun q hq=>⟨(ok,L),⟨by rw[←hx1];exact k1,fun i p hp=>?_⟩,hq⟩;obtain⟨p',h1,h2,h3,h4⟩:=k2 i p hp;obtain⟨h5,h6⟩:=hx2 p' (List.mem_of_getElem? h1);rw[h2,h3];exact⟨h4,h5,h6⟩
end
end Go.Moat

/- Layer 7: Commit. -/
namespace Go.Moat
open Go.Mini
section
variable{N:Nat}{β:Type}{l:List HA}{S:β→HA}{d:Nat}{D:DskS}{m:M β}{T:HA}{g:Geo}
def lsC(ls:List (Sl×List Pat)):List MV:=ls.map fun x =>.sl x.1.p x.1.len 3
def zri(ls:List (Sl×List Pat)):List Pat:=(ls.map (·.2)).flatten
theorem zw1{j sq:Nat}{q:Option MA}{ls:List (Sl×List Pat)}(h4:ls.length=4)(hq:RdC T ⟨q,4⟩ 1 (lsC ls))(hp:∀x∈ls,PatsIn T D.secs.length x.1 x.2∧x.2.length≤3500)(h2:0≤D.done)(h3:D.done<3000000000000000000)(hw:D.waits.length<300000000000)(hN:5000<N) :
  ∀(K k:Nat)(D1:DskS),4 - k<K→k≤4→D1.dead=false→D1.fuse = -1→D1.secs=z2r D.secs (zri (ls.take k))→D.done≤D1.done→D1.done≤D.done+k * 4000→D1.waits.length≤D.waits.length →
  Tri (z00 [pts j (.cells (z3d d g sq) false),z1e d D1,T]) (z0e K (F_44 N (some ⟨j,0⟩) q) (k:Int)) fun r=>exA fun D2:DskS=>pu (r=.inl ()∧D2.dead=false∧D2.fuse = -1∧D2.secs=z2r D.secs (zri ls)∧D.done≤D2.done∧D2.done≤D.done+16000∧(k<4→D2.waits=[])∧(k=4→D2.waits=D1.waits)) (z00 [pts j (.cells (z3d d g sq) false),z1e d D2,T]):=by
 intro K;induction K with
 | zero=>intro k D1 h;omega
 | succ K ih=>
  intro k D1 hK hk g0 g1 g2 g3 g4 g5;rw[z13];generalize z0e K (F_44 N (some ⟨j,0⟩) q)=go at ih ⊢;unfold F_44;by_cases hkl:k<4
  case neg=>
   obtain rfl:k=4:=by omega
   rw[List.take_of_length_le (by omega)]at g2;exact z05 (by simp) (z03 [0,0,0] fun q hq=>⟨D1,⟨rfl,g0,g1,g2,g3,by omega,fun h=>by omega,fun _=>rfl⟩,hq⟩)
  have hkk:k<ls.length:=by omega
  refine z07 (by simp;omega) ?_;refine zn8 2 rfl hq (i:=k) (by unfold lsC;rw[List.getElem?_map,List.getElem?_eq_getElem hkk];rfl) ?_;obtain⟨p1,p2⟩:=hp _ (List.getElem_mem hkk);have el:D1.secs.length=D.secs.length:=by rw[g2,setAll_len]
  refine z02 [0,0,0] (zw0 (D:=D1) (sl:=ls[k].1) (ps:=ls[k].2) (by rw[el];exact p1) g0 g1 (by omega) (by omega) (by omega) (by omega) hN) fun r25=>z12 fun D2=>z04 fun h25=>z01 ?_;obtain⟨h25,k0,k1,k2,k3,k4⟩:=h25;subst h25;dsimp only[sel,rem,nth,del,cat,upd];refine z05 (by simp) ?_;rw[z09 (by omega) (by omega)];refine Tri.post (z1u [0,0,0] (ih (k+1) D2 (by omega) (by omega) k0 k1 ?_ (by omega) (by omega) (by rw[k3];simp))) fun r q hq=>?_
  ·rw[k2,g2,List.take_add_one,List.getElem?_eq_getElem hkk];unfold zri;rw[List.map_append,List.flatten_append,z80];simp
  ·obtain⟨D3,⟨a1,a2,a3,a4,a5,a6,a7,a8⟩,hq⟩:=hq;refine⟨D3,⟨a1,a2,a3,a4,a5,a6,fun _=>?_,fun h=>by omega⟩,hq⟩;by_cases e:k+1<4
   ·exact a7 e
   ·rw[a8 (by omega),k3]
theorem z131{j sq n:Nat}{sl:Sl}{ps:List Pat}(hp:PatsIn T D.secs.length sl ps)(ho:∀p∈ps,1+g.J≤p.sec)(hJ:g.J≤1000)(hn:D.secs.length≤4096)(hl:ps.length≤4000):∀(K k:Nat),ps.length - k<K→k≤ps.length →
  Tri (z00 [pts j (.cells (z3d d g sq) false),z1e d D,T]) (z0e K (F_43 N (some ⟨j,0⟩) sl) (k:Int)) fun r=>pu (r=.inl ()) (z00 [pts j (.cells (z3d d g sq) false),z1e d D,T]):=by
 have hlen:sl.len=ps.length:=by have:=hp.rd.1;rw[z0u z2j]at this;omega
 intro K;induction K with
 | zero=>intro k h;omega
 | succ K ih=>
  intro k hK hk;rw[z13];generalize z0e K (F_43 N (some ⟨j,0⟩) sl)=go at ih ⊢;unfold F_43;by_cases hkl:k<ps.length
  case neg=>exact z05 (by simp;omega) (z03 [0,0,0] fun q hq=>⟨rfl,hq⟩)
  refine z07 (by simp;omega) ?_;refine zoy 2 rfl hp hkl ?_;obtain⟨p1,p2,p3⟩:=hp.el _ (List.getElem_mem hkl);have p4:=ho _ (List.getElem_mem hkl);refine z02 [0,0] (zuq (D:=D) p4 p3 hJ (by omega)) fun r8=>z04 fun h8=>z01 ?_;subst h8;dsimp only[sel,rem,nth,del,cat,upd];have ls64:=z4m p1;refine z05 (by simp;omega) ?_;rw[z09 (by omega) (by omega)];exact z1u [0,0,0] (ih (k+1) (by omega) (by omega))
theorem z3v{secs:List SecS}:∀{l:List Pat}{secs:List SecS}{i:Nat},(∀p∈l,p.sec≠i)→(z2r secs l)[i]? = secs[i]?
 | [],secs,i,_=>rfl
 | p::l,secs,i,h=>by
  show(z2r (secs.set p.sec ⟨p.b,p.t⟩) l)[i]? = _;rw[z3v (secs:=secs) fun q hq=>h q (List.mem_cons_of_mem _ hq),List.getElem?_set,if_neg (h p (List.mem_cons_self ..))]
theorem zjb:∀{l:List Pat}{s1 s2:List SecS}{i:Nat},s1[i]? = s2[i]? → (s1.length=s2.length)→(z2r s1 l)[i]? = (z2r s2 l)[i]?
 | [],_,_,_,h,_=>h
 | p::l,s1,s2,i,h,hl=>by
  show(z2r (s1.set p.sec ⟨p.b,p.t⟩) l)[i]? = (z2r (s2.set p.sec ⟨p.b,p.t⟩) l)[i]?;refine zjb ?_ (by simp[hl]);rw[List.getElem?_set,List.getElem?_set,hl,h]
structure Comm(g:Geo)(D:DskS)(ps:List Pat)(seq:Nat)(D':DskS):Prop where
 dead:D'.dead=false
 fuse:D'.fuse = -1
 len:D'.secs.length=D.secs.length
 secs:∀i,1+g.J≤i→D'.secs[i]? = (z2r D.secs ps)[i]?
 sup:D'.secs[0]? = D.secs[0]?
 head:D'.secs[1]? = some ⟨z6a seq 0,0⟩
 done:D.done≤D'.done∧D'.done≤D.done+16000
 waits:D'.waits=[]
theorem zw2(hg:g.ok){j sq:Nat}{sl:Sl}{ps:List Pat}(hp:PatsOk T D.secs.length sl ps)(ho:∀p∈ps,1+g.J≤p.sec)(hne:0<ps.length)(hroom:ps.length≤z5d g.J)(hlen:1+g.J≤D.secs.length)(h0:D.dead=false)(h1:D.fuse = -1)(h2:0≤D.done)(h3:D.done<3000000000000000000)(hw:D.waits.length<300000000000)(hsq:sq<9000000000000000000)(hN:5000<N) :
  Tri (z00 [pts j (.cells (z3d d g sq) false),z1e d D,T]) (F_12 N (some ⟨j,0⟩) sl) fun r=>exA fun D':DskS=>pu (r=0∧Comm g D ps (sq+1) D') (z00 [pts j (.cells (z3d d g (sq+1)) false),z1e d D',T]):=by
 have hJ:=hg.j2;have hJ1:=hg.j1;have hln:sl.len=ps.length:=by have:=hp.h.rd.1;rw[z0u z2j]at this;omega
 have hr2:z5d g.J≤g.J:=by unfold z5d;omega
 unfold F_12;refine z05 (by simp) (z05 (by simp;omega) ?_);refine z02 [0] (zik (sq:=sq) hg) fun r3=>z04 fun h3'=>z01 ?_;subst h3';dsimp only[sel,rem,nth,del,cat,upd];refine z05 (by simp;omega) ?_;refine z02 [0,0,0] (z131 (n:=0) hp.h ho hJ hp.n (by omega) N 0 (by omega) (by omega)) fun j9=>z04 fun hj=>z01 ?_;subst hj;dsimp only[sel,rem,nth,del,cat,upd];refine z0r (z0b (tri_ldI 0 rfl rfl ?_));have esq:wr .u64 ((sq:Int)+1)=((sq+1:Nat):Int):=by
  rw[z6d (by omega) (by omega)];omega
 rw[esq];refine z05 (by simp;omega) ?_;refine z02 [0,1] (z130 (d:=d) (g:=g) (j:=j) (sq:=sq) hp (by omega) hN) fun r15=>z12 fun x=>z04 fun hL=>z01 ?_;obtain⟨out,L⟩:=x;have hL:LaidP ps out L:=hL;dsimp only[sel,rem,nth,del,cat,upd];refine z02 [2] (zij (d:=d) (g:=g) (j:=j) (sq:=sq) (seq:=sq+1) (cnt:=ps.length) (by omega) (by omega) hN |> fun t=>by rw[hln];exact t) fun r16=>z04 fun h16=>z01 ?_;obtain⟨a1,a2⟩:=h16;rw[a1,a2];dsimp only[sel,rem,nth,del,cat,upd];refine z0v fun q17=>?_;refine z02 [2] (zij (d:=d) (g:=g) (j:=j) (sq:=sq) (seq:=sq+1) (cnt:=0) (by omega) (by omega) hN) fun r18=>z04 fun h18=>z01 ?_;obtain⟨b1,b2⟩:=h18;rw[b1,b2];dsimp only[sel,rem,nth,del,cat,upd];refine z0v fun q19=>?_;refine z0v fun q20=>?_;refine z0c 2 rfl fun lh0=>?_;refine z0c 5 rfl fun lh1=>?_;refine z0c 6 rfl fun lo=>?_;rw[z0d,za7]at lh0 lh1;rw[z0u z2j]at lo;have hol:=hL.len;have hbound:ps.length+(ps.length+14) / 15≤g.J - 1:=by unfold z5d at hroom;omega
 obtain⟨P1,hP1⟩:∃P:Pat,P=⟨1,r16.2.1,z6a (sq+1) ps.length,0⟩:=⟨_,rfl⟩;obtain⟨P0,hP0⟩:∃P:Pat,P=⟨1,r18.2.1,z6a (sq+1) 0,0⟩:=⟨_,rfl⟩;refine z6w [0,0,0,1,1,1,1,1] ?_;dsimp only[sel,rem,nth,del,cat,upd];generalize hls:[(r15,out),(⟨some ⟨q17,0⟩,1⟩,[P1]),(sl,ps),(⟨some ⟨q19,0⟩,1⟩,[P0])]=ls;have hls4:ls.length=4:=by rw[←hls];rfl
 have hq:RdC (z00 [pts q20 (.cells [MV.sl r15.p r15.len 3,MV.sl (some ⟨q17,0⟩) 1 3,MV.sl sl.p sl.len 3,MV.sl (some ⟨q19,0⟩) 1 3] false),pts q19 (.cells [MV.int .i64 1,MV.sl r18.2.1.p r18.2.1.len 1,MV.int .u16 0] false),z06 r18.2.1 1 (bytesOf (z6a (sq+1) 0)),pts q17 (.cells [MV.int .i64 1,MV.sl r16.2.1.p r16.2.1.len 1,MV.int .u16 0] false),z06 r16.2.1 1 (bytesOf (z6a (sq+1) ps.length)),z06 r15 3 (z0x z2y out),z1v L,T]) ⟨some ⟨q20,0⟩,4⟩ 1 (lsC ls):=by
  rw[←hls];exact RdC.at 0 rfl (rd_pts0 (by simp))
 have hpp:∀x∈ls,PatsIn (z00 [pts q20 (.cells [MV.sl r15.p r15.len 3,MV.sl (some ⟨q17,0⟩) 1 3,MV.sl sl.p sl.len 3,MV.sl (some ⟨q19,0⟩) 1 3] false),pts q19 (.cells [MV.int .i64 1,MV.sl r18.2.1.p r18.2.1.len 1,MV.int .u16 0] false),z06 r18.2.1 1 (bytesOf (z6a (sq+1) 0)),pts q17 (.cells [MV.int .i64 1,MV.sl r16.2.1.p r16.2.1.len 1,MV.int .u16 0] false),z06 r16.2.1 1 (bytesOf (z6a (sq+1) ps.length)),z06 r15 3 (z0x z2y out),z1v L,T]) D.secs.length x.1 x.2∧x.2.length≤3500:=by
  intro x hx;rw[←hls]at hx;simp only[List.mem_cons,List.not_mem_nil,or_false]at hx;rcases hx with rfl | rfl | rfl | rfl
  ·refine⟨⟨RdC.at 5 rfl (z0k (by rw[z0u z2j];omega)),fun p hp'=>?_⟩,by dsimp only;omega⟩;obtain⟨i,hi⟩:=List.getElem?_of_mem hp';obtain⟨k1,k2,k3⟩:=hL.el i p hi;have hil:i<out.length:=(List.getElem?_eq_some_iff.1 hi).1;refine⟨?_,k2,by omega⟩;rcases k3 with⟨k3,k4⟩ | ⟨p',k3,k4,k5⟩
   ·exact RdC.at 6 rfl (zbk k3 (by omega))
   ·rw[k4,k5];exact RdC.at 7 rfl (hp.h.el p' k3).1
  ·refine⟨⟨RdC.at 3 rfl (by rw[hP1];exact rd_pts0 (by simp[z0x,z2y])),fun p hp'=>?_⟩,by simp⟩;rw[List.mem_singleton.1 hp',hP1];exact⟨RdC.at 4 rfl (z0k (by rw[z0d,za7];exact lh1)),za7 _ _,by dsimp only;omega⟩
  ·exact⟨⟨RdC.at 7 rfl hp.h.rd,fun p hp'=>⟨RdC.at 7 rfl (hp.h.el p hp').1,(hp.h.el p hp').2⟩⟩,by dsimp only;omega⟩
  ·refine⟨⟨RdC.at 1 rfl (by rw[hP0];exact rd_pts0 (by simp[z0x,z2y])),fun p hp'=>?_⟩,by simp⟩;rw[List.mem_singleton.1 hp',hP0];exact⟨RdC.at 2 rfl (z0k (by rw[z0d,za7];exact lh0)),za7 _ _,by dsimp only;omega⟩
 refine z02 [1,1,0] (zw1 (sq:=sq) hls4 hq hpp h2 h3 hw hN N 0 D (by omega) (by omega) h0 h1 rfl (Int.le_refl _) (by omega) (Nat.le_refl _)) fun j26=>z12 fun D2=>z04 fun hD=>z01 ?_;obtain⟨hD,d1,d2,d3,d4,d5,d6,_⟩:=hD;subst hD;dsimp only[sel,rem,nth,del,cat,upd];refine z0r (z0b (z21 0 rfl (by simp[z3d]) rfl ?_));refine z8r 2 rfl ?_;dsimp only[sel,rem,nth,del,cat,upd];have d3:D2.secs=z2r (z2r (z2r (z2r D.secs out) [P1]) ps) [P0]:=by
  rw[d3,←hls,←z80,←z80,←z80];simp[zri]
 have ho2:∀i,(i=0∨1+g.J≤i)→∀p∈out,p.sec≠i:=by
  intro i hi p hp';obtain⟨k,hk⟩:=List.getElem?_of_mem hp';have k1:=(hL.el k p hk).1;have hil:=(List.getElem?_eq_some_iff.1 hk).1;omega
 refine z03 [8,8,7] fun q hq=>⟨D2,⟨rfl,⟨d1,d2,by rw[d3,setAll_len,setAll_len,setAll_len,setAll_len],fun i hi=>?_,?_,?_,⟨d4,d5⟩,d6 (by omega)⟩⟩,hq⟩
 ·rw[d3,z3v (secs:=[]) (by intro p hp';rw[List.mem_singleton.1 hp',hP0];dsimp only;omega)];refine zjb ?_ (by rw[setAll_len,setAll_len]);rw[z3v (secs:=[]) (by intro p hp';rw[List.mem_singleton.1 hp',hP1];dsimp only;omega),z3v (secs:=[]) (ho2 i (.inr hi))]
 ·rw[d3,z3v (secs:=[]) (by intro p hp';rw[List.mem_singleton.1 hp',hP0];dsimp only;omega),z3v (secs:=[]) (by intro p hp';have:=ho p hp';omega),z3v (secs:=[]) (by intro p hp';rw[List.mem_singleton.1 hp',hP1];dsimp only;omega),z3v (secs:=[]) (ho2 0 (.inl rfl))]
 ·rw[d3];show((z2r (z2r (z2r D.secs out) [P1]) ps).set P0.sec ⟨P0.b,P0.t⟩)[1]? = _;rw[hP0,List.getElem?_set,if_pos rfl,if_pos (by rw[setAll_len,setAll_len,setAll_len];dsimp only;omega)];rfl
end
end Go.Moat
