/- Layer 7: the sectors that patches need. -/
import Derived.Test.YtcaaljlhljemoaaGreatP15u
namespace Go.Moat
open Go.Mini
section
variable{N:Nat}{β:Type}{l:List HA}{S:β→HA}{d:Nat}{D:DskS}{m:M β}{T:HA}{g:Geo}
theorem zpt{j sq i:Nat}(h1:1+g.J≤i)(h2:i<D.secs.length)(hJ:g.J≤1000)(hi:i<100000):Tri (z00 [pts j (.cells (z3f d g sq) false),z1b d D]) (F_16 N (some ⟨j,0⟩) (i:Int)) fun r=>pu (r=true) (z00 [pts j (.cells (z3f d g sq) false),z1b d D]):=by
 unfold F_16;refine z02 [0,0] (Q:=fun c=>pu (c=true) (z00 [pts j (.cells (z3f d g sq) false),z1b d D])) ?_ fun c7=>z04 fun h7=>z01 ?_
 ·refine z07 (by simp) (zcq 0 rfl rfl ?_);refine z02 [1] (z93 (D:=D)) fun r6=>z04 fun h6=>z01 ?_;subst h6;dsimp only[sel,rem,nth,del,cat,upd];exact z03 [1,0] fun q hq=>⟨by simp;omega,hq⟩
 subst h7;dsimp only[sel,rem,nth,del,cat,upd];refine z02 [0,0] (Q:=fun c=>pu (c=true) (z00 [pts j (.cells (z3f d g sq) false),z1b d D])) ?_ fun c18=>z04 fun h18=>z01 (z03 [0,0] fun q hq=>⟨h18,hq⟩);refine z07 rfl (z85 0 rfl (v:=1) rfl ?_);refine z02 [0,0] (Q:=fun c=>pu (c=true) (z00 [pts j (.cells (z3f d g sq) false),z1b d D])) ?_ fun c17=>z04 fun h17=>z01 (z03 [0,0] fun q hq=>⟨h17,hq⟩);refine z07 (by simp;omega) (z85 0 rfl (v:=1) rfl (z85 0 rfl (v:=g.J) rfl ?_));rw[z0i (n:=1+(g.J:Int)) (by omega) (by omega)];exact z03 [0,0] fun q hq=>⟨by simp;omega,hq⟩
theorem zpu:∀(L:List Pat){i:Nat}(hi:i<L.length)(x:Nat),(z1j z2n L).set (i * 3) (.int .i64 (x:Int))=z1j z2n (L.set i {L[i]with sec:=x})
 | p::L,0,_,x=>rfl
 | p::L,i+1,hi,x=>by
  have:=zpu L (i:=i) (by simpa using hi) x
  have e:∀L:List Pat,z1j z2n (p::L)=z2n p++z1j z2n L:=fun L=>rfl;rw[e,show(i+1) * 3=i * 3+3 by omega,List.set_append_right _ _ (by rw[z2h];omega),z2h,Nat.add_sub_cancel,this];rfl
def z6r(l:List Pat):List Nat:=(l.map fun p=>[p.sec,p.t]).flatten
theorem zzy(a b:List Pat):z6r (a++b)=z6r a++z6r b:=by simp[z6r]
theorem zpv(l:List Pat):(z6r l).length=2 * l.length:=by
 induction l with
 | nil=>rfl
 | cons p l ih=>show(p.sec::p.t::z6r l).length=_;simp[ih];omega
structure PatsOk(T:HA)(n:Nat)(s:Sl)(l:List Pat):Prop where
 h:PatsIn T n s l
 tag:∀p∈l,p.t<65536
 n:n≤4096
theorem zub{ps:List Pat}{n:Nat}{sl:Sl}(h:PatsOk T n sl ps)(hl:ps.length≤15):∀(K k:Nat)(acc:Sl),ps.length - k<K→k≤ps.length →
  Tri (z00 [z08 acc 1 (z1u (z6r (ps.take k))),T]) (z0l K (F_3h N sl) (acc,(k:Int))) fun r=>z00 [z08 r 1 (z1u (z6r ps)),T]:=by
 have hlen:sl.len=ps.length:=by have:=h.h.rd.1;rw[z0p z2h]at this;omega
 have hmost:most=70368744177664:=rfl;intro K;induction K with
 | zero=>intro k acc h;omega
 | succ K ih=>
  intro k acc hK hk;rw[z18];generalize z0l K (F_3h N sl)=go at ih ⊢;unfold F_3h;by_cases hkl:k<ps.length
  case neg=>
   obtain rfl:k=ps.length:=by omega
   rw[List.take_length];exact z05 (by simp;omega) (z03 [0,0] fun q hq=>hq)
  have p3:=(h.h.el _ (List.getElem_mem hkl)).2.2;have p4:=h.tag _ (List.getElem_mem hkl);have hn:=h.n;refine z07 (by simp;omega) ?_;refine z0c 0 rfl fun la=>?_;rw[z4u,zpv,List.length_take]at la;refine zm4 1 rfl h.h hkl ?_;rw[z6a (n:=((ps[k].sec:Nat):Int)) (by omega) (by omega),z6a (n:=((ps[k].t:Nat):Int)) (by omega) (by omega)];refine z0z fun b=>?_;refine z02 [1,0] (z2y (s:=acc) (by':=8) (T:=pts b (.cells [.int .u64 ((ps[k].sec:Nat):Int),.int .u64 ((ps[k].t:Nat):Int)] false)) (rd_pts0 (by simp)) (by omega) rfl (by dsimp only;omega)) fun o2=>z01 ?_;dsimp only[sel,rem,nth,del,cat,upd];rw[z0i (n:=(k:Int)+1) (by omega) (by omega)];refine tri_last [0,1] (Tri.pre (ih (k+1) o2 (by omega) (by omega)) fun q hq=>ent_head (fun q h=>?_) hq);have e:z1u (z6r (ps.take k))++[.int .u64 ((ps[k].sec:Nat):Int),.int .u64 ((ps[k].t:Nat):Int)]=z1u (z6r (ps.take (k+1))):=by
   rw[List.take_add_one,List.getElem?_eq_getElem hkl,zzy];simp[z1u,z6r]
  rw[←e];exact h
theorem catL_drop'{α:Type}{c:α→List MV}{e:Nat}(h:∀x,(c x).length=e)(l:List α)(i:Nat)(hi:i≤l.length):(z1j c l).drop (i * e)=z1j c (l.drop i):=by
 have e2:z1j c l=z1j c (l.take i)++z1j c (l.drop i):=by rw[←z87,List.take_append_drop]
 rw[e2];exact List.drop_left' (by rw[z0p h,List.length_take,Nat.min_eq_left hi])
theorem catL_take'{α:Type}{c:α→List MV}{e:Nat}(h:∀x,(c x).length=e)(l:List α)(i:Nat)(hi:i≤l.length):(z1j c l).take (i * e)=z1j c (l.take i):=by
 have e2:z1j c l=z1j c (l.take i)++z1j c (l.drop i):=by rw[←z87,List.take_append_drop]
 rw[e2];exact List.take_left' (by rw[z0p h,List.length_take,Nat.min_eq_left hi])
structure LayInv(ps:List Pat)(at':Nat)(out:List Pat)(L:List (Sl×List UInt8)):Prop where
 len:out.length=min at' ps.length+at' / 15
 el:∀p∈out,p.b.length=64∧(((p.s,p.b)∈L∧p.s.len=64)∨∃p'∈ps,p.s=p'.s∧p.b=p'.b)
structure LaidP(ps out:List Pat)(L:List (Sl×List UInt8)):Prop where
 len:out.length=ps.length+(ps.length+14) / 15
 el:∀(i:Nat) p,out[i]? = some p→p.sec=2+i∧p.b.length=64∧(((p.s,p.b)∈L∧p.s.len=64)∨∃p'∈ps,p.s=p'.s∧p.b=p'.b)
end
end Go.Moat

/- Layer 7: Commit. -/
namespace Go.Moat
open Go.Mini
section
variable{N:Nat}{β:Type}{l:List HA}{S:β→HA}{d:Nat}{D:DskS}{m:M β}{T:HA}{g:Geo}
def lsC(ls:List (Sl×List Pat)):List MV:=ls.map fun x =>.sl x.1.p x.1.len 3
theorem zye{j sq n:Nat}{sl:Sl}{ps:List Pat}(hp:PatsIn T D.secs.length sl ps)(ho:∀p∈ps,1+g.J≤p.sec)(hJ:g.J≤1000)(hn:D.secs.length≤4096)(hl:ps.length≤4000):∀(K k:Nat),ps.length - k<K→k≤ps.length →
  Tri (z00 [pts j (.cells (z3f d g sq) false),z1b d D,T]) (z0l K (F_3k N (some ⟨j,0⟩) sl) (k:Int)) fun r=>pu (r=.inl ()) (z00 [pts j (.cells (z3f d g sq) false),z1b d D,T]):=by
 have hlen:sl.len=ps.length:=by have:=hp.rd.1;rw[z0p z2h]at this;omega
 intro K;induction K with
 | zero=>intro k h;omega
 | succ K ih=>
  intro k hK hk;rw[z18];generalize z0l K (F_3k N (some ⟨j,0⟩) sl)=go at ih ⊢;unfold F_3k;by_cases hkl:k<ps.length
  case neg=>exact z05 (by simp;omega) (z03 [0,0,0] fun q hq=>⟨rfl,hq⟩)
  refine z07 (by simp;omega) ?_;refine zm4 2 rfl hp hkl ?_;obtain⟨p1,p2,p3⟩:=hp.el _ (List.getElem_mem hkl);have p4:=ho _ (List.getElem_mem hkl);refine z02 [0,0] (zpt (D:=D) p4 p3 hJ (by omega)) fun r8=>z04 fun h8=>z01 ?_;subst h8;dsimp only[sel,rem,nth,del,cat,upd];have ls64:=z4o p1;refine z05 (by simp;omega) ?_;rw[z0i (by omega) (by omega)];exact tri_last [0,0,0] (ih (k+1) (by omega) (by omega))
theorem z8q{secs:List SecS}:∀{l:List Pat}{secs:List SecS}{i:Nat},(∀p∈l,p.sec≠i)→(z70 secs l)[i]? = secs[i]?
 | [],secs,i,_=>rfl
 | p::l,secs,i,h=>by
  show(z70 (secs.set p.sec ⟨p.b,p.t⟩) l)[i]? = _;rw[z8q (secs:=secs) fun q hq=>h q (List.mem_cons_of_mem _ hq),List.getElem?_set,if_neg (h p (List.mem_cons_self ..))]
structure Comm(g:Geo)(D:DskS)(ps:List Pat)(seq:Nat)(D':DskS):Prop where
 dead:D'.dead=false
 fuse:D'.fuse = -1
 len:D'.secs.length=D.secs.length
 secs:∀i,1+g.J≤i→D'.secs[i]? = (z70 D.secs ps)[i]?
 sup:D'.secs[0]? = D.secs[0]?
 head:D'.secs[1]? = some ⟨z4m seq 0,0⟩
 done:D.done≤D'.done∧D'.done≤D.done+16000
 waits:D'.waits=[]
end
end Go.Moat
