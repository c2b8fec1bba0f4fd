/- Layer 7: the sectors that patches need. -/
import Derived.Test.YtcaaljlhljemoaaGreatP15u
namespace Go.Moat
open Go.Mini
section
variable {N:Nat} {β:Type} {l:List HA} {S:β→HA} {d:Nat} {D:DskS} {m:M β} {T:HA} {g:Geo}
theorem zhz {j sq i:Nat} (h1:1+g.J≤i) (h2:i<D.secs.length) (hJ:g.J≤1000) (hi:i<100000):Tri (stars [pts j (.cells (jrnC d g sq) false),DiskA d D]) (F_14 N (some ⟨j,0⟩) (i:Int)) fun r=>pu (r=true) (stars [pts j (.cells (jrnC d g sq) false),DiskA d D]):=by
 unfold F_14
 refine z01 [0,0] (Q:=fun c=>pu (c=true) (stars [pts j (.cells (jrnC d g sq) false),DiskA d D])) ?_ fun c7=>z03 fun h7=>z00 ?_
 ·refine z08 (by simp) (z7a 0 rfl rfl ?_)
  refine z01 [1] (z5u (D:=D)) fun r6=>z03 fun h6=>z00 ?_
  subst h6
  dsimp only [sel,rem,nth,del,cat,upd]
  exact z02 [1,0] fun q hq=>⟨by simp;omega,hq⟩
 subst h7
 dsimp only [sel,rem,nth,del,cat,upd]
 refine z01 [0,0] (Q:=fun c=>pu (c=true) (stars [pts j (.cells (jrnC d g sq) false),DiskA d D])) ?_ fun c18=>z03 fun h18=>z00 (z02 [0,0] fun q hq=>⟨h18,hq⟩)
 refine z08 rfl (z4m 0 rfl (v:=1) rfl ?_)
 refine z01 [0,0] (Q:=fun c=>pu (c=true) (stars [pts j (.cells (jrnC d g sq) false),DiskA d D])) ?_ fun c17=>z03 fun h17=>z00 (z02 [0,0] fun q hq=>⟨h17,hq⟩)
 refine z08 (by simp;omega) (z4m 0 rfl (v:=1) rfl (z4m 0 rfl (v:=g.J) rfl ?_))
 rw [wr64 (n:=1+(g.J:Int)) (by omega) (by omega)]
 exact z02 [0,0] fun q hq=>⟨by simp;omega,hq⟩
theorem zi0:∀(L:List Pat) {i:Nat} (hi:i<L.length) (x:Nat),(catL patC L).set (i * 3) (.int .i64 (x:Int))=catL patC (L.set i {L[i] with sec:=x})
 | p::L,0,_,x=>rfl
 | p::L,i+1,hi,x=>by
  have:=zi0 L (i:=i) (by simpa using hi) x
  have e:∀L:List Pat,catL patC (p::L)=patC p++catL patC L:=fun L=>rfl
  rw [e,show (i+1) * 3=i * 3+3 by omega,List.set_append_right _ _ (by rw [z1a];omega),z1a,Nat.add_sub_cancel,this]
  rfl
def patN (l:List Pat):List Nat:=(l.map fun p=>[p.sec,p.t]).flatten
theorem zr8 (a b:List Pat):patN (a++b)=patN a++patN b:=by simp [patN]
theorem zi1 (l:List Pat):(patN l).length=2 * l.length:=by
 induction l with
 | nil=>rfl
 | cons p l ih=>show (p.sec::p.t::patN l).length=_;simp [ih];omega
structure PatsOk (T:HA) (n:Nat) (s:Sl) (l:List Pat):Prop where
 h:PatsIn T n s l
 tag:∀p∈l,p.t<65536
 n:n≤4096
theorem zlw {ps:List Pat} {n:Nat} {sl:Sl} (h:PatsOk T n sl ps) (hl:ps.length≤15):∀(K k:Nat) (acc:Sl),ps.length - k<K→k≤ps.length →
  Tri (stars [OwnA acc 1 (u64s (patN (ps.take k))),T]) (iter K (F_3f N sl) (acc,(k:Int))) fun r=>stars [OwnA r 1 (u64s (patN ps)),T]:=by
 have hlen:sl.len=ps.length:=by have:=h.h.rd.1;rw [z0i z1a] at this;omega
 have hmost:most=70368744177664:=rfl
 intro K
 induction K with
 | zero=>intro k acc h;omega
 | succ K ih=>
  intro k acc hK hk
  rw [z0q]
  generalize iter K (F_3f N sl)=go at ih ⊢
  unfold F_3f
  by_cases hkl:k<ps.length
  case neg=>
   obtain rfl:k=ps.length:=by omega
   rw [List.take_length]
   exact z04 (by simp;omega) (z02 [0,0] fun q hq=>hq)
  have p3:=(h.h.el _ (List.getElem_mem hkl)).2.2
  have p4:=h.tag _ (List.getElem_mem hkl)
  have hn:=h.n
  refine z08 (by simp;omega) ?_
  refine z0a 0 rfl fun la=>?_
  rw [z2h,zi1,List.length_take] at la
  refine zew 1 rfl h.h hkl ?_
  rw [wrU64 (n:=((ps[k].sec:Nat):Int)) (by omega) (by omega),wrU64 (n:=((ps[k].t:Nat):Int)) (by omega) (by omega)]
  refine z0m fun b=>?_
  refine z01 [1,0] (z1u (s:=acc) (by':=8) (T:=pts b (.cells [.int .u64 ((ps[k].sec:Nat):Int),.int .u64 ((ps[k].t:Nat):Int)] false)) (z18 (by simp)) (by omega) rfl (by dsimp only;omega)) fun o2=>z00 ?_
  dsimp only [sel,rem,nth,del,cat,upd]
  rw [wr64 (n:=(k:Int)+1) (by omega) (by omega)]
  refine z16 [0,1] (Tri.pre (ih (k+1) o2 (by omega) (by omega)) fun q hq=>z2b (fun q h=>?_) hq)
  have e:u64s (patN (ps.take k))++[.int .u64 ((ps[k].sec:Nat):Int),.int .u64 ((ps[k].t:Nat):Int)]=u64s (patN (ps.take (k+1))):=by
   rw [List.take_add_one,List.getElem?_eq_getElem hkl,zr8]
   simp [u64s,patN]
  rw [←e]
  exact h
theorem catL_drop' {α:Type} {c:α→List MV} {e:Nat} (h:∀x,(c x).length=e) (l:List α) (i:Nat) (hi:i≤l.length):(catL c l).drop (i * e)=catL c (l.drop i):=by
 have e2:catL c l=catL c (l.take i)++catL c (l.drop i):=by rw [←z4d,List.take_append_drop]
 rw [e2]
 exact List.drop_left' (by rw [z0i h,List.length_take,Nat.min_eq_left hi])
theorem catL_take' {α:Type} {c:α→List MV} {e:Nat} (h:∀x,(c x).length=e) (l:List α) (i:Nat) (hi:i≤l.length):(catL c l).take (i * e)=catL c (l.take i):=by
 have e2:catL c l=catL c (l.take i)++catL c (l.drop i):=by rw [←z4d,List.take_append_drop]
 rw [e2]
 exact List.take_left' (by rw [z0i h,List.length_take,Nat.min_eq_left hi])
structure LayInv (ps:List Pat) (at':Nat) (out:List Pat) (L:List (Sl×List UInt8)):Prop where
 len:out.length=min at' ps.length+at' / 15
 el:∀p∈out,p.b.length=64∧(((p.s,p.b)∈L∧p.s.len=64)∨∃p'∈ps,p.s=p'.s∧p.b=p'.b)
theorem zlx {ps:List Pat} {n:Nat} {sl:Sl} (h:PatsOk T n sl ps) (hl:ps.length≤3000) (hN:5000<N):∀(K at':Nat) (o:Sl) (out:List Pat) (L:List (Sl×List UInt8)),ps.length+15 - at'<K→at'%15=0→at'≤ps.length+14→LayInv ps at' out L →
  Tri (stars [OwnA o 3 (catL patC out),PoolA L,T]) (iter K (F_3g N sl) (o,(at':Int))) fun r=>exA fun x:List Pat×List (Sl×List UInt8)=>pu (x.1.length=ps.length+(ps.length+14) / 15∧∀p∈x.1,p.b.length=64∧(((p.s,p.b)∈x.2∧p.s.len=64)∨∃p'∈ps,p.s=p'.s∧p.b=p'.b)) (stars [OwnA r 3 (catL patC x.1),PoolA x.2,T]):=by
 have hlen:sl.len=ps.length:=by have:=h.h.rd.1;rw [z0i z1a] at this;omega
 have hmost:most=70368744177664:=rfl
 intro K
 induction K with
 | zero=>intro at' o out L h;omega
 | succ K ih=>
  intro at' o out L hK ha ha2 hI
  rw [z0q]
  generalize iter K (F_3g N sl)=go at ih ⊢
  unfold F_3g
  have hil:=hI.len
  by_cases hlt:at'<ps.length
  case neg=>
   refine z04 (by simp;omega) (z02 [0,0,0] fun q hq=>⟨(out,L),⟨?_,hI.el⟩,hq⟩)
   show out.length=_
   omega
  refine z08 (by simp;omega) ?_
  obtain ⟨hi,hhi⟩:∃hi,hi=min ps.length (at'+15):=⟨_,rfl⟩
  have e1:(if (sl.len:Int)<wr .i64 ((at':Int)+15) then (sl.len:Int) else wr .i64 ((at':Int)+15))=((hi:Nat):Int):=by
   rw [wr64 (by omega) (by omega)]
   split<;>omega
  dsimp only
  rw [e1]
  refine z2p (by omega) (by omega) (by omega) ?_
  rw [Int.toNat_natCast,Int.toNat_natCast]
  have hp:PatsOk T n (subS 3 sl at' hi) ((ps.drop at').take (hi - at')):=by
   refine ⟨⟨?_,fun p hp=>h.h.el p (List.mem_of_mem_drop (List.mem_of_mem_take hp))⟩,fun p hp=>h.tag p (List.mem_of_mem_drop (List.mem_of_mem_take hp)),h.n⟩
   have:=h.h.rd.sub (lo:=at') (hi:=hi) (by omega) (by omega)
   rw [catL_drop' z1a _ _ (by omega),catL_take' z1a _ _ (by rw [List.length_drop];omega)] at this
   exact this
  have hsl:(subS 3 sl at' hi).len=hi - at':=rfl
  generalize (subS 3 sl at' hi)=l5 at hp hsl
  have hpl:((ps.drop at').take (hi - at')).length=hi - at':=by rw [List.length_take,List.length_drop];omega
  have hsub:∀p∈(ps.drop at').take (hi - at'),p∈ps:=fun p hp=>List.mem_of_mem_drop (List.mem_of_mem_take hp)
  generalize (ps.drop at').take (hi - at')=part at hp hpl hsub
  refine z01 [2] (Q:=fun r=>stars [OwnA r 1 (u64s (patN part)),T]) ((Tri.pre (zlw hp (by omega) N 0 ⟨none,0⟩ (by omega) (by omega)) fun q hq=>z1w (fun q h =>.nil 1 h) hq)) fun j12=>z00 ?_
  dsimp only [sel,rem,nth,del,cat,upd]
  refine z0a 0 rfl fun l12=>?_
  have hsm:∀x∈patN part,x<256^2:=by
   intro x hx
   unfold patN at hx
   obtain ⟨y,hy,hxy⟩:=List.mem_flatten.1 hx
   obtain ⟨p,hpp,rfl⟩:=List.mem_map.1 hy
   have h1:=(hp.h.el p hpp).2.2
   have h2:=hp.tag p hpp
   have h3:=hp.n
   have:(256:Nat)^2=65536:=rfl
   simp at hxy
   rcases hxy with rfl | rfl<;>omega
  have hpn:=zi1 part
  refine z01 [0] (z4v (size:=2) (ns:=patN part) (by omega) (by omega) (z0e l12) hsm (by omega) hN) fun r13=>z03 fun h13=>z00 ?_
  dsimp only [sel,rem,nth,del,cat,upd]
  refine z0a 0 rfl fun l13=>?_
  refine z01 [0] (z7m (n:=64) (z0e l13) (by rw [z1e,hpn];omega) (by omega)) fun r14=>z03 fun h14=>z00 ?_
  dsimp only [sel,rem,nth,del,cat,upd]
  have hf64:(filled (lays 2 (patN part)) 64).length=64:=z1d (by rw [z1e,hpn];omega)
  generalize filled (lays 2 (patN part)) 64=hb at hf64
  refine z0a 0 rfl fun l14=>?_
  rw [z0b,hf64] at l14
  refine z0m fun q15=>?_
  refine z0a 5 rfl fun lo=>?_
  rw [z0i z1a] at lo
  refine z01 [5,0] (z1u (s:=o) (by':=40) (T:=pts q15 (.cells (patC ⟨0,r14.1,hb,0⟩) false)) (z18 (by simp [patC])) (by omega) (z7o _) (by dsimp only;omega)) fun l16=>z00 ?_
  dsimp only [sel,rem,nth,del,cat,upd]
  rw [show catL patC out++patC ⟨0,r14.1,hb,0⟩=catL patC (out++[⟨0,r14.1,hb,0⟩]) by rw [z4d,z9c]]
  refine z0a 0 rfl fun lo2=>?_
  rw [z0i z1a,List.length_append,List.length_singleton] at lo2
  refine z01 [0,4] (z1u (s:=l16) (by':=40) hp.h.rd (by omega) (z5a z7o _) (by omega)) fun l17=>z00 ?_
  dsimp only [sel,rem,nth,del,cat,upd]
  rw [←z4d]
  rw [wr64 (n:=(at':Int)+15) (by omega) (by omega)]
  refine z16 [0,2,4,0] (Tri.pre (ih (at'+15) l17 (out++[(⟨0,r14.1,hb,0⟩:Pat)]++part) ((r14.1,hb)::L) (by omega) (by omega) (by omega) ⟨?_,fun p hp'=>?_⟩) fun q (hq:stars [OwnA l17 3 (catL patC (out++[(⟨0,r14.1,hb,0⟩:Pat)]++part)),OwnA r14.1 1 (bytesOf hb),PoolA L,T] q)=>z0s (fun q hq=>zfm hq) hq)
  ·rw [List.length_append,List.length_append,List.length_singleton,hpl,hil]
   omega
  ·rcases List.mem_append.1 hp' with hp' | hp'
   ·rcases List.mem_append.1 hp' with hp' | hp'
    ·obtain ⟨h1,h2⟩:=hI.el p hp'
     refine ⟨h1,?_⟩
     rcases h2 with ⟨h2,h3⟩ | h2
     ·exact .inl ⟨List.mem_cons_of_mem _ h2,h3⟩
     ·exact .inr h2
    ·have:=List.mem_singleton.1 hp'
     subst this
     exact ⟨hf64,.inl ⟨List.mem_cons_self ..,by dsimp only;omega⟩⟩
   ·exact ⟨(hp.h.el p hp').2.1,.inr ⟨p,hsub p hp',rfl,rfl⟩⟩
theorem zly {j sq:Nat} {o:Sl} {out:List Pat} (hl:out.length≤5000):∀(K k:Nat) (ok:List Pat),out.length - k<K→k≤out.length→ok.length=out.length→(∀(i:Nat) p,ok[i]? = some p→∃p',out[i]? = some p'∧p.s=p'.s∧p.b=p'.b∧(i<k→p.sec=2+i)) →
  Tri (stars [OwnA o 3 (catL patC ok),pts j (.cells (jrnC d g sq) false)]) (iter K (F_3h N (some ⟨j,0⟩) o) (k:Int)) fun _=>exA fun ok:List Pat=>pu (ok.length=out.length∧∀(i:Nat) p,ok[i]? = some p→∃p',out[i]? = some p'∧p.s=p'.s∧p.b=p'.b∧p.sec=2+i) (stars [OwnA o 3 (catL patC ok),pts j (.cells (jrnC d g sq) false)]):=by
 intro K
 induction K with
 | zero=>intro k ok h;omega
 | succ K ih=>
  intro k ok hK hk hlen hin
  rw [z0q]
  generalize iter K (F_3h N (some ⟨j,0⟩) o)=go at ih ⊢
  unfold F_3h
  refine z0a 0 rfl fun lo=>?_
  rw [z0i z1a] at lo
  by_cases hkl:k<out.length
  case neg=>
   refine z04 (by simp;omega) (z02 [0,0] fun q hq=>⟨ok,⟨hlen,fun i p hp=>?_⟩,hq⟩)
   obtain ⟨p',h1,h2,h3,h4⟩:=hin i p hp
   exact ⟨p',h1,h2,h3,h4 (by have:=(List.getElem?_eq_some_iff.1 h1).1;omega)⟩
  refine z08 (by simp;omega) ?_
  refine z4m 1 rfl (v:=1) rfl ?_
  have hkk:k<ok.length:=by omega
  have e2:wr .i64 (wr .i64 ((1:Int)+1)+(k:Int))=((2+k:Nat):Int):=by
   rw [wr64 (n:=(1:Int)+1) (by omega) (by omega),wr64 (by omega) (by omega)]
   omega
  rw [e2]
  refine z3k 0 rfl (fun _ h0=>?_) fun b ln h0 hl9=>?_
  ·have:=congrArg List.length h0
   rw [z0i z1a] at this
   simp at this
   omega
  subst h0
  dsimp only at lo
  refine z15 (by omega) (z05 (z14 0 rfl (by rw [z0i z1a];omega) rfl ?_))
  rw [show 0+k * 3+0=k * 3 by omega,zi0 ok hkk]
  refine z3u 0 (B:=OwnA ⟨some ⟨b,0⟩,ln⟩ 3 (catL patC (ok.set k {ok[k] with sec:=2+k}))) rfl (fun q hq =>.mk (by rw [z0i z1a,List.length_set];omega) hq) ?_
  rw [wr64 (by omega) (by omega)]
  refine z16 [0,0] (ih (k+1) _ (by omega) (by omega) (by rw [List.length_set];exact hlen) fun i p hp=>?_)
  rw [List.getElem?_set] at hp
  by_cases e:k=i
  ·subst e
   rw [if_pos rfl,if_pos hkk] at hp
   cases hp
   obtain ⟨p',h1,h2,h3,_⟩:=hin k ok[k] (List.getElem?_eq_getElem hkk)
   exact ⟨p',h1,h2,h3,fun _=>rfl⟩
  ·rw [if_neg e] at hp
   obtain ⟨p',h1,h2,h3,h4⟩:=hin i p hp
   exact ⟨p',h1,h2,h3,fun _=>h4 (by omega)⟩
structure LaidP (ps out:List Pat) (L:List (Sl×List UInt8)):Prop where
 len:out.length=ps.length+(ps.length+14) / 15
 el:∀(i:Nat) p,out[i]? = some p→p.sec=2+i∧p.b.length=64∧(((p.s,p.b)∈L∧p.s.len=64)∨∃p'∈ps,p.s=p'.s∧p.b=p'.b)
theorem zob {j sq:Nat} {ps:List Pat} {n:Nat} {sl:Sl} (h:PatsOk T n sl ps) (hl:ps.length≤3000) (hN:5000<N) :
  Tri (stars [pts j (.cells (jrnC d g sq) false),T]) (F_2s N (some ⟨j,0⟩) sl) fun r=>exA fun x:List Pat×List (Sl×List UInt8)=>pu (LaidP ps x.1 x.2) (stars [OwnA r 3 (catL patC x.1),PoolA x.2,pts j (.cells (jrnC d g sq) false),T]):=by
 unfold F_2s
 refine z01 [1] (Tri.pre (zlx h hl hN N 0 ⟨none,0⟩ [] [] (by omega) (by omega) (by omega) ⟨by simp,fun p hp=>by cases hp⟩) fun q hq=>z1w (fun q h =>.nil 3 h) (z1w (A:=PoolA []) (fun q h=>h) hq)) fun j18=>z10 fun x=>z03 fun hx=>z00 ?_
 obtain ⟨out,L⟩:=x
 obtain ⟨hx1,hx2⟩:=hx
 have hx1:out.length=ps.length+(ps.length+14) / 15:=hx1
 have hx2:∀p∈out,p.b.length=64∧(((p.s,p.b)∈L∧p.s.len=64)∨∃p'∈ps,p.s=p'.s∧p.b=p'.b):=hx2
 dsimp only [sel,rem,nth,del,cat,upd]
 refine z01 [0,2] (zly (out:=out) (by omega) N 0 out (by omega) (by omega) rfl fun i p hp=>⟨p,hp,rfl,rfl,fun h=>by omega⟩) fun _=>z10 fun ok=>z03 fun hk=>z00 ?_
 obtain ⟨k1,k2⟩:=hk
 dsimp only [sel,rem,nth,del,cat,upd]
 refine z02 [0,1,0,0] fun q hq=>⟨(ok,L),⟨by rw [←hx1];exact k1,fun i p hp=>?_⟩,hq⟩
 obtain ⟨p',h1,h2,h3,h4⟩:=k2 i p hp
 obtain ⟨h5,h6⟩:=hx2 p' (List.mem_of_getElem? h1)
 rw [h2,h3]
 exact ⟨h4,h5,h6⟩
end
end Go.Moat

/- Layer 7: Commit. -/
namespace Go.Moat
open Go.Mini
section
variable {N:Nat} {β:Type} {l:List HA} {S:β→HA} {d:Nat} {D:DskS} {m:M β} {T:HA} {g:Geo}
def lsC (ls:List (Sl×List Pat)):List MV:=ls.map fun x =>.sl x.1.p x.1.len 3
def lsAll (ls:List (Sl×List Pat)):List Pat:=(ls.map (·.2)).flatten
theorem zjw {j sq:Nat} {q:Option MA} {ls:List (Sl×List Pat)} (h4:ls.length=4) (hq:RdC T ⟨q,4⟩ 1 (lsC ls)) (hp:∀x∈ls,PatsIn T D.secs.length x.1 x.2∧x.2.length≤3500) (h2:0≤D.done) (h3:D.done<3000000000000000000) (hw:D.waits.length<300000000000) (hN:5000<N) :
  ∀(K k:Nat) (D1:DskS),4 - k<K→k≤4→D1.dead=false→D1.fuse = -1→D1.secs=setAll D.secs (lsAll (ls.take k))→D.done≤D1.done→D1.done≤D.done+k * 4000→D1.waits.length≤D.waits.length →
  Tri (stars [pts j (.cells (jrnC d g sq) false),DiskA d D1,T]) (iter K (F_3j N (some ⟨j,0⟩) q) (k:Int)) fun r=>exA fun D2:DskS=>pu (r=.inl ()∧D2.dead=false∧D2.fuse = -1∧D2.secs=setAll D.secs (lsAll ls)∧D.done≤D2.done∧D2.done≤D.done+16000∧(k<4→D2.waits=[])∧(k=4→D2.waits=D1.waits)) (stars [pts j (.cells (jrnC d g sq) false),DiskA d D2,T]):=by
 intro K
 induction K with
 | zero=>intro k D1 h;omega
 | succ K ih=>
  intro k D1 hK hk g0 g1 g2 g3 g4 g5
  rw [z0q]
  generalize iter K (F_3j N (some ⟨j,0⟩) q)=go at ih ⊢
  unfold F_3j
  by_cases hkl:k<4
  case neg=>
   obtain rfl:k=4:=by omega
   rw [List.take_of_length_le (by omega)] at g2
   exact z04 (by simp) (z02 [0,0,0] fun q hq=>⟨D1,⟨rfl,g0,g1,g2,g3,by omega,fun h=>by omega,fun _=>rfl⟩,hq⟩)
  have hkk:k<ls.length:=by omega
  refine z08 (by simp;omega) ?_
  refine zdx 2 rfl hq (i:=k) (by unfold lsC;rw [List.getElem?_map,List.getElem?_eq_getElem hkk];rfl) ?_
  obtain ⟨p1,p2⟩:=hp _ (List.getElem_mem hkk)
  have el:D1.secs.length=D.secs.length:=by rw [g2,z29]
  refine z01 [0,0,0] (zjv (D:=D1) (sl:=ls[k].1) (ps:=ls[k].2) (by rw [el];exact p1) g0 g1 (by omega) (by omega) (by omega) (by omega) hN) fun r25=>z10 fun D2=>z03 fun h25=>z00 ?_
  obtain ⟨h25,k0,k1,k2,k3,k4⟩:=h25
  subst h25
  dsimp only [sel,rem,nth,del,cat,upd]
  refine z04 (by simp) ?_
  rw [wr64 (by omega) (by omega)]
  refine Tri.post (z16 [0,0,0] (ih (k+1) D2 (by omega) (by omega) k0 k1 ?_ (by omega) (by omega) (by rw [k3];simp))) fun r q hq=>?_
  ·rw [k2,g2,List.take_add_one,List.getElem?_eq_getElem hkk]
   unfold lsAll
   rw [List.map_append,List.flatten_append,z40]
   simp
  ·obtain ⟨D3,⟨a1,a2,a3,a4,a5,a6,a7,a8⟩,hq⟩:=hq
   refine ⟨D3,⟨a1,a2,a3,a4,a5,a6,fun _=>?_,fun h=>by omega⟩,hq⟩
   by_cases e:k+1<4
   ·exact a7 e
   ·rw [a8 (by omega),k3]
theorem zpv {j sq n:Nat} {sl:Sl} {ps:List Pat} (hp:PatsIn T D.secs.length sl ps) (ho:∀p∈ps,1+g.J≤p.sec) (hJ:g.J≤1000) (hn:D.secs.length≤4096) (hl:ps.length≤4000):∀(K k:Nat),ps.length - k<K→k≤ps.length →
  Tri (stars [pts j (.cells (jrnC d g sq) false),DiskA d D,T]) (iter K (F_3i N (some ⟨j,0⟩) sl) (k:Int)) fun r=>pu (r=.inl ()) (stars [pts j (.cells (jrnC d g sq) false),DiskA d D,T]):=by
 have hlen:sl.len=ps.length:=by have:=hp.rd.1;rw [z0i z1a] at this;omega
 intro K
 induction K with
 | zero=>intro k h;omega
 | succ K ih=>
  intro k hK hk
  rw [z0q]
  generalize iter K (F_3i N (some ⟨j,0⟩) sl)=go at ih ⊢
  unfold F_3i
  by_cases hkl:k<ps.length
  case neg=>exact z04 (by simp;omega) (z02 [0,0,0] fun q hq=>⟨rfl,hq⟩)
  refine z08 (by simp;omega) ?_
  refine zew 2 rfl hp hkl ?_
  obtain ⟨p1,p2,p3⟩:=hp.el _ (List.getElem_mem hkl)
  have p4:=ho _ (List.getElem_mem hkl)
  refine z01 [0,0] (zhz (D:=D) p4 p3 hJ (by omega)) fun r8=>z03 fun h8=>z00 ?_
  subst h8
  dsimp only [sel,rem,nth,del,cat,upd]
  have ls64:=z2f p1
  refine z04 (by simp;omega) ?_
  rw [wr64 (by omega) (by omega)]
  exact z16 [0,0,0] (ih (k+1) (by omega) (by omega))
theorem setAll_get {secs:List SecS}:∀ {l:List Pat} {secs:List SecS} {i:Nat},(∀p∈l,p.sec≠i)→(setAll secs l)[i]? = secs[i]?
 | [],secs,i,_=>rfl
 | p::l,secs,i,h=>by
  show (setAll (secs.set p.sec ⟨p.b,p.t⟩) l)[i]? = _
  rw [setAll_get (secs:=secs) fun q hq=>h q (List.mem_cons_of_mem _ hq),List.getElem?_set,if_neg (h p (List.mem_cons_self ..))]
theorem zaq:∀ {l:List Pat} {s1 s2:List SecS} {i:Nat},s1[i]? = s2[i]? → (s1.length=s2.length)→(setAll s1 l)[i]? = (setAll s2 l)[i]?
 | [],_,_,_,h,_=>h
 | p::l,s1,s2,i,h,hl=>by
  show (setAll (s1.set p.sec ⟨p.b,p.t⟩) l)[i]? = (setAll (s2.set p.sec ⟨p.b,p.t⟩) l)[i]?
  refine zaq ?_ (by simp [hl])
  rw [List.getElem?_set,List.getElem?_set,hl,h]
structure Comm (g:Geo) (D:DskS) (ps:List Pat) (seq:Nat) (D':DskS):Prop where
 dead:D'.dead=false
 fuse:D'.fuse = -1
 len:D'.secs.length=D.secs.length
 secs:∀i,1+g.J≤i→D'.secs[i]? = (setAll D.secs ps)[i]?
 sup:D'.secs[0]? = D.secs[0]?
 head:D'.secs[1]? = some ⟨headB seq 0,0⟩
 done:D.done≤D'.done∧D'.done≤D.done+16000
 waits:D'.waits=[]
theorem zjx (hg:g.ok) {j sq:Nat} {sl:Sl} {ps:List Pat} (hp:PatsOk T D.secs.length sl ps) (ho:∀p∈ps,1+g.J≤p.sec) (hne:0<ps.length) (hroom:ps.length≤roomN g.J) (hlen:1+g.J≤D.secs.length) (h0:D.dead=false) (h1:D.fuse = -1) (h2:0≤D.done) (h3:D.done<3000000000000000000) (hw:D.waits.length<300000000000) (hsq:sq<9000000000000000000) (hN:5000<N) :
  Tri (stars [pts j (.cells (jrnC d g sq) false),DiskA d D,T]) (F_0s N (some ⟨j,0⟩) sl) fun r=>exA fun D':DskS=>pu (r=0∧Comm g D ps (sq+1) D') (stars [pts j (.cells (jrnC d g (sq+1)) false),DiskA d D',T]):=by
 have hJ:=hg.j2
 have hJ1:=hg.j1
 have hln:sl.len=ps.length:=by have:=hp.h.rd.1;rw [z0i z1a] at this;omega
 have hr2:roomN g.J≤g.J:=by unfold roomN;omega
 unfold F_0s
 refine z04 (by simp) (z04 (by simp;omega) ?_)
 refine z01 [0] (za5 (sq:=sq) hg) fun r3=>z03 fun h3'=>z00 ?_
 subst h3'
 dsimp only [sel,rem,nth,del,cat,upd]
 refine z04 (by simp;omega) ?_
 refine z01 [0,0,0] (zpv (n:=0) hp.h ho hJ hp.n (by omega) N 0 (by omega) (by omega)) fun j9=>z03 fun hj=>z00 ?_
 subst hj
 dsimp only [sel,rem,nth,del,cat,upd]
 refine z0g (z05 (z1c 0 rfl rfl ?_))
 have esq:wr .u64 ((sq:Int)+1)=((sq+1:Nat):Int):=by
  rw [wrU64 (by omega) (by omega)]
  omega
 rw [esq]
 refine z04 (by simp;omega) ?_
 refine z01 [0,1] (zob (d:=d) (g:=g) (j:=j) (sq:=sq) hp (by omega) hN) fun r15=>z10 fun x=>z03 fun hL=>z00 ?_
 obtain ⟨out,L⟩:=x
 have hL:LaidP ps out L:=hL
 dsimp only [sel,rem,nth,del,cat,upd]
 refine z01 [2] (za4 (d:=d) (g:=g) (j:=j) (sq:=sq) (seq:=sq+1) (cnt:=ps.length) (by omega) (by omega) hN |> fun t=>by rw [hln];exact t) fun r16=>z03 fun h16=>z00 ?_
 obtain ⟨a1,a2⟩:=h16
 rw [a1,a2]
 dsimp only [sel,rem,nth,del,cat,upd]
 refine z0m fun q17=>?_
 refine z01 [2] (za4 (d:=d) (g:=g) (j:=j) (sq:=sq) (seq:=sq+1) (cnt:=0) (by omega) (by omega) hN) fun r18=>z03 fun h18=>z00 ?_
 obtain ⟨b1,b2⟩:=h18
 rw [b1,b2]
 dsimp only [sel,rem,nth,del,cat,upd]
 refine z0m fun q19=>?_
 refine z0m fun q20=>?_
 refine z0a 2 rfl fun lh0=>?_
 refine z0a 5 rfl fun lh1=>?_
 refine z0a 6 rfl fun lo=>?_
 rw [z0b,z56] at lh0 lh1
 rw [z0i z1a] at lo
 have hol:=hL.len
 have hbound:ps.length+(ps.length+14) / 15≤g.J - 1:=by unfold roomN at hroom;omega
 obtain ⟨P1,hP1⟩:∃P:Pat,P=⟨1,r16.2.1,headB (sq+1) ps.length,0⟩:=⟨_,rfl⟩
 obtain ⟨P0,hP0⟩:∃P:Pat,P=⟨1,r18.2.1,headB (sq+1) 0,0⟩:=⟨_,rfl⟩
 refine z3d [0,0,0,1,1,1,1,1] ?_
 dsimp only [sel,rem,nth,del,cat,upd]
 generalize hls:[(r15,out),(⟨some ⟨q17,0⟩,1⟩,[P1]),(sl,ps),(⟨some ⟨q19,0⟩,1⟩,[P0])]=ls
 have hls4:ls.length=4:=by rw [←hls];rfl
 have hq:RdC (stars [pts q20 (.cells [MV.sl r15.p r15.len 3,MV.sl (some ⟨q17,0⟩) 1 3,MV.sl sl.p sl.len 3,MV.sl (some ⟨q19,0⟩) 1 3] false),pts q19 (.cells [MV.int .i64 1,MV.sl r18.2.1.p r18.2.1.len 1,MV.int .u16 0] false),OwnA r18.2.1 1 (bytesOf (headB (sq+1) 0)),pts q17 (.cells [MV.int .i64 1,MV.sl r16.2.1.p r16.2.1.len 1,MV.int .u16 0] false),OwnA r16.2.1 1 (bytesOf (headB (sq+1) ps.length)),OwnA r15 3 (catL patC out),PoolA L,T]) ⟨some ⟨q20,0⟩,4⟩ 1 (lsC ls):=by
  rw [←hls]
  exact RdC.at 0 rfl (z18 (by simp))
 have hpp:∀x∈ls,PatsIn (stars [pts q20 (.cells [MV.sl r15.p r15.len 3,MV.sl (some ⟨q17,0⟩) 1 3,MV.sl sl.p sl.len 3,MV.sl (some ⟨q19,0⟩) 1 3] false),pts q19 (.cells [MV.int .i64 1,MV.sl r18.2.1.p r18.2.1.len 1,MV.int .u16 0] false),OwnA r18.2.1 1 (bytesOf (headB (sq+1) 0)),pts q17 (.cells [MV.int .i64 1,MV.sl r16.2.1.p r16.2.1.len 1,MV.int .u16 0] false),OwnA r16.2.1 1 (bytesOf (headB (sq+1) ps.length)),OwnA r15 3 (catL patC out),PoolA L,T]) D.secs.length x.1 x.2∧x.2.length≤3500:=by
  intro x hx
  rw [←hls] at hx
  simp only [List.mem_cons,List.not_mem_nil,or_false] at hx
  rcases hx with rfl | rfl | rfl | rfl
  ·refine ⟨⟨RdC.at 5 rfl (z0e (by rw [z0i z1a];omega)),fun p hp'=>?_⟩,by dsimp only;omega⟩
   obtain ⟨i,hi⟩:=List.getElem?_of_mem hp'
   obtain ⟨k1,k2,k3⟩:=hL.el i p hi
   have hil:i<out.length:=(List.getElem?_eq_some_iff.1 hi).1
   refine ⟨?_,k2,by omega⟩
   rcases k3 with ⟨k3,k4⟩ | ⟨p',k3,k4,k5⟩
   ·exact RdC.at 6 rfl (z70 k3 (by omega))
   ·rw [k4,k5]
    exact RdC.at 7 rfl (hp.h.el p' k3).1
  ·refine ⟨⟨RdC.at 3 rfl (by rw [hP1];exact z18 (by simp [catL,patC])),fun p hp'=>?_⟩,by simp⟩
   rw [List.mem_singleton.1 hp',hP1]
   exact ⟨RdC.at 4 rfl (z0e (by rw [z0b,z56];exact lh1)),z56 _ _,by dsimp only;omega⟩
  ·exact ⟨⟨RdC.at 7 rfl hp.h.rd,fun p hp'=>⟨RdC.at 7 rfl (hp.h.el p hp').1,(hp.h.el p hp').2⟩⟩,by dsimp only;omega⟩
  ·refine ⟨⟨RdC.at 1 rfl (by rw [hP0];exact z18 (by simp [catL,patC])),fun p hp'=>?_⟩,by simp⟩
   rw [List.mem_singleton.1 hp',hP0]
   exact ⟨RdC.at 2 rfl (z0e (by rw [z0b,z56];exact lh0)),z56 _ _,by dsimp only;omega⟩
 refine z01 [1,1,0] (zjw (sq:=sq) hls4 hq hpp h2 h3 hw hN N 0 D (by omega) (by omega) h0 h1 rfl (Int.le_refl _) (by omega) (Nat.le_refl _)) fun j26=>z10 fun D2=>z03 fun hD=>z00 ?_
 obtain ⟨hD,d1,d2,d3,d4,d5,d6,_⟩:=hD
 subst hD
 dsimp only [sel,rem,nth,del,cat,upd]
 refine z0g (z05 (z14 0 rfl (by simp [jrnC]) rfl ?_))
 refine z4f 2 rfl ?_
 dsimp only [sel,rem,nth,del,cat,upd]
 have d3:D2.secs=setAll (setAll (setAll (setAll D.secs out) [P1]) ps) [P0]:=by
  rw [d3,←hls,←z40,←z40,←z40]
  simp [lsAll]
 have ho2:∀i,(i=0∨1+g.J≤i)→∀p∈out,p.sec≠i:=by
  intro i hi p hp'
  obtain ⟨k,hk⟩:=List.getElem?_of_mem hp'
  have k1:=(hL.el k p hk).1
  have hil:=(List.getElem?_eq_some_iff.1 hk).1
  omega
 refine z02 [8,8,7] fun q hq=>⟨D2,⟨rfl,⟨d1,d2,by rw [d3,z29,z29,z29,z29],fun i hi=>?_,?_,?_,⟨d4,d5⟩,d6 (by omega)⟩⟩,hq⟩
 ·rw [d3,setAll_get (secs:=[]) (by intro p hp';rw [List.mem_singleton.1 hp',hP0];dsimp only;omega)]
  refine zaq ?_ (by rw [z29,z29])
  rw [setAll_get (secs:=[]) (by intro p hp';rw [List.mem_singleton.1 hp',hP1];dsimp only;omega),setAll_get (secs:=[]) (ho2 i (.inr hi))]
 ·rw [d3,setAll_get (secs:=[]) (by intro p hp';rw [List.mem_singleton.1 hp',hP0];dsimp only;omega),setAll_get (secs:=[]) (by intro p hp';have:=ho p hp';omega),setAll_get (secs:=[]) (by intro p hp';rw [List.mem_singleton.1 hp',hP1];dsimp only;omega),setAll_get (secs:=[]) (ho2 0 (.inl rfl))]
 ·rw [d3]
  show ((setAll (setAll (setAll D.secs out) [P1]) ps).set P0.sec ⟨P0.b,P0.t⟩)[1]? = _
  rw [hP0,List.getElem?_set,if_pos rfl,if_pos (by rw [z29,z29,z29];dsimp only;omega)]
  rfl
end
end Go.Moat
