/- Layers 10, 11, 14: what is known is laid into sectors. -/
import Derived.Test.YtcaaljlhljemoaaGreatP15s
namespace Go.Moat
open Go.Mini
theorem zwv(a b:List Row):z3b (a++b)=z3b a++z3b b:=by simp[z3b]
theorem zj6(a b:List Nat):z1u (a++b)=z1u a++z1u b:=by simp[z1u]
section
variable{N:Nat}{β:Type}{l:List HA}{S:β→HA}{T:HA}{s:Sl}{rs:List Row}{n:Ino}{g:Geo}
theorem zww(ok:RowsOk rs)(hr:RdC T s 2 (z13 rs))(hN:5000<N):Tri (z00 [T]) (F_2t N s) fun r=>pu (r.2=0) (z00 [z08 r.1 1 (bytesOf (z6j rs)),T]):=by
 have hlen:=z7k hr;have h16:=ok.len;have hmost:most=70368744177664:=rfl;unfold F_2t;refine z02 [0] (z7n ok hr (by omega)) fun r=>z04 fun h=>z01 ?_;subst h;dsimp only[sel,rem,nth,del,cat,upd];refine z05 (by simp) ?_;have loop:∀(K k:Nat)(o:Sl),rs.length - k<K→k≤rs.length→Tri (z00 [z08 o 1 (z1u (z3b (rs.take k))),T]) (z0l K (F_4u N s) (o,(k:Int))) fun r=>z00 [z08 r 1 (z1u (z3b rs)),T]:=by
  intro K;induction K with
  | zero=>intro k o h;omega
  | succ K ih=>
   intro k o h hk;rw[z18];unfold F_4u;by_cases hkl:k<rs.length
   ·refine z07 (by simp[hlen];omega) ?_;have h1:=ok.rng _ (List.getElem_mem hkl);refine z0c 0 rfl fun lo=>?_;rw[z4u,z5k,List.length_take]at lo;refine zhx 1 rfl hr hkl ?_;dsimp only;rw[z6a (n:=(rs[k].1:Int)) (by omega) (by omega),z6a (n:=(rs[k].2:Int)) (by omega) (by omega)];refine z0z fun b=>?_;refine z02 [1,0] (z2y (s:=o) (by':=8) (T:=pts b (.cells [.int .u64 (rs[k].1:Int),.int .u64 (rs[k].2:Int)] false)) (rd_pts0 (by simp)) (by omega) rfl (by dsimp only;omega)) fun o2=>z01 ?_;dsimp only[sel,rem,nth,del,cat,upd];rw[z0i (n:=(k:Int)+1) (by omega) (by omega)];refine tri_last [0,1] (Tri.pre (ih (k+1) o2 (by omega) (by omega)) fun q hq=>ent_head (fun q h=>?_) hq);have e:z1u (z3b (rs.take k))++[.int .u64 (rs[k].1:Int),.int .u64 (rs[k].2:Int)]=z1u (z3b (rs.take (k+1))):=by
     rw[List.take_add_one,List.getElem?_eq_getElem hkl,zwv,zj6];rfl
    rw[←e];exact h
   ·obtain rfl:k=rs.length:=by omega
    refine z05 (by simp[hlen]) (z03 [0,0] fun q hq=>?_);rw[List.take_length]at hq;exact hq
 refine z02 [0] ((loop N 0 ⟨none,0⟩ (by omega) (by omega)).pre fun q hq=>z2z (fun q h =>.nil 1 h) hq) fun j=>z01 ?_;dsimp only[sel,rem,nth,del,cat,upd];refine z0c 0 rfl fun lj=>?_;refine z02 [0] (z96 (size:=2) (ns:=z3b rs) (by omega) (by omega) (z0k lj) (fun x hx=>?_) (by rw[z5k];omega) hN) fun r10=>z04 fun h10=>z01 ?_
 ·unfold z3b at hx;obtain⟨y,hy,hx⟩:=List.mem_flatten.1 hx;obtain⟨r,hr,rfl⟩:=List.mem_map.1 hy;have h1:=ok.rng _ hr;have h2:(256:Nat)^2=65536:=rfl;simp at hx;rcases hx with rfl | rfl<;>omega
 ·dsimp only[sel,rem,nth,del,cat,upd];exact z03 [0,1] fun q hq=>⟨h10,hq⟩
theorem zwx(h:n.Ok):∀x∈z3c n,x<65536:=by
 intro x hx;unfold z3c at hx;have hk:=h.k;have hr:=h.r;rcases List.mem_cons.1 hx with rfl | hx
 ·omega
 ·obtain⟨y,hy,rfl⟩:=List.mem_map.1 hx;obtain⟨i,hi,rfl⟩:=List.mem_iff_getElem.1 hy;have hi12:i<12:=by rw[n.xs.2]at hi;exact hi
  have e:n.xs.1[i]=n.at i:=by
   have:=n.get_at hi12
   rw[List.getElem?_eq_getElem hi]at this;exact Option.some.inj this
  rw[e];rcases Nat.lt_or_ge i 2 with h2 | h2
  ·have h0:=h.l1;have h1:=h.s1;rcases(show i=0∨i=1 by omega)with rfl | rfl<;>omega
  ·have:=h.p i h2 hi12
   omega
theorem zmr(h:n.Ok)(hN:5000<N):Tri (z00 []) (F_1j N (z0u n)) fun r=>pu (r.2=0) (z00 [z08 r.1 1 (bytesOf (z4j n))]):=by
 have hmost:most=70368744177664:=rfl;have hk:=h.k;have hrr:=h.r;have hok:n.ok=true:=Ino.ok_iff.2 h;have hat:∀i,i<12→0≤n.at i∧n.at i<65536:=by
  intro i hi;have h0:=h.l0;have h1:=h.l1;have h2:=h.s0;have h3:=h.s1;rcases Nat.lt_or_ge i 2 with h4 | h4
  ·rcases(show i=0∨i=1 by omega)with rfl | rfl<;>omega
  ·have:=h.p i h4 hi
   omega
 unfold F_1j;have g0:(z0u n)[0]? = some (.int .u8 n.k):=rfl;have g1:(z0u n)[1]? = some (.int .u8 n.r):=rfl;have g2:(z0u n)[2]? = some (.int .i64 (n.at 0)):=z5o n (i:=0) (by omega);have g3:(z0u n)[3]? = some (.int .i64 (n.at 1)):=z5o n (i:=1) (by omega);have g12:(z0u n)[12]? = some (.int .i64 (n.at 10)):=z5o n (i:=10) (by omega);have g13:(z0u n)[13]? = some (.int .i64 (n.at 11)):=z5o n (i:=11) (by omega);have e14:0+14≤(z0u n).length:=by rw[z0h];omega
 have t14:((z0u n).drop 0).take 14=z0u n:=by rw[List.drop_zero,List.take_of_length_le (by rw[z0h];omega)]
 have e8:4+8≤(z0u n).length:=by rw[z0h];omega
 have t8:((z0u n).drop 4).take 8=i64s (n.xs.1.drop 2 |>.take 8):=by simp[z0u,i64s]
 rw[g0,g1,g2,g3,g12,g13,if_pos e14,t14,if_pos e8,t8];refine z0s ?_;rw[zb9 (by omega),hok];refine z0s (z05 (by simp) ?_);refine z15 (z1t (z15 (z1t (z15 (z1t (z15 (z1t ?_)))))));have ha0:=hat 0 (by omega);have ha1:=hat 1 (by omega);have ha10:=hat 10 (by omega);have ha11:=hat 11 (by omega);have ekr:z37 .or .u64 (wr .u64 (n.k:Int)) (z6q .u64 (wr .u64 (n.r:Int)) (8:Int))=((n.k+256 * n.r:Nat):Int):=by
  rw[z6a (n:=(n.k:Int)) (by omega) (by omega),z6a (n:=(n.r:Int)) (by omega) (by omega)];have hs:=zm2 (k :=.u64) (a:=n.r) (j:=8) rfl (by decide) (by show n.r * 2^8<2^64;omega);have hs':z6q .u64 (n.r:Int) (8:Int)=((n.r * 2^8:Nat):Int):=hs;rw[hs',(zcd (k :=.u64) rfl (a:=n.k) (b:=n.r * 2^8) (by show n.k<2^64;omega) (by show n.r * 2^8<2^64;omega)).2.1,zxr (j:=8) (by omega)];congr 1;omega
 rw[ekr,z6a (n:=n.at 0) (by omega) (by omega),z6a (n:=n.at 1) (by omega) (by omega)];refine z0z fun b=>z0s ?_;have hds:(n.xs.1.drop 2 |>.take 8).length=8:=by simp[n.xs.2]
 have hdg:∀(i:Nat)(hi:i<(n.xs.1.drop 2 |>.take 8).length),0≤(n.xs.1.drop 2 |>.take 8)[i]∧(n.xs.1.drop 2 |>.take 8)[i]<65536:=by
  intro i hi;rw[hds]at hi;have e:(n.xs.1.drop 2 |>.take 8)[i]=n.at (2+i):=by
   have:=n.get_at (i:=2+i) (by omega)
   rw[List.getElem?_eq_getElem (by rw[n.xs.2];omega)]at this;rw[List.getElem_take,List.getElem_drop];exact Option.some.inj this
  rw[e];exact hat (2+i) (by omega)
 have hall:z3c n=[n.k+256 * n.r,(n.at 0).toNat,(n.at 1).toNat]++(n.xs.1.drop 2 |>.take 8).map Int.toNat++[(n.at 10).toNat,(n.at 11).toNat]:=by
  obtain⟨k,r,xs,hx⟩:=n;match xs,hx with
  | [a,b,c,d,e,f,g,h,i,j,p,q],_=>rfl
 generalize (n.xs.1.drop 2 |>.take 8)=ds at hds hdg hall;have hpre:∀x:Int,0≤x→(MV.int .u64 x)=.int .u64 ((x.toNat:Nat):Int):=fun x hx=>by rw[Int.toNat_of_nonneg hx]
 have loop:∀(K k:Nat)(o:Sl)(pre:List Nat),8 - k<K→k≤8→pre.length=3→Tri (z00 [z08 o 1 (z1u (pre++(ds.take k).map Int.toNat))]) (z0l K (F_4v N (i64s ds)) (o,(k:Int))) fun r=>z00 [z08 r 1 (z1u (pre++ds.map Int.toNat))]:=by
  intro K;induction K with
  | zero=>intro k o pre h;omega
  | succ K ih=>
   intro k o pre h hk hpl;rw[z18];unfold F_4v;by_cases hkl:k<8
   ·refine z07 (by simp;omega) ?_;have hkd:k<ds.length:=by omega
    have hd:=hdg k hkd;have e1:idxV 8 (i64s ds) (k:Int)=ret (.int .i64 ds[k]):=by
     unfold idxV;rw[if_pos (by omega),Int.toNat_natCast,zjd hkd];rfl
    refine z0c 0 rfl fun lo=>?_;rw[z4u,List.length_append,List.length_map,List.length_take]at lo;dsimp only;rw[e1];refine z0s (z1t ?_);rw[z6a (n:=ds[k]) (by omega) (by omega)];refine z0z fun b=>?_;refine z02 [1,0] (z2y (s:=o) (by':=8) (T:=pts b (.cells [.int .u64 ds[k]] false)) (rd_pts0 (by simp)) (by omega) rfl (by dsimp only;omega)) fun o2=>z01 ?_;dsimp only[sel,rem,nth,del,cat,upd];rw[z0i (n:=(k:Int)+1) (by omega) (by omega)];refine tri_last [0] (Tri.pre (ih (k+1) o2 pre (by omega) (by omega) hpl) fun q hq=>ent_head (fun q h=>?_) hq);have e:z1u (pre++(ds.take k).map Int.toNat)++[.int .u64 ds[k]]=z1u (pre++(ds.take (k+1)).map Int.toNat):=by
     rw[hpre _ hd.1,List.take_add_one,List.getElem?_eq_getElem hkd,List.map_append,←List.append_assoc,zj6 (pre++_)];rfl
    rw[←e];exact h
   ·obtain rfl:k=8:=by omega
    refine z05 (by simp) (z03 [0] fun q hq=>?_);rw[List.take_of_length_le (by omega)]at hq;exact hq
 refine z02 [0] ((loop N 0 ⟨some ⟨b,0⟩,3⟩ [n.k+256 * n.r,(n.at 0).toNat,(n.at 1).toNat] (by omega) (by omega) rfl).pre fun q hq=>ent_head (A:=pts b (.cells [.int .u64 ((n.k+256 * n.r:Nat):Int),.int .u64 (n.at 0),.int .u64 (n.at 1)] false)) (l:=[]) (fun q h=>?_) hq) fun j=>z01 ?_
 ·rw[hpre _ ha0.1,hpre _ ha1.1]at h;exact .mk (by rw[z4u];rfl) h
 dsimp only[sel,rem,nth,del,cat,upd];refine z15 (z1t (z15 (z1t ?_)));rw[z6a (n:=n.at 10) (by omega) (by omega),z6a (n:=n.at 11) (by omega) (by omega)];refine z0c 0 rfl fun lj=>?_;rw[z4u,List.length_append,List.length_map,hds]at lj;refine z0z fun b2=>?_;refine z02 [1,0] (z2y (s:=j) (by':=8) (T:=pts b2 (.cells [.int .u64 (n.at 10),.int .u64 (n.at 11)] false)) (rd_pts0 (by simp)) (by omega) rfl (by simp at lj;dsimp only;omega)) fun l26=>z01 ?_;dsimp only[sel,rem,nth,del,cat,upd];have e26:z1u ([n.k+256 * n.r,(n.at 0).toNat,(n.at 1).toNat]++ds.map Int.toNat)++[.int .u64 (n.at 10),.int .u64 (n.at 11)]=z1u (z3c n):=by
  rw[hall,hpre _ ha10.1,hpre _ ha11.1,zj6 ([_,_,_]++_)];rfl
 rw[e26];refine z0c 0 rfl fun l26l=>?_;have h13:=z73 n;refine z02 [0] (z96 (size:=2) (ns:=z3c n) (by omega) (by omega) (z0k l26l) (fun x hx=>zwx h x hx) (by rw[h13];omega) hN) fun r27=>z04 fun h27=>z01 ?_;dsimp only[sel,rem,nth,del,cat,upd];refine z0c 0 rfl fun l27=>?_;refine z02 [0] (zd7 (n:=32) (z0k l27) (by rw[lays_len,h13];omega) (by omega)) fun r28=>z04 fun h28=>z01 ?_;dsimp only[sel,rem,nth,del,cat,upd];exact z03 [0] fun q hq=>⟨h28,hq⟩
end
end Go.Moat

/- Layer 14: meta.Lay, meta.Copy. -/
namespace Go.Moat
open Go.Mini
section
variable{N:Nat}{β:Type}{l:List HA}{S:β→HA}{T:HA}{s:Sl}{g:Geo}{M:MetaS}{m:Sl×Sl×Sl×Sl}
theorem zis{bs:List UInt8}(hr:RdC T s 1 (bytesOf bs))(hb:bs.length≤100000):Tri (z00 [T]) (F_0e N s) fun r=>z00 [z08 r 1 (bytesOf bs),T]:=by
 have hl:=z4o hr;have hmost:most=70368744177664:=rfl;exact zat (by':=1) hr (by omega) (by simp[bytesOf,z0v]) (by omega)
theorem zyb{L:List (Sl×List UInt8)}{o:Sl}{bs:List UInt8}:z1r (L++[(o,bs)])=z1a (z1r L) (z08 o 1 (bytesOf bs)):=by
 unfold z1r;rw[List.map_append,z3x,List.map_cons,List.map_nil,z0y]
theorem zyc(L:List (Sl×List UInt8))(o:Sl)(bs:List UInt8):z3r L++[.sl o.p o.len 1]=z3r (L++[(o,bs)]):=by simp[z3r]
theorem z9p(ok:MetaOk g M):(z1z M).length=3+M.ino.length / 2:=by
 simp only[z1z,List.length_cons,z5f];omega
theorem zyd(hg:g.ok)(ok:MetaOk g M)(hr:RdM T m M)(hN:5000<N) :
  Tri (z00 [T]) (F_2u N g.t m) fun r=>exA fun L:List (Sl×List UInt8)=>pu (r.2=0∧L.map (·.2)=z1z M∧∀e∈L,e.1.len=64∧e.2.length=64) (z00 [z08 r.1 1 (z3r L),z1r L,T]):=by
 have hmost:most=70368744177664:=rfl;have hol:=ok.ownl;have hil:=ok.inol;have hul:=ok.usedl;have hG:=hg.g2;have hI:=hg.i2;have hi3:=hg.i3;unfold F_2u;refine z02 [0] (zim hg ok hr hN) fun r=>z04 fun h=>z01 ?_;subst h;dsimp only[sel,rem,nth,del,cat,upd];refine z05 (by simp) ?_;refine z02 [0] (zww ok.rows hr.rows hN) fun r4=>z04 fun h4=>z01 ?_;dsimp only[sel,rem,nth,del,cat,upd];refine z6z 64 (by omega) fun b5=>?_;have l1:m.2.1.len=M.own.length:=by
  have:=hr.own.1
  rw[z34]at this;omega
 have loop1:∀(K k:Nat),M.own.length - k<K→k≤M.own.length→Tri (z00 [pts b5 (.cells (bytesOf ((M.own.take k).map UInt8.ofNat++List.replicate (64 - k) 0)) false),T]) (z0l K (F_4w N m ⟨some ⟨b5,0⟩,64⟩) (k:Int)) fun _=>z00 [pts b5 (.cells (bytesOf (z94 M.own)) false),T]:=by
  intro K;induction K with
  | zero=>intro k h;omega
  | succ K ih=>
   intro k h hk;rw[z18];unfold F_4w;by_cases hkl:k<M.own.length
   ·refine z07 (by simp[l1];omega) ?_;have h16:=ok.own16 _ (List.getElem_mem hkl);refine z3h 1 rfl hr.own (i:=k) (k :=.i64) (v:=(M.own[k]:Nat)) (by simp[i64s,hkl]) ?_;rw[wr8 (by omega) (by omega)];refine z1x (by omega) (z1v 0 rfl (by rw[z0e];simp;omega) rfl ?_);dsimp only[sel,rem,nth,del,cat,upd];rw[z0i (n:=(k:Int)+1) (by omega) (by omega)];refine Tri.pre (ih (k+1) (by omega) (by omega)) fun q hq=>ent_head (fun q h=>?_) hq;have e:(bytesOf ((M.own.take k).map UInt8.ofNat++List.replicate (64 - k) 0)).set (0+k * 1) (.int .u8 ((M.own[k]:Nat):Int))=bytesOf ((M.own.take (k+1)).map UInt8.ofNat++List.replicate (64 - (k+1)) 0):=by
     have hcc:(MV.int .u8 ((M.own[k]:Nat):Int))=.int .u8 ((UInt8.ofNat M.own[k]).toNat:Int):=by
      rw[UInt8.toNat_ofNat_of_lt' (by show M.own[k]<256;omega)]
     rw[hcc];unfold bytesOf;rw[←List.map_set (f:=fun b:UInt8=>MV.int .u8 (b.toNat:Int))];congr 1;have hlen:((M.own.take k).map UInt8.ofNat).length=k:=by rw[List.length_map,List.length_take];omega
     rw[show 0+k * 1=k by omega,List.set_append_right _ _ (by omega),hlen,Nat.sub_self,show 64 - k=(64 - (k+1))+1 by omega,List.replicate_succ,List.set_cons_zero,List.take_add_one,List.getElem?_eq_getElem hkl,List.map_append,List.append_assoc];rfl
    rw[←e];exact h
   ·obtain rfl:k=M.own.length:=by omega
    refine z05 (by simp[l1]) (z03 [0,0] fun q hq=>?_);rw[List.take_length]at hq;unfold z94 z1y;rw[List.length_map];exact hq
 refine z02 [0,1] ((loop1 N 0 (by omega) (by omega)).pre fun q hq=>hq) fun _=>z01 ?_;dsimp only[sel,rem,nth,del,cat,upd];refine z02 [1] (zis hr.used (by omega)) fun r12=>z01 ?_;dsimp only[sel,rem,nth,del,cat,upd];refine z0z fun b13=>?_;have l3:m.2.2.2.len=M.ino.length:=by
  have:=hr.ino.1
  rw[z0p z0h]at this;omega
 have hmB:=z9p ok;have loop2:∀(K k:Nat)(o:Sl)(L:List (Sl×List UInt8)),M.ino.length - k<K→k≤M.ino.length→k%2=0→L.map (·.2)=(z1z M).take (3+k / 2)→(∀e∈L,e.1.len=64∧e.2.length=64) →
   Tri (z00 [z08 o 1 (z3r L),z1r L,T]) (z0l K (F_4x N m) (o,(k:Int))) fun r=>exA fun L:List (Sl×List UInt8)=>pu (L.map (·.2)=z1z M∧∀e∈L,e.1.len=64∧e.2.length=64) (z00 [z08 r 1 (z3r L),z1r L,T]):=by
  intro K;induction K with
  | zero=>intro k o L h;omega
  | succ K ih=>
   intro k o L h hk hk2 hL h64;rw[z18];unfold F_4x;by_cases hkl:k<M.ino.length
   ·have hk1:k+1<M.ino.length:=by omega
    refine z07 (by simp[l3];omega) ?_;refine z8n 2 rfl hr.ino hkl ?_;refine z02 [] (zmr (ok.inok _ (List.getElem_mem hkl)) hN) fun r18=>z04 fun h18=>z01 ?_;dsimp only[sel,rem,nth,del,cat,upd];rw[z0i (n:=(k:Int)+1) (by omega) (by omega)];refine z8n (i:=k+1) 3 rfl hr.ino hk1 ?_;refine z02 [] (zmr (ok.inok _ (List.getElem_mem hk1)) hN) fun r21=>z04 fun h21=>z01 ?_;dsimp only[sel,rem,nth,del,cat,upd];refine z0c 0 rfl fun l21=>z0c 1 rfl fun l18=>z0c 2 rfl fun lo=>?_;rw[z0e,z2g]at l21 l18;refine z02 [1,0] (z2y (s:=r18.1) (t:=r21.1) (by':=1) (z0k (by rw[z0e,z2g];omega)) (by omega) (by simp[bytesOf,z0v]) (by omega)) fun l22=>z01 ?_;dsimp only[sel,rem,nth,del,cat,upd];rw[←z8v];refine z0c 0 rfl fun l22l=>?_;rw[z0e,List.length_append,z2g,z2g]at l22l;have hLl:L.length=3+k / 2:=by
     have:=congrArg List.length hL
     rw[List.length_map,List.length_take,hmB]at this;omega
    rw[zfg]at lo;refine z0z fun b23=>?_;refine z02 [3,0] (z2y (s:=o) (by':=24) (T:=pts b23 (.cells [.sl l22.p l22.len 1] false)) (rd_pts0 (by simp)) (by omega) rfl (by dsimp only;omega)) fun l24=>z01 ?_;dsimp only[sel,rem,nth,del,cat,upd];have e2:wr .i64 ((k:Int)+2)=((k+2:Nat):Int):=by rw[z0i (by omega) (by omega)];simp
    rw[e2];rw[zyc L l22 (z4j M.ino[k]++z4j M.ino[k+1])];have hpg:=za3 (l:=M.ino) (i:=k / 2) (by omega);have hsec:(z1z M)[3+k / 2]? = some (z4j M.ino[k]++z4j M.ino[k+1]):=by
     unfold z1z;rw[show 3+k / 2=k / 2+1+1+1 by omega,List.getElem?_cons_succ,List.getElem?_cons_succ,List.getElem?_cons_succ,hpg];have e3:2 * (k / 2)=k:=by omega
     simp only[e3]
    have hn:=ih (k+2) l24 (L++[(l22,z4j M.ino[k]++z4j M.ino[k+1])]) (by omega) (by omega) (by omega) (by
     rw[List.map_append,hL,show 3+(k+2) / 2=(3+k / 2)+1 by omega,List.take_add_one,hsec];rfl) (by
     intro e he;rcases List.mem_append.1 he with he | he
     ·exact h64 e he
     ·simp at he;subst he;refine⟨by dsimp only;omega,by rw[List.length_append,z2g,z2g]⟩)
    refine tri_last [0,3,1,2] (hn.pre fun q hq=>?_);refine z1d (fun q hq=>?_) hq;rw[zyb];show z1a (z1a (z1r L) (z08 l22 1 _)) (z1a T emp) q;rw[z4b];exact hq
   ·obtain rfl:k=M.ino.length:=by omega
    refine z05 (by simp[l3]) (z03 [0,0,0] fun q hq=>⟨L,⟨?_,h64⟩,hq⟩);rw[hL,List.take_of_length_le (by omega)]
 refine z0c 1 rfl fun l12=>z0c 4 rfl fun l4=>?_;have rB:(z6j M.rows).length=64:=by rw[z6j,lays_len,z5k,ok.rows.len]
 have oB:(z94 M.own).length=64:=filled_len (by rw[List.length_map,hol];omega);rw[z0e]at l12 l4;let L0:List (Sl×List UInt8):=[(r4.1,z6j M.rows),(⟨some ⟨b5,0⟩,64⟩,z94 M.own),(r12,M.used)]
 refine z02 [0,3,2,0,0] ((loop2 N 0 ⟨some ⟨b13,0⟩,3⟩ L0 (by omega) (by omega) rfl rfl (fun e he=>?_)).pre fun q hq=>?_) fun j=>z1w fun L=>z04 fun hL=>z01 ?_
 ·simp[L0]at he;rcases he with rfl | rfl | rfl
  ·exact⟨by dsimp only;omega,rB⟩
  ·exact⟨rfl,oB⟩
  ·exact⟨by dsimp only;omega,hul⟩
 ·have e:z00 [z08 ⟨some ⟨b13,0⟩,3⟩ 1 (z3r L0),z1r L0,T]=z00 [z08 ⟨some ⟨b13,0⟩,3⟩ 1 (z3r L0),z08 r4.1 1 (bytesOf (z6j M.rows)),z08 ⟨some ⟨b5,0⟩,64⟩ 1 (bytesOf (z94 M.own)),z08 r12 1 (bytesOf M.used),T]:=by
   show z1a _ (z1a (z1a _ (z1a _ (z1a _ emp))) (z1a T emp))=z1a _ (z1a _ (z1a _ (z1a _ (z1a T emp))));rw[z4b,z4b,z4b,z9i emp,z40 (z1a T emp)]
  rw[e];exact z54 (.cons (fun _ k =>.mk rfl k) (.cons (fun _ k=>k) (.cons (fun _ k =>.mk (by rw[z0e,oB]) k) (.cons (fun _ k=>k) (.cons (fun _ k=>k) .nil))))) q hq
 dsimp only[sel,rem,nth,del,cat,upd];exact z03 [0,0,0] fun q hq=>⟨L,⟨rfl,hL.1,hL.2⟩,hq⟩
theorem zv0(hg:g.ok)(ok:MetaOk g M)(hr:RdM T m M):Tri (z00 [T]) (F_2y N m) fun r=>z00 [z08 r.1 2 (z13 M.rows),z08 r.2.1 1 (z3i M.own),z08 r.2.2.1 1 (bytesOf M.used),z08 r.2.2.2 14 (z2b M.ino),T]:=by
 have hmost:most=70368744177664:=rfl;have hol:=ok.ownl;have hil:=ok.inol;have hul:=ok.usedl;have h16:=ok.rows.len;have hG:=hg.g2;have hI:=hg.i2;have l1:=hr.rows.1;have l2:=hr.own.1;have l4:=hr.ino.1;rw[z0p z1c]at l1;rw[z34]at l2;rw[z0p z0h]at l4;unfold F_2y;refine z4g fun _=>?_;have e1:F_3z N m.1=zbq 2 16 m.1:=rfl;have e2:F_40 N m.2.1=zbq 1 8 m.2.1:=rfl;have e4:F_41 N m.2.2.2=zbq 14 104 m.2.2.2:=rfl;rw[e1,e2,e4];refine z02 [0] (zat (by':=16) hr.rows (by omega) (z9k zbs _) (by omega)) fun r3=>z01 ?_;dsimp only[sel,rem,nth,del,cat,upd];refine z02 [1] (zat (by':=8) hr.own (by omega) (by simp[i64s,z0v]) (by omega)) fun r4=>z01 ?_;dsimp only[sel,rem,nth,del,cat,upd];refine z02 [1] (zis hr.used (by omega)) fun r5=>z01 ?_;dsimp only[sel,rem,nth,del,cat,upd];refine z02 [1] (zat (by':=104) hr.ino (by omega) (z9k z88 _) (by omega)) fun r6=>z01 ?_;dsimp only[sel,rem,nth,del,cat,upd];exact z03 [4,3,2,0,0] fun q hq=>hq
end
end Go.Moat

/- Layer 7: patches are written. -/
namespace Go.Mini
section
variable{β:Type}{l:List HA}{S:β→HA}{T:HA}{s:Sl}{cs:List MV}
theorem z10w(n:Nat)(hl:l[n]? = some T)(hr:RdC T s 1 cs){k:Nat}(hk:0<k)(hs:s.len=k){f:List MV→M β}(kk:Tri (z00 l) (f cs) S):Tri (z00 l) (bd (arrAt k s) fun q=>bd (ldn k q) f) S:=by
 rw[←bd_bd];refine z6y n hl (fun h q hq hh=>?_) kk;unfold arrAt;rw[if_pos ⟨hk,by omega⟩];rcases hr.2 h q hq hh with⟨_,h2⟩ | ⟨a,r,ro,h1,h2,h3,h4⟩
 ·omega
 ·rw[hs,Nat.mul_one]at h3 h4;show ldn k s.p h=_;rw[h1];unfold ldn;dsimp only;rw[h2];dsimp only;rw[if_pos h3,h4]
end
end Go.Mini
namespace Go.Moat
open Go.Mini
section
variable{N:Nat}{β:Type}{l:List HA}{S:β→HA}{d:Nat}{D:DskS}{m:M β}{T:HA}{g:Geo}
theorem zrz(i:Int){s:Sl}{bs:List UInt8}(t:Int)(hr':RdC T s 1 (bytesOf bs))(hd:0≤D.done)(hd2:D.done<9223372036854775807)(hw:D.waits.length<400000000000) :
  Tri (z00 [z1b d D,T]) (F_0d N (some ⟨d,0⟩) (i,s,t)) fun r=>pu (r=writeE D i bs) (z00 [z1b d (z6u D i bs t),T]):=by
 have hs:=z4o hr';unfold F_0d;rw[if_neg (by simp)];refine z02 [0] (zf6 i) fun r=>z04 fun hr=>z01 ?_;by_cases h:0≤i∧i<D.secs.length∧bs.length=64
 case neg=>
  refine z07 (by
   rw[hr];dsimp only;rw[hs];simp;omega) ?_
  refine z03 [0,0] fun q hq=>⟨by unfold writeE;rw[if_neg h],?_⟩;unfold z6u;rw[if_neg h];exact hq
 have hcan:=h;obtain⟨h1,h2,h3⟩:=h;refine z05 (by
  rw[hr];dsimp only;rw[hs];simp[h1,h2,h3]) ?_
 refine z02 [0] (zf7 hd hd2) fun r=>z04 fun hr=>z01 ?_;subst hr;unfold writeE z6u;rw[if_pos hcan,if_pos hcan];by_cases hp:powerE D=0
 case neg=>
  refine z07 (by simp[hp]) ?_;rw[if_neg hp];exact z03 [0,0] fun q hq=>⟨rfl,hq⟩
 refine z05 (by simp[hp]) ?_;rw[if_pos hp];obtain⟨k,rfl⟩:∃k:Nat,i=k:=⟨i.toNat,by omega⟩;have hk:k<D.secs.length:=by omega
 refine z10w 1 rfl hr' (by omega) (by omega) ?_;rw[zbn,zqa h3];have hz:z3w.c.length=65:=SecS.len z6s;have hnow:SecS.ok ⟨bs,t⟩:=h3;have hnl:=SecS.len hnow;refine zcr (z0z fun nw=>?_);dsimp only[sel,rem,nth,del,cat,upd];refine z5n 0 rfl hnl (by omega) (SecS.cell _) ?_;rw[z84 (by omega)];refine z83 1 rfl fun bs' ws hD=>?_;rw[z48,z6t];dsimp only[sel,rem,nth,del,cat,upd];have hsk:∀s∈D.secs,s.ok:=by rw[←z48 (D:=D)];exact hD.secs
 have hwk:∀w∈D.waits,w.was.ok∧w.now.ok∧w.at'<D.secs.length:=by
  have:=hD.waits
  rwa [z6t,z48]at this
 refine z8u 0 rfl rfl (z8u 0 rfl rfl ?_);refine z1x hk (z7m 1 rfl (by rw[zbo hsk];have:=z2t (e:=65) hk;omega) ?_);rw[Nat.zero_add,zh0 hsk hk];refine z7m 3 rfl (by omega) ?_;rw[List.drop_zero,List.take_of_length_le (by omega)];have hwas:=hsk _ (List.getElem_mem hk);rw[zmy hwas hnow];have hwl:(WaitS.c ⟨k,D.secs[k],⟨bs,t⟩⟩).length=131:=WaitS.len hwas hnow;refine zcr ?_;rw[zmz hwl (by simp[zas])];refine zcr (z0z fun wb=>?_);refine z5u 3 rfl (fun q hq=>z08.len hq) fun hwsl=>?_;rw[zku fun w hw=>⟨(hwk w hw).1,(hwk w hw).2.1⟩]at hwsl;refine z02 [3,0] (zlz (k:=1) (e:=131) (by':=144) (by omega) (by omega) (by
  rw[List.take_of_length_le (by omega)];exact WaitS.cell _) (by have:most=70368744177664:=rfl;omega)) fun r=>?_
 refine z01 ?_;dsimp only[sel,rem,nth,del,cat,upd];refine zbp 2 rfl ?_;dsimp only[sel,rem,nth,del,cat,upd];refine z8u 2 rfl rfl ?_;refine z7m 4 rfl (by omega) ?_;rw[List.drop_zero,List.take_of_length_le (l:=SecS.c _) (by omega)];refine z1x hk (z5n 3 rfl hnl (by rw[zbo hsk,hnl];have:=z2t (e:=65) hk;omega) (SecS.cell _) ?_);rw[Nat.zero_add,zkt hsk hnow hk,List.take_of_length_le (by omega)];dsimp only[sel,rem,nth,del,cat,upd];refine z03 [2,2,0,2] fun q hq=>⟨hp.symm,?_⟩;rw[Int.toNat_natCast,List.getElem?_eq_getElem hk];have hwc:z67 D.waits++WaitS.c ⟨k,D.secs[k],⟨bs,t⟩⟩=z67 (D.waits++[⟨k,D.secs[k],⟨bs,t⟩⟩]):=by
  simp[z67]
 rw[hwc]at hq;dsimp only[sel,rem,nth,del,cat,upd]at hq;refine zar (l:=[T]) [_,_,_] (fun q h=>?_) hq;refine⟨(bs',r),⟨?_,?_,?_,hD.4⟩,?_⟩
 ·intro s hs;rcases List.mem_or_eq_of_mem_set hs with hs | rfl
  ·exact hsk s hs
  ·exact hnow
 ·intro w hw;rw[List.length_set];rcases List.mem_append.1 hw with hw | hw
  ·exact hwk w hw
  ·simp at hw;subst hw;exact⟨hwas,hnow,hk⟩
 ·have:=hD.many
  rw[z48]at this;rw[List.length_set];exact this
 ·dsimp only;rw[List.length_set];exact h
structure Pat where
 sec:Nat
 s:Sl
 b:List UInt8
 t:Nat
def z2n(p:Pat):List MV:=[.int .i64 p.sec,.sl p.s.p p.s.len 1,.int .u16 p.t]
theorem z2h(p:Pat):(z2n p).length=3:=rfl
theorem zda(p:Pat):(z2n p).all z0v=true:=rfl
structure PatsIn(T:HA)(n:Nat)(s:Sl)(l:List Pat):Prop where
 rd:RdC T s 3 (z1j z2n l)
 el:∀p∈l,RdC T p.s 1 (bytesOf p.b)∧p.b.length=64∧p.sec<n
def z70(secs:List SecS)(l:List Pat):List SecS:=l.foldl (fun s p=>s.set p.sec ⟨p.b,p.t⟩) secs
theorem zv1(l:List Pat):∀secs:List SecS,(z70 secs l).length=secs.length:=by
 induction l with
 | nil=>intro secs;rfl
 | cons p l ih=>
  intro secs;show(z70 (secs.set p.sec ⟨p.b,p.t⟩) l).length=_;rw[ih,List.length_set]
theorem zla(l r:List Pat)(secs:List SecS):z70 secs (l++r)=z70 (z70 secs l) r:=by
 unfold z70;rw[List.foldl_append]
theorem z8b(js:List Nat)(k:Tri (z00 (z00 (sel js l)::rem js l)) m S):Tri (z00 l) m S:=k.pre fun q hq=>by
 rw[z72 js l]at hq;exact hq
theorem PatsIn.mono{T':HA}{n:Nat}{s:Sl}{l:List Pat}(h:PatsIn T n s l)(k:∀q,T' q→∃q',q'=q∧T q'):PatsIn T' n s l:=
 ⟨h.rd.pre fun q hq=>by obtain⟨_,rfl,h⟩:=k q hq;exact h,fun p hp=>⟨(h.el p hp).1.pre fun q hq=>by obtain⟨_,rfl,h⟩:=k q hq;exact h,(h.el p hp).2⟩⟩
theorem zm4{s:Sl}{ps:List Pat}{n:Nat}(k:Nat)(hl:l[k]? = some T)(h:PatsIn T n s ps){i:Nat}(hi:i<ps.length){f:Int×Sl×Int→M β}(kk:Tri (z00 l) (f ((ps[i].sec:Int),ps[i].s,(ps[i].t:Int))) S):Tri (z00 l) (bd (idx 3 s (i:Int)) fun q=>bd (ldSt [.int .i64,.sl 1,.int .u16] q) f) S:=
 zt3 k hl (ts:=[.int .i64,.sl 1,.int .u16]) h.rd (i:=i) (by have:=h.rd.1;rw[z0p z2h]at this;omega) (x:=((ps[i].sec:Int),ps[i].s,(ps[i].t:Int))) (by
  show HC.dec _ (((z1j z2n ps).drop (i * 3)).take 3)=_;rw[zcc z2h hi];rfl) kk
end
end Go.Moat
