/- Layers 10, 11, 14: what is known is laid into sectors. -/
import Derived.Test.YtfieiaijdalkbaaGreatP16j
namespace Go.Moat
open Go.Mini
theorem z132(a b:List Row):z40 (a++b)=z40 a++z40 b:=by simp[z40]
theorem zlo(a b:List Nat):z1q (a++b)=z1q a++z1q b:=by simp[z1q]
section
variable{N:Nat}{β:Type}{l:List HA}{S:β→HA}{T:HA}{s:Sl}{rs:List Row}{n:Ino}{g:Geo}
theorem z133(ok:RowsOk rs)(hr:RdC T s 2 (z1t rs))(hN:5000<N):Tri (z00 [T]) (F_3c N s) fun r=>pu (r.2=0) (z00 [z06 r.1 1 (bytesOf (z7x rs)),T]):=by
 have hlen:=zay hr;have h16:=ok.len;have hmost:most=70368744177664:=rfl;unfold F_3c;refine z02 [0] (z86 ok hr (by omega)) fun r=>z04 fun h=>z01 ?_;subst h;dsimp only[sel,rem,nth,del,cat,upd];refine z05 (by simp) ?_;have loop:∀(K k:Nat)(o:Sl),rs.length - k<K→k≤rs.length→Tri (z00 [z06 o 1 (z1q (z40 (rs.take k))),T]) (z0e K (F_5k N s) (o,(k:Int))) fun r=>z00 [z06 r 1 (z1q (z40 rs)),T]:=by
  intro K;induction K with
  | zero=>intro k o h;omega
  | succ K ih=>
   intro k o h hk;rw[z13];unfold F_5k;by_cases hkl:k<rs.length
   ·refine z07 (by simp[hlen];omega) ?_;have h1:=ok.rng _ (List.getElem_mem hkl);refine z0c 0 rfl fun lo=>?_;rw[z45,z5w,List.length_take]at lo;refine zjt 1 rfl hr hkl ?_;dsimp only;rw[z6d (n:=(rs[k].1:Int)) (by omega) (by omega),z6d (n:=(rs[k].2:Int)) (by omega) (by omega)];refine z0v fun b=>?_;refine z02 [1,0] (z3a (s:=o) (by':=8) (T:=pts b (.cells [.int .u64 (rs[k].1:Int),.int .u64 (rs[k].2:Int)] false)) (rd_pts0 (by simp)) (by omega) rfl (by dsimp only;omega)) fun o2=>z01 ?_;dsimp only[sel,rem,nth,del,cat,upd];rw[z09 (n:=(k:Int)+1) (by omega) (by omega)];refine z1u [0,1] (Tri.pre (ih (k+1) o2 (by omega) (by omega)) fun q hq=>z4k (fun q h=>?_) hq);have e:z1q (z40 (rs.take k))++[.int .u64 (rs[k].1:Int),.int .u64 (rs[k].2:Int)]=z1q (z40 (rs.take (k+1))):=by
     rw[List.take_add_one,List.getElem?_eq_getElem hkl,z132,zlo];rfl
    rw[←e];exact h
   ·obtain rfl:k=rs.length:=by omega
    refine z05 (by simp[hlen]) (z03 [0,0] fun q hq=>?_);rw[List.take_length]at hq;exact hq
 refine z02 [0] ((loop N 0 ⟨none,0⟩ (by omega) (by omega)).pre fun q hq=>z2h (fun q h =>.nil 1 h) hq) fun j=>z01 ?_;dsimp only[sel,rem,nth,del,cat,upd];refine z0c 0 rfl fun lj=>?_;refine z02 [0] (z8m (size:=2) (ns:=z40 rs) (by omega) (by omega) (z0k lj) (fun x hx=>?_) (by rw[z5w];omega) hN) fun r10=>z04 fun h10=>z01 ?_
 ·unfold z40 at hx;obtain⟨y,hy,hx⟩:=List.mem_flatten.1 hx;obtain⟨r,hr,rfl⟩:=List.mem_map.1 hy;have h1:=ok.rng _ hr;have h2:(256:Nat)^2=65536:=rfl;simp at hx;rcases hx with rfl | rfl<;>omega
 ·dsimp only[sel,rem,nth,del,cat,upd];exact z03 [0,1] fun q hq=>⟨h10,hq⟩
theorem z134(h:n.Ok):∀x∈z3i n,x<65536:=by
 intro x hx;unfold z3i at hx;have hk:=h.k;have hr:=h.r;rcases List.mem_cons.1 hx with rfl | hx
 ·omega
 ·obtain⟨y,hy,rfl⟩:=List.mem_map.1 hx;obtain⟨i,hi,rfl⟩:=List.mem_iff_getElem.1 hy;have hi12:i<12:=by rw[n.xs.2]at hi;exact hi
  have e:n.xs.1[i]=n.at i:=by
   have:=n.get_at hi12
   rw[List.getElem?_eq_getElem hi]at this;exact Option.some.inj this
  rw[e];rcases Nat.lt_or_ge i 2 with h2 | h2
  ·have h0:=h.l1;have h1:=h.s1;rcases(show i=0∨i=1 by omega)with rfl | rfl<;>omega
  ·have:=h.p i h2 hi12
   omega
theorem zqo(h:n.Ok)(hN:5000<N):Tri (z00 []) (F_20 N (z16 n)) fun r=>pu (r.2=0) (z00 [z06 r.1 1 (bytesOf (z4t n))]):=by
 have hmost:most=70368744177664:=rfl;have hk:=h.k;have hrr:=h.r;have hok:n.ok=true:=Ino.ok_iff.2 h;have hat:∀i,i<12→0≤n.at i∧n.at i<65536:=by
  intro i hi;have h0:=h.l0;have h1:=h.l1;have h2:=h.s0;have h3:=h.s1;rcases Nat.lt_or_ge i 2 with h4 | h4
  ·rcases(show i=0∨i=1 by omega)with rfl | rfl<;>omega
  ·have:=h.p i h4 hi
   omega
 unfold F_20;have g0:(z16 n)[0]? = some (.int .u8 n.k):=rfl;have g1:(z16 n)[1]? = some (.int .u8 n.r):=rfl;have g2:(z16 n)[2]? = some (.int .i64 (n.at 0)):=z76 n (i:=0) (by omega);have g3:(z16 n)[3]? = some (.int .i64 (n.at 1)):=z76 n (i:=1) (by omega);have g12:(z16 n)[12]? = some (.int .i64 (n.at 10)):=z76 n (i:=10) (by omega);have g13:(z16 n)[13]? = some (.int .i64 (n.at 11)):=z76 n (i:=11) (by omega);have e14:0+14≤(z16 n).length:=by rw[z0n];omega
 have t14:((z16 n).drop 0).take 14=z16 n:=by rw[List.drop_zero,List.take_of_length_le (by rw[z0n];omega)]
 have e8:4+8≤(z16 n).length:=by rw[z0n];omega
 have t8:((z16 n).drop 4).take 8=z1w (n.xs.1.drop 2 |>.take 8):=by simp[z16,z1w]
 rw[g0,g1,g2,g3,g12,g13,if_pos e14,t14,if_pos e8,t8];refine z0j ?_;rw[zcb (by omega),hok];refine z0j (z05 (by simp) ?_);refine z4j (z7c (z4j (z7c (z4j (z7c (z4j (z7c ?_)))))));have ha0:=hat 0 (by omega);have ha1:=hat 1 (by omega);have ha10:=hat 10 (by omega);have ha11:=hat 11 (by omega);have ekr:z37 .or .u64 (wr .u64 (n.k:Int)) (z75 .u64 (wr .u64 (n.r:Int)) (8:Int))=((n.k+256 * n.r:Nat):Int):=by
  rw[z6d (n:=(n.k:Int)) (by omega) (by omega),z6d (n:=(n.r:Int)) (by omega) (by omega)];have hs:=zoj (k :=.u64) (a:=n.r) (j:=8) rfl (by decide) (by show n.r * 2^8<2^64;omega);have hs':z75 .u64 (n.r:Int) (8:Int)=((n.r * 2^8:Nat):Int):=hs;rw[hs',(zdm (k :=.u64) rfl (a:=n.k) (b:=n.r * 2^8) (by show n.k<2^64;omega) (by show n.r * 2^8<2^64;omega)).2.1,z11s (j:=8) (by omega)];congr 1;omega
 rw[ekr,z6d (n:=n.at 0) (by omega) (by omega),z6d (n:=n.at 1) (by omega) (by omega)];refine z0v fun b=>z0j ?_;have hds:(n.xs.1.drop 2 |>.take 8).length=8:=by simp[n.xs.2]
 have hdg:∀(i:Nat)(hi:i<(n.xs.1.drop 2 |>.take 8).length),0≤(n.xs.1.drop 2 |>.take 8)[i]∧(n.xs.1.drop 2 |>.take 8)[i]<65536:=by
  intro i hi;rw[hds]at hi;have e:(n.xs.1.drop 2 |>.take 8)[i]=n.at (2+i):=by
   have:=n.get_at (i:=2+i) (by omega)
   rw[List.getElem?_eq_getElem (by rw[n.xs.2];omega)]at this;rw[List.getElem_take,List.getElem_drop];exact Option.some.inj this
  rw[e];exact hat (2+i) (by omega)
 have hall:z3i n=[n.k+256 * n.r,(n.at 0).toNat,(n.at 1).toNat]++(n.xs.1.drop 2 |>.take 8).map Int.toNat++[(n.at 10).toNat,(n.at 11).toNat]:=by
  obtain⟨k,r,xs,hx⟩:=n;match xs,hx with
  | [a,b,c,d,e,f,g,h,i,j,p,q],_=>rfl
 generalize (n.xs.1.drop 2 |>.take 8)=ds at hds hdg hall;have hpre:∀x:Int,0≤x→(MV.int .u64 x)=.int .u64 ((x.toNat:Nat):Int):=fun x hx=>by rw[Int.toNat_of_nonneg hx]
 have loop:∀(K k:Nat)(o:Sl)(pre:List Nat),8 - k<K→k≤8→pre.length=3→Tri (z00 [z06 o 1 (z1q (pre++(ds.take k).map Int.toNat))]) (z0e K (F_5l N (z1w ds)) (o,(k:Int))) fun r=>z00 [z06 r 1 (z1q (pre++ds.map Int.toNat))]:=by
  intro K;induction K with
  | zero=>intro k o pre h;omega
  | succ K ih=>
   intro k o pre h hk hpl;rw[z13];unfold F_5l;by_cases hkl:k<8
   ·refine z07 (by simp;omega) ?_;have hkd:k<ds.length:=by omega
    have hd:=hdg k hkd;have e1:idxV 8 (z1w ds) (k:Int)=ret (.int .i64 ds[k]):=by
     unfold idxV;rw[if_pos (by omega),Int.toNat_natCast,zld hkd];rfl
    refine z0c 0 rfl fun lo=>?_;rw[z45,List.length_append,List.length_map,List.length_take]at lo;dsimp only;rw[e1];refine z0j (z7c ?_);rw[z6d (n:=ds[k]) (by omega) (by omega)];refine z0v fun b=>?_;refine z02 [1,0] (z3a (s:=o) (by':=8) (T:=pts b (.cells [.int .u64 ds[k]] false)) (rd_pts0 (by simp)) (by omega) rfl (by dsimp only;omega)) fun o2=>z01 ?_;dsimp only[sel,rem,nth,del,cat,upd];rw[z09 (n:=(k:Int)+1) (by omega) (by omega)];refine z1u [0] (Tri.pre (ih (k+1) o2 pre (by omega) (by omega) hpl) fun q hq=>z4k (fun q h=>?_) hq);have e:z1q (pre++(ds.take k).map Int.toNat)++[.int .u64 ds[k]]=z1q (pre++(ds.take (k+1)).map Int.toNat):=by
     rw[hpre _ hd.1,List.take_add_one,List.getElem?_eq_getElem hkd,List.map_append,←List.append_assoc,zlo (pre++_)];rfl
    rw[←e];exact h
   ·obtain rfl:k=8:=by omega
    refine z05 (by simp) (z03 [0] fun q hq=>?_);rw[List.take_of_length_le (by omega)]at hq;exact hq
 refine z02 [0] ((loop N 0 ⟨some ⟨b,0⟩,3⟩ [n.k+256 * n.r,(n.at 0).toNat,(n.at 1).toNat] (by omega) (by omega) rfl).pre fun q hq=>z4k (A:=pts b (.cells [.int .u64 ((n.k+256 * n.r:Nat):Int),.int .u64 (n.at 0),.int .u64 (n.at 1)] false)) (l:=[]) (fun q h=>?_) hq) fun j=>z01 ?_
 ·rw[hpre _ ha0.1,hpre _ ha1.1]at h;exact .mk (by rw[z45];rfl) h
 dsimp only[sel,rem,nth,del,cat,upd];refine z4j (z7c (z4j (z7c ?_)));rw[z6d (n:=n.at 10) (by omega) (by omega),z6d (n:=n.at 11) (by omega) (by omega)];refine z0c 0 rfl fun lj=>?_;rw[z45,List.length_append,List.length_map,hds]at lj;refine z0v fun b2=>?_;refine z02 [1,0] (z3a (s:=j) (by':=8) (T:=pts b2 (.cells [.int .u64 (n.at 10),.int .u64 (n.at 11)] false)) (rd_pts0 (by simp)) (by omega) rfl (by simp at lj;dsimp only;omega)) fun l26=>z01 ?_;dsimp only[sel,rem,nth,del,cat,upd];have e26:z1q ([n.k+256 * n.r,(n.at 0).toNat,(n.at 1).toNat]++ds.map Int.toNat)++[.int .u64 (n.at 10),.int .u64 (n.at 11)]=z1q (z3i n):=by
  rw[hall,hpre _ ha10.1,hpre _ ha11.1,zlo ([_,_,_]++_)];rfl
 rw[e26];refine z0c 0 rfl fun l26l=>?_;have h13:=z7h n;refine z02 [0] (z8m (size:=2) (ns:=z3i n) (by omega) (by omega) (z0k l26l) (fun x hx=>z134 h x hx) (by rw[h13];omega) hN) fun r27=>z04 fun h27=>z01 ?_;dsimp only[sel,rem,nth,del,cat,upd];refine z0c 0 rfl fun l27=>?_;refine z02 [0] (zer (n:=32) (z0k l27) (by rw[z2n,h13];omega) (by omega)) fun r28=>z04 fun h28=>z01 ?_;dsimp only[sel,rem,nth,del,cat,upd];exact z03 [0] fun q hq=>⟨h28,hq⟩
end
end Go.Moat

/- Layer 14: meta.Lay, meta.Copy. -/
namespace Go.Moat
open Go.Mini
section
variable{N:Nat}{β:Type}{l:List HA}{S:β→HA}{T:HA}{s:Sl}{g:Geo}{M:MetaS}{m:Sl×Sl×Sl×Sl}
theorem zku{bs:List UInt8}(hr:RdC T s 1 (bytesOf bs))(hb:bs.length≤100000):Tri (z00 [T]) (F_0a N s) fun r=>z00 [z06 r 1 (bytesOf bs),T]:=by
 have hl:=z4m hr;have hmost:most=70368744177664:=rfl;exact z8o (by':=1) hr (by omega) (by simp[bytesOf,z10]) (by omega)
theorem z135{L:List (Sl×List UInt8)}{o:Sl}{bs:List UInt8}:z1v (L++[(o,bs)])=z18 (z1v L) (z06 o 1 (bytesOf bs)):=by
 unfold z1v;rw[List.map_append,z4i,List.map_cons,List.map_nil,stars_one]
theorem z136(L:List (Sl×List UInt8))(o:Sl)(bs:List UInt8):z3u L++[.sl o.p o.len 1]=z3u (L++[(o,bs)]):=by simp[z3u]
theorem zcz(ok:MetaOk g M):(z3b M).length=3+M.ino.length / 2:=by
 simp only[z3b,List.length_cons,z5q];omega
theorem z137(hg:g.ok)(ok:MetaOk g M)(hr:RdM T m M)(hN:5000<N) :
  Tri (z00 [T]) (F_3d N g.t m) fun r=>exA fun L:List (Sl×List UInt8)=>pu (r.2=0∧L.map (·.2)=z3b M∧∀e∈L,e.1.len=64∧e.2.length=64) (z00 [z06 r.1 1 (z3u L),z1v L,T]):=by
 have hmost:most=70368744177664:=rfl;have hol:=ok.ownl;have hil:=ok.inol;have hul:=ok.usedl;have hG:=hg.g2;have hI:=hg.i2;have hi3:=hg.i3;unfold F_3d;refine z02 [0] (zkp hg ok hr hN) fun r=>z04 fun h=>z01 ?_;subst h;dsimp only[sel,rem,nth,del,cat,upd];refine z05 (by simp) ?_;refine z02 [0] (z133 ok.rows hr.rows hN) fun r4=>z04 fun h4=>z01 ?_;dsimp only[sel,rem,nth,del,cat,upd];refine z85 64 (by omega) fun b5=>?_;have l1:m.2.1.len=M.own.length:=by
  have:=hr.own.1
  rw[z1n]at this;omega
 have loop1:∀(K k:Nat),M.own.length - k<K→k≤M.own.length→Tri (z00 [pts b5 (.cells (bytesOf ((M.own.take k).map UInt8.ofNat++List.replicate (64 - k) 0)) false),T]) (z0e K (F_5m N m ⟨some ⟨b5,0⟩,64⟩) (k:Int)) fun _=>z00 [pts b5 (.cells (bytesOf (zaz M.own)) false),T]:=by
  intro K;induction K with
  | zero=>intro k h;omega
  | succ K ih=>
   intro k h hk;rw[z13];unfold F_5m;by_cases hkl:k<M.own.length
   ·refine z07 (by simp[l1];omega) ?_;have h16:=ok.own16 _ (List.getElem_mem hkl);refine z2a 1 rfl hr.own (i:=k) (k :=.i64) (v:=(M.own[k]:Nat)) (by simp[z1w,hkl]) ?_;rw[wr8 (by omega) (by omega)];refine z2l (by omega) (z21 0 rfl (by rw[z0d];simp;omega) rfl ?_);dsimp only[sel,rem,nth,del,cat,upd];rw[z09 (n:=(k:Int)+1) (by omega) (by omega)];refine Tri.pre (ih (k+1) (by omega) (by omega)) fun q hq=>z4k (fun q h=>?_) hq;have e:(bytesOf ((M.own.take k).map UInt8.ofNat++List.replicate (64 - k) 0)).set (0+k * 1) (.int .u8 ((M.own[k]:Nat):Int))=bytesOf ((M.own.take (k+1)).map UInt8.ofNat++List.replicate (64 - (k+1)) 0):=by
     have hcc:(MV.int .u8 ((M.own[k]:Nat):Int))=.int .u8 ((UInt8.ofNat M.own[k]).toNat:Int):=by
      rw[UInt8.toNat_ofNat_of_lt' (by show M.own[k]<256;omega)]
     rw[hcc];unfold bytesOf;rw[←List.map_set (f:=fun b:UInt8=>MV.int .u8 (b.toNat:Int))];congr 1;have hlen:((M.own.take k).map UInt8.ofNat).length=k:=by rw[List.length_map,List.length_take];omega
     rw[show 0+k * 1=k by omega,List.set_append_right _ _ (by omega),hlen,Nat.sub_self,show 64 - k=(64 - (k+1))+1 by omega,List.replicate_succ,List.set_cons_zero,List.take_add_one,List.getElem?_eq_getElem hkl,List.map_append,List.append_assoc];rfl
    rw[←e];exact h
   ·obtain rfl:k=M.own.length:=by omega
    refine z05 (by simp[l1]) (z03 [0,0] fun q hq=>?_);rw[List.take_length]at hq;unfold zaz z2g;rw[List.length_map];exact hq
 refine z02 [0,1] ((loop1 N 0 (by omega) (by omega)).pre fun q hq=>hq) fun _=>z01 ?_;dsimp only[sel,rem,nth,del,cat,upd];refine z02 [1] (zku hr.used (by omega)) fun r12=>z01 ?_;dsimp only[sel,rem,nth,del,cat,upd];refine z0v fun b13=>?_;have l3:m.2.2.2.len=M.ino.length:=by
  have:=hr.ino.1
  rw[z0u z0n]at this;omega
 have hmB:=zcz ok;have loop2:∀(K k:Nat)(o:Sl)(L:List (Sl×List UInt8)),M.ino.length - k<K→k≤M.ino.length→k%2=0→L.map (·.2)=(z3b M).take (3+k / 2)→(∀e∈L,e.1.len=64∧e.2.length=64) →
   Tri (z00 [z06 o 1 (z3u L),z1v L,T]) (z0e K (F_5n N m) (o,(k:Int))) fun r=>exA fun L:List (Sl×List UInt8)=>pu (L.map (·.2)=z3b M∧∀e∈L,e.1.len=64∧e.2.length=64) (z00 [z06 r 1 (z3u L),z1v L,T]):=by
  intro K;induction K with
  | zero=>intro k o L h;omega
  | succ K ih=>
   intro k o L h hk hk2 hL h64;rw[z13];unfold F_5n;by_cases hkl:k<M.ino.length
   ·have hk1:k+1<M.ino.length:=by omega
    refine z07 (by simp[l3];omega) ?_;refine z94 2 rfl hr.ino hkl ?_;refine z02 [] (zqo (ok.inok _ (List.getElem_mem hkl)) hN) fun r18=>z04 fun h18=>z01 ?_;dsimp only[sel,rem,nth,del,cat,upd];rw[z09 (n:=(k:Int)+1) (by omega) (by omega)];refine z94 (i:=k+1) 3 rfl hr.ino hk1 ?_;refine z02 [] (zqo (ok.inok _ (List.getElem_mem hk1)) hN) fun r21=>z04 fun h21=>z01 ?_;dsimp only[sel,rem,nth,del,cat,upd];refine z0c 0 rfl fun l21=>z0c 1 rfl fun l18=>z0c 2 rfl fun lo=>?_;rw[z0d,z2v]at l21 l18;refine z02 [1,0] (z3a (s:=r18.1) (t:=r21.1) (by':=1) (z0k (by rw[z0d,z2v];omega)) (by omega) (by simp[bytesOf,z10]) (by omega)) fun l22=>z01 ?_;dsimp only[sel,rem,nth,del,cat,upd];rw[←zcd];refine z0c 0 rfl fun l22l=>?_;rw[z0d,List.length_append,z2v,z2v]at l22l;have hLl:L.length=3+k / 2:=by
     have:=congrArg List.length hL
     rw[List.length_map,List.length_take,hmB]at this;omega
    rw[zh6]at lo;refine z0v fun b23=>?_;refine z02 [3,0] (z3a (s:=o) (by':=24) (T:=pts b23 (.cells [.sl l22.p l22.len 1] false)) (rd_pts0 (by simp)) (by omega) rfl (by dsimp only;omega)) fun l24=>z01 ?_;dsimp only[sel,rem,nth,del,cat,upd];have e2:wr .i64 ((k:Int)+2)=((k+2:Nat):Int):=by rw[z09 (by omega) (by omega)];simp
    rw[e2];rw[z136 L l22 (z4t M.ino[k]++z4t M.ino[k+1])];have hpg:=zb0 (l:=M.ino) (i:=k / 2) (by omega);have hsec:(z3b M)[3+k / 2]? = some (z4t M.ino[k]++z4t M.ino[k+1]):=by
     unfold z3b;rw[show 3+k / 2=k / 2+1+1+1 by omega,List.getElem?_cons_succ,List.getElem?_cons_succ,List.getElem?_cons_succ,hpg];have e3:2 * (k / 2)=k:=by omega
     simp only[e3]
    have hn:=ih (k+2) l24 (L++[(l22,z4t M.ino[k]++z4t M.ino[k+1])]) (by omega) (by omega) (by omega) (by
     rw[List.map_append,hL,show 3+(k+2) / 2=(3+k / 2)+1 by omega,List.take_add_one,hsec];rfl) (by
     intro e he;rcases List.mem_append.1 he with he | he
     ·exact h64 e he
     ·simp at he;subst he;refine⟨by dsimp only;omega,by rw[List.length_append,z2v,z2v]⟩)
    refine z1u [0,3,1,2] (hn.pre fun q hq=>?_);refine z1g (fun q hq=>?_) hq;rw[z135];show z18 (z18 (z1v L) (z06 l22 1 _)) (z18 T emp) q;rw[z4h];exact hq
   ·obtain rfl:k=M.ino.length:=by omega
    refine z05 (by simp[l3]) (z03 [0,0,0] fun q hq=>⟨L,⟨?_,h64⟩,hq⟩);rw[hL,List.take_of_length_le (by omega)]
 refine z0c 1 rfl fun l12=>z0c 4 rfl fun l4=>?_;have rB:(z7x M.rows).length=64:=by rw[z7x,z2n,z5w,ok.rows.len]
 have oB:(zaz M.own).length=64:=z2o (by rw[List.length_map,hol];omega);rw[z0d]at l12 l4;let L0:List (Sl×List UInt8):=[(r4.1,z7x M.rows),(⟨some ⟨b5,0⟩,64⟩,zaz M.own),(r12,M.used)]
 refine z02 [0,3,2,0,0] ((loop2 N 0 ⟨some ⟨b13,0⟩,3⟩ L0 (by omega) (by omega) rfl rfl (fun e he=>?_)).pre fun q hq=>?_) fun j=>z12 fun L=>z04 fun hL=>z01 ?_
 ·simp[L0]at he;rcases he with rfl | rfl | rfl
  ·exact⟨by dsimp only;omega,rB⟩
  ·exact⟨rfl,oB⟩
  ·exact⟨by dsimp only;omega,hul⟩
 ·have e:z00 [z06 ⟨some ⟨b13,0⟩,3⟩ 1 (z3u L0),z1v L0,T]=z00 [z06 ⟨some ⟨b13,0⟩,3⟩ 1 (z3u L0),z06 r4.1 1 (bytesOf (z7x M.rows)),z06 ⟨some ⟨b5,0⟩,64⟩ 1 (bytesOf (zaz M.own)),z06 r12 1 (bytesOf M.used),T]:=by
   show z18 _ (z18 (z18 _ (z18 _ (z18 _ emp))) (z18 T emp))=z18 _ (z18 _ (z18 _ (z18 _ (z18 T emp))));rw[z4h,z4h,z4h,z8n emp,star_emp (z18 T emp)]
  rw[e];exact z4r (.cons (fun _ k =>.mk rfl k) (.cons (fun _ k=>k) (.cons (fun _ k =>.mk (by rw[z0d,oB]) k) (.cons (fun _ k=>k) (.cons (fun _ k=>k) .nil))))) q hq
 dsimp only[sel,rem,nth,del,cat,upd];exact z03 [0,0,0] fun q hq=>⟨L,⟨rfl,hL.1,hL.2⟩,hq⟩
theorem zns(hg:g.ok)(ok:MetaOk g M)(hr:RdM T m M):Tri (z00 [T]) (F_1z N m) fun r=>z00 [z06 r.1 2 (z1t M.rows),z06 r.2.1 1 (z1c M.own),z06 r.2.2.1 1 (bytesOf M.used),z06 r.2.2.2 14 (z2m M.ino),T]:=by
 have hmost:most=70368744177664:=rfl;have hol:=ok.ownl;have hil:=ok.inol;have hul:=ok.usedl;have h16:=ok.rows.len;have hG:=hg.g2;have hI:=hg.i2;have l1:=hr.rows.1;have l2:=hr.own.1;have l4:=hr.ino.1;rw[z0u z2e]at l1;rw[z1n]at l2;rw[z0u z0n]at l4;unfold F_1z;refine z8q fun _=>?_;have e1:F_4m N m.1=z9j 2 16 m.1:=rfl;have e2:F_34 N m.2.1=z9j 1 8 m.2.1:=rfl;have e4:F_4n N m.2.2.2=z9j 14 104 m.2.2.2:=rfl;rw[e1,e2,e4];refine z02 [0] (z8o (by':=16) hr.rows (by omega) (zeu zj0 _) (by omega)) fun r3=>z01 ?_;dsimp only[sel,rem,nth,del,cat,upd];refine z02 [1] (z8o (by':=8) hr.own (by omega) (by simp[z1w,z10]) (by omega)) fun r4=>z01 ?_;dsimp only[sel,rem,nth,del,cat,upd];refine z02 [1] (zku hr.used (by omega)) fun r5=>z01 ?_;dsimp only[sel,rem,nth,del,cat,upd];refine z02 [1] (z8o (by':=104) hr.ino (by omega) (zeu z8l _) (by omega)) fun r6=>z01 ?_;dsimp only[sel,rem,nth,del,cat,upd];exact z03 [4,3,2,0,0] fun q hq=>hq
end
end Go.Moat
