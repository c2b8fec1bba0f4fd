/- Layers 10, 11, 14: what is known is laid into sectors. -/
import Derived.Test.YtcaaljlhljemoaaGreatP15s
namespace Go.Moat
open Go.Mini
theorem zy2(a b:List Row):z42 (a++b)=z42 a++z42 b:=by simp[z42]
theorem zjn(a b:List Nat):z1y (a++b)=z1y a++z1y b:=by simp[z1y]
section
variable{N:Nat}{β:Type}{l:List HA}{S:β→HA}{T:HA}{s:Sl}{rs:List Row}{n:Ino}{g:Geo}
theorem zy3(ok:RowsOk rs)(hr:RdC T s 2 (z0y rs))(hN:5000<N):Tri (z00 [T]) (F_30 N s) fun r=>pu (r.2=0) (z00 [z07 r.1 1 (bytesOf (z7p rs)),T]):=by
 have hlen:=z6l hr;have h16:=ok.len;have hmost:z1z=70368744177664:=rfl;unfold F_30;refine z02 [0] (z81 ok hr (by omega)) fun r=>z04 fun h=>z01 ?_;subst h;dsimp only[sel,rem,nth,del,cat,upd];refine z05 (by simp) ?_;have loop:∀(K k:Nat)(o:Sl),rs.length - k<K→k≤rs.length→Tri (z00 [z07 o 1 (z1y (z42 (rs.take k))),T]) (z0l K (F_5b N s) (o,(k:Int))) fun r=>z00 [z07 r 1 (z1y (z42 rs)),T]:=by
  intro K;induction K with
  | zero=>intro k o h;omega
  | succ K ih=>
   intro k o h hk;rw[z16];unfold F_5b;by_cases hkl:k<rs.length
   ·refine z08 (by simp[hlen];omega) ?_;have h1:=ok.rng _ (List.getElem_mem hkl);refine z0a 0 rfl fun lo=>?_;rw[z4z,z5t,List.length_take]at lo;refine zco 1 rfl hr hkl ?_;dsimp only;rw[z6m (n:=(rs[k].1:Int)) (by omega) (by omega),z6m (n:=(rs[k].2:Int)) (by omega) (by omega)];refine z11 fun b=>?_;refine z02 [1,0] (z2a (s:=o) (by':=8) (T:=pts b (.cells [.int .u64 (rs[k].1:Int),.int .u64 (rs[k].2:Int)] false)) (rd_pts0 (by simp)) (by omega) rfl (by dsimp only;omega)) fun o2=>z01 ?_;dsimp only[sel,rem,nth,del,cat,upd];rw[z0f (n:=(k:Int)+1) (by omega) (by omega)];refine tri_last [0,1] (Tri.pre (ih (k+1) o2 (by omega) (by omega)) fun q hq=>z49 (fun q h=>?_) hq);have e:z1y (z42 (rs.take k))++[.int .u64 (rs[k].1:Int),.int .u64 (rs[k].2:Int)]=z1y (z42 (rs.take (k+1))):=by
     rw[List.take_add_one,List.getElem?_eq_getElem hkl,zy2,zjn];rfl
    rw[←e];exact h
   ·obtain rfl:k=rs.length:=by omega
    refine z05 (by simp[hlen]) (z03 [0,0] fun q hq=>?_);rw[List.take_length]at hq;exact hq
 refine z02 [0] ((loop N 0 ⟨none,0⟩ (by omega) (by omega)).pre fun q hq=>z2r (fun q h =>.nil 1 h) hq) fun j=>z01 ?_;dsimp only[sel,rem,nth,del,cat,upd];refine z0a 0 rfl fun lj=>?_;refine z02 [0] (z9e (size:=2) (ns:=z42 rs) (by omega) (by omega) (z0e lj) (fun x hx=>?_) (by rw[z5t];omega) hN) fun r10=>z04 fun h10=>z01 ?_
 ·unfold z42 at hx;obtain⟨y,hy,hx⟩:=List.mem_flatten.1 hx;obtain⟨r,hr,rfl⟩:=List.mem_map.1 hy;have h1:=ok.rng _ hr;have h2:(256:Nat)^2=65536:=rfl;simp at hx;rcases hx with rfl | rfl<;>omega
 ·dsimp only[sel,rem,nth,del,cat,upd];exact z03 [0,1] fun q hq=>⟨h10,hq⟩
theorem zy4(h:n.Ok):∀x∈z3l n,x<65536:=by
 intro x hx;unfold z3l at hx;have hk:=h.k;have hr:=h.r;rcases List.mem_cons.1 hx with rfl | hx
 ·omega
 ·obtain⟨y,hy,rfl⟩:=List.mem_map.1 hx;obtain⟨i,hi,rfl⟩:=List.mem_iff_getElem.1 hy;have hi12:i<12:=by rw[n.xs.2]at hi;exact hi
  have e:n.xs.1[i]=n.at i:=by
   have:=n.get_at hi12
   rw[List.getElem?_eq_getElem hi]at this;exact Option.some.inj this
  rw[e];rcases Nat.lt_or_ge i 2 with h2 | h2
  ·have h0:=h.l1;have h1:=h.s1;rcases(show i=0∨i=1 by omega)with rfl | rfl<;>omega
  ·have:=h.p i h2 hi12
   omega
theorem zni(h:n.Ok)(hN:5000<N):Tri (z00 []) (F_1q N (z0w n)) fun r=>pu (r.2=0) (z00 [z07 r.1 1 (bytesOf (z4r n))]):=by
 have hmost:z1z=70368744177664:=rfl;have hk:=h.k;have hrr:=h.r;have hok:n.ok=true:=Ino.ok_iff.2 h;have hat:∀i,i<12→0≤n.at i∧n.at i<65536:=by
  intro i hi;have h0:=h.l0;have h1:=h.l1;have h2:=h.s0;have h3:=h.s1;rcases Nat.lt_or_ge i 2 with h4 | h4
  ·rcases(show i=0∨i=1 by omega)with rfl | rfl<;>omega
  ·have:=h.p i h4 hi
   omega
 unfold F_1q;have g0:(z0w n)[0]? = some (.int .u8 n.k):=rfl;have g1:(z0w n)[1]? = some (.int .u8 n.r):=rfl;have g2:(z0w n)[2]? = some (.int .i64 (n.at 0)):=z5x n (i:=0) (by omega);have g3:(z0w n)[3]? = some (.int .i64 (n.at 1)):=z5x n (i:=1) (by omega);have g12:(z0w n)[12]? = some (.int .i64 (n.at 10)):=z5x n (i:=10) (by omega);have g13:(z0w n)[13]? = some (.int .i64 (n.at 11)):=z5x n (i:=11) (by omega);have e14:0+14≤(z0w n).length:=by rw[z0g];omega
 have t14:((z0w n).drop 0).take 14=z0w n:=by rw[List.drop_zero,List.take_of_length_le (by rw[z0g];omega)]
 have e8:4+8≤(z0w n).length:=by rw[z0g];omega
 have t8:((z0w n).drop 4).take 8=i64s (n.xs.1.drop 2 |>.take 8):=by simp[z0w,i64s]
 rw[g0,g1,g2,g3,g12,g13,if_pos e14,t14,if_pos e8,t8];refine z0r ?_;rw[zbf (by omega),hok];refine z0r (z05 (by simp) ?_);refine z19 (z1s (z19 (z1s (z19 (z1s (z19 (z1s ?_)))))));have ha0:=hat 0 (by omega);have ha1:=hat 1 (by omega);have ha10:=hat 10 (by omega);have ha11:=hat 11 (by omega);have ekr:z3g .or .u64 (wr .u64 (n.k:Int)) (z74 .u64 (wr .u64 (n.r:Int)) (8:Int))=((n.k+256 * n.r:Nat):Int):=by
  rw[z6m (n:=(n.k:Int)) (by omega) (by omega),z6m (n:=(n.r:Int)) (by omega) (by omega)];have hs:=zmg (k :=.u64) (a:=n.r) (j:=8) rfl (by decide) (by show n.r * 2^8<2^64;omega);have hs':z74 .u64 (n.r:Int) (8:Int)=((n.r * 2^8:Nat):Int):=hs;rw[hs',(zcp (k :=.u64) rfl (a:=n.k) (b:=n.r * 2^8) (by show n.k<2^64;omega) (by show n.r * 2^8<2^64;omega)).2.1,zxk (j:=8) (by omega)];congr 1;omega
 rw[ekr,z6m (n:=n.at 0) (by omega) (by omega),z6m (n:=n.at 1) (by omega) (by omega)];refine z11 fun b=>z0r ?_;have hds:(n.xs.1.drop 2 |>.take 8).length=8:=by simp[n.xs.2]
 have hdg:∀(i:Nat)(hi:i<(n.xs.1.drop 2 |>.take 8).length),0≤(n.xs.1.drop 2 |>.take 8)[i]∧(n.xs.1.drop 2 |>.take 8)[i]<65536:=by
  intro i hi;rw[hds]at hi;have e:(n.xs.1.drop 2 |>.take 8)[i]=n.at (2+i):=by
   have:=n.get_at (i:=2+i) (by omega)
   rw[List.getElem?_eq_getElem (by rw[n.xs.2];omega)]at this;rw[List.getElem_take,List.getElem_drop];exact Option.some.inj this
  rw[e];exact hat (2+i) (by omega)
 have hall:z3l n=[n.k+256 * n.r,(n.at 0).toNat,(n.at 1).toNat]++(n.xs.1.drop 2 |>.take 8).map Int.toNat++[(n.at 10).toNat,(n.at 11).toNat]:=by
  obtain⟨k,r,xs,hx⟩:=n;match xs,hx with
  | [a,b,c,d,e,f,g,h,i,j,p,q],_=>rfl
 generalize (n.xs.1.drop 2 |>.take 8)=ds at hds hdg hall;have hpre:∀x:Int,0≤x→(MV.int .u64 x)=.int .u64 ((x.toNat:Nat):Int):=fun x hx=>by rw[Int.toNat_of_nonneg hx]
 have loop:∀(K k:Nat)(o:Sl)(pre:List Nat),8 - k<K→k≤8→pre.length=3→Tri (z00 [z07 o 1 (z1y (pre++(ds.take k).map Int.toNat))]) (z0l K (F_5c N (i64s ds)) (o,(k:Int))) fun r=>z00 [z07 r 1 (z1y (pre++ds.map Int.toNat))]:=by
  intro K;induction K with
  | zero=>intro k o pre h;omega
  | succ K ih=>
   intro k o pre h hk hpl;rw[z16];unfold F_5c;by_cases hkl:k<8
   ·refine z08 (by simp;omega) ?_;have hkd:k<ds.length:=by omega
    have hd:=hdg k hkd;have e1:idxV 8 (i64s ds) (k:Int)=ret (.int .i64 ds[k]):=by
     unfold idxV;rw[if_pos (by omega),Int.toNat_natCast,zji hkd];rfl
    refine z0a 0 rfl fun lo=>?_;rw[z4z,List.length_append,List.length_map,List.length_take]at lo;dsimp only;rw[e1];refine z0r (z1s ?_);rw[z6m (n:=ds[k]) (by omega) (by omega)];refine z11 fun b=>?_;refine z02 [1,0] (z2a (s:=o) (by':=8) (T:=pts b (.cells [.int .u64 ds[k]] false)) (rd_pts0 (by simp)) (by omega) rfl (by dsimp only;omega)) fun o2=>z01 ?_;dsimp only[sel,rem,nth,del,cat,upd];rw[z0f (n:=(k:Int)+1) (by omega) (by omega)];refine tri_last [0] (Tri.pre (ih (k+1) o2 pre (by omega) (by omega) hpl) fun q hq=>z49 (fun q h=>?_) hq);have e:z1y (pre++(ds.take k).map Int.toNat)++[.int .u64 ds[k]]=z1y (pre++(ds.take (k+1)).map Int.toNat):=by
     rw[hpre _ hd.1,List.take_add_one,List.getElem?_eq_getElem hkd,List.map_append,←List.append_assoc,zjn (pre++_)];rfl
    rw[←e];exact h
   ·obtain rfl:k=8:=by omega
    refine z05 (by simp) (z03 [0] fun q hq=>?_);rw[List.take_of_length_le (by omega)]at hq;exact hq
 refine z02 [0] ((loop N 0 ⟨some ⟨b,0⟩,3⟩ [n.k+256 * n.r,(n.at 0).toNat,(n.at 1).toNat] (by omega) (by omega) rfl).pre fun q hq=>z49 (A:=pts b (.cells [.int .u64 ((n.k+256 * n.r:Nat):Int),.int .u64 (n.at 0),.int .u64 (n.at 1)] false)) (l:=[]) (fun q h=>?_) hq) fun j=>z01 ?_
 ·rw[hpre _ ha0.1,hpre _ ha1.1]at h;exact .mk (by rw[z4z];rfl) h
 dsimp only[sel,rem,nth,del,cat,upd];refine z19 (z1s (z19 (z1s ?_)));rw[z6m (n:=n.at 10) (by omega) (by omega),z6m (n:=n.at 11) (by omega) (by omega)];refine z0a 0 rfl fun lj=>?_;rw[z4z,List.length_append,List.length_map,hds]at lj;refine z11 fun b2=>?_;refine z02 [1,0] (z2a (s:=j) (by':=8) (T:=pts b2 (.cells [.int .u64 (n.at 10),.int .u64 (n.at 11)] false)) (rd_pts0 (by simp)) (by omega) rfl (by simp at lj;dsimp only;omega)) fun l26=>z01 ?_;dsimp only[sel,rem,nth,del,cat,upd];have e26:z1y ([n.k+256 * n.r,(n.at 0).toNat,(n.at 1).toNat]++ds.map Int.toNat)++[.int .u64 (n.at 10),.int .u64 (n.at 11)]=z1y (z3l n):=by
  rw[hall,hpre _ ha10.1,hpre _ ha11.1,zjn ([_,_,_]++_)];rfl
 rw[e26];refine z0a 0 rfl fun l26l=>?_;have h13:=z7e n;refine z02 [0] (z9e (size:=2) (ns:=z3l n) (by omega) (by omega) (z0e l26l) (fun x hx=>zy4 h x hx) (by rw[h13];omega) hN) fun r27=>z04 fun h27=>z01 ?_;dsimp only[sel,rem,nth,del,cat,upd];refine z0a 0 rfl fun l27=>?_;refine z02 [0] (zdf (n:=32) (z0e l27) (by rw[z2k,h13];omega) (by omega)) fun r28=>z04 fun h28=>z01 ?_;dsimp only[sel,rem,nth,del,cat,upd];exact z03 [0] fun q hq=>⟨h28,hq⟩
end
end Go.Moat

/- Layer 14: meta.Lay, meta.Copy. -/
namespace Go.Moat
open Go.Mini
section
variable{N:Nat}{β:Type}{l:List HA}{S:β→HA}{T:HA}{s:Sl}{g:Geo}{M:MetaS}{m:Sl×Sl×Sl×Sl}
theorem zix{bs:List UInt8}(hr:RdC T s 1 (bytesOf bs))(hb:bs.length≤100000):Tri (z00 [T]) (F_0b N s) fun r=>z00 [z07 r 1 (bytesOf bs),T]:=by
 have hl:=z4t hr;have hmost:z1z=70368744177664:=rfl;exact z9c (by':=1) hr (by omega) (by simp[bytesOf,z0u]) (by omega)
theorem zyd{L:List (Sl×List UInt8)}{o:Sl}{bs:List UInt8}:z1u (L++[(o,bs)])=z1b (z1u L) (z07 o 1 (bytesOf bs)):=by
 unfold z1u;rw[List.map_append,z45,List.map_cons,List.map_nil,z0v]
theorem zye(L:List (Sl×List UInt8))(o:Sl)(bs:List UInt8):z3w L++[.sl o.p o.len 1]=z3w (L++[(o,bs)]):=by simp[z3w]
theorem zc1(ok:MetaOk g M):(z2h M).length=3+M.ino.length / 2:=by
 simp only[z2h,List.length_cons,z5m];omega
theorem zyf(hg:g.ok)(ok:MetaOk g M)(hr:RdM T m M)(hN:5000<N) :
  Tri (z00 [T]) (F_31 N g.t m) fun r=>exA fun L:List (Sl×List UInt8)=>pu (r.2=0∧L.map (·.2)=z2h M∧∀e∈L,e.1.len=64∧e.2.length=64) (z00 [z07 r.1 1 (z3w L),z1u L,T]):=by
 have hmost:z1z=70368744177664:=rfl;have hol:=ok.ownl;have hil:=ok.inol;have hul:=ok.usedl;have hG:=hg.g2;have hI:=hg.i2;have hi3:=hg.i3;unfold F_31;refine z02 [0] (zin hg ok hr hN) fun r=>z04 fun h=>z01 ?_;subst h;dsimp only[sel,rem,nth,del,cat,upd];refine z05 (by simp) ?_;refine z02 [0] (zy3 ok.rows hr.rows hN) fun r4=>z04 fun h4=>z01 ?_;dsimp only[sel,rem,nth,del,cat,upd];refine z79 64 (by omega) fun b5=>?_;have l1:m.2.1.len=M.own.length:=by
  have:=hr.own.1
  rw[z2t]at this;omega
 have loop1:∀(K k:Nat),M.own.length - k<K→k≤M.own.length→Tri (z00 [pts b5 (.cells (bytesOf ((M.own.take k).map UInt8.ofNat++List.replicate (64 - k) 0)) false),T]) (z0l K (F_5d N m ⟨some ⟨b5,0⟩,64⟩) (k:Int)) fun _=>z00 [pts b5 (.cells (bytesOf (zab M.own)) false),T]:=by
  intro K;induction K with
  | zero=>intro k h;omega
  | succ K ih=>
   intro k h hk;rw[z16];unfold F_5d;by_cases hkl:k<M.own.length
   ·refine z08 (by simp[l1];omega) ?_;have h16:=ok.own16 _ (List.getElem_mem hkl);refine tri_rI 1 rfl hr.own (i:=k) (k :=.i64) (v:=(M.own[k]:Nat)) (by simp[i64s,hkl]) ?_;rw[wr8 (by omega) (by omega)];refine z21 (by omega) (z1x 0 rfl (by rw[z0i];simp;omega) rfl ?_);dsimp only[sel,rem,nth,del,cat,upd];rw[z0f (n:=(k:Int)+1) (by omega) (by omega)];refine Tri.pre (ih (k+1) (by omega) (by omega)) fun q hq=>z49 (fun q h=>?_) hq;have e:(bytesOf ((M.own.take k).map UInt8.ofNat++List.replicate (64 - k) 0)).set (0+k * 1) (.int .u8 ((M.own[k]:Nat):Int))=bytesOf ((M.own.take (k+1)).map UInt8.ofNat++List.replicate (64 - (k+1)) 0):=by
     have hcc:(MV.int .u8 ((M.own[k]:Nat):Int))=.int .u8 ((UInt8.ofNat M.own[k]).toNat:Int):=by
      rw[UInt8.toNat_ofNat_of_lt' (by show M.own[k]<256;omega)]
     rw[hcc];unfold bytesOf;rw[←List.map_set (f:=fun b:UInt8=>MV.int .u8 (b.toNat:Int))];congr 1;have hlen:((M.own.take k).map UInt8.ofNat).length=k:=by rw[List.length_map,List.length_take];omega
     rw[show 0+k * 1=k by omega,List.set_append_right _ _ (by omega),hlen,Nat.sub_self,show 64 - k=(64 - (k+1))+1 by omega,List.replicate_succ,List.set_cons_zero,List.take_add_one,List.getElem?_eq_getElem hkl,List.map_append,List.append_assoc];rfl
    rw[←e];exact h
   ·obtain rfl:k=M.own.length:=by omega
    refine z05 (by simp[l1]) (z03 [0,0] fun q hq=>?_);rw[List.take_length]at hq;unfold zab filled;rw[List.length_map];exact hq
 refine z02 [0,1] ((loop1 N 0 (by omega) (by omega)).pre fun q hq=>hq) fun _=>z01 ?_;dsimp only[sel,rem,nth,del,cat,upd];refine z02 [1] (zix hr.used (by omega)) fun r12=>z01 ?_;dsimp only[sel,rem,nth,del,cat,upd];refine z11 fun b13=>?_;have l3:m.2.2.2.len=M.ino.length:=by
  have:=hr.ino.1
  rw[z0o z0g]at this;omega
 have hmB:=zc1 ok;have loop2:∀(K k:Nat)(o:Sl)(L:List (Sl×List UInt8)),M.ino.length - k<K→k≤M.ino.length→k%2=0→L.map (·.2)=(z2h M).take (3+k / 2)→(∀e∈L,e.1.len=64∧e.2.length=64) →
   Tri (z00 [z07 o 1 (z3w L),z1u L,T]) (z0l K (F_5e N m) (o,(k:Int))) fun r=>exA fun L:List (Sl×List UInt8)=>pu (L.map (·.2)=z2h M∧∀e∈L,e.1.len=64∧e.2.length=64) (z00 [z07 r 1 (z3w L),z1u L,T]):=by
  intro K;induction K with
  | zero=>intro k o L h;omega
  | succ K ih=>
   intro k o L h hk hk2 hL h64;rw[z16];unfold F_5e;by_cases hkl:k<M.ino.length
   ·have hk1:k+1<M.ino.length:=by omega
    refine z08 (by simp[l3];omega) ?_;refine z5n 2 rfl hr.ino hkl ?_;refine z02 [] (zni (ok.inok _ (List.getElem_mem hkl)) hN) fun r18=>z04 fun h18=>z01 ?_;dsimp only[sel,rem,nth,del,cat,upd];rw[z0f (n:=(k:Int)+1) (by omega) (by omega)];refine z5n (i:=k+1) 3 rfl hr.ino hk1 ?_;refine z02 [] (zni (ok.inok _ (List.getElem_mem hk1)) hN) fun r21=>z04 fun h21=>z01 ?_;dsimp only[sel,rem,nth,del,cat,upd];refine z0a 0 rfl fun l21=>z0a 1 rfl fun l18=>z0a 2 rfl fun lo=>?_;rw[z0i,z2u]at l21 l18;refine z02 [1,0] (z2a (s:=r18.1) (t:=r21.1) (by':=1) (z0e (by rw[z0i,z2u];omega)) (by omega) (by simp[bytesOf,z0u]) (by omega)) fun l22=>z01 ?_;dsimp only[sel,rem,nth,del,cat,upd];rw[←z92];refine z0a 0 rfl fun l22l=>?_;rw[z0i,List.length_append,z2u,z2u]at l22l;have hLl:L.length=3+k / 2:=by
     have:=congrArg List.length hL
     rw[List.length_map,List.length_take,hmB]at this;omega
    rw[zfi]at lo;refine z11 fun b23=>?_;refine z02 [3,0] (z2a (s:=o) (by':=24) (T:=pts b23 (.cells [.sl l22.p l22.len 1] false)) (rd_pts0 (by simp)) (by omega) rfl (by dsimp only;omega)) fun l24=>z01 ?_;dsimp only[sel,rem,nth,del,cat,upd];have e2:wr .i64 ((k:Int)+2)=((k+2:Nat):Int):=by rw[z0f (by omega) (by omega)];simp
    rw[e2];rw[zye L l22 (z4r M.ino[k]++z4r M.ino[k+1])];have hpg:=zac (l:=M.ino) (i:=k / 2) (by omega);have hsec:(z2h M)[3+k / 2]? = some (z4r M.ino[k]++z4r M.ino[k+1]):=by
     unfold z2h;rw[show 3+k / 2=k / 2+1+1+1 by omega,List.getElem?_cons_succ,List.getElem?_cons_succ,List.getElem?_cons_succ,hpg];have e3:2 * (k / 2)=k:=by omega
     simp only[e3]
    have hn:=ih (k+2) l24 (L++[(l22,z4r M.ino[k]++z4r M.ino[k+1])]) (by omega) (by omega) (by omega) (by
     rw[List.map_append,hL,show 3+(k+2) / 2=(3+k / 2)+1 by omega,List.take_add_one,hsec];rfl) (by
     intro e he;rcases List.mem_append.1 he with he | he
     ·exact h64 e he
     ·simp at he;subst he;refine⟨by dsimp only;omega,by rw[List.length_append,z2u,z2u]⟩)
    refine tri_last [0,3,1,2] (hn.pre fun q hq=>?_);refine z1d (fun q hq=>?_) hq;rw[zyd];show z1b (z1b (z1u L) (z07 l22 1 _)) (z1b T emp) q;rw[z4i];exact hq
   ·obtain rfl:k=M.ino.length:=by omega
    refine z05 (by simp[l3]) (z03 [0,0,0] fun q hq=>⟨L,⟨?_,h64⟩,hq⟩);rw[hL,List.take_of_length_le (by omega)]
 refine z0a 1 rfl fun l12=>z0a 4 rfl fun l4=>?_;have rB:(z7p M.rows).length=64:=by rw[z7p,z2k,z5t,ok.rows.len]
 have oB:(zab M.own).length=64:=z2i (by rw[List.length_map,hol];omega);rw[z0i]at l12 l4;let L0:List (Sl×List UInt8):=[(r4.1,z7p M.rows),(⟨some ⟨b5,0⟩,64⟩,zab M.own),(r12,M.used)]
 refine z02 [0,3,2,0,0] ((loop2 N 0 ⟨some ⟨b13,0⟩,3⟩ L0 (by omega) (by omega) rfl rfl (fun e he=>?_)).pre fun q hq=>?_) fun j=>z1g fun L=>z04 fun hL=>z01 ?_
 ·simp[L0]at he;rcases he with rfl | rfl | rfl
  ·exact⟨by dsimp only;omega,rB⟩
  ·exact⟨rfl,oB⟩
  ·exact⟨by dsimp only;omega,hul⟩
 ·have e:z00 [z07 ⟨some ⟨b13,0⟩,3⟩ 1 (z3w L0),z1u L0,T]=z00 [z07 ⟨some ⟨b13,0⟩,3⟩ 1 (z3w L0),z07 r4.1 1 (bytesOf (z7p M.rows)),z07 ⟨some ⟨b5,0⟩,64⟩ 1 (bytesOf (zab M.own)),z07 r12 1 (bytesOf M.used),T]:=by
   show z1b _ (z1b (z1b _ (z1b _ (z1b _ emp))) (z1b T emp))=z1b _ (z1b _ (z1b _ (z1b _ (z1b T emp))));rw[z4i,z4i,z4i,z8h emp,z3n (z1b T emp)]
  rw[e];exact z59 (.cons (fun _ k =>.mk rfl k) (.cons (fun _ k=>k) (.cons (fun _ k =>.mk (by rw[z0i,oB]) k) (.cons (fun _ k=>k) (.cons (fun _ k=>k) .nil))))) q hq
 dsimp only[sel,rem,nth,del,cat,upd];exact z03 [0,0,0] fun q hq=>⟨L,⟨rfl,hL.1,hL.2⟩,hq⟩
theorem zln(hg:g.ok)(ok:MetaOk g M)(hr:RdM T m M):Tri (z00 [T]) (F_1s N m) fun r=>z00 [z07 r.1 2 (z0y M.rows),z07 r.2.1 1 (z2g M.own),z07 r.2.2.1 1 (bytesOf M.used),z07 r.2.2.2 14 (z1t M.ino),T]:=by
 have hmost:z1z=70368744177664:=rfl;have hol:=ok.ownl;have hil:=ok.inol;have hul:=ok.usedl;have h16:=ok.rows.len;have hG:=hg.g2;have hI:=hg.i2;have l1:=hr.rows.1;have l2:=hr.own.1;have l4:=hr.ino.1;rw[z0o z17]at l1;rw[z2t]at l2;rw[z0o z0g]at l4;unfold F_1s;refine z4c fun _=>?_;have e1:F_4g N m.1=zaa 2 16 m.1:=rfl;have e2:F_4h N m.2.1=zaa 1 8 m.2.1:=rfl;have e4:F_4i N m.2.2.2=zaa 14 104 m.2.2.2:=rfl;rw[e1,e2,e4];refine z02 [0] (z9c (by':=16) hr.rows (by omega) (z7c z9t _) (by omega)) fun r3=>z01 ?_;dsimp only[sel,rem,nth,del,cat,upd];refine z02 [1] (z9c (by':=8) hr.own (by omega) (by simp[i64s,z0u]) (by omega)) fun r4=>z01 ?_;dsimp only[sel,rem,nth,del,cat,upd];refine z02 [1] (zix hr.used (by omega)) fun r5=>z01 ?_;dsimp only[sel,rem,nth,del,cat,upd];refine z02 [1] (z9c (by':=104) hr.ino (by omega) (z7c z7d _) (by omega)) fun r6=>z01 ?_;dsimp only[sel,rem,nth,del,cat,upd];exact z03 [4,3,2,0,0] fun q hq=>hq
end
end Go.Moat

/- Layer 7: patches are written. -/
namespace Go.Mini
section
variable{β:Type}{l:List HA}{S:β→HA}{T:HA}{s:Sl}{cs:List MV}
theorem z111(n:Nat)(hl:l[n]? = some T)(hr:RdC T s 1 cs){k:Nat}(hk:0<k)(hs:s.len=k){f:List MV→M β}(kk:Tri (z00 l) (f cs) S):Tri (z00 l) (bd (arrAt k s) fun q=>bd (ldn k q) f) S:=by
 rw[←bd_bd];refine z5d n hl (fun h q hq hh=>?_) kk;unfold arrAt;rw[if_pos ⟨hk,by omega⟩];rcases hr.2 h q hq hh with⟨_,h2⟩ | ⟨a,r,ro,h1,h2,h3,h4⟩
 ·omega
 ·rw[hs,Nat.mul_one]at h3 h4;show ldn k s.p h=_;rw[h1];unfold ldn;dsimp only;rw[h2];dsimp only;rw[if_pos h3,h4]
end
end Go.Mini
namespace Go.Moat
open Go.Mini
section
variable{N:Nat}{β:Type}{l:List HA}{S:β→HA}{d:Nat}{D:DskS}{m:M β}{T:HA}{g:Geo}
theorem zrx(i:Int){s:Sl}{bs:List UInt8}(t:Int)(hr':RdC T s 1 (bytesOf bs))(hd:0≤D.done)(hd2:D.done<9223372036854775807)(hw:D.waits.length<400000000000) :
  Tri (z00 [z1h d D,T]) (F_0e N (some ⟨d,0⟩) (i,s,t)) fun r=>pu (r=writeE D i bs) (z00 [z1h d (zbu D i bs t),T]):=by
 have hs:=z4t hr';unfold F_0e;rw[if_neg (by simp)];refine z02 [0] (zf8 i) fun r=>z04 fun hr=>z01 ?_;by_cases h:0≤i∧i<D.secs.length∧bs.length=64
 case neg=>
  refine z08 (by
   rw[hr];dsimp only;rw[hs];simp;omega) ?_
  refine z03 [0,0] fun q hq=>⟨by unfold writeE;rw[if_neg h],?_⟩;unfold zbu;rw[if_neg h];exact hq
 have hcan:=h;obtain⟨h1,h2,h3⟩:=h;refine z05 (by
  rw[hr];dsimp only;rw[hs];simp[h1,h2,h3]) ?_
 refine z02 [0] (zf9 hd hd2) fun r=>z04 fun hr=>z01 ?_;subst hr;unfold writeE zbu;rw[if_pos hcan,if_pos hcan];by_cases hp:powerE D=0
 case neg=>
  refine z08 (by simp[hp]) ?_;rw[if_neg hp];exact z03 [0,0] fun q hq=>⟨rfl,hq⟩
 refine z05 (by simp[hp]) ?_;rw[if_pos hp];obtain⟨k,rfl⟩:∃k:Nat,i=k:=⟨i.toNat,by omega⟩;have hk:k<D.secs.length:=by omega
 refine z111 1 rfl hr' (by omega) (by omega) ?_;rw[zcz,zq7 h3];have hz:z48.c.length=65:=SecS.len z7y;have hnow:SecS.ok ⟨bs,t⟩:=h3;have hnl:=SecS.len hnow;refine zby (z11 fun nw=>?_);dsimp only[sel,rem,nth,del,cat,upd];refine z5c 0 rfl hnl (by omega) (SecS.cell _) ?_;rw[z8g (by omega)];refine z9a 1 rfl fun bs' ws hD=>?_;rw[z5r,za9];dsimp only[sel,rem,nth,del,cat,upd];have hsk:∀s∈D.secs,s.ok:=by rw[←z5r (D:=D)];exact hD.secs
 have hwk:∀w∈D.waits,w.was.ok∧w.now.ok∧w.at'<D.secs.length:=by
  have:=hD.waits
  rwa [za9,z5r]at this
 refine z91 0 rfl rfl (z91 0 rfl rfl ?_);refine z21 hk (z80 1 rfl (by rw[zbt hsk];have:=z30 (e:=65) hk;omega) ?_);rw[Nat.zero_add,zgw hsk hk];refine z80 3 rfl (by omega) ?_;rw[List.drop_zero,List.take_of_length_le (by omega)];have hwas:=hsk _ (List.getElem_mem hk);rw[zn8 hwas hnow];have hwl:(WaitS.c ⟨k,D.secs[k],⟨bs,t⟩⟩).length=131:=WaitS.len hwas hnow;refine zby ?_;rw[zn9 hwl (by simp[z9b])];refine zby (z11 fun wb=>?_);refine z7o 3 rfl (fun q hq=>z07.len hq) fun hwsl=>?_;rw[zl2 fun w hw=>⟨(hwk w hw).1,(hwk w hw).2.1⟩]at hwsl;refine z02 [3,0] (zmd (k:=1) (e:=131) (by':=144) (by omega) (by omega) (by
  rw[List.take_of_length_le (by omega)];exact WaitS.cell _) (by have:z1z=70368744177664:=rfl;omega)) fun r=>?_
 refine z01 ?_;dsimp only[sel,rem,nth,del,cat,upd];refine zbx 2 rfl ?_;dsimp only[sel,rem,nth,del,cat,upd];refine z91 2 rfl rfl ?_;refine z80 4 rfl (by omega) ?_;rw[List.drop_zero,List.take_of_length_le (l:=SecS.c _) (by omega)];refine z21 hk (z5c 3 rfl hnl (by rw[zbt hsk,hnl];have:=z30 (e:=65) hk;omega) (SecS.cell _) ?_);rw[Nat.zero_add,zl1 hsk hnow hk,List.take_of_length_le (by omega)];dsimp only[sel,rem,nth,del,cat,upd];refine z03 [2,2,0,2] fun q hq=>⟨hp.symm,?_⟩;rw[Int.toNat_natCast,List.getElem?_eq_getElem hk];have hwc:z6h D.waits++WaitS.c ⟨k,D.secs[k],⟨bs,t⟩⟩=z6h (D.waits++[⟨k,D.secs[k],⟨bs,t⟩⟩]):=by
  simp[z6h]
 rw[hwc]at hq;dsimp only[sel,rem,nth,del,cat,upd]at hq;refine z8i (l:=[T]) [_,_,_] (fun q h=>?_) hq;refine⟨(bs',r),⟨?_,?_,?_,hD.4⟩,?_⟩
 ·intro s hs;rcases List.mem_or_eq_of_mem_set hs with hs | rfl
  ·exact hsk s hs
  ·exact hnow
 ·intro w hw;rw[List.length_set];rcases List.mem_append.1 hw with hw | hw
  ·exact hwk w hw
  ·simp at hw;subst hw;exact⟨hwas,hnow,hk⟩
 ·have:=hD.many
  rw[z5r]at this;rw[List.length_set];exact this
 ·dsimp only;rw[List.length_set];exact h
structure Pat where
 sec:Nat
 s:Sl
 b:List UInt8
 t:Nat
def z2v(p:Pat):List MV:=[.int .i64 p.sec,.sl p.s.p p.s.len 1,.int .u16 p.t]
theorem z2c(p:Pat):(z2v p).length=3:=rfl
theorem zdi(p:Pat):(z2v p).all z0u=true:=rfl
structure PatsIn(T:HA)(n:Nat)(s:Sl)(l:List Pat):Prop where
 rd:RdC T s 3 (z1n z2v l)
 el:∀p∈l,RdC T p.s 1 (bytesOf p.b)∧p.b.length=64∧p.sec<n
def z2n(secs:List SecS)(l:List Pat):List SecS:=l.foldl (fun s p=>s.set p.sec ⟨p.b,p.t⟩) secs
theorem z47(l:List Pat):∀secs:List SecS,(z2n secs l).length=secs.length:=by
 induction l with
 | nil=>intro secs;rfl
 | cons p l ih=>
  intro secs;show(z2n (secs.set p.sec ⟨p.b,p.t⟩) l).length=_;rw[ih,List.length_set]
theorem z7u(l r:List Pat)(secs:List SecS):z2n secs (l++r)=z2n (z2n secs l) r:=by
 unfold z2n;rw[List.foldl_append]
theorem z4m(js:List Nat)(k:Tri (z00 (z00 (sel js l)::rem js l)) m S):Tri (z00 l) m S:=k.pre fun q hq=>by
 rw[z7b js l]at hq;exact hq
theorem PatsIn.mono{T':HA}{n:Nat}{s:Sl}{l:List Pat}(h:PatsIn T n s l)(k:∀q,T' q→∃q',q'=q∧T q'):PatsIn T' n s l:=
 ⟨h.rd.pre fun q hq=>by obtain⟨_,rfl,h⟩:=k q hq;exact h,fun p hp=>⟨(h.el p hp).1.pre fun q hq=>by obtain⟨_,rfl,h⟩:=k q hq;exact h,(h.el p hp).2⟩⟩
theorem zmj{s:Sl}{ps:List Pat}{n:Nat}(k:Nat)(hl:l[k]? = some T)(h:PatsIn T n s ps){i:Nat}(hi:i<ps.length){f:Int×Sl×Int→M β}(kk:Tri (z00 l) (f ((ps[i].sec:Int),ps[i].s,(ps[i].t:Int))) S):Tri (z00 l) (bd (idx 3 s (i:Int)) fun q=>bd (z3a [.int .i64,.sl 1,.int .u16] q) f) S:=
 zt7 k hl (ts:=[.int .i64,.sl 1,.int .u16]) h.rd (i:=i) (by have:=h.rd.1;rw[z0o z2c]at this;omega) (x:=((ps[i].sec:Int),ps[i].s,(ps[i].t:Int))) (by
  show HC.dec _ (((z1n z2v ps).drop (i * 3)).take 3)=_;rw[zcn z2c hi];rfl) kk
theorem zry{j sq:Nat}{sl:Sl}{ps:List Pat}(hp:PatsIn T D.secs.length sl ps)(h0:D.dead=false)(h1:D.fuse = -1)(h2:0≤D.done)(h3:D.done+ps.length<4000000000000000000)(h4:D.waits.length+ps.length<400000000000) :
  ∀(K k:Nat)(D1:DskS),ps.length - k<K→k≤ps.length→D1.dead=false→D1.fuse = -1→D1.secs=z2n D.secs (ps.take k)→D1.done=D.done+k→D1.waits.length=D.waits.length+k →
  Tri (z00 [pts j (.cells (z3b d g sq) false),z1h d D1,T]) (z0l K (F_3p N (some ⟨j,0⟩) sl) (k:Int)) fun r=>exA fun D2:DskS=>pu (r=.inl ()∧D2.dead=false∧D2.fuse = -1∧D2.secs=z2n D.secs ps∧D2.done=D.done+ps.length) (z00 [pts j (.cells (z3b d g sq) false),z1h d D2,T]):=by
 have hlen:sl.len=ps.length:=by have:=hp.rd.1;rw[z0o z2c]at this;omega
 intro K;induction K with
 | zero=>intro k D1 h;omega
 | succ K ih=>
  intro k D1 h hk g0 g1 g2 g3 g4;rw[z16];generalize z0l K (F_3p N (some ⟨j,0⟩) sl)=go at ih ⊢;unfold F_3p;by_cases hkl:k<ps.length
  case neg=>
   obtain rfl:k=ps.length:=by omega
   rw[List.take_length]at g2;exact z05 (by simp;omega) (z03 [0,0,0] fun q hq=>⟨D1,⟨rfl,g0,g1,g2,g3⟩,hq⟩)
  refine z08 (by simp;omega) ?_;refine zmj 2 rfl hp hkl ?_;obtain⟨p1,p2,p3⟩:=hp.el _ (List.getElem_mem hkl);refine zbw 0 rfl rfl ?_;have hin:ps[k].sec<D1.secs.length:=by rw[g2,z47];exact p3
  obtain⟨w1,w2⟩:=zkx g0 g1 hin p2 (ps[k].t:Int);refine z02 [1,1] (zrx (T:=T) ((ps[k].sec:Nat):Int) ((ps[k].t:Nat):Int) p1 (by omega) (by omega) (by omega)) fun r10=>z04 fun h10=>z01 ?_;rw[w1]at h10;rw[w2];subst h10;dsimp only[sel,rem,nth,del,cat,upd];refine z05 (by simp) ?_;rw[z0f (by omega) (by omega)];refine tri_last [2,0,0] (ih (k+1) _ (by omega) (by omega) g0 g1 ?_ ?_ ?_)
  ·show D1.secs.set ps[k].sec ⟨ps[k].b,ps[k].t⟩=_;rw[g2,List.take_add_one,List.getElem?_eq_getElem hkl,z7u];rfl
  ·show D1.done+1=_;omega
  ·show(D1.waits++[_]).length=_;rw[List.length_append];simp;omega
theorem zrz{j sq:Nat}{sl:Sl}{ps:List Pat}(hp:PatsIn T D.secs.length sl ps)(h0:D.dead=false)(h1:D.fuse = -1)(h2:0≤D.done)(h3:D.done+ps.length<4000000000000000000)(h4:D.waits.length+ps.length<400000000000)(hn:ps.length<4000)(hN:5000<N) :
  Tri (z00 [pts j (.cells (z3b d g sq) false),z1h d D,T]) (F_1b N (some ⟨j,0⟩) sl) fun r=>exA fun D2:DskS=>pu (r=0∧D2.dead=false∧D2.fuse = -1∧D2.secs=z2n D.secs ps∧D2.waits=[]∧D2.done=D.done+ps.length+1) (z00 [pts j (.cells (z3b d g sq) false),z1h d D2,T]):=by
 unfold F_1b;refine z02 [0,0,0] (zry hp h0 h1 h2 h3 h4 N 0 D (by omega) (by omega) h0 h1 rfl (by omega) (by omega)) fun j11=>z1g fun D1=>z04 fun hj=>z01 ?_;obtain⟨hj,g0,g1,g2,g3⟩:=hj;subst hj;dsimp only[sel,rem,nth,del,cat,upd];refine zbw 0 rfl rfl ?_;obtain⟨f1,f2⟩:=zky g0 g1;refine z02 [1] (zl3 (D:=D1) (by omega) (by omega)) fun r17=>z04 fun h17=>z01 ?_;rw[f1]at h17;rw[f2];subst h17;dsimp only[sel,rem,nth,del,cat,upd];refine z05 (by simp) (z03 [1,0,0] fun q hq=>⟨{D1 with waits:=[],done:=D1.done+1},⟨rfl,g0,g1,g2,rfl,?_⟩,hq⟩);show D1.done+1=_;omega
end
end Go.Moat
