/- Layer 14: what is known of a disk. -/
import Derived.Test.YtcaaljlhljemoaaGreatP15c
namespace Go.Moat
open Go.Mini
structure MetaS where
 rows:List Row
 own:List Nat
 used:List UInt8
 ino:List Ino
 deriving DecidableEq
structure MetaOk(g:Geo)(M:MetaS):Prop where
 rows:RowsOk M.rows
 ownl:M.own.length=g.G
 own16:∀o∈M.own,o≤16
 usedl:M.used.length=64
 used0:∀i,g.B≤i→z0r M.used i=false
 inol:M.ino.length=g.I
 inok:∀n∈M.ino,n.Ok
abbrev z3i(o:List Nat):List MV:=i64s (o.map fun(x:Nat)=>(x:Int))
theorem z34(o:List Nat):(z3i o).length=o.length:=by simp[zav]
abbrev z2b(l:List Ino):List MV:=z1j z0u l
def z3b(rs:List Row):List Nat:=(rs.map fun r=>[r.1,r.2]).flatten
def z6j(rs:List Row):List UInt8:=z3t 2 (z3b rs)
def z94(o:List Nat):List UInt8:=z1y (o.map UInt8.ofNat) 64
def z5w:List Ino→List (List UInt8)
 | a::b::r=>(z4j a++z4j b)::z5w r
 | _=>[]
def z1z(M:MetaS):List (List UInt8):=z6j M.rows::z94 M.own::M.used::z5w M.ino
theorem z5k:∀(rs:List Row),(z3b rs).length=rs.length * 2
 | []=>rfl
 | r::rs=>by
  have:=z5k rs
  unfold z3b at this ⊢;simp only[List.map_cons,List.flatten_cons,List.length_append,this,List.length_cons,List.length_nil];omega
theorem zn2{rs:List Row}{i:Nat}(h:i<rs.length):(z3b rs)[2 * i]? = some rs[i].1∧(z3b rs)[2 * i+1]? = some rs[i].2:=by
 induction rs generalizing i with
 | nil=>simp at h
 | cons r rs ih=>
  cases i with
  | zero=>exact⟨rfl,rfl⟩
  | succ i=>
   have:=ih (i:=i) (by simpa using h)
   rw[show 2 * (i+1)=(2 * i)+2 by omega,show 2 * i+2+1=(2 * i+1)+2 by omega];simpa[z3b]using this
theorem z10g{rs:List Row}(ok:RowsOk rs):∀x∈z3b rs,x<256^2:=by
 intro x hx;obtain⟨y,hy,hxy⟩:=List.mem_flatten.1 hx;obtain⟨r,hr,rfl⟩:=List.mem_map.1 hy;have:=ok.rng r hr
 simp at hxy;omega
theorem z5f:∀(l:List Ino),(z5w l).length=l.length / 2
 | []=>rfl
 | [_]=>by simp[z5w]
 | a::b::r=>by
  simp only[z5w,List.length_cons,z5f r];omega
theorem za3:∀{l:List Ino}{i:Nat}(h:2 * i+1<l.length),(z5w l)[i]? = some (z4j l[2 * i]++z4j l[2 * i+1])
 | [],i,h=>by simp at h
 | [_],i,h=>by simp at h
 | a::b::r,0,h=>rfl
 | a::b::r,i+1,h=>by
  have:=za3 (l:=r) (i:=i) (by simp at h;omega)
  simp only[z5w,List.getElem?_cons_succ,this];rfl
def z3r(ls:List (Sl×List UInt8)):List MV:=ls.map fun x =>.sl x.1.p x.1.len 1
theorem zfg(ls:List (Sl×List UInt8)):(z3r ls).length=ls.length:=by simp[z3r]
structure RdL(T:HA)(s:Sl)(ls:List (Sl×List UInt8)):Prop where
 hd:RdC T s 1 (z3r ls)
 el:∀x∈ls,RdC T x.1 1 (bytesOf x.2)
section
variable{N:Nat}{β:Type}{l:List HA}{S:β→HA}{T:HA}{s:Sl}
theorem RdL.len{ls:List (Sl×List UInt8)}(h:RdL T s ls):s.len=ls.length:=by
 have:=h.hd.1
 rw[zfg]at this;omega
theorem ze9(n:Nat)(hl:l[n]? = some T){ls:List (Sl×List UInt8)}(h:RdL T s ls){i:Nat}(hi:i<ls.length){f:Sl→M β}(kk:RdC T ls[i].1 1 (bytesOf ls[i].2)→Tri (z00 l) (f ls[i].1) S):Tri (z00 l) (bd (idx 1 s (i:Int)) fun q=>bd (ldL 1 q) f) S:=
 zkz n hl h.hd (p:=ls[i].1.p) (ln:=ls[i].1.len) (by simp[z3r,hi]) (kk (h.el _ (List.getElem_mem hi)))
theorem zrt{rs:List Row}(ok:RowsOk rs)(hr:RdC T s 1 (bytesOf (z6j rs)))(hN:5000<N):Tri (z00 [T]) (F_2b N s) fun r=>pu (r.2=0) (z00 [z08 r.1 2 (z13 rs),T]):=by
 have h16:=ok.len;have hB:(z6j rs).length=64:=by rw[z6j,lays_len,z5k,h16]
 unfold F_2b;refine z02 [0] (zh9 (size:=2) (k:=32) hr (by omega) (by omega) (by rw[hB]) (by rw[hB];omega) hN) fun r=>z04 fun hr2=>z01 ?_;dsimp only[sel,rem,nth,del,cat,upd];have e32:z4c 2 32 (z6j rs)=z3b rs:=by
  have:=zdg (size:=2) (z3b rs) (z10g ok)
  rw[z5k,h16]at this;exact this
 rw[e32];refine z0c 0 rfl fun h0=>?_;rw[z4u,z5k,h16]at h0;refine z05 (by simp[hr2];omega) ?_;have loop:∀(K j:Nat)(w:Sl),16 - j<K→j≤16→Tri (z00 [z08 w 2 (z13 (rs.take j)),z08 r.1 1 (z1u (z3b rs)),T]) (z0l K (F_4c N r) (w,((2 * j:Nat):Int))) fun w=>z00 [z08 w 2 (z13 rs),z08 r.1 1 (z1u (z3b rs)),T]:=by
  intro K;induction K with
  | zero=>intro j w h;omega
  | succ K ih=>
   intro j w h hj;rw[z18];unfold F_4c;by_cases hjk:j<16
   ·refine z07 (by simp;omega) ?_;have hjl:j<rs.length:=by omega
    have g1:(z1u (z3b rs))[2 * j]? = some (.int .u64 rs[j].1):=by unfold z1u;rw[List.getElem?_map,(zn2 hjl).1];rfl
    have g2:(z1u (z3b rs))[2 * j+1]? = some (.int .u64 rs[j].2):=by unfold z1u;rw[List.getElem?_map,(zn2 hjl).2];rfl
    have hro:RdC (z08 r.1 1 (z1u (z3b rs))) r.1 1 (z1u (z3b rs)):=z0k (by rw[z4u,z5k,h16];omega);refine z3h 1 rfl hro g1 ?_;dsimp only;have e1:wr .i64 (((2 * j:Nat):Int)+1)=((2 * j+1:Nat):Int):=by rw[z0i (by omega) (by omega)];omega
    have e2:wr .i64 (((2 * j:Nat):Int)+2)=((2 * (j+1):Nat):Int):=by rw[z0i (by omega) (by omega)];omega
    rw[e1,e2];refine z3h 1 rfl hro g2 ?_;have hrng:=ok.rng _ (List.getElem_mem hjl);rw[wr16 (by omega) (by omega),z0i (by omega) (by omega)];refine z0z fun b=>?_;refine z0c 1 rfl fun hw=>?_;rw[z0p z1c,List.length_take]at hw;refine z02 [1,0] (z2y (T:=pts b (.cells (zau rs[j]) false)) (ts:=zau rs[j]) (rd_pts0 (by simp[zau])) (by omega) (zbs _) (by
     have:most=70368744177664:=rfl
     dsimp only;omega)) fun w'=>z01 ?_
    dsimp only[sel,rem,nth,del,cat,upd];have e3:z13 (rs.take j)++zau rs[j]=z13 (rs.take (j+1)):=zh8 hjl;rw[e3];exact tri_last [0,1,1] (ih (j+1) w' (by omega) (by omega))
   ·obtain rfl:j=16:=by omega
    refine z05 (by simp;omega) (z1l fun q hq=>?_);rw[List.take_of_length_le (by omega)]at hq;exact hq
 refine Tri.pre (B:=z00 [z08 ⟨none,0⟩ 2 (z13 (rs.take 0)),z08 r.1 1 (z1u (z3b rs)),T]) ?_ fun q hq=>z2z (fun q h =>.nil 2 h) hq;refine z02 [0,0,0] (loop N 0 ⟨none,0⟩ (by omega) (by omega)) fun w=>z01 ?_;dsimp only[sel,rem,nth,del,cat,upd];refine z0c 0 rfl fun hw=>?_;refine z02 [0] (z7n ok (z0k hw) (by omega)) fun r=>z04 fun h=>z01 ?_;subst h;exact z05 (by simp) (z03 [0,1] fun q hq=>⟨rfl,hq⟩)
theorem z8n(n:Nat)(hl:l[n]? = some T){is:List Ino}(hr:RdC T s 14 (z2b is)){i:Nat}(hi:i<is.length){f:List MV→M β}(kk:Tri (z00 l) (f (z0u is[i])) S):Tri (z00 l) (bd (idx 14 s (i:Int)) fun q=>bd (ldn 14 q) f) S:=
 zxj n hl hr (by have:=hr.1;rw[z0p z0h]at this;omega) (by rw[zcc z0h hi];exact kk)
theorem zqh{n m:Ino}{f:List MV→M β}{A:HA}(k:Tri A (f (z0u n)) S):Tri A (bd (if(z0u n).length=14∧0+14≤(z0u m).length∧(z0u n).all z0v=true then ret ()else z0d) fun _=>bd (if 0+14≤(z0w (z0u m) 0 (z0u n)).length then ret (((z0w (z0u m) 0 (z0u n)).drop 0).take 14)else z0d) f) S:=by
 rw[if_pos ⟨z0h n,by rw[z0h];omega,z88 n⟩];refine z0s ?_;rw[z9n (by rw[z0h,z0h]),if_pos (by rw[z0h];omega),List.drop_zero,List.take_of_length_le (by rw[z0h];omega)];exact z0s k
theorem zbr{n m:Ino}{f:Unit→M β}{A:HA}(k:Tri A (f ()) S):Tri A (bd (if(z0u n).length=14∧0+14≤(z0u m).length∧(z0u n).all z0v=true then ret ()else z0d) f) S:=by
 rw[if_pos ⟨z0h n,by rw[z0h];omega,z88 n⟩];exact z0s k
theorem zn3{n m:Ino}{f:List MV→M β}{A:HA}(k:Tri A (f (z0u n)) S):Tri A (bd (if 0+14≤(z0w (z0u m) 0 (z0u n)).length then ret (((z0w (z0u m) 0 (z0u n)).drop 0).take 14)else z0d) f) S:=by
 rw[z9n (by rw[z0h,z0h]),if_pos (by rw[z0h];omega),List.drop_zero,List.take_of_length_le (by rw[z0h];omega)];exact z0s k
theorem zfh(n m:Ino):z0w (z0u m) 0 (z0u n)=z0u n:=z9n (by rw[z0h,z0h])
theorem zqi{is:List Ino}{ls:List (Sl×List UInt8)}(hok:∀n∈is,n.Ok)(h2:is.length%2=0)(h64:is.length≤64)(hr:RdL T s ls)(hls:ls.map (·.2)=z5w is)(hN:5000<N) :
  Tri (z00 [T]) (F_2f N s) fun r=>pu (r.2=true) (z00 [z08 r.1 14 (z2b is),T]):=by
 have hlen:=hr.len;have hl2:ls.length=is.length / 2:=by rw[←z5f,←hls,List.length_map]
 unfold F_2f;have step:∀(K:Nat)(w y:Sl)(m j:Nat)(hj:j<is.length)(Q:Sl⊕(Sl×Bool)→HA)(b0 b1:List UInt8),w.len=m→m≤100→RdC T y 1 (bytesOf (b0++z4j is[j]++b1))→y.len≤64→(b0.length=0∨b0.length=32) →
   (∀w',w'.len=m+1→Tri (z00 [z08 w' 14 (z2b (is.take j)++z0u is[j]),T]) (z0l K (F_1y N y) (w',((b0.length+32:Nat):Int))) Q) →
   Tri (z00 [z08 w 14 (z2b (is.take j)),T]) (z0l (K+1) (F_1y N y) (w,(b0.length:Int))) Q:=by
  intro K w y m j hj Q b0 b1 hw hm hy hy64 hb0 kk;have hyl:=z4o hy;rw[List.length_append,List.length_append,z2g]at hyl;rw[z18];unfold F_1y;refine z07 (by simp;omega) ?_;dsimp only;have e1:wr .i64 ((b0.length:Int)+32)=((b0.length+32:Nat):Int):=by rw[z0i (by omega) (by omega)];omega
  rw[e1];refine tri_slc (by omega) (by omega) (by omega) ?_;have hs:=zea hy (lo:=b0.length) (hi:=b0.length+32) (by omega) (by omega);rw[Int.toNat_natCast,Int.toNat_natCast];have e2:((b0++z4j is[j]++b1).drop b0.length).take (b0.length+32 - b0.length)=z4j is[j]:=by
   rw[List.append_assoc,List.drop_left,List.take_left' (by rw[z2g];omega)]
  rw[e2]at hs;have hokj:=hok _ (List.getElem_mem hj);refine z02 [1] (zuq hokj hs hN) fun r=>z04 fun h=>z01 ?_;subst h;dsimp only[sel,rem,nth,del,cat,upd];rw[z89];refine zbr (z05 (by simp) (zn3 ?_));have e3:z2a (z0u Ino.z) [(0,some 14,.agg (z0u is[j]))]=some (z0u is[j]):=by
   simp only[z2a,z0h,Nat.zero_add,Nat.le_refl,and_self,if_true,zfh]
  rw[e3];refine zcr (z0z fun b=>?_);refine z0c 2 rfl fun hwl=>?_;rw[z0p z0h,List.length_take]at hwl;refine z02 [2,0] (z2y (T:=pts b (.cells (z0u is[j]) false)) (rd_pts0 (k:=1) (by rw[z0h])) (by omega) (z88 _) (by
   have:most=70368744177664:=rfl
   dsimp only;omega)) fun w'=>z01 ?_
  dsimp only[sel,rem,nth,del,cat,upd];refine z0c 0 rfl fun hwl'=>?_;rw[List.length_append,z0p z0h,z0h,List.length_take]at hwl';exact tri_last [0,1] (kk w' (by omega))
 have loop:∀(K j:Nat)(w:Sl),ls.length - j<K→j≤ls.length→Tri (z00 [z08 w 14 (z2b (is.take (2 * j))),T]) (z0l K (F_4f N s) (w,(j:Int))) fun r=>exA fun w'=>pu (r=.inl w') (z00 [z08 w' 14 (z2b is),T]):=by
  intro K;induction K with
  | zero=>intro j w h;omega
  | succ K ih=>
   intro j w h hj;rw[z18];unfold F_4f;by_cases hjk:j<ls.length
   ·refine z07 (by simp[hlen];omega) ?_;refine ze9 1 rfl hr hjk fun hy=>?_;have hg:ls[j].2=z4j (is[2 * j]'(by omega))++z4j (is[2 * j+1]'(by omega)):=by
     have h1:=za3 (l:=is) (i:=j) (by omega);rw[←hls,List.getElem?_map,List.getElem?_eq_getElem hjk]at h1;exact Option.some.inj h1
    have hyl:=z4o hy;rw[hg,List.length_append,z2g,z2g]at hyl;obtain⟨K',hK'⟩:∃K',N=K'+3:=⟨N - 3,by omega⟩;refine z0c 0 rfl fun hw=>?_;rw[z0p z0h,List.length_take]at hw;refine z02 [0,0] (Q:=fun r=>exA fun w'=>pu (r=.inl w') (z00 [z08 w' 14 (z2b (is.take (2 * (j+1)))),T])) ?_ fun r=>z1w fun w'=>z04 fun hr'=>z01 ?_
    ·show Tri _ (z0l N _ _) _;conv=>arg 2;arg 1;rw[hK']
     refine step (K'+2) w ls[j].1 (2 * j) (2 * j) (by omega) _ [] (z4j (is[2 * j+1]'(by omega))) (by omega) (by omega) (by rw[List.nil_append,←hg];exact hy) (by omega) (.inl rfl) fun w1 hw1=>?_;have e1:z2b (is.take (2 * j))++z0u (is[2 * j]'(by omega))=z2b (is.take (2 * j+1)):=zh8 (by omega);rw[e1];have hb:([]:List UInt8).length+32=(z4j (is[2 * j]'(by omega))).length:=by rw[z2g];rfl
     rw[hb];refine step (K'+1) w1 ls[j].1 (2 * j+1) (2 * j+1) (by omega) _ (z4j (is[2 * j]'(by omega))) [] (by omega) (by omega) (by rw[List.append_nil,←hg];exact hy) (by omega) (.inr (z2g _)) fun w2 hw2=>?_;have e2:z2b (is.take (2 * j+1))++z0u (is[2 * j+1]'(by omega))=z2b (is.take (2 * (j+1))):=zh8 (by omega);rw[e2,z18];unfold F_1y;refine z05 (by simp[z2g];omega) (z1l fun q hq=>⟨w2,rfl,hq⟩)
    ·subst hr';dsimp only;rw[z0i (by omega) (by omega)];exact ih (j+1) w' (by omega) (by omega)
   ·obtain rfl:j=ls.length:=by omega
    refine z05 (by simp[hlen]) (z1l fun q hq=>⟨w,rfl,?_⟩);rw[List.take_of_length_le (by omega)]at hq;exact hq
 refine Tri.pre (B:=z00 [z08 ⟨none,0⟩ 14 (z2b (is.take 0)),T]) ?_ fun q hq=>z2z (fun q h =>.nil 14 h) hq;refine z02 [0,0] (loop N 0 ⟨none,0⟩ (by omega) (by omega)) fun r=>z1w fun w'=>z04 fun hr'=>z01 ?_;subst hr';exact z03 [0,0] fun q hq=>⟨rfl,hq⟩
structure RdM(T:HA)(m:Sl×Sl×Sl×Sl)(M:MetaS):Prop where
 rows:RdC T m.1 2 (z13 M.rows)
 own:RdC T m.2.1 1 (z3i M.own)
 used:RdC T m.2.2.1 1 (bytesOf M.used)
 ino:RdC T m.2.2.2 14 (z2b M.ino)
theorem zxk{bs:List UInt8}{lo hi:Nat}(h:∀i,lo≤i→z0r bs i=false):z39 bs lo hi=0:=by
 unfold z39;rw[List.length_eq_zero_iff,List.filter_eq_nil_iff];intro i hi';rw[List.mem_range']at hi';obtain⟨k,hk,rfl⟩:=hi';simpa using h (lo+k) (by omega)
theorem zim{g:Geo}{M:MetaS}{m:Sl×Sl×Sl×Sl}(hg:g.ok)(ok:MetaOk g M)(hr:RdM T m M)(hN:5000<N):Tri (z00 [T]) (F_1a N g.t m) fun r=>pu (r=true) (z00 [T]):=by
 have l2:m.2.1.len=M.own.length:=by
  have:=hr.own.1
  rw[z34]at this;omega
 have l3:=z4o hr.used;have l4:m.2.2.2.len=M.ino.length:=by
  have:=hr.ino.1
  rw[z0p z0h]at this;omega
 have hgG:=hg.g2;have hgI:=hg.i2;have hgB:=hg.gp;unfold F_1a;have e:=zcv (N:=N) hg;unfold Geo.t at e ⊢;rw[e];refine z0s ?_;refine z02 [0] (Q:=fun c=>pu (c=false) (z00 [T])) ?_ fun c=>z04 fun hc=>z01 ?_
 ·refine z07 rfl (z02 [0] (z7n ok.rows hr.rows (by omega)) fun r=>z04 fun h=>z01 (z03 [0] fun q hq=>⟨by rw[h];rfl,hq⟩))
 subst hc;dsimp only[sel,rem,nth,del,cat,upd];refine z05 (by simp[l2,l3,l4,ok.ownl,ok.usedl,ok.inol]) ?_;have loop1:∀(K j:Nat),M.own.length - j<K→j≤M.own.length→Tri (z00 [T]) (z0l K (F_4h N m) (j:Int)) fun r=>pu (r=.inl ()) (z00 [T]):=by
  intro K;induction K with
  | zero=>intro j h;omega
  | succ K ih=>
   intro j h hj;rw[z18];unfold F_4h;by_cases hjk:j<M.own.length
   ·refine z07 (by simp[l2];omega) ?_;refine z3h 0 rfl hr.own (v:=(M.own[j]:Nat)) (k :=.i64) (by simp[i64s,hjk]) ?_;have:=ok.own16 _ (List.getElem_mem hjk)
    refine z05 (by simp;omega) ?_;rw[z0i (by have:=ok.ownl;omega) (by have:=ok.ownl;omega)];exact ih (j+1) (by omega) (by omega)
   ·obtain rfl:j=M.own.length:=by omega
    exact z05 (by simp[l2]) (z1l fun q hq=>⟨rfl,hq⟩)
 have loop2:∀(K j:Nat),M.ino.length - j<K→j≤M.ino.length→Tri (z00 [T]) (z0l K (F_4i N m) (j:Int)) fun r=>pu (r=.inl ()) (z00 [T]):=by
  intro K;induction K with
  | zero=>intro j h;omega
  | succ K ih=>
   intro j h hj;rw[z18];unfold F_4i;by_cases hjk:j<M.ino.length
   ·refine z07 (by simp[l4];omega) ?_;refine z8n 0 rfl hr.ino hjk ?_;rw[z89];refine zqh ?_;rw[zb9 (by omega),Ino.ok_iff.2 (ok.inok _ (List.getElem_mem hjk))];refine z0s (z05 (by simp) ?_);rw[z0i (by have:=ok.inol;omega) (by have:=ok.inol;omega)];exact ih (j+1) (by omega) (by omega)
   ·obtain rfl:j=M.ino.length:=by omega
    exact z05 (by simp[l4]) (z1l fun q hq=>⟨rfl,hq⟩)
 refine z02 [0] (loop1 N 0 (by have:=ok.ownl;omega) (by omega)) fun r=>z04 fun h=>z01 ?_;subst h;dsimp only[sel,rem,nth,del,cat,upd];refine z02 [0] (loop2 N 0 (by have:=ok.inol;omega) (by omega)) fun r=>z04 fun h=>z01 ?_;subst h;dsimp only[sel,rem,nth,del,cat,upd];have e1:wr .i64 ((g.G:Int) * (g.P:Int))=(g.B:Int):=by
  have:(g.G:Int) * (g.P:Int)=((g.G * g.P:Nat):Int):=by simp
  rw[this,z0i (by omega) (by omega)];rfl
 have e2:wr .i64 ((8:Int) * (m.2.2.1.len:Int))=((8 * M.used.length:Nat):Int):=by
  rw[l3,ok.usedl];decide
 rw[e1,e2];refine z02 [0] (zfi hr.used (by have:=ok.usedl;omega) (by have:=ok.usedl;unfold Geo.B;omega) (Nat.le_refl _) hN) fun r=>z04 fun h=>z01 (z03 [0] fun q hq=>⟨?_,hq⟩);rw[h,zxk ok.used0];rfl
theorem z15k(x:UInt8):leN [x]=x.toNat:=by simp[leN]
theorem zl0:∀(bs:List UInt8),z4c 1 bs.length bs=bs.map UInt8.toNat
 | []=>rfl
 | b::r=>by
  have:=zl0 r
  simp only[List.length_cons,z4c,List.take_succ_cons,List.take_zero,List.drop_succ_cons,List.drop_zero,z15k,this,List.map_cons]
theorem zuk{g:Geo}{M:MetaS}{ls:List (Sl×List UInt8)}(hg:g.ok)(ok:MetaOk g M)(hr:RdL T s ls)(hls:ls.map (·.2)=z1z M)(hN:5000<N) :
  Tri (z00 [T]) (F_2g N g.t s) fun r=>pu (r.2=0) (z00 [z08 r.1.1 2 (z13 M.rows),z08 r.1.2.1 1 (z3i M.own),z08 r.1.2.2.1 1 (bytesOf M.used),z08 r.1.2.2.2 14 (z2b M.ino),T]):=by
 have hgG:=hg.g2;have hgI:=hg.i2;have hi3:=hg.i3;have hlen:=hr.len;have hll:ls.length=3+M.ino.length / 2:=by
  have:=congrArg List.length hls
  rw[List.length_map]at this;simp only[z1z,List.length_cons,z5f]at this;omega
 have hM:g.M=3+g.I / 2:=rfl;have hil:=ok.inol;have hol:=ok.ownl;have hul:=ok.usedl;have rB:(z6j M.rows).length=64:=by rw[z6j,lays_len,z5k,ok.rows.len]
 have oB:(z94 M.own).length=64:=filled_len (by rw[List.length_map];omega);have get:∀i(hi:i<ls.length),ls[i].2=(z1z M)[i]'(by rw[←hls,List.length_map];exact hi):=by
  intro i hi;simp[←hls]
 have b64:∀i(hi:i<ls.length),ls[i].2.length=64:=by
  intro i hi;rw[get i hi];match i,hi with
  | 0,_=>exact rB
  | 1,_=>exact oB
  | 2,_=>exact hul
  | i+3,hi=>
   have h1:=za3 (l:=M.ino) (i:=i) (by omega);have h2:(z5w M.ino)[i]'(by rw[z5f];omega)=z4j (M.ino[2 * i]'(by omega))++z4j (M.ino[2 * i+1]'(by omega)):=by
    rw[List.getElem?_eq_getElem (by rw[z5f];omega)]at h1;exact Option.some.inj h1
   show((z5w M.ino)[i]'_).length=64;rw[h2,List.length_append,z2g,z2g]
 have sl64:∀i(hi:i<ls.length),ls[i].1.len=64:=by
  intro i hi;have:=z4o (hr.el _ (List.getElem_mem hi))
  rw[b64 i hi]at this;exact this
 unfold F_2g;have e:=zcv (N:=N) hg;have e':=zec (N:=N) hg;unfold Geo.t at e e' ⊢;rw[e,e'];refine z0s ?_;rw[if_pos (by simp)];refine z0s (z0s ?_);refine z05 (by simp;omega) ?_;have loop1:∀(K j:Nat),ls.length - j<K→j≤ls.length→Tri (z00 [T]) (z0l K (F_4j N s) ((j:Int),(⟨none,0⟩,⟨none,0⟩,⟨none,0⟩,⟨none,0⟩))) fun r=>pu (r=.inl (⟨none,0⟩,⟨none,0⟩,⟨none,0⟩,⟨none,0⟩)) (z00 [T]):=by
  intro K;induction K with
  | zero=>intro j h;omega
  | succ K ih=>
   intro j h hj;rw[z18];unfold F_4j;by_cases hjk:j<ls.length
   ·refine z07 (by simp[hlen];omega) ?_;refine ze9 0 rfl hr hjk fun _=>?_;refine z05 (by rw[sl64 j hjk];simp) ?_;dsimp only;rw[z0i (by omega) (by omega)];exact ih (j+1) (by omega) (by omega)
   ·obtain rfl:j=ls.length:=by omega
    exact z05 (by simp[hlen]) (z1l fun q hq=>⟨rfl,hq⟩)
 refine z02 [0] (loop1 N 0 (by omega) (by omega)) fun r=>z04 fun h=>z01 ?_;subst h;dsimp only[sel,rem,nth,del,cat,upd];refine ze9 (i:=0) 0 rfl hr (by omega) fun h0=>?_;rw[get 0 (by omega)]at h0;refine z02 [0] (zrt ok.rows h0 hN) fun r15=>z04 fun h15=>z01 ?_;dsimp only[sel,rem,nth,del,cat,upd];refine tri_slc (lo:=3) (hi:=(s.len:Int)) (by omega) (by omega) (by omega) ?_;have hsub:RdL T (z3q 1 s 3 s.len) (ls.drop 3):=by
  refine⟨?_,fun x hx=>hr.el x (List.mem_of_mem_drop hx)⟩;have:=hr.hd.sub (lo:=3) (hi:=s.len) (by omega) (Nat.le_refl _)
  have e3:((z3r ls).drop (3 * 1)).take ((s.len - 3) * 1)=z3r (ls.drop 3):=by
   rw[List.take_of_length_le (by rw[List.length_drop,zfg];omega)];simp[z3r,List.map_drop]
  rwa [e3]at this
 rw[Int.toNat_natCast,show(3:Int).toNat=3 from rfl];have hls3:(ls.drop 3).map (·.2)=z5w M.ino:=by
  rw[List.map_drop,hls];rfl
 refine z02 [1] (zqi ok.inok (by omega) (by omega) hsub hls3 hN) fun r17=>z04 fun h17=>z01 ?_;dsimp only[sel,rem,nth,del,cat,upd];refine z05 (by simp[h15,h17]) ?_;refine ze9 (i:=1) 1 rfl hr (by omega) fun h1=>?_;rw[get 1 (by omega)]at h1;have h1':RdC T (ls[1]'(by omega)).1 1 (bytesOf (z94 M.own)):=h1;refine z02 [1] (zh9 (size:=1) (k:=64) h1' (by omega) (by omega) (by rw[oB]) (by rw[oB];omega) hN) fun r20=>z04 fun h20=>z01 ?_;dsimp only[sel,rem,nth,del,cat,upd];refine ze9 (i:=2) 1 rfl hr (by omega) fun h2=>?_;rw[get 2 (by omega)]at h2;have h2':RdC T (ls[2]'(by omega)).1 1 (bytesOf M.used):=h2;refine z02 [1] (show Tri _ (zbq 1 1 _) _ from zat h2' (by omega) (z4z _) (by
  have:most=70368744177664:=rfl
  have:=sl64 2 (by omega)
  omega)) fun r23=>z01 ?_
 dsimp only[sel,rem,nth,del,cat,upd];have e64:z4c 1 64 (z94 M.own)=M.own++List.replicate (64 - g.G) 0:=by
  have h3:=zl0 (z94 M.own);rw[oB]at h3;rw[h3];unfold z94 z1y;rw[List.map_append,List.map_map,List.length_map,hol];have:M.own.map (UInt8.toNat ∘ UInt8.ofNat)=M.own:=by
   conv=>rhs;rw[←List.map_id M.own]
   apply List.map_congr_left;intro o ho;have:=ok.own16 o ho
   simp;omega
  rw[this];simp
 rw[e64];have gown:∀j(hj:j<64),(z1u (M.own++List.replicate (64 - g.G) 0))[j]? = some (.int .u64 (if h:j<M.own.length then M.own[j]else 0:Nat)):=by
  intro j hj;unfold z1u;rw[List.getElem?_map];by_cases h:j<M.own.length
  ·rw[List.getElem?_append_left h,List.getElem?_eq_getElem h,dif_pos h];rfl
  ·rw[List.getElem?_append_right (by omega),List.getElem?_replicate,if_pos (by omega),dif_neg h];rfl
 refine z0c 2 rfl fun h20l=>?_;rw[z4u,List.length_append,List.length_replicate]at h20l;have loop2:∀(K j:Nat)(w:Sl),64 - j<K→j≤64→Tri (z00 [z08 w 1 (z3i (M.own.take j)),z08 r20.1 1 (z1u (M.own++List.replicate (64 - g.G) 0))])
   (z0l K (F_4k N (g.J,g.I,g.G,g.P) r20) ((j:Int),(⟨none,0⟩,⟨none,0⟩,⟨none,0⟩,⟨none,0⟩),(r15.1,w,r23,r17.1)))
   fun r=>exA fun w'=>pu (r=.inl ((⟨none,0⟩,⟨none,0⟩,⟨none,0⟩,⟨none,0⟩),(r15.1,w',r23,r17.1))) (z00 [z08 w' 1 (z3i M.own)]):=by
  intro K;induction K with
  | zero=>intro j w h;omega
  | succ K ih=>
   intro j w h hj;rw[z18];unfold F_4k;by_cases hjk:j<64
   ·refine z07 (by simp;omega) ?_;refine z3h 1 rfl (z0k (by rw[z4u,List.length_append,List.length_replicate];omega)) (gown j hjk) ?_;dsimp only;rw[z0i (n:=(j:Int)+1) (by omega) (by omega)];by_cases hjg:j<M.own.length
    ·rw[dif_pos hjg];have ho:=ok.own16 _ (List.getElem_mem hjg);rw[z0i (n:=((M.own[j]:Nat):Int)) (by omega) (by omega)];refine z02 [0,0] (Q:=fun r=>exA fun w'=>pu (r=.inl ((⟨none,0⟩,⟨none,0⟩,⟨none,0⟩,⟨none,0⟩),(r15.1,w',r23,r17.1))) (z00 [z08 w' 1 (z3i (M.own.take (j+1))),z08 r20.1 1 (z1u (M.own++List.replicate (64 - g.G) 0))])) ?_ fun r=>z1w fun w'=>z04 fun hr'=>z01 ?_
     ·refine z07 (by simp;omega) ?_;refine z0z fun b=>?_;refine z0c 1 rfl fun hw=>?_;rw[z34,List.length_take]at hw;refine z02 [1,0] (z2y (T:=pts b (.cells [.int .i64 (M.own[j]:Nat)] false)) (rd_pts0 (by simp)) (by omega) rfl (by
       have:most=70368744177664:=rfl
       dsimp only;omega)) fun w'=>z01 ?_
      refine z03 [0,1] fun q hq=>⟨w',rfl,?_⟩;have e5:z3i (M.own.take j)++[.int .i64 (M.own[j]:Nat)]=z3i (M.own.take (j+1)):=by
       unfold z3i i64s;rw[List.take_succ_eq_append_getElem hjg,List.map_append,List.map_append];rfl
      rw[e5]at hq;exact hq
     ·subst hr';exact ih (j+1) w' (by omega) (by omega)
    ·rw[dif_neg hjg];refine z02 [0,0] (Q:=fun r=>pu (r=.inl ((⟨none,0⟩,⟨none,0⟩,⟨none,0⟩,⟨none,0⟩),(r15.1,w,r23,r17.1))) (z00 [z08 w 1 (z3i (M.own.take j)),z08 r20.1 1 (z1u (M.own++List.replicate (64 - g.G) 0))])) ?_ fun r=>z04 fun hr'=>z01 ?_
     ·refine z05 (by simp;omega) (z05 (by simp) (z03 [0,0] fun q hq=>⟨rfl,hq⟩))
     ·subst hr';have e6:M.own.take j=M.own.take (j+1):=by rw[List.take_of_length_le (by omega),List.take_of_length_le (by omega)]
      rw[e6];exact ih (j+1) w (by omega) (by omega)
   ·obtain rfl:j=64:=by omega
    refine z05 (by simp;omega) (z03 [0] fun q hq=>⟨w,rfl,?_⟩);rw[List.take_of_length_le (by omega)]at hq;exact hq
 refine Tri.pre (B:=z00 [z08 ⟨none,0⟩ 1 (z3i (M.own.take 0)),z08 r23 1 (bytesOf M.used),T,z08 r20.1 1 (z1u (M.own++List.replicate (64 - g.G) 0)),z08 r17.1 14 (z2b M.ino),z08 r15.1 2 (z13 M.rows)]) ?_ fun q hq=>z2z (fun q h =>.nil 1 h) hq;refine z02 [0,2] (loop2 N 0 ⟨none,0⟩ (by omega) (by omega)) fun r=>z1w fun w'=>z04 fun hr'=>z01 ?_;subst hr';dsimp only[sel,rem,nth,del,cat,upd];refine z0c 0 rfl fun hw=>z0c 1 rfl fun hu=>z0c 3 rfl fun hi=>z0c 4 rfl fun hro=>?_;refine z02 [4,0,0,1] (zim (T:=z00 [z08 r15.1 2 (z13 M.rows),z08 w' 1 (z3i M.own),z08 r23 1 (bytesOf M.used),z08 r17.1 14 (z2b M.ino)]) (m:=(r15.1,w',r23,r17.1)) hg ok ⟨(z0k hro).at 0 rfl,(z0k hw).at 1 rfl,(z0k hu).at 2 rfl,(z0k hi).at 3 rfl⟩ hN |>.pre fun q hq=>by rw[z0y];exact hq) fun r=>z04 fun h=>z01 (z01 ?_);subst h;dsimp only[sel,rem,nth,del,cat,upd];exact z05 (by simp) (z03 [0,0,0,0,0] fun q hq=>⟨rfl,hq⟩)
end
end Go.Moat
