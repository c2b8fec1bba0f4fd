/- Layer 14: what is known of a disk. -/
import Derived.Test.YtcaaljlhljemoaaGreatP15c
namespace Go.Moat
open Go.Mini
structure MetaS where
 rows:List Row
 own:List Nat
 used:List UInt8
 ino:List Ino
 deriving DecidableEq
structure MetaOk (g:Geo) (M:MetaS):Prop where
 rows:RowsOk M.rows
 ownl:M.own.length=g.G
 own16:∀o∈M.own,o≤16
 usedl:M.used.length=64
 used0:∀i,g.B≤i→getBit M.used i=false
 inol:M.ino.length=g.I
 inok:∀n∈M.ino,n.Ok
abbrev ownC (o:List Nat):List MV:=i64s (o.map fun (x:Nat)=>(x:Int))
theorem z1i (o:List Nat):(ownC o).length=o.length:=by simp [z60]
abbrev inosC (l:List Ino):List MV:=catL inoC l
def rowNs (rs:List Row):List Nat:=(rs.map fun r=>[r.1,r.2]).flatten
def rowsB (rs:List Row):List UInt8:=lays 2 (rowNs rs)
def ownB (o:List Nat):List UInt8:=filled (o.map UInt8.ofNat) 64
def pairsB:List Ino→List (List UInt8)
 | a::b::r=>(inoB a++inoB b)::pairsB r
 | _=>[]
def metaB (M:MetaS):List (List UInt8):=rowsB M.rows::ownB M.own::M.used::pairsB M.ino
theorem z2x:∀(rs:List Row),(rowNs rs).length=rs.length * 2
 | []=>rfl
 | r::rs=>by
  have:=z2x rs
  unfold rowNs at this ⊢
  simp only [List.map_cons,List.flatten_cons,List.length_append,this,List.length_cons,List.length_nil]
  omega
theorem zfr {rs:List Row} {i:Nat} (h:i<rs.length):(rowNs rs)[2 * i]? = some rs[i].1∧(rowNs rs)[2 * i+1]? = some rs[i].2:=by
 induction rs generalizing i with
 | nil=>simp at h
 | cons r rs ih=>
  cases i with
  | zero=>exact ⟨rfl,rfl⟩
  | succ i=>
   have:=ih (i:=i) (by simpa using h)
   rw [show 2 * (i+1)=(2 * i)+2 by omega,show 2 * i+2+1=(2 * i+1)+2 by omega]
   simpa [rowNs] using this
theorem zrm {rs:List Row} (ok:RowsOk rs):∀x∈rowNs rs,x<256^2:=by
 intro x hx
 obtain ⟨y,hy,hxy⟩:=List.mem_flatten.1 hx
 obtain ⟨r,hr,rfl⟩:=List.mem_map.1 hy
 have:=ok.rng r hr
 simp at hxy
 omega
theorem z2t:∀(l:List Ino),(pairsB l).length=l.length / 2
 | []=>rfl
 | [_]=>by simp [pairsB]
 | a::b::r=>by
  simp only [pairsB,List.length_cons,z2t r]
  omega
theorem z5k:∀ {l:List Ino} {i:Nat} (h:2 * i+1<l.length),(pairsB l)[i]? = some (inoB l[2 * i]++inoB l[2 * i+1])
 | [],i,h=>by simp at h
 | [_],i,h=>by simp at h
 | a::b::r,0,h=>rfl
 | a::b::r,i+1,h=>by
  have:=z5k (l:=r) (i:=i) (by simp at h;omega)
  simp only [pairsB,List.getElem?_cons_succ,this]
  rfl
def slsC (ls:List (Sl×List UInt8)):List MV:=ls.map fun x =>.sl x.1.p x.1.len 1
theorem z94 (ls:List (Sl×List UInt8)):(slsC ls).length=ls.length:=by simp [slsC]
structure RdL (T:HA) (s:Sl) (ls:List (Sl×List UInt8)):Prop where
 hd:RdC T s 1 (slsC ls)
 el:∀x∈ls,RdC T x.1 1 (bytesOf x.2)
section
variable {N:Nat} {β:Type} {l:List HA} {S:β→HA} {T:HA} {s:Sl}
theorem RdL.len {ls:List (Sl×List UInt8)} (h:RdL T s ls):s.len=ls.length:=by
 have:=h.hd.1
 rw [z94] at this
 omega
theorem z88 (n:Nat) (hl:l[n]? = some T) {ls:List (Sl×List UInt8)} (h:RdL T s ls) {i:Nat} (hi:i<ls.length) {f:Sl→M β} (kk:RdC T ls[i].1 1 (bytesOf ls[i].2)→Tri (stars l) (f ls[i].1) S):Tri (stars l) (bd (idx 1 s (i:Int)) fun q=>bd (ldL 1 q) f) S:=
 zdx n hl h.hd (p:=ls[i].1.p) (ln:=ls[i].1.len) (by simp [slsC,hi]) (kk (h.el _ (List.getElem_mem hi)))
theorem zjm {rs:List Row} (ok:RowsOk rs) (hr:RdC T s 1 (bytesOf (rowsB rs))) (hN:5000<N):Tri (stars [T]) (F_26 N s) fun r=>pu (r.2=0) (stars [OwnA r.1 2 (rowsC rs),T]):=by
 have h16:=ok.len
 have hB:(rowsB rs).length=64:=by rw [rowsB,z1e,z2x,h16]
 unfold F_26
 refine z01 [0] (zag (size:=2) (k:=32) hr (by omega) (by omega) (by rw [hB]) (by rw [hB];omega) hN) fun r=>z03 fun hr2=>z00 ?_
 dsimp only [sel,rem,nth,del,cat,upd]
 have e32:chunks 2 32 (rowsB rs)=rowNs rs:=by
  have:=z7s (size:=2) (rowNs rs) (zrm ok)
  rw [z2x,h16] at this
  exact this
 rw [e32]
 refine z0a 0 rfl fun h0=>?_
 rw [z2h,z2x,h16] at h0
 refine z04 (by simp [hr2];omega) ?_
 have loop:∀(K j:Nat) (w:Sl),16 - j<K→j≤16→Tri (stars [OwnA w 2 (rowsC (rs.take j)),OwnA r.1 1 (u64s (rowNs rs)),T]) (iter K (F_4d N r) (w,((2 * j:Nat):Int))) fun w=>stars [OwnA w 2 (rowsC rs),OwnA r.1 1 (u64s (rowNs rs)),T]:=by
  intro K
  induction K with
  | zero=>intro j w h;omega
  | succ K ih=>
   intro j w h hj
   rw [z0q]
   unfold F_4d
   by_cases hjk:j<16
   ·refine z08 (by simp;omega) ?_
    have hjl:j<rs.length:=by omega
    have g1:(u64s (rowNs rs))[2 * j]? = some (.int .u64 rs[j].1):=by unfold u64s;rw [List.getElem?_map,(zfr hjl).1];rfl
    have g2:(u64s (rowNs rs))[2 * j+1]? = some (.int .u64 rs[j].2):=by unfold u64s;rw [List.getElem?_map,(zfr hjl).2];rfl
    have hro:RdC (OwnA r.1 1 (u64s (rowNs rs))) r.1 1 (u64s (rowNs rs)):=z0e (by rw [z2h,z2x,h16];omega)
    refine z1t 1 rfl hro g1 ?_
    dsimp only
    have e1:wr .i64 (((2 * j:Nat):Int)+1)=((2 * j+1:Nat):Int):=by rw [wr64 (by omega) (by omega)];omega
    have e2:wr .i64 (((2 * j:Nat):Int)+2)=((2 * (j+1):Nat):Int):=by rw [wr64 (by omega) (by omega)];omega
    rw [e1,e2]
    refine z1t 1 rfl hro g2 ?_
    have hrng:=ok.rng _ (List.getElem_mem hjl)
    rw [wr16 (by omega) (by omega),wr64 (by omega) (by omega)]
    refine z0m fun b=>?_
    refine z0a 1 rfl fun hw=>?_
    rw [z0i z0r,List.length_take] at hw
    refine z01 [1,0] (z1u (T:=pts b (.cells (rowC rs[j]) false)) (ts:=rowC rs[j]) (z18 (by simp [rowC])) (by omega) (z6n _) (by
     have:most=70368744177664:=rfl
     dsimp only
     omega)) fun w'=>z00 ?_
    dsimp only [sel,rem,nth,del,cat,upd]
    have e3:rowsC (rs.take j)++rowC rs[j]=rowsC (rs.take (j+1)):=zak hjl
    rw [e3]
    exact z16 [0,1,1] (ih (j+1) w' (by omega) (by omega))
   ·obtain rfl:j=16:=by omega
    refine z04 (by simp;omega) (z0y fun q hq=>?_)
    rw [List.take_of_length_le (by omega)] at hq
    exact hq
 refine Tri.pre (B:=stars [OwnA ⟨none,0⟩ 2 (rowsC (rs.take 0)),OwnA r.1 1 (u64s (rowNs rs)),T]) ?_ fun q hq=>z1w (fun q h =>.nil 2 h) hq
 refine z01 [0,0,0] (loop N 0 ⟨none,0⟩ (by omega) (by omega)) fun w=>z00 ?_
 dsimp only [sel,rem,nth,del,cat,upd]
 refine z0a 0 rfl fun hw=>?_
 refine z01 [0] (z3c ok (z0e hw) (by omega)) fun r=>z03 fun h=>z00 ?_
 subst h
 exact z04 (by simp) (z02 [0,1] fun q hq=>⟨rfl,hq⟩)
theorem z3v (n:Nat) (hl:l[n]? = some T) {is:List Ino} (hr:RdC T s 14 (inosC is)) {i:Nat} (hi:i<is.length) {f:List MV→M β} (kk:Tri (stars l) (f (inoC is[i])) S):Tri (stars l) (bd (idx 14 s (i:Int)) fun q=>bd (ldn 14 q) f) S:=
 zpa n hl hr (by have:=hr.1;rw [z0i z0c] at this;omega) (by rw [z71 z0c hi];exact kk)
theorem zij {n m:Ino} {f:List MV→M β} {A:HA} (k:Tri A (f (inoC n)) S):Tri A (bd (if (inoC n).length=14∧0+14≤(inoC m).length∧(inoC n).all isCell=true then ret () else fail) fun _=>bd (if 0+14≤(over (inoC m) 0 (inoC n)).length then ret (((over (inoC m) 0 (inoC n)).drop 0).take 14) else fail) f) S:=by
 rw [if_pos ⟨z0c n,by rw [z0c];omega,z4e n⟩]
 refine z0j ?_
 rw [z5c (by rw [z0c,z0c]),if_pos (by rw [z0c];omega),List.drop_zero,List.take_of_length_le (by rw [z0c];omega)]
 exact z0j k
theorem z59 {n m:Ino} {f:Unit→M β} {A:HA} (k:Tri A (f ()) S):Tri A (bd (if (inoC n).length=14∧0+14≤(inoC m).length∧(inoC n).all isCell=true then ret () else fail) f) S:=by
 rw [if_pos ⟨z0c n,by rw [z0c];omega,z4e n⟩]
 exact z0j k
theorem zfs {n m:Ino} {f:List MV→M β} {A:HA} (k:Tri A (f (inoC n)) S):Tri A (bd (if 0+14≤(over (inoC m) 0 (inoC n)).length then ret (((over (inoC m) 0 (inoC n)).drop 0).take 14) else fail) f) S:=by
 rw [z5c (by rw [z0c,z0c]),if_pos (by rw [z0c];omega),List.drop_zero,List.take_of_length_le (by rw [z0c];omega)]
 exact z0j k
theorem z7b (n m:Ino):over (inoC m) 0 (inoC n)=inoC n:=z5c (by rw [z0c,z0c])
theorem zik {is:List Ino} {ls:List (Sl×List UInt8)} (hok:∀n∈is,n.Ok) (h2:is.length%2=0) (h64:is.length≤64) (hr:RdL T s ls) (hls:ls.map (·.2)=pairsB is) (hN:5000<N) :
  Tri (stars [T]) (F_2a N s) fun r=>pu (r.2=true) (stars [OwnA r.1 14 (inosC is),T]):=by
 have hlen:=hr.len
 have hl2:ls.length=is.length / 2:=by rw [←z2t,←hls,List.length_map]
 unfold F_2a
 have step:∀(K:Nat) (w y:Sl) (m j:Nat) (hj:j<is.length) (Q:Sl⊕(Sl×Bool)→HA) (b0 b1:List UInt8),w.len=m→m≤100→RdC T y 1 (bytesOf (b0++inoB is[j]++b1))→y.len≤64→(b0.length=0∨b0.length=32) →
   (∀w',w'.len=m+1→Tri (stars [OwnA w' 14 (inosC (is.take j)++inoC is[j]),T]) (iter K (F_1s N y) (w',((b0.length+32:Nat):Int))) Q) →
   Tri (stars [OwnA w 14 (inosC (is.take j)),T]) (iter (K+1) (F_1s N y) (w,(b0.length:Int))) Q:=by
  intro K w y m j hj Q b0 b1 hw hm hy hy64 hb0 kk
  have hyl:=z2f hy
  rw [List.length_append,List.length_append,z1j] at hyl
  rw [z0q]
  unfold F_1s
  refine z08 (by simp;omega) ?_
  dsimp only
  have e1:wr .i64 ((b0.length:Int)+32)=((b0.length+32:Nat):Int):=by rw [wr64 (by omega) (by omega)];omega
  rw [e1]
  refine z2p (by omega) (by omega) (by omega) ?_
  have hs:=z8a hy (lo:=b0.length) (hi:=b0.length+32) (by omega) (by omega)
  rw [Int.toNat_natCast,Int.toNat_natCast]
  have e2:((b0++inoB is[j]++b1).drop b0.length).take (b0.length+32 - b0.length)=inoB is[j]:=by
   rw [List.append_assoc,List.drop_left,List.take_left' (by rw [z1j];omega)]
  rw [e2] at hs
  have hokj:=hok _ (List.getElem_mem hj)
  refine z01 [1] (zmb hokj hs hN) fun r=>z03 fun h=>z00 ?_
  subst h
  dsimp only [sel,rem,nth,del,cat,upd]
  rw [zino_c]
  refine z59 (z04 (by simp) (zfs ?_))
  have e3:fillV (inoC Ino.z) [(0,some 14,.agg (inoC is[j]))]=some (inoC is[j]):=by
   simp only [fillV,z0c,Nat.zero_add,Nat.le_refl,and_self,if_true,z7b]
  rw [e3]
  refine z5j (z0m fun b=>?_)
  refine z0a 2 rfl fun hwl=>?_
  rw [z0i z0c,List.length_take] at hwl
  refine z01 [2,0] (z1u (T:=pts b (.cells (inoC is[j]) false)) (z18 (k:=1) (by rw [z0c])) (by omega) (z4e _) (by
   have:most=70368744177664:=rfl
   dsimp only
   omega)) fun w'=>z00 ?_
  dsimp only [sel,rem,nth,del,cat,upd]
  refine z0a 0 rfl fun hwl'=>?_
  rw [List.length_append,z0i z0c,z0c,List.length_take] at hwl'
  exact z16 [0,1] (kk w' (by omega))
 have loop:∀(K j:Nat) (w:Sl),ls.length - j<K→j≤ls.length→Tri (stars [OwnA w 14 (inosC (is.take (2 * j))),T]) (iter K (F_4g N s) (w,(j:Int))) fun r=>exA fun w'=>pu (r=.inl w') (stars [OwnA w' 14 (inosC is),T]):=by
  intro K
  induction K with
  | zero=>intro j w h;omega
  | succ K ih=>
   intro j w h hj
   rw [z0q]
   unfold F_4g
   by_cases hjk:j<ls.length
   ·refine z08 (by simp [hlen];omega) ?_
    refine z88 1 rfl hr hjk fun hy=>?_
    have hg:ls[j].2=inoB (is[2 * j]'(by omega))++inoB (is[2 * j+1]'(by omega)):=by
     have h1:=z5k (l:=is) (i:=j) (by omega)
     rw [←hls,List.getElem?_map,List.getElem?_eq_getElem hjk] at h1
     exact Option.some.inj h1
    have hyl:=z2f hy
    rw [hg,List.length_append,z1j,z1j] at hyl
    obtain ⟨K',hK'⟩:∃K',N=K'+3:=⟨N - 3,by omega⟩
    refine z0a 0 rfl fun hw=>?_
    rw [z0i z0c,List.length_take] at hw
    refine z01 [0,0] (Q:=fun r=>exA fun w'=>pu (r=.inl w') (stars [OwnA w' 14 (inosC (is.take (2 * (j+1)))),T])) ?_ fun r=>z10 fun w'=>z03 fun hr'=>z00 ?_
    ·show Tri _ (iter N _ _) _
     conv=>arg 2;arg 1;rw [hK']
     refine step (K'+2) w ls[j].1 (2 * j) (2 * j) (by omega) _ [] (inoB (is[2 * j+1]'(by omega))) (by omega) (by omega) (by rw [List.nil_append,←hg];exact hy) (by omega) (.inl rfl) fun w1 hw1=>?_
     have e1:inosC (is.take (2 * j))++inoC (is[2 * j]'(by omega))=inosC (is.take (2 * j+1)):=zak (by omega)
     rw [e1]
     have hb:([]:List UInt8).length+32=(inoB (is[2 * j]'(by omega))).length:=by rw [z1j];rfl
     rw [hb]
     refine step (K'+1) w1 ls[j].1 (2 * j+1) (2 * j+1) (by omega) _ (inoB (is[2 * j]'(by omega))) [] (by omega) (by omega) (by rw [List.append_nil,←hg];exact hy) (by omega) (.inr (z1j _)) fun w2 hw2=>?_
     have e2:inosC (is.take (2 * j+1))++inoC (is[2 * j+1]'(by omega))=inosC (is.take (2 * (j+1))):=zak (by omega)
     rw [e2,z0q]
     unfold F_1s
     refine z04 (by simp [z1j];omega) (z0y fun q hq=>⟨w2,rfl,hq⟩)
    ·subst hr'
     dsimp only
     rw [wr64 (by omega) (by omega)]
     exact ih (j+1) w' (by omega) (by omega)
   ·obtain rfl:j=ls.length:=by omega
    refine z04 (by simp [hlen]) (z0y fun q hq=>⟨w,rfl,?_⟩)
    rw [List.take_of_length_le (by omega)] at hq
    exact hq
 refine Tri.pre (B:=stars [OwnA ⟨none,0⟩ 14 (inosC (is.take 0)),T]) ?_ fun q hq=>z1w (fun q h =>.nil 14 h) hq
 refine z01 [0,0] (loop N 0 ⟨none,0⟩ (by omega) (by omega)) fun r=>z10 fun w'=>z03 fun hr'=>z00 ?_
 subst hr'
 exact z02 [0,0] fun q hq=>⟨rfl,hq⟩
structure RdM (T:HA) (m:Sl×Sl×Sl×Sl) (M:MetaS):Prop where
 rows:RdC T m.1 2 (rowsC M.rows)
 own:RdC T m.2.1 1 (ownC M.own)
 used:RdC T m.2.2.1 1 (bytesOf M.used)
 ino:RdC T m.2.2.2 14 (inosC M.ino)
theorem zp0 {bs:List UInt8} {lo hi:Nat} (h:∀i,lo≤i→getBit bs i=false):cntB bs lo hi=0:=by
 unfold cntB
 rw [List.length_eq_zero_iff,List.filter_eq_nil_iff]
 intro i hi'
 rw [List.mem_range'] at hi'
 obtain ⟨k,hk,rfl⟩:=hi'
 simpa using h (lo+k) (by omega)
theorem zbj {g:Geo} {M:MetaS} {m:Sl×Sl×Sl×Sl} (hg:g.ok) (ok:MetaOk g M) (hr:RdM T m M) (hN:5000<N):Tri (stars [T]) (F_18 N g.t m) fun r=>pu (r=true) (stars [T]):=by
 have l2:m.2.1.len=M.own.length:=by
  have:=hr.own.1
  rw [z1i] at this
  omega
 have l3:=z2f hr.used
 have l4:m.2.2.2.len=M.ino.length:=by
  have:=hr.ino.1
  rw [z0i z0c] at this
  omega
 have hgG:=hg.g2
 have hgI:=hg.i2
 have hgB:=hg.gp
 unfold F_18
 have e:=z7e (N:=N) hg
 unfold Geo.t at e ⊢
 rw [e]
 refine z0j ?_
 refine z01 [0] (Q:=fun c=>pu (c=false) (stars [T])) ?_ fun c=>z03 fun hc=>z00 ?_
 ·refine z08 rfl (z01 [0] (z3c ok.rows hr.rows (by omega)) fun r=>z03 fun h=>z00 (z02 [0] fun q hq=>⟨by rw [h];rfl,hq⟩))
 subst hc
 dsimp only [sel,rem,nth,del,cat,upd]
 refine z04 (by simp [l2,l3,l4,ok.ownl,ok.usedl,ok.inol]) ?_
 have loop1:∀(K j:Nat),M.own.length - j<K→j≤M.own.length→Tri (stars [T]) (iter K (F_4i N m) (j:Int)) fun r=>pu (r=.inl ()) (stars [T]):=by
  intro K
  induction K with
  | zero=>intro j h;omega
  | succ K ih=>
   intro j h hj
   rw [z0q]
   unfold F_4i
   by_cases hjk:j<M.own.length
   ·refine z08 (by simp [l2];omega) ?_
    refine z1t 0 rfl hr.own (v:=(M.own[j]:Nat)) (k :=.i64) (by simp [i64s,hjk]) ?_
    have:=ok.own16 _ (List.getElem_mem hjk)
    refine z04 (by simp;omega) ?_
    rw [wr64 (by have:=ok.ownl;omega) (by have:=ok.ownl;omega)]
    exact ih (j+1) (by omega) (by omega)
   ·obtain rfl:j=M.own.length:=by omega
    exact z04 (by simp [l2]) (z0y fun q hq=>⟨rfl,hq⟩)
 have loop2:∀(K j:Nat),M.ino.length - j<K→j≤M.ino.length→Tri (stars [T]) (iter K (F_4j N m) (j:Int)) fun r=>pu (r=.inl ()) (stars [T]):=by
  intro K
  induction K with
  | zero=>intro j h;omega
  | succ K ih=>
   intro j h hj
   rw [z0q]
   unfold F_4j
   by_cases hjk:j<M.ino.length
   ·refine z08 (by simp [l4];omega) ?_
    refine z3v 0 rfl hr.ino hjk ?_
    rw [zino_c]
    refine zij ?_
    rw [z6b (by omega),Ino.ok_iff.2 (ok.inok _ (List.getElem_mem hjk))]
    refine z0j (z04 (by simp) ?_)
    rw [wr64 (by have:=ok.inol;omega) (by have:=ok.inol;omega)]
    exact ih (j+1) (by omega) (by omega)
   ·obtain rfl:j=M.ino.length:=by omega
    exact z04 (by simp [l4]) (z0y fun q hq=>⟨rfl,hq⟩)
 refine z01 [0] (loop1 N 0 (by have:=ok.ownl;omega) (by omega)) fun r=>z03 fun h=>z00 ?_
 subst h
 dsimp only [sel,rem,nth,del,cat,upd]
 refine z01 [0] (loop2 N 0 (by have:=ok.inol;omega) (by omega)) fun r=>z03 fun h=>z00 ?_
 subst h
 dsimp only [sel,rem,nth,del,cat,upd]
 have e1:wr .i64 ((g.G:Int) * (g.P:Int))=(g.B:Int):=by
  have:(g.G:Int) * (g.P:Int)=((g.G * g.P:Nat):Int):=by simp
  rw [this,wr64 (by omega) (by omega)]
  rfl
 have e2:wr .i64 ((8:Int) * (m.2.2.1.len:Int))=((8 * M.used.length:Nat):Int):=by
  rw [l3,ok.usedl]
  decide
 rw [e1,e2]
 refine z01 [0] (z95 hr.used (by have:=ok.usedl;omega) (by have:=ok.usedl;unfold Geo.B;omega) (Nat.le_refl _) hN) fun r=>z03 fun h=>z00 (z02 [0] fun q hq=>⟨?_,hq⟩)
 rw [h,zp0 ok.used0]
 rfl
theorem byte1 (x:UInt8):leN [x]=x.toNat:=by simp [leN]
theorem zds:∀(bs:List UInt8),chunks 1 bs.length bs=bs.map UInt8.toNat
 | []=>rfl
 | b::r=>by
  have:=zds r
  simp only [List.length_cons,chunks,List.take_succ_cons,List.take_zero,List.drop_succ_cons,List.drop_zero,byte1,this,List.map_cons]
theorem zm5 {g:Geo} {M:MetaS} {ls:List (Sl×List UInt8)} (hg:g.ok) (ok:MetaOk g M) (hr:RdL T s ls) (hls:ls.map (·.2)=metaB M) (hN:5000<N) :
  Tri (stars [T]) (F_2b N g.t s) fun r=>pu (r.2=0) (stars [OwnA r.1.1 2 (rowsC M.rows),OwnA r.1.2.1 1 (ownC M.own),OwnA r.1.2.2.1 1 (bytesOf M.used),OwnA r.1.2.2.2 14 (inosC M.ino),T]):=by
 have hgG:=hg.g2
 have hgI:=hg.i2
 have hi3:=hg.i3
 have hlen:=hr.len
 have hll:ls.length=3+M.ino.length / 2:=by
  have:=congrArg List.length hls
  rw [List.length_map] at this
  simp only [metaB,List.length_cons,z2t] at this
  omega
 have hM:g.M=3+g.I / 2:=rfl
 have hil:=ok.inol
 have hol:=ok.ownl
 have hul:=ok.usedl
 have rB:(rowsB M.rows).length=64:=by rw [rowsB,z1e,z2x,ok.rows.len]
 have oB:(ownB M.own).length=64:=z1d (by rw [List.length_map];omega)
 have get:∀i (hi:i<ls.length),ls[i].2=(metaB M)[i]'(by rw [←hls,List.length_map];exact hi):=by
  intro i hi
  simp [←hls]
 have b64:∀i (hi:i<ls.length),ls[i].2.length=64:=by
  intro i hi
  rw [get i hi]
  match i,hi with
  | 0,_=>exact rB
  | 1,_=>exact oB
  | 2,_=>exact hul
  | i+3,hi=>
   have h1:=z5k (l:=M.ino) (i:=i) (by omega)
   have h2:(pairsB M.ino)[i]'(by rw [z2t];omega)=inoB (M.ino[2 * i]'(by omega))++inoB (M.ino[2 * i+1]'(by omega)):=by
    rw [List.getElem?_eq_getElem (by rw [z2t];omega)] at h1
    exact Option.some.inj h1
   show ((pairsB M.ino)[i]'_).length=64
   rw [h2,List.length_append,z1j,z1j]
 have sl64:∀i (hi:i<ls.length),ls[i].1.len=64:=by
  intro i hi
  have:=z2f (hr.el _ (List.getElem_mem hi))
  rw [b64 i hi] at this
  exact this
 unfold F_2b
 have e:=z7e (N:=N) hg
 have e':=z8f (N:=N) hg
 unfold Geo.t at e e' ⊢
 rw [e,e']
 refine z0j ?_
 rw [if_pos (by simp)]
 refine z0j (z0j ?_)
 refine z04 (by simp;omega) ?_
 have loop1:∀(K j:Nat),ls.length - j<K→j≤ls.length→Tri (stars [T]) (iter K (F_4k N s) ((j:Int),(⟨none,0⟩,⟨none,0⟩,⟨none,0⟩,⟨none,0⟩))) fun r=>pu (r=.inl (⟨none,0⟩,⟨none,0⟩,⟨none,0⟩,⟨none,0⟩)) (stars [T]):=by
  intro K
  induction K with
  | zero=>intro j h;omega
  | succ K ih=>
   intro j h hj
   rw [z0q]
   unfold F_4k
   by_cases hjk:j<ls.length
   ·refine z08 (by simp [hlen];omega) ?_
    refine z88 0 rfl hr hjk fun _=>?_
    refine z04 (by rw [sl64 j hjk];simp) ?_
    dsimp only
    rw [wr64 (by omega) (by omega)]
    exact ih (j+1) (by omega) (by omega)
   ·obtain rfl:j=ls.length:=by omega
    exact z04 (by simp [hlen]) (z0y fun q hq=>⟨rfl,hq⟩)
 refine z01 [0] (loop1 N 0 (by omega) (by omega)) fun r=>z03 fun h=>z00 ?_
 subst h
 dsimp only [sel,rem,nth,del,cat,upd]
 refine z88 (i:=0) 0 rfl hr (by omega) fun h0=>?_
 rw [get 0 (by omega)] at h0
 refine z01 [0] (zjm ok.rows h0 hN) fun r15=>z03 fun h15=>z00 ?_
 dsimp only [sel,rem,nth,del,cat,upd]
 refine z2p (lo:=3) (hi:=(s.len:Int)) (by omega) (by omega) (by omega) ?_
 have hsub:RdL T (subS 1 s 3 s.len) (ls.drop 3):=by
  refine ⟨?_,fun x hx=>hr.el x (List.mem_of_mem_drop hx)⟩
  have:=hr.hd.sub (lo:=3) (hi:=s.len) (by omega) (Nat.le_refl _)
  have e3:((slsC ls).drop (3 * 1)).take ((s.len - 3) * 1)=slsC (ls.drop 3):=by
   rw [List.take_of_length_le (by rw [List.length_drop,z94];omega)]
   simp [slsC,List.map_drop]
  rwa [e3] at this
 rw [Int.toNat_natCast,show (3:Int).toNat=3 from rfl]
 have hls3:(ls.drop 3).map (·.2)=pairsB M.ino:=by
  rw [List.map_drop,hls]
  rfl
 refine z01 [1] (zik ok.inok (by omega) (by omega) hsub hls3 hN) fun r17=>z03 fun h17=>z00 ?_
 dsimp only [sel,rem,nth,del,cat,upd]
 refine z04 (by simp [h15,h17]) ?_
 refine z88 (i:=1) 1 rfl hr (by omega) fun h1=>?_
 rw [get 1 (by omega)] at h1
 have h1':RdC T (ls[1]'(by omega)).1 1 (bytesOf (ownB M.own)):=h1
 refine z01 [1] (zag (size:=1) (k:=64) h1' (by omega) (by omega) (by rw [oB]) (by rw [oB];omega) hN) fun r20=>z03 fun h20=>z00 ?_
 dsimp only [sel,rem,nth,del,cat,upd]
 refine z88 (i:=2) 1 rfl hr (by omega) fun h2=>?_
 rw [get 2 (by omega)] at h2
 have h2':RdC T (ls[2]'(by omega)).1 1 (bytesOf M.used):=h2
 refine z01 [1] (show Tri _ (cloneM 1 1 _) _ from z5z h2' (by omega) (z2l _) (by
  have:most=70368744177664:=rfl
  have:=sl64 2 (by omega)
  omega)) fun r23=>z00 ?_
 dsimp only [sel,rem,nth,del,cat,upd]
 have e64:chunks 1 64 (ownB M.own)=M.own++List.replicate (64 - g.G) 0:=by
  have h3:=zds (ownB M.own)
  rw [oB] at h3
  rw [h3]
  unfold ownB filled
  rw [List.map_append,List.map_map,List.length_map,hol]
  have:M.own.map (UInt8.toNat ∘ UInt8.ofNat)=M.own:=by
   conv=>rhs;rw [←List.map_id M.own]
   apply List.map_congr_left
   intro o ho
   have:=ok.own16 o ho
   simp
   omega
  rw [this]
  simp
 rw [e64]
 have gown:∀j (hj:j<64),(u64s (M.own++List.replicate (64 - g.G) 0))[j]? = some (.int .u64 (if h:j<M.own.length then M.own[j] else 0:Nat)):=by
  intro j hj
  unfold u64s
  rw [List.getElem?_map]
  by_cases h:j<M.own.length
  ·rw [List.getElem?_append_left h,List.getElem?_eq_getElem h,dif_pos h]
   rfl
  ·rw [List.getElem?_append_right (by omega),List.getElem?_replicate,if_pos (by omega),dif_neg h]
   rfl
 refine z0a 2 rfl fun h20l=>?_
 rw [z2h,List.length_append,List.length_replicate] at h20l
 have loop2:∀(K j:Nat) (w:Sl),64 - j<K→j≤64→Tri (stars [OwnA w 1 (ownC (M.own.take j)),OwnA r20.1 1 (u64s (M.own++List.replicate (64 - g.G) 0))])
   (iter K (F_4l N (g.J,g.I,g.G,g.P) r20) ((j:Int),(⟨none,0⟩,⟨none,0⟩,⟨none,0⟩,⟨none,0⟩),(r15.1,w,r23,r17.1)))
   fun r=>exA fun w'=>pu (r=.inl ((⟨none,0⟩,⟨none,0⟩,⟨none,0⟩,⟨none,0⟩),(r15.1,w',r23,r17.1))) (stars [OwnA w' 1 (ownC M.own)]):=by
  intro K
  induction K with
  | zero=>intro j w h;omega
  | succ K ih=>
   intro j w h hj
   rw [z0q]
   unfold F_4l
   by_cases hjk:j<64
   ·refine z08 (by simp;omega) ?_
    refine z1t 1 rfl (z0e (by rw [z2h,List.length_append,List.length_replicate];omega)) (gown j hjk) ?_
    dsimp only
    rw [wr64 (n:=(j:Int)+1) (by omega) (by omega)]
    by_cases hjg:j<M.own.length
    ·rw [dif_pos hjg]
     have ho:=ok.own16 _ (List.getElem_mem hjg)
     rw [wr64 (n:=((M.own[j]:Nat):Int)) (by omega) (by omega)]
     refine z01 [0,0] (Q:=fun r=>exA fun w'=>pu (r=.inl ((⟨none,0⟩,⟨none,0⟩,⟨none,0⟩,⟨none,0⟩),(r15.1,w',r23,r17.1))) (stars [OwnA w' 1 (ownC (M.own.take (j+1))),OwnA r20.1 1 (u64s (M.own++List.replicate (64 - g.G) 0))])) ?_ fun r=>z10 fun w'=>z03 fun hr'=>z00 ?_
     ·refine z08 (by simp;omega) ?_
      refine z0m fun b=>?_
      refine z0a 1 rfl fun hw=>?_
      rw [z1i,List.length_take] at hw
      refine z01 [1,0] (z1u (T:=pts b (.cells [.int .i64 (M.own[j]:Nat)] false)) (z18 (by simp)) (by omega) rfl (by
       have:most=70368744177664:=rfl
       dsimp only
       omega)) fun w'=>z00 ?_
      refine z02 [0,1] fun q hq=>⟨w',rfl,?_⟩
      have e5:ownC (M.own.take j)++[.int .i64 (M.own[j]:Nat)]=ownC (M.own.take (j+1)):=by
       unfold ownC i64s
       rw [List.take_succ_eq_append_getElem hjg,List.map_append,List.map_append]
       rfl
      rw [e5] at hq
      exact hq
     ·subst hr'
      exact ih (j+1) w' (by omega) (by omega)
    ·rw [dif_neg hjg]
     refine z01 [0,0] (Q:=fun r=>pu (r=.inl ((⟨none,0⟩,⟨none,0⟩,⟨none,0⟩,⟨none,0⟩),(r15.1,w,r23,r17.1))) (stars [OwnA w 1 (ownC (M.own.take j)),OwnA r20.1 1 (u64s (M.own++List.replicate (64 - g.G) 0))])) ?_ fun r=>z03 fun hr'=>z00 ?_
     ·refine z04 (by simp;omega) (z04 (by simp) (z02 [0,0] fun q hq=>⟨rfl,hq⟩))
     ·subst hr'
      have e6:M.own.take j=M.own.take (j+1):=by rw [List.take_of_length_le (by omega),List.take_of_length_le (by omega)]
      rw [e6]
      exact ih (j+1) w (by omega) (by omega)
   ·obtain rfl:j=64:=by omega
    refine z04 (by simp;omega) (z02 [0] fun q hq=>⟨w,rfl,?_⟩)
    rw [List.take_of_length_le (by omega)] at hq
    exact hq
 refine Tri.pre (B:=stars [OwnA ⟨none,0⟩ 1 (ownC (M.own.take 0)),OwnA r23 1 (bytesOf M.used),T,OwnA r20.1 1 (u64s (M.own++List.replicate (64 - g.G) 0)),OwnA r17.1 14 (inosC M.ino),OwnA r15.1 2 (rowsC M.rows)]) ?_ fun q hq=>z1w (fun q h =>.nil 1 h) hq
 refine z01 [0,2] (loop2 N 0 ⟨none,0⟩ (by omega) (by omega)) fun r=>z10 fun w'=>z03 fun hr'=>z00 ?_
 subst hr'
 dsimp only [sel,rem,nth,del,cat,upd]
 refine z0a 0 rfl fun hw=>z0a 1 rfl fun hu=>z0a 3 rfl fun hi=>z0a 4 rfl fun hro=>?_
 refine z01 [4,0,0,1] (zbj (T:=stars [OwnA r15.1 2 (rowsC M.rows),OwnA w' 1 (ownC M.own),OwnA r23 1 (bytesOf M.used),OwnA r17.1 14 (inosC M.ino)]) (m:=(r15.1,w',r23,r17.1)) hg ok ⟨(z0e hro).at 0 rfl,(z0e hw).at 1 rfl,(z0e hu).at 2 rfl,(z0e hi).at 3 rfl⟩ hN |>.pre fun q hq=>by rw [z0k];exact hq) fun r=>z03 fun h=>z00 (z00 ?_)
 subst h
 dsimp only [sel,rem,nth,del,cat,upd]
 exact z04 (by simp) (z02 [0,0,0,0,0] fun q hq=>⟨rfl,hq⟩)
end
end Go.Moat
