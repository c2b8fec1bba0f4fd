/- Layer 15: what is known is in order: it is looked at. -/
import Derived.Test.YtcaaljlhljemoaaGreatP15jd
import Derived.Test.YtcaaljlhljemoaaGreatP15s
namespace Go.Moat
open Go.Mini
section
variable {N:Nat} {β:Type} {l:List HA} {S:β→HA} {d v:Nat} {T:HA} {g:Geo} {V:VolS} {K0:MetaS} {r:Sl×Sl×Sl×Sl} {mm:Nat}
theorem zlv (hg:g.ok) (ok:MetaOk g V.n.m):Tri (stars [VolA v d g V]) (F_3a N (some ⟨v,0⟩)) fun r=>stars [OwnA r.1 2 (rowsC V.n.m.rows),OwnA r.2.1 1 (ownC V.n.m.own),OwnA r.2.2.1 1 (bytesOf V.n.m.used),OwnA r.2.2.2 14 (inosC V.n.m.ino),VolA v d g V]:=by
 unfold F_3a
 refine z04 (by simp) ?_
 refine z1o 0 rfl fun y hy hd=>?_
 dsimp only [sel,rem,nth,del,cat,upd,volL]
 refine z0g (z05 (z05 (tri_ldSt 0 rfl (ts:=[.sl 2,.sl 1,.sl 1,.sl 14]) (x:=(y.x.rows,y.x.own,y.x.used,y.x.ino)) (by simp [volC]) rfl ?_)))
 refine z0a 1 rfl fun l1=>z0a 2 rfl fun l2=>z0a 3 rfl fun l3=>z0a 4 rfl fun l4=>?_
 refine z3d [1,1,1,1] ?_
 dsimp only [sel,rem,nth,del,cat,upd]
 refine z01 [0] (ze5 (m:=(y.x.rows,y.x.own,y.x.used,y.x.ino)) hg ok ⟨RdC.at 0 rfl (z0e l1),RdC.at 1 rfl (z0e l2),RdC.at 2 rfl (z0e l3),RdC.at 3 rfl (z0e l4)⟩) fun r6=>z00 ?_
 dsimp only [sel,rem,nth,del,cat,upd]
 refine z4f 4 rfl ?_
 dsimp only [sel,rem,nth,del,cat,upd]
 refine z3d [8,0,0,0,0,4,4,4,4,4,4] ?_
 dsimp only [sel,rem,nth,del,cat,upd]
 refine z3u 0 (B:=VolA v d g V) rfl (fun q hq=>by have:=z11 hy hd hq;rwa [z0k] at this) ?_
 exact z02 [1,1,1,1,0] fun q hq=>hq
def CntK (kvs:List (Int×MV)) (f:Nat→Nat):Prop:=∀k:Nat,(getK kvs k=none∧f k=0)∨getK kvs k=some (.int .i64 (f k:Nat))
theorem CntK.val {kvs:List (Int×MV)} {f:Nat→Nat} (h:CntK kvs f) (k:Nat):CTy.dec (.int .i64) ((getK kvs k).getD (.int .i64 0))=some ((f k:Nat):Int):=by
 rcases h k with ⟨h1,h2⟩ | h1
 ·rw [h1,h2]
  rfl
 ·rw [h1]
  rfl
theorem CntK.put {kvs:List (Int×MV)} {f:Nat→Nat} (h:CntK kvs f) (k:Nat):CntK (putK kvs k (.int .i64 ((f k+1:Nat):Int))) fun j=>f j+if j=k then 1 else 0:=by
 intro j
 rw [zc9]
 dsimp only
 by_cases e:j=k
 ·subst e
  exact .inr (by rw [if_pos rfl,if_pos rfl])
 ·rw [if_neg (by omega),if_neg e]
  exact h j
theorem CntK.congr {kvs:List (Int×MV)} {f f':Nat→Nat} (h:CntK kvs f) (e:∀k,f' k=f k):CntK kvs f':=fun k=>by rw [e];exact h k
theorem zff (n:Nat) {kvs:List (Int×MV)} {f:Nat→Nat} (hl:l[n]? = some (MapK .i64 mm kvs)) (h:CntK kvs f) (k:Nat) (hf:f k<1000000) {c:Unit→M β} (kk:Tri (stars (upd l n (MapK .i64 mm (putK kvs k (.int .i64 ((f k+1:Nat):Int)))))) (c ()) S) :
  Tri (stars l) (bd (mapLook (some mm) (.int .i64 (k:Int))) fun o=>bd (someOr (CTy.dec (.int .i64) (o.getD (.int .i64 (0:Int))))) fun (y:Int)=>bd (mapPut (some mm) (.int .i64 (k:Int)) (.int .i64 (wr .i64 (y+(1:Int))))) c) S:=by
 refine zca n hl _ ?_
 rw [h.val]
 refine z5j ?_
 rw [wr64 (by omega) (by omega)]
 exact zeq n hl _ _ kk
theorem nib (x:UInt8) (r:Nat) (hr:r<2):bitI .and .u8 (shrI .u8 (x.toNat:Int) ((4 * r:Nat):Int)) 15=0↔∀j,j<4→x.toNat.testBit (4 * r+j)=false:=by
 have hx:=x.toNat_lt
 have h8:IntKind.u8.bits=8:=rfl
 rw [z8b (by rw [h8];omega)]
 have hd:x.toNat / 2^(4 * r)<2^IntKind.u8.bits:=Nat.lt_of_le_of_lt (Nat.div_le_self _ _) (by rw [h8];omega)
 have e:bitI .and .u8 ((x.toNat / 2^(4 * r):Nat):Int) 15=((x.toNat / 2^(4 * r) &&& 15:Nat):Int):=(z5y rfl hd (b:=15) (by rw [h8];omega)).1
 rw [e]
 have key:∀n:Fin 256,∀r:Fin 2,((n.val / 2^(4 * r.val) &&& 15:Nat)=0)↔∀j:Fin 4,n.val.testBit (4 * r.val+j.val)=false:=by decide +kernel
 have k:=key ⟨x.toNat,by omega⟩ ⟨r,hr⟩
 dsimp only at k
 constructor
 ·intro h j hj
  exact k.1 (by omega) ⟨j,hj⟩
 ·intro h
  have:=k.2 fun j=>h j.val j.isLt
  omega
theorem zbc {α:Type} (p:α→Bool) {l:List α} {k:Nat} (h:k<l.length):(l.take (k+1)).countP p=(l.take k).countP p+if p l[k]=true then 1 else 0:=by
 rw [List.take_succ_eq_append_getElem h,List.countP_append,List.countP_singleton]
theorem zuz (hi:Inv g6 K0) (h1:RdC T r.2.1 1 (ownC K0.own)) (h2:RdC T r.2.2.1 1 (bytesOf K0.used)):∀(K k:Nat) (kvs:List (Int×MV)),4 - k<K→k≤4→CntK kvs (fun i=>(K0.own.take k).countP (ownP i)) →
  Tri (stars [MapK .i64 mm kvs,T]) (iter K (F_3l N r (some mm)) (k:Int)) fun j=>exA fun kvs'=>pu (j=.inl ()∧CntK kvs' (fun i=>K0.own.countP (ownP i))) (stars [MapK .i64 mm kvs',T]):=by
 have hol:K0.own.length=4:=hi.ok.ownl
 have hul:=hi.ok.usedl
 have hsl:r.2.1.len=4:=by have:=h1.1;rw [z1i] at this;omega
 intro K
 induction K with
 | zero=>intro k kvs h;omega
 | succ K ih=>
  intro k kvs hK hk hc
  rw [z0q]
  generalize iter K (F_3l N r (some mm))=go at ih ⊢
  unfold F_3l
  by_cases hkl:k<4
  case neg=>
   obtain rfl:k=4:=by omega
   rw [List.take_of_length_le (by omega)] at hc
   exact z04 (by simp;omega) (z02 [0,0] fun q hq=>⟨kvs,⟨rfl,hc⟩,hq⟩)
  have hko:k<K0.own.length:=by omega
  refine z08 (by simp;omega) ?_
  refine z1t 1 rfl h1 (i:=k) (v:=((K0.own[k]:Nat):Int)) (by simp [i64s,hko]) ?_
  have e1:wr .i64 ((k:Int).tdiv 2)=((k / 2:Nat):Int):=by
   rw [show (k:Int).tdiv 2=((k / 2:Nat):Int) from rfl,wr64 (by omega) (by omega)]
  have e2:wr .i64 (4 * (k:Int).tmod 2)=((4 * (k%2):Nat):Int):=by
   rw [show (k:Int).tmod 2=((k%2:Nat):Int) from rfl,wr64 (by omega) (by omega)]
   omega
  rw [e1,e2]
  have hku:k / 2<K0.used.length:=by omega
  refine z1t 1 rfl h2 (i:=k / 2) (v:=((K0.used[k / 2].toNat:Nat):Int)) (z4c hku) ?_
  rw [if_neg (show ¬(((4 * (k%2):Nat):Int)<0) by omega)]
  have hn:=nib K0.used[k / 2] (k%2) (by omega)
  have hgr:=hi.grp k hkl
  rw [List.getElem?_eq_getElem hko,Option.getD_some] at hgr
  have h16:=hi.ok.own16 _ (List.getElem_mem hko)
  have hgb:∀j,j<4→getBit K0.used (4 * k+j)=K0.used[k / 2].toNat.testBit (4 * (k%2)+j):=by
   intro j hj
   unfold getBit
   rw [show (4 * k+j) / 8=k / 2 by omega,show (4 * k+j)%8=4 * (k%2)+j by omega,List.getElem?_eq_getElem hku]
  have hiff:bitI .and .u8 (shrI .u8 ((K0.used[k / 2].toNat:Nat):Int) ((4 * (k%2):Nat):Int)) 15=0↔¬0<K0.own[k]:=by
   rw [hn,hgr]
   constructor
   ·rintro h ⟨b,b1,b2,b3⟩
    change k * 4≤b at b1
    change b<(k+1) * 4 at b2
    obtain ⟨j,rfl⟩:∃j,b=4 * k+j:=⟨b - 4 * k,by omega⟩
    rw [hgb j (by omega),h j (by omega)] at b3
    cases b3
   ·intro h j hj
    rw [←hgb j hj]
    cases hb:getBit K0.used (4 * k+j) with
    | false=>rfl
    | true=>exact absurd ⟨4 * k+j,by show k * 4≤_;omega,by show _<(k+1) * 4;omega,hb⟩ h
  generalize bitI .and .u8 (shrI .u8 ((K0.used[k / 2].toNat:Nat):Int) ((4 * (k%2):Nat):Int)) 15=nb at hiff
  refine z04 (by
   by_cases h:0<K0.own[k]
   ·have:nb≠0:=fun c=>hiff.1 c h
    simp [this,h]
   ·have:nb=0:=hiff.2 h
    have h0:K0.own[k]=0:=by omega
    simp [this,h0]) ?_
  have hsn:∀i,(K0.own.take (k+1)).countP (ownP i)=(K0.own.take k).countP (ownP i)+if ownP i K0.own[k]=true then 1 else 0:=fun i=>zbc _ hko
  refine z01 [0,0] (Q:=fun _=>exA fun kvs'=>pu (CntK kvs' (fun i=>(K0.own.take (k+1)).countP (ownP i))) (stars [MapK .i64 mm kvs',T])) ?_ fun _=>z10 fun kvs'=>z03 fun hc'=>z00 ?_
  ·by_cases h0:0<K0.own[k]
   ·refine z08 (by simpa using h0) ?_
    rw [wr64 (n:=((K0.own[k]:Nat):Int) - 1) (by omega) (by omega),show ((K0.own[k]:Nat):Int) - 1=((K0.own[k] - 1:Nat):Int) by omega]
    refine zff 0 rfl hc _ (by have:=List.countP_le_length (p:=ownP (K0.own[k] - 1)) (l:=K0.own.take k);rw [List.length_take] at this;omega) ?_
    refine z02 [0,0] fun q hq=>⟨_,(hc.put _).congr fun i=>?_,hq⟩
    rw [hsn]
    congr 1
    unfold ownP
    by_cases e:i=K0.own[k] - 1
    ·rw [if_pos (by simp;omega),if_pos e]
    ·rw [if_neg (by simp;omega),if_neg e]
   ·refine z04 (by simpa using h0) (z02 [0,0] fun q hq=>⟨kvs,hc.congr fun i=>?_,hq⟩)
    rw [hsn,if_neg (by unfold ownP;simp;omega)]
    rfl
  dsimp only [sel,rem,nth,del,cat,upd]
  clear hgr hiff hn hgb
  rw [wr64 (n:=(k:Int)+1) (by omega) (by omega)]
  exact z16 [0,0] (ih (k+1) kvs' (by omega) (by omega) hc')
theorem zv0 (hi:Inv g6 K0) (h1:RdC T r.2.2.2 14 (inosC K0.ino)):∀(K k:Nat) (kvs:List (Int×MV)),6 - k<K→k≤6→CntK kvs (fun i=>K0.own.countP (ownP i)+(K0.ino.take k).countP (inoP i)) →
  Tri (stars [MapK .i64 mm kvs,T]) (iter K (F_3m N r (some mm)) (k:Int)) fun j=>exA fun kvs'=>pu (CntK kvs' (fun i=>K0.cnt i)) (stars [MapK .i64 mm kvs',T]):=by
 have hil:K0.ino.length=6:=hi.ok.inol
 have hol:K0.own.length=4:=hi.ok.ownl
 have hsl:r.2.2.2.len=6:=by have:=h1.1;rw [z0i z0c] at this;omega
 intro K
 induction K with
 | zero=>intro k kvs h;omega
 | succ K ih=>
  intro k kvs hK hk hc
  rw [z0q]
  generalize iter K (F_3m N r (some mm))=go at ih ⊢
  unfold F_3m
  by_cases hkl:k<6
  case neg=>
   obtain rfl:k=6:=by omega
   rw [List.take_of_length_le (by omega)] at hc
   exact z04 (by simp;omega) (z02 [0,0] fun q hq=>⟨kvs,hc,hq⟩)
  have hko:k<K0.ino.length:=by omega
  refine z08 (by simp;omega) ?_
  refine z3v 1 rfl h1 hko ?_
  rw [zino_c]
  refine z59 ?_
  rw [z7b]
  have hr16:=(hi.ok.inok _ (List.getElem_mem hko)).r
  have g0:(inoC K0.ino[k])[0]? = some (.int .u8 K0.ino[k].k):=rfl
  have g1:(inoC K0.ino[k])[1]? = some (.int .u8 K0.ino[k].r):=rfl
  rw [g0]
  refine z0n (z12 ?_)
  have hsn:∀i,(K0.ino.take (k+1)).countP (inoP i)=(K0.ino.take k).countP (inoP i)+if inoP i K0.ino[k]=true then 1 else 0:=fun i=>zbc _ hko
  refine z01 [0,0] (Q:=fun _=>exA fun kvs'=>pu (CntK kvs' (fun i=>K0.own.countP (ownP i)+(K0.ino.take (k+1)).countP (inoP i))) (stars [MapK .i64 mm kvs',T])) ?_ fun _=>z10 fun kvs'=>z03 fun hc'=>z00 ?_
  ·by_cases h0:K0.ino[k].k=0
   ·refine z04 (by simp [h0]) (z02 [0,0] fun q hq=>⟨kvs,hc.congr fun i=>?_,hq⟩)
    rw [hsn,if_neg (by unfold inoP;simp [h0])]
    rfl
   ·refine z08 (by simp;omega) ?_
    rw [g1]
    refine z0n (z12 ?_)
    rw [wr64 (n:=((K0.ino[k].r:Nat):Int)) (by omega) (by omega)]
    refine zff 0 rfl hc _ (by
     have h1:=List.countP_le_length (p:=ownP K0.ino[k].r) (l:=K0.own)
     have h2:=List.countP_le_length (p:=inoP K0.ino[k].r) (l:=K0.ino.take k)
     rw [List.length_take] at h2
     omega) ?_
    refine z02 [0,0] fun q hq=>⟨_,(hc.put _).congr fun i=>?_,hq⟩
    rw [hsn,←Nat.add_assoc]
    congr 1
    unfold inoP
    by_cases e:i=K0.ino[k].r
    ·rw [if_pos (by simp [h0,e]),if_pos e]
    ·rw [if_neg (by simp;omega),if_neg e]
  dsimp only [sel,rem,nth,del,cat,upd]
  rw [wr64 (n:=(k:Int)+1) (by omega) (by omega)]
  exact z16 [0,0] (ih (k+1) kvs' (by omega) (by omega) hc')
theorem zv1 (hi:Inv g6 K0) (h1:RdC T r.1 2 (rowsC K0.rows)) {kvs:List (Int×MV)} (hc:CntK kvs (fun i=>K0.cnt i)):∀(K k:Nat),16 - k<K→k≤16 →
  Tri (stars [MapK .i64 mm kvs,T]) (iter K (F_3n N r (some mm)) (k:Int)) fun j=>pu (j=.inl ()) (stars [MapK .i64 mm kvs,T]):=by
 have hrl:=hi.ok.rows.len
 have hsl:=z3l h1
 intro K
 induction K with
 | zero=>intro k h;omega
 | succ K ih=>
  intro k hK hk
  rw [z0q]
  generalize iter K (F_3n N r (some mm))=go at ih ⊢
  unfold F_3n
  by_cases hkl:k<16
  case neg=>exact z04 (by simp;omega) (z02 [0,0] fun q hq=>⟨rfl,hq⟩)
  have hko:k<K0.rows.length:=by omega
  refine z08 (by simp;omega) ?_
  refine z89 1 rfl h1 hko ?_
  refine zca 0 rfl _ ?_
  rw [hc.val]
  refine z5j ?_
  have hre:=hi.refs k hkl
  have e:rowN K0.rows k=K0.rows[k]:=by unfold rowN;rw [List.getElem?_eq_getElem hko];rfl
  rw [e] at hre
  refine z04 (by simp [hre]) ?_
  rw [wr64 (n:=(k:Int)+1) (by omega) (by omega)]
  exact z16 [0,0] (ih (k+1) (by omega) (by omega))
end
end Go.Moat

/- Layer 15: what is known is always in order. -/
namespace Go.Moat
open Go.Mini
section
variable {N:Nat} {β:Type} {l:List HA} {S:β→HA} {d v w:Nat} {T:HA} {g:Geo} {V V':VolS} {W:RefS} {D:DskS} {acts:List ActS} {s:Sl}
theorem zbq:∀(n:Nat) (l:List Int),l.Nodup→(∀x∈l,0≤x∧x<n)→l.length≤n
 | 0,l,_,h=>by
  cases l with
  | nil=>simp
  | cons a l=>
   have:=h a (List.mem_cons_self ..)
   omega
 | n+1,l,hn,h=>by
  have ih:=zbq n (l.erase (n:Int)) (hn.erase _) fun x hx=>by
   obtain ⟨h1,h2⟩:=hn.mem_erase_iff.1 hx
   have:=h x h2
   omega
  by_cases e:(n:Int)∈l
  ·rw [List.length_erase_of_mem e] at ih
   omega
  ·rw [List.erase_of_not_mem e] at ih
   omega
theorem zpz {q:PH} (h:VolA v d g V q):(V.n.dirty.map (·.1)).Nodup:=by
 obtain ⟨y,⟨hy,_⟩,h⟩:=h
 rw [z1y 5 (volL v d g V y) rfl] at h
 obtain ⟨q1,q2,h1,_⟩:=h
 have:=h1.1
 rw [z76] at this
 rw [←hy.dirty]
 unfold forget
 rw [List.map_map]
 exact this
theorem z7p (hd:D.dead=false) {i:Nat} (hi:i<D.secs.length):D.secs[i]? = some (getS D (i:Int)):=by
 unfold getS
 rw [if_pos (z62 hd hi),Int.toNat_natCast,List.getElem?_eq_getElem hi]
 rfl
structure VInv (g:Geo) (V:VolS) (i:Nat):Prop where
 now:VOk g V
 bef:∀n,V.before=some n→VOk g {V with n:=n}
 dead:V.dead=false
 ddead:V.disk.dead=false
 fuse:V.disk.fuse = -1
 len:g.all≤V.disk.secs.length
 n:V.disk.secs.length≤4096
 safe:V.safe.length=g.M
 done:0≤V.disk.done∧V.disk.done≤100000+16000 * i
 waits:V.disk.waits.length≤100000
 seq:V.seq≤i
 known:∀k,k<g.M→(V.disk.secs[g.lab+k]?).map (·.b)=V.safe[k]?
 sup:(V.disk.secs[0]?).map (·.b)=some (superB g)
 head:IsHead (getS V.disk 1).b V.seq
theorem VOk.same {V1 V2:VolS} (h:VOk g V1) (e:V2.n=V1.n) (e2:V2.disk=V1.disk):VOk g V2:=by
 obtain ⟨n1,d1,s1,f1,b1,x1⟩:=V1
 obtain ⟨n2,d2,s2,f2,b2,x2⟩:=V2
 dsimp only at e e2
 subst e e2
 exact ⟨h.inv,h.re,h.zero,h.key⟩
theorem VInv.mono {i j:Nat} (h:VInv g V i) (hij:i≤j):VInv g V j:=⟨h.now,h.bef,h.dead,h.ddead,h.fuse,h.len,h.n,h.safe,⟨h.done.1,by have:=h.done.2;omega⟩,h.waits,by have:=h.seq;omega,h.known,h.sup,h.head⟩
theorem VInv.keeps {i:Nat} (h:VInv g V i) (k:Keeps V V') (ok:VOk g V'):VInv g V' i:=by
 obtain ⟨n',d',s',f',b',x'⟩:=V'
 obtain ⟨k1,k2,k3,k4,k5⟩:=k
 dsimp only at k1 k2 k3 k4 k5
 subst k1 k2 k3 k4 k5
 exact ⟨ok,fun n hn=>(h.bef n hn).same rfl rfl,h.dead,h.ddead,h.fuse,h.len,h.n,h.safe,h.done,h.waits,h.seq,h.known,h.sup,h.head⟩
theorem VInv.sync {i:Nat} (h:VInv g V i) (hi:i<1000) (hr:g.M+g.B≤roomN g.J) (hn:(V.n.dirty.map (·.1)).Nodup):SyncIn g V:=by
 have h1:=h.done
 have h2:=h.waits
 have h3:=h.seq
 refine ⟨h.now.inv,h.dead,h.ddead,h.fuse,h.len,h.n,h.safe,h.now.key,?_,⟨by omega,by omega⟩,by omega,by omega⟩
 have:=zbq g.B _ hn fun x hx=>by
  obtain ⟨e,he,rfl⟩:=List.mem_map.1 hx
  exact h.now.key e he
 rw [List.length_map] at this
 omega
theorem zg2 (hs:Synced g V V') (h:VOk g V) (hd:V.disk.dead=false) (hl:g.all≤V.disk.secs.length) {b:Nat} (hb:b<g.B):V'.readE g b=0∧V'.readB g b=V.readB g b:=by
 have hga:g.all=g.blk+g.B:=rfl
 have hl':g.blk+b<V'.disk.secs.length:=by rw [hs.len];omega
 have hk:=hs.blk b hb
 rw [z7p hs.ddead hl'] at hk
 unfold VolS.readE VolS.readB
 rw [hs.n]
 refine ⟨?_,?_⟩
 ·rw [if_pos (by omega)]
  show getE V'.disk ((g.blk:Int)+b)=0
  rw [show ((g.blk:Int)+b)=((g.blk+b:Nat):Int) by simp]
  exact z62 hs.ddead hl'
 ·show (getS V'.disk ((g.blk:Int)+b)).b=_
  rw [show ((g.blk:Int)+b)=((g.blk+b:Nat):Int) by simp]
  cases hx:getA V.n.dirty (b:Int) with
  | none=>
   rw [hx] at hk
   dsimp only at hk ⊢
   rw [z7p hd (by omega)] at hk
   rw [Option.some.inj hk]
  | some x=>
   rw [hx] at hk
   dsimp only at hk ⊢
   rw [Option.some.inj hk]
theorem VInv.synced {i:Nat} (h:VInv g V i) (hs:Synced g V V'):VInv g V' (i+1):=by
 have h1:=h.done
 have h2:=h.waits
 have h3:=h.seq
 have h4:=hs.done
 have h5:=hs.waits
 have h6:=hs.seq
 have hM:(metaB V.n.m).length=g.M:=by
  rw [z6o h.now.inv.ok,h.now.inv.ok.inol]
  rfl
 refine ⟨⟨by rw [hs.n];exact h.now.inv,fun b hb=>(zg2 hs h.now h.ddead h.len hb).1,fun b hb hz=>?_,by rw [hs.n];simp⟩,fun n hn=>?_,hs.dead,hs.ddead,hs.fuse,by rw [hs.len];exact h.len,by rw [hs.len];exact h.n,by rw [hs.safe];exact hM,⟨by omega,by omega⟩,by omega,by omega,fun k hk=>?_,by rw [hs.sup];exact h.sup,hs.head h.head⟩
 ·rw [(zg2 hs h.now h.ddead h.len hb).2]
  rw [hs.n] at hz
  exact h.now.zero b hb hz
 ·rw [hs.before] at hn
  cases hn
 ·rw [hs.safe]
  exact hs.known k hk (h.known k hk)
theorem VInv.begun {i:Nat} (h:VInv g V i) (hs:Begun g V V'):VInv g V' (i+1):=by
 have key:∀ {V1:VolS},VInv g V1 (i+1)→VInv g {V1 with before:=some V1.n} (i+1):=fun k=>
  ⟨k.now.same rfl rfl,fun n hn=>by cases hn;exact k.now.same rfl rfl,k.dead,k.ddead,k.fuse,k.len,k.n,k.safe,k.done,k.waits,k.seq,k.known,k.sup,k.head⟩
 unfold Begun at hs
 split at hs
 ·obtain ⟨V1,h1,rfl⟩:=hs
  exact key (h.synced h1)
 ·rw [hs]
  exact key (h.mono (by omega))
theorem VInv.abort {i:Nat} (h:VInv g V i):VInv g V.abort i:=by
 cases hb:V.before with
 | none=>
  have e:V.abort=V:=by unfold VolS.abort;rw [hb]
  rw [e]
  exact h
 | some n=>
  have e:V.abort={V with n:=n}:=by unfold VolS.abort;rw [hb]
  rw [e]
  exact ⟨h.bef n hb,fun n' hn=>(h.bef n' hn).same rfl rfl,h.dead,h.ddead,h.fuse,h.len,h.n,h.safe,h.done,h.waits,h.seq,h.known,h.sup,h.head⟩
theorem zs8 (hg:g.ok) (hl:g.all≤4096):VInv g (newV g) 0:=by
 have hga:g.all=g.blk+g.B:=rfl
 have hblk:g.blk=4+g.J+g.I / 2:=rfl
 have hlab:g.lab=1+g.J:=rfl
 have hgM:g.M=3+g.I / 2:=rfl
 have hM:(metaB (newM g)).length=g.M:=by
  rw [z6o (z5s g).ok,(z5s g).ok.inol]
  rfl
 have cl:=clean0 hg
 have hf:(newV g).disk.secs.length=g.all:=fmt_len g
 refine VInv.mk (zev hg) (fun n hn=>by cases hn) rfl rfl rfl (by omega) (by omega) hM ⟨?_,?_⟩ (by show (0:Nat)≤_;omega) (by show (0:Nat)≤0;omega) (fun k hk=>?_) ?_ cl.head
 ·show (0:Int)≤g.all+1
  omega
 ·show ((g.all+1:Nat):Int)≤_
  omega
 ·show ((fmtD g).secs[g.lab+k]?).map (·.b)=(metaB (newM g))[k]?
  rw [z7p cl.dead (by rw [fmt_len];omega),←cl.known k hk]
  rfl
 ·show ((fmtD g).secs[0]?).map (·.b)=_
  rw [z7p cl.dead (by rw [fmt_len];omega),←cl.sup]
  rfl
theorem zs9 (hN:5000<N) {r:Sl} {k:Nat} (hin:∀A∈acts,ActIn T A) (hf:FewOk T acts r k):∀(K i:Nat) (V:VolS) (W:RefS),k - i<K→i≤k→VInv g6 V i→RWok g6 W →
  Tri (stars [VolA v d g6 V,RefA w g6 W,T]) (iter K (F_3o N (some ⟨d,0⟩,some ⟨v,0⟩,true) (some ⟨w,0⟩) r) (i:Int)) fun j=>pu (j=.inl ()) (stars []):=by
 intro K
 induction K with
 | zero=>intro i V W h;omega
 | succ K ih=>
  intro i V W h hi hv hw
  have hle:=hf.le
  have hlen:=hf.len
  have h100:=hf.k100
  rw [z0q]
  generalize iter K (F_3o N (some ⟨d,0⟩,some ⟨v,0⟩,true) (some ⟨w,0⟩) r)=go at ih ⊢
  unfold F_3o
  by_cases hik:i<k
  case neg=>exact z04 (by simp;omega) (z02 [] fun q hq=>⟨rfl,hq⟩)
  have hia:i<acts.length:=by omega
  have hit:i<(acts.take k).length:=by rw [List.length_take];omega
  have hA:=(hin _ (List.getElem_mem hia)).ok (hf.small i hia hik)
  have eA:(acts.take k)[i]=acts[i]:=by simp
  refine z08 (by simp;omega) ?_
  refine zpa 2 rfl (hf.rd (by omega)) (i:=i) (by omega) ?_
  rw [z71 z3b hit,eA,zv2,if_pos ⟨z3b _,by rw [z3b];omega,zof _⟩]
  refine z0j ?_
  rw [zra]
  have g0:(actC acts[i])[0]? = some (.int .u8 acts[i].k):=rfl
  rw [g0]
  refine z0n (z12 ?_)
  have e20:0+20≤(actC acts[i]).length:=by rw [z3b];omega
  have t20:((actC acts[i]).drop 0).take 20=actC acts[i]:=by rw [List.drop_zero,List.take_of_length_le (by rw [z3b];omega)]
  refine z4b 0 rfl (φ:=(V.n.dirty.map (·.1)).Nodup) (fun q h=>zpz h) fun hnd=>?_
  have hsy:SyncIn g6 V:=hv.sync (by omega) (by decide) hnd
  refine z01 [0,0,0] (Q:=fun _=>exA fun x:VolS×RefS=>pu (VInv g6 x.1 (i+1)∧RWok g6 x.2) (stars [VolA v d g6 x.1,RefA w g6 x.2,T])) ?_ fun _=>z10 fun x=>z03 fun hx=>z00 ?_
  ·by_cases c6:(decide (((acts[i].k:Nat):Int).tmod 13=6))=true
   ·refine z08 c6 ?_
    refine z01 [0] (zjy z6y hsy hN) fun _=>z10 fun V'=>z03 fun h=>z00 ?_
    exact z02 [0,0,0] fun q hq=>⟨(V',W),⟨hv.begun h.2,hw⟩,hq⟩
   refine z04 c6 ?_
   refine z01 [0,0,0] (Q:=fun _=>exA fun x:VolS×RefS=>pu (VInv g6 x.1 (i+1)∧RWok g6 x.2) (stars [VolA v d g6 x.1,RefA w g6 x.2,T])) ?_ fun _=>z10 fun x=>z03 fun hx=>z00 (z02 [0,0,0] fun q hq=>⟨x,hx,hq⟩)
   by_cases c7:(decide (((acts[i].k:Nat):Int).tmod 13=7))=true
   ·refine z08 c7 ?_
    refine z01 [0] (zmo z6y fun n hn=>(hv.bef n hn).inv.ok) fun _=>z00 ?_
    exact z02 [0,0,0] fun q hq=>⟨(V.abort,W),⟨hv.abort.mono (by omega),hw⟩,hq⟩
   refine z04 c7 ?_
   refine z01 [0,0,0] (Q:=fun _=>exA fun x:VolS×RefS=>pu (VInv g6 x.1 (i+1)∧RWok g6 x.2) (stars [VolA v d g6 x.1,RefA w g6 x.2,T])) ?_ fun _=>z10 fun x=>z03 fun hx=>z00 (z02 [0,0,0] fun q hq=>⟨x,hx,hq⟩)
   by_cases c8:(decide (((acts[i].k:Nat):Int).tmod 13=8))=true
   ·refine z08 c8 ?_
    refine z01 [0] (zg0 z6y hsy hN) fun _=>z10 fun V'=>z03 fun h=>z00 ?_
    exact z02 [0,0,0] fun q hq=>⟨(V',W),⟨hv.synced h.2,hw⟩,hq⟩
   refine z04 c8 ?_
   rw [if_pos e20,t20]
   refine z0j ?_
   refine z01 [0,0,0] (zs0 z6y hN hv.now hw hA) fun r=>z10 fun x=>z03 fun hx=>z00 ?_
   exact z02 [0,0,0] fun q hq=>⟨x,⟨(hv.keeps hx.2.2.1 hx.1).mono (by omega),hx.2.1⟩,hq⟩
  obtain ⟨V',W'⟩:=x
  obtain ⟨hv',hw'⟩:=hx
  dsimp only at hv' hw'
  dsimp only [sel,rem,nth,del,cat,upd]
  have hinv:=hv'.now.inv
  refine z01 [0] (zlv z6y hinv.ok) fun r22=>z00 ?_
  dsimp only [sel,rem,nth,del,cat,upd]
  refine z0a 0 rfl fun l0=>z0a 1 rfl fun l1=>z0a 2 rfl fun l2=>z0a 3 rfl fun l3=>?_
  refine z3d [0,0,0,0] ?_
  dsimp only [sel,rem,nth,del,cat,upd]
  have r0:RdC (stars [OwnA r22.1 2 (rowsC V'.n.m.rows),OwnA r22.2.1 1 (ownC V'.n.m.own),OwnA r22.2.2.1 1 (bytesOf V'.n.m.used),OwnA r22.2.2.2 14 (inosC V'.n.m.ino)]) r22.1 2 (rowsC V'.n.m.rows):=RdC.at 0 rfl (z0e l0)
  have r1:RdC (stars [OwnA r22.1 2 (rowsC V'.n.m.rows),OwnA r22.2.1 1 (ownC V'.n.m.own),OwnA r22.2.2.1 1 (bytesOf V'.n.m.used),OwnA r22.2.2.2 14 (inosC V'.n.m.ino)]) r22.2.1 1 (ownC V'.n.m.own):=RdC.at 1 rfl (z0e l1)
  have r2:RdC (stars [OwnA r22.1 2 (rowsC V'.n.m.rows),OwnA r22.2.1 1 (ownC V'.n.m.own),OwnA r22.2.2.1 1 (bytesOf V'.n.m.used),OwnA r22.2.2.2 14 (inosC V'.n.m.ino)]) r22.2.2.1 1 (bytesOf V'.n.m.used):=RdC.at 2 rfl (z0e l2)
  have r3:RdC (stars [OwnA r22.1 2 (rowsC V'.n.m.rows),OwnA r22.2.1 1 (ownC V'.n.m.own),OwnA r22.2.2.1 1 (bytesOf V'.n.m.used),OwnA r22.2.2.2 14 (inosC V'.n.m.ino)]) r22.2.2.2 14 (inosC V'.n.m.ino):=RdC.at 3 rfl (z0e l3)
  generalize stars [OwnA r22.1 2 (rowsC V'.n.m.rows),OwnA r22.2.1 1 (ownC V'.n.m.own),OwnA r22.2.2.1 1 (bytesOf V'.n.m.used),OwnA r22.2.2.2 14 (inosC V'.n.m.ino)]=T' at r0 r1 r2 r3 ⊢
  refine z01 [0] (z3c hinv.ok.rows r0 (by omega)) fun r23=>z03 fun h23=>z00 ?_
  subst h23
  dsimp only [sel,rem,nth,del,cat,upd]
  have hol:V'.n.m.own.length=4:=hinv.ok.ownl
  have hul:=hinv.ok.usedl
  rw [z1i] at l1
  rw [z0b] at l2
  refine z04 (by simp;omega) ?_
  refine zie .i64 fun mm=>?_
  refine z01 [0,0] (zuz (N:=N) hinv r1 r2 N 0 [] (by omega) (by omega) fun k =>.inl ⟨rfl,by simp⟩) fun j34=>z10 fun kv1=>z03 fun h34=>z00 ?_
  obtain ⟨h34,c1⟩:=h34
  subst h34
  dsimp only [sel,rem,nth,del,cat,upd]
  refine z01 [0,0] (zv0 (N:=N) hinv r3 N 0 kv1 (by omega) (by omega) (c1.congr fun i=>by simp)) fun j48=>z10 fun kv2=>z03 fun c2=>z00 ?_
  dsimp only [sel,rem,nth,del,cat,upd]
  refine z01 [0,0] (zv1 (N:=N) hinv r0 c2 N 0 (by omega) (by omega)) fun j55=>z03 fun h55=>z00 ?_
  subst h55
  dsimp only [sel,rem,nth,del,cat,upd]
  rw [wr64 (n:=(i:Int)+1) (by omega) (by omega)]
  exact z16 [2,2,2] (ih (i+1) V' W' (by omega) (by omega) hv' hw')
theorem zq0 (hN:5000<N) (hin:∀A∈acts,ActIn T A) (hr:acts≠[]→RdC T s 20 (catL actC acts)) (hlen:s.len=acts.length):Tri (stars [T]) (F_44 N s) fun r=>pu (r=true) emp:=by
 unfold F_44
 refine z01 [] (zmg hN) fun r2=>z03 fun h2=>z00 ?_
 subst h2
 dsimp only [sel,rem,nth,del,cat,upd]
 refine zdp (a:=g6.t) (fun h=>rfl) ?_
 refine z01 [] (ze1 (N:=N) z6y zru hN) fun r4=>z10 fun x=>z03 fun h4=>z00 ?_
 obtain ⟨d,v⟩:=x
 subst h4
 dsimp only [sel,rem,nth,del,cat,upd]
 refine z04 (by simp) ?_
 refine zdp (a:=g6.t) (fun h=>rfl) ?_
 refine z01 [] (zoi (N:=N) z6y hN) fun r6=>z10 fun w=>z03 fun h6=>z00 ?_
 subst h6
 dsimp only [sel,rem,nth,del,cat,upd]
 refine z01 [2] (zs1 hr hlen (by omega)) fun r7=>z10 fun k=>z03 fun h7=>z00 ?_
 dsimp only [sel,rem,nth,del,cat,upd]
 refine z01 [2,1,0] (zs9 hN hin h7 N 0 (newV g6) (newW g6) (by have:=h7.k100;omega) (by omega) (zs8 z6y (by decide)) (zs2 z6y).rok) fun j=>z03 fun hj=>z00 ?_
 subst hj
 exact z02 [] fun q hq=>⟨rfl,hq⟩
end
end Go.Moat
