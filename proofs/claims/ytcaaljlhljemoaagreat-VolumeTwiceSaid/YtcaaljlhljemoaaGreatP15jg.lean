/- Layer 15: what is known is in order: it is looked at. -/
import Derived.Test.YtcaaljlhljemoaaGreatP15jd
import Derived.Test.YtcaaljlhljemoaaGreatP15s
namespace Go.Moat
open Go.Mini
section
variable{N:Nat}{β:Type}{l:List HA}{S:β→HA}{d v:Nat}{T:HA}{g:Geo}{V:VolS}{K0:MetaS}{r:Sl×Sl×Sl×Sl}{mm:Nat}
def zhh(kvs:List (Int×MV))(f:Nat→Nat):Prop:=∀k:Nat,(z6x kvs k=none∧f k=0)∨z6x kvs k=some (.int .i64 (f k:Nat))
theorem zhh.val{kvs:List (Int×MV)}{f:Nat→Nat}(h:zhh kvs f)(k:Nat):CTy.dec (.int .i64) ((z6x kvs k).getD (.int .i64 0))=some ((f k:Nat):Int):=by
 rcases h k with⟨h1,h2⟩ | h1
 ·rw[h1,h2];rfl
 ·rw[h1];rfl
theorem zhh.put{kvs:List (Int×MV)}{f:Nat→Nat}(h:zhh kvs f)(k:Nat):zhh (z6e kvs k (.int .i64 ((f k+1:Nat):Int))) fun j=>f j+if j=k then 1 else 0:=by
 intro j;rw[zjc];dsimp only;by_cases e:j=k
 ·subst e;exact .inr (by rw[if_pos rfl,if_pos rfl])
 ·rw[if_neg (by omega),if_neg e];exact h j
theorem zhh.congr{kvs:List (Int×MV)}{f f':Nat→Nat}(h:zhh kvs f)(e:∀k,f' k=f k):zhh kvs f':=fun k=>by rw[e];exact h k
end
end Go.Moat

/- Layer 15: what is known is always in order. -/
namespace Go.Moat
open Go.Mini
section
variable{N:Nat}{β:Type}{l:List HA}{S:β→HA}{d v w:Nat}{T:HA}{g:Geo}{V V':VolS}{W:RefS}{D:DskS}{acts:List ActS}{s:Sl}
theorem ziv:∀(n:Nat)(l:List Int),l.Nodup→(∀x∈l,0≤x∧x<n)→l.length≤n
 | 0,l,_,h=>by
  cases l with
  | nil=>simp
  | cons a l=>
   have:=h a (List.mem_cons_self ..)
   omega
 | n+1,l,hn,h=>by
  have ih:=ziv n (l.erase (n:Int)) (hn.erase _) fun x hx=>by
   obtain⟨h1,h2⟩:=hn.mem_erase_iff.1 hx;have:=h x h2
   omega
  by_cases e:(n:Int)∈l
  ·rw[List.length_erase_of_mem e]at ih;omega
  ·rw[List.erase_of_not_mem e]at ih;omega
theorem zne{q:PH}(h:z1f v d g V q):(V.n.dirty.map (·.1)).Nodup:=by
 obtain⟨y,⟨hy,_⟩,h⟩:=h;rw[stars_pick 5 (z2f v d g V y) rfl]at h;obtain⟨q1,q2,h1,_⟩:=h;have:=h1.1
 rw[zcw]at this;rw[←hy.dirty];unfold z5t;rw[List.map_map];exact this
theorem zdb(hd:D.dead=false){i:Nat}(hi:i<D.secs.length):D.secs[i]? = some (getS D (i:Int)):=by
 unfold getS;rw[if_pos (z9o hd hi),Int.toNat_natCast,List.getElem?_eq_getElem hi];rfl
structure VInv(g:Geo)(V:VolS)(i:Nat):Prop where
 now:VOk g V
 bef:∀n,V.before=some n→VOk g {V with n:=n}
 dead:V.dead=false
 ddead:V.disk.dead=false
 fuse:V.disk.fuse = -1
 len:g.all≤V.disk.secs.length
 n:V.disk.secs.length≤4096
 safe:V.safe.length=g.M
 done:0≤V.disk.done∧V.disk.done≤100000+16000 * i
 waits:V.disk.waits.length≤100000
 seq:V.seq≤i
 known:∀k,k<g.M→(V.disk.secs[g.lab+k]?).map (·.b)=V.safe[k]?
 sup:(V.disk.secs[0]?).map (·.b)=some (z4p g)
 head:za1 (getS V.disk 1).b V.seq
theorem VOk.same{V1 V2:VolS}(h:VOk g V1)(e:V2.n=V1.n)(e2:V2.disk=V1.disk):VOk g V2:=by
 obtain⟨n1,d1,s1,f1,b1,x1⟩:=V1;obtain⟨n2,d2,s2,f2,b2,x2⟩:=V2;dsimp only at e e2;subst e e2;exact⟨h.inv,h.re,h.zero,h.key⟩
theorem VInv.mono{i j:Nat}(h:VInv g V i)(hij:i≤j):VInv g V j:=⟨h.now,h.bef,h.dead,h.ddead,h.fuse,h.len,h.n,h.safe,⟨h.done.1,by have:=h.done.2;omega⟩,h.waits,by have:=h.seq;omega,h.known,h.sup,h.head⟩
theorem VInv.keeps{i:Nat}(h:VInv g V i)(k:Keeps V V')(ok:VOk g V'):VInv g V' i:=by
 obtain⟨n',d',s',f',b',x'⟩:=V';obtain⟨k1,k2,k3,k4,k5⟩:=k;dsimp only at k1 k2 k3 k4 k5;subst k1 k2 k3 k4 k5;exact⟨ok,fun n hn=>(h.bef n hn).same rfl rfl,h.dead,h.ddead,h.fuse,h.len,h.n,h.safe,h.done,h.waits,h.seq,h.known,h.sup,h.head⟩
theorem VInv.sync{i:Nat}(h:VInv g V i)(hi:i<1000)(hr:g.M+g.B≤z4n g.J)(hn:(V.n.dirty.map (·.1)).Nodup):SyncIn g V:=by
 have h1:=h.done;have h2:=h.waits;have h3:=h.seq;refine⟨h.now.inv,h.dead,h.ddead,h.fuse,h.len,h.n,h.safe,h.now.key,?_,⟨by omega,by omega⟩,by omega,by omega⟩;have:=ziv g.B _ hn fun x hx=>by
  obtain⟨e,he,rfl⟩:=List.mem_map.1 hx;exact h.now.key e he
 rw[List.length_map]at this;omega
theorem znf(hs:Synced g V V')(h:VOk g V)(hd:V.disk.dead=false)(hl:g.all≤V.disk.secs.length){b:Nat}(hb:b<g.B):V'.readE g b=0∧V'.readB g b=V.readB g b:=by
 have hga:g.all=g.blk+g.B:=rfl;have hl':g.blk+b<V'.disk.secs.length:=by rw[hs.len];omega
 have hk:=hs.blk b hb;rw[zdb hs.ddead hl']at hk;unfold VolS.readE VolS.readB;rw[hs.n];refine⟨?_,?_⟩
 ·rw[if_pos (by omega)];show z6d V'.disk ((g.blk:Int)+b)=0;rw[show((g.blk:Int)+b)=((g.blk+b:Nat):Int) by simp];exact z9o hs.ddead hl'
 ·show(getS V'.disk ((g.blk:Int)+b)).b=_;rw[show((g.blk:Int)+b)=((g.blk+b:Nat):Int) by simp];cases hx:z3o V.n.dirty (b:Int)with
  | none=>
   rw[hx]at hk;dsimp only at hk ⊢;rw[zdb hd (by omega)]at hk;rw[Option.some.inj hk]
  | some x=>
   rw[hx]at hk;dsimp only at hk ⊢;rw[Option.some.inj hk]
theorem VInv.synced{i:Nat}(h:VInv g V i)(hs:Synced g V V'):VInv g V' (i+1):=by
 have h1:=h.done;have h2:=h.waits;have h3:=h.seq;have h4:=hs.done;have h5:=hs.waits;have h6:=hs.seq;have hM:(z1z V.n.m).length=g.M:=by
  rw[z9p h.now.inv.ok,h.now.inv.ok.inol];rfl
 refine⟨⟨by rw[hs.n];exact h.now.inv,fun b hb=>(znf hs h.now h.ddead h.len hb).1,fun b hb hz=>?_,by rw[hs.n];simp⟩,fun n hn=>?_,hs.dead,hs.ddead,hs.fuse,by rw[hs.len];exact h.len,by rw[hs.len];exact h.n,by rw[hs.safe];exact hM,⟨by omega,by omega⟩,by omega,by omega,fun k hk=>?_,by rw[hs.sup];exact h.sup,hs.head h.head⟩
 ·rw[(znf hs h.now h.ddead h.len hb).2];rw[hs.n]at hz;exact h.now.zero b hb hz
 ·rw[hs.before]at hn;cases hn
 ·rw[hs.safe];exact hs.known k hk (h.known k hk)
theorem VInv.begun{i:Nat}(h:VInv g V i)(hs:zo2 g V V'):VInv g V' (i+1):=by
 have key:∀{V1:VolS},VInv g V1 (i+1)→VInv g {V1 with before:=some V1.n} (i+1):=fun k=>
  ⟨k.now.same rfl rfl,fun n hn=>by cases hn;exact k.now.same rfl rfl,k.dead,k.ddead,k.fuse,k.len,k.n,k.safe,k.done,k.waits,k.seq,k.known,k.sup,k.head⟩
 unfold zo2 at hs;split at hs
 ·obtain⟨V1,h1,rfl⟩:=hs;exact key (h.synced h1)
 ·rw[hs];exact key (h.mono (by omega))
theorem VInv.abort{i:Nat}(h:VInv g V i):VInv g V.abort i:=by
 cases hb:V.before with
 | none=>
  have e:V.abort=V:=by unfold VolS.abort;rw[hb]
  rw[e];exact h
 | some n=>
  have e:V.abort={V with n:=n}:=by unfold VolS.abort;rw[hb]
  rw[e];exact⟨h.bef n hb,fun n' hn=>(h.bef n' hn).same rfl rfl,h.dead,h.ddead,h.fuse,h.len,h.n,h.safe,h.done,h.waits,h.seq,h.known,h.sup,h.head⟩
theorem z118(hg:g.ok)(hl:g.all≤4096):VInv g (zfq g) 0:=by
 have hga:g.all=g.blk+g.B:=rfl;have hblk:g.blk=4+g.J+g.I / 2:=rfl;have hlab:g.lab=1+g.J:=rfl;have hgM:g.M=3+g.I / 2:=rfl;have hM:(z1z (z4i g)).length=g.M:=by
  rw[z9p (zan g).ok,(zan g).ok.inol];rfl
 have cl:=zy1 hg;have hf:(zfq g).disk.secs.length=g.all:=zax g;refine VInv.mk (zm3 hg) (fun n hn=>by cases hn) rfl rfl rfl (by omega) (by omega) hM ⟨?_,?_⟩ (by show(0:Nat)≤_;omega) (by show(0:Nat)≤0;omega) (fun k hk=>?_) ?_ cl.head
 ·show(0:Int)≤g.all+1;omega
 ·show((g.all+1:Nat):Int)≤_;omega
 ·show((z81 g).secs[g.lab+k]?).map (·.b)=(z1z (z4i g))[k]?;rw[zdb cl.dead (by rw[zax];omega),←cl.known k hk];rfl
 ·show((z81 g).secs[0]?).map (·.b)=_;rw[zdb cl.dead (by rw[zax];omega),←cl.sup];rfl
end
end Go.Moat
