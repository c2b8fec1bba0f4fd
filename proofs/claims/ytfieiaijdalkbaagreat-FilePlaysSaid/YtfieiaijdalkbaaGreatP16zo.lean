/- Layer 16: the blocks of a file, counted; a volume in use. -/
import Derived.Test.YtfieiaijdalkbaaGreatP16zh
import Derived.Test.YtfieiaijdalkbaaGreatP16jd
namespace Go.Moat
open Go.Mini
theorem zkj{α:Type}{f:Nat→List α}:∀{l:List Nat},(∀j∈l,f j=[])→l.flatMap f=[]
 | [],_=>rfl
 | x::l,h=>by
  rw[List.flatMap_cons,h x (List.mem_cons_self ..),zkj fun j hj=>h j (List.mem_cons_of_mem _ hj)];rfl
def z7s(p:Nat→Nat)(l:List Nat):List Nat:=(l.filter fun s=>decide (p s≠0)).map fun s=>p s - 1
theorem zco(p:Nat→Nat)(a b:List Nat):z7s p (a++b)=z7s p a++z7s p b:=by
 unfold z7s;rw[List.filter_append,List.map_append]
theorem zpo{p:Nat→Nat}{l:List Nat}(h:∀s∈l,p s=0):z7s p l=[]:=by
 unfold z7s;rw[List.filter_eq_nil_iff.2 fun s hs=>by simp[h s hs]];rfl
theorem zgr{p:Nat→Nat}:∀l:List Nat,(l.flatMap fun k=>treeL p 0 k)=z7s p l
 | []=>rfl
 | x::l=>by
  rw[List.flatMap_cons,zgr l,show x::l=[x]++l from rfl,zco];congr 1;unfold treeL z7s;by_cases h:p x=0
  ·rw[if_pos h];simp[h]
  ·rw[if_neg h];simp[h]
theorem zpp{p:Nat→Nat}{c:Nat}(h:p c≠0):z7s p [c]=[p c - 1]:=by simp[z7s,h]
theorem zvi{p:Nat→Nat}(c:Nat):((List.range 32).flatMap fun j=>treeL p 0 (kid c j))=z7s p ((List.range 32).map (kid c)):=by
 rw[←zgr,List.flatMap_map]
theorem zyi{g:Geo}{V:VolS}{T:z0q}(fs:FS g V T T)(i:Nat):z5g (T i)=z7s (T i) (List.range 75):=by
 have e75:List.range 75=List.range 8++([8]++(List.range 32).map (kid 8))++([41]++([42]++(List.range 32).map (kid 42))):=by decide
 have kz:∀c,dep c≠0→T i c=0→∀s∈(List.range 32).map (kid c),T i s=0:=fun c hd hz s hs=>by
  obtain⟨j,hj,rfl⟩:=List.mem_map.1 hs;exact fs.kid0 hd hz (List.mem_range.1 hj)
 have t1:∀c,dep c≠0→treeL (T i) 1 c=z7s (T i) ([c]++(List.range 32).map (kid c)):=fun c hd=>by
  unfold treeL;by_cases hz:T i c=0
  ·rw[if_pos hz,zpo];intro s hs;rcases List.mem_append.1 hs with hs | hs
   ·rw[List.mem_singleton.1 hs];exact hz
   ·exact kz c hd hz s hs
  ·rw[if_neg hz,zco,zpp hz,zvi];rfl
 have t2:treeL (T i) 2 41=z7s (T i) ([41]++([42]++(List.range 32).map (kid 42))):=by
  have h42:T i 41=0→T i 42=0:=fun h=>fs.kid0 (s:=41) (by decide) h (j:=0) (by omega);have e32:List.range 32=0::(List.range 31).map (· + 1):=by decide
  unfold treeL;by_cases hz:T i 41=0
  ·rw[if_pos hz,zpo];intro s hs;rcases List.mem_append.1 hs with hs | hs
   ·rw[List.mem_singleton.1 hs];exact hz
   ·rcases List.mem_append.1 hs with hs | hs
    ·rw[List.mem_singleton.1 hs];exact h42 hz
    ·exact kz 42 (by decide) (h42 hz) s hs
  ·rw[if_neg hz,zco,zpp hz,←t1 42 (by decide),e32,List.flatMap_cons,zkj (l:=(List.range 31).map (· + 1))]
   ·rw[List.append_nil];rfl
   ·intro j hj;obtain⟨k,_,rfl⟩:=List.mem_map.1 hj;have:kid 41 (k+1)=75:=by simp[kid]
    rw[this];exact zhg (fs.out i 75 (by omega)) _
 unfold z5g;rw[e75,zco,zco,←t1 8 (by decide),←t2,zgr]
theorem zvj{g:Geo}{V:VolS}{T:z0q}(fs:FS g V T T)(i:Nat):(z5g (T i)).length=z7u (T i):=by
 rw[zyi fs];unfold z7s z7u;rw[List.length_map,←List.countP_eq_length_filter]
theorem zpq:∀{l m:List Int},l.Nodup→(∀x∈l,x∈m)→l.length≤m.length
 | [],m,_,_=>Nat.zero_le _
 | x::l,m,h,hs=>by
  rw[List.nodup_cons]at h;have hx:=hs x (List.mem_cons_self ..);have ih:=zpq (m:=m.erase x) h.2 fun y hy=>(List.mem_erase_of_ne (by rintro rfl;exact h.1 hy)).2 (hs y (List.mem_cons_of_mem _ hy));rw[List.length_erase_of_mem hx]at ih;have:=List.length_pos_of_mem hx
  rw[List.length_cons];omega
section
variable{N:Nat}{β:Type}{l:List HA}{S:β→HA}{d v w:Nat}{T:HA}{g:Geo}{V V':VolS}{D:DskS}{Tr P:z0q}{i:Nat}
theorem zpr{q:PH}(h:z0l v d g V q):(V.n.dirty.map (·.1)).Nodup:=by
 obtain⟨y,⟨hy,_⟩,h⟩:=h;rw[z3f 5 (z2c v d g V y) rfl]at h;obtain⟨q1,q2,h1,_⟩:=h;have:=h1.1
 rw[zeh]at this;rw[←hy.dirty];unfold forget;rw[List.map_map];exact this
theorem zps(hd:D.dead=false){i:Nat}(hi:i<D.secs.length):D.secs[i]? = some (z48 D (i:Int)):=by
 unfold z48;rw[if_pos (zbt hd hi),Int.toNat_natCast,List.getElem?_eq_getElem hi];rfl
theorem z11b{ii:Nat}(hn:(V'.n.dirty.map (·.1)).Nodup)(h:DkW ii V V' Tr)(ho:∀s,75≤s→Tr ii s=0):V'.n.dirty.length≤V.n.dirty.length+75:=by
 have:=zpq (m:=V.n.dirty.map (·.1)++(List.range 75).map fun s=>((Tr ii s - 1:Nat):Int)) hn fun k hk=>by
  rw[List.mem_append];rcases h k hk with h | ⟨s,h1,h2⟩
  ·exact .inl h
  ·refine .inr (List.mem_map.2 ⟨s,List.mem_range.2 ?_,h2.symm⟩);exact Decidable.byContradiction fun c=>h1 (ho s (by omega))
 simpa using this
structure VI(g:Geo)(V:VolS)(i:Nat):Prop where
 dead:V.dead=false
 ddead:V.disk.dead=false
 fuse:V.disk.fuse = -1
 len:g.all≤V.disk.secs.length
 n:V.disk.secs.length≤4096
 safe:V.safe.length=g.M
 done:0≤V.disk.done∧V.disk.done≤100000+16000 * i
 waits:V.disk.waits.length≤100000
 seq:V.seq≤i
theorem VI.mono{j:Nat}(h:VI g V i)(hij:i≤j):VI g V j:=⟨h.dead,h.ddead,h.fuse,h.len,h.n,h.safe,⟨h.done.1,by have:=h.done.2;omega⟩,h.waits,by have:=h.seq;omega⟩
theorem VI.keeps(h:VI g V i)(k:Keeps V V'):VI g V' i:=by
 obtain⟨n',d',s',f',b',x'⟩:=V';obtain⟨k1,k2,k3,k4,k5⟩:=k;dsimp only at k1 k2 k3 k4 k5;subst k1 k2 k3 k4 k5;exact⟨h.dead,h.ddead,h.fuse,h.len,h.n,h.safe,h.done,h.waits,h.seq⟩
theorem VI.syncIn(h:VI g V i)(hi:i<1000)(inv:Inv g V.n.m)(hk:∀k:Int,k∈V.n.dirty.map (·.1)→0≤k∧k<g.B)(hr:g.M+V.n.dirty.length≤z5d g.J):SyncIn g V:=by
 have h1:=h.done;have h2:=h.waits;have h3:=h.seq;exact⟨inv,h.dead,h.ddead,h.fuse,h.len,h.n,h.safe,fun e he=>hk e.1 (List.mem_map_of_mem (f:=(·.1)) he),hr,⟨by omega,by omega⟩,by omega,by omega⟩
theorem VI.synced(h:VI g V i)(hs:Synced g V V')(ok:MetaOk g V.n.m):VI g V' (i+1):=by
 have h1:=h.done;have h2:=h.waits;have h3:=h.seq;have h4:=hs.done;have h5:=hs.waits;have h6:=hs.seq;have hM:(z3b V.n.m).length=g.M:=by
  rw[zcz ok,ok.inol];rfl
 exact⟨hs.dead,hs.ddead,hs.fuse,by rw[hs.len];exact h.len,by rw[hs.len];exact h.n,by rw[hs.safe];exact hM,⟨by omega,by omega⟩,by omega,by omega⟩
theorem zpt(hs:Synced g V V')(hd:V.disk.dead=false)(hl:g.all≤V.disk.secs.length){b:Nat}(hb:b<g.B):V'.readE g b=0∧V'.readB g b=V.readB g b:=by
 have hga:g.all=g.blk+g.B:=rfl;have hl':g.blk+b<V'.disk.secs.length:=by rw[hs.len];omega
 have hk:=hs.blk b hb;rw[zps hs.ddead hl']at hk;unfold VolS.readE VolS.readB;rw[hs.n];refine⟨?_,?_⟩
 ·rw[if_pos (by omega)];show z7y V'.disk ((g.blk:Int)+b)=0;rw[show((g.blk:Int)+b)=((g.blk+b:Nat):Int) by simp];exact zbt hs.ddead hl'
 ·show(z48 V'.disk ((g.blk:Int)+b)).b=_;rw[show((g.blk:Int)+b)=((g.blk+b:Nat):Int) by simp];cases hx:z43 V.n.dirty (b:Int)with
  | none=>
   rw[hx]at hk;dsimp only at hk ⊢;rw[zps hd (by omega)]at hk;rw[Option.some.inj hk]
  | some x=>
   rw[hx]at hk;dsimp only at hk ⊢;rw[Option.some.inj hk]
structure Reads(g:Geo)(V V':VolS):Prop where
 m:V'.n.m=V.n.m
 rd:∀b:Nat,b<g.B→V'.readE g b=V.readE g b∧V'.readB g b=V.readB g b
theorem FS.reads(h:FS g V Tr P)(k:Reads g V V'):FS g V' Tr P:=by
 refine⟨⟨by rw[k.m];exact h.ok.inv,fun b hb=>by rw[(k.rd b hb).1];exact h.ok.re b hb,fun b hb hz=>by rw[(k.rd b hb).2];rw[k.m]at hz;exact h.ok.zero b hb hz⟩,h.le,h.out,h.inj,fun i s hz=>by rw[k.m];exact h.used i s hz,fun i s hd=>z9f (h.tab i s hd) fun c=>?_,fun b hb=>by rw[(k.rd b hb).2];exact h.l64 b hb,h.pout⟩;exact k.rd _ (by have:=h.le i s;omega)
theorem FV.reads(h:FV g V Tr)(k:Reads g V V'):FV g V' Tr:=⟨h.fs.reads k,by rw[k.m];exact h.roots⟩
theorem z150(h:FS g V Tr P)(k:Reads g V V')(i s:Nat):bk g V' (Tr i s)=bk g V (Tr i s):=by
 unfold bk;split
 ·rfl
 ·exact(k.rd _ (by have:=h.le i s;omega)).2
theorem zt7(h:FS g V Tr P)(k:Reads g V V')(i x:Nat):fb g V' Tr i x=fb g V Tr i x:=by
 unfold fb;rw[z150 h k]
theorem zc7(hs:znt g V V')(h:VI g V i)(inv:Inv g V.n.m)(re:∀b:Nat,b<g.B→V.readE g b=0):Reads g V V'∧VI g V' (i+1)∧V'.before=some V'.n∧(V'.n.dirty=[]∨(V'.n.dirty=V.n.dirty∧(V.n.dirty.length:Int)≤(z5d g.J:Int) - g.M - 80)):=by
 unfold znt at hs;split at hs
 ·obtain⟨V1,h1,rfl⟩:=hs;refine⟨⟨by show V1.n.m=_;rw[h1.n],fun b hb=>?_⟩,?_,rfl,.inl (by show V1.n.dirty=_;rw[h1.n])⟩
  ·obtain⟨e1,e2⟩:=zpt h1 h.ddead h.len hb;exact⟨e1.trans (re b hb).symm,e2⟩
  ·have:=h.synced h1 inv.ok
   exact⟨this.dead,this.ddead,this.fuse,this.len,this.n,this.safe,this.done,this.waits,this.seq⟩
 ·rename_i ht;subst hs;have:=h.mono (j:=i+1) (by omega)
  refine⟨⟨rfl,fun _ _=>⟨rfl,rfl⟩⟩,⟨this.dead,this.ddead,this.fuse,this.len,this.n,this.safe,this.done,this.waits,this.seq⟩,rfl,.inr ⟨rfl,?_⟩⟩;unfold VolS.tight at ht;simp at ht;exact ht
theorem zf3{V1:VolS}(hb:V1.before=some V1.n)(k:Keeps V1 V'):V'.abort.n=V1.n∧V'.abort.disk=V1.disk∧Reads g V1 V'.abort∧(VI g V1 i→VI g V'.abort i):=by
 obtain⟨n',d',s',f',b',x'⟩:=V';obtain⟨k1,k2,k3,k4,k5⟩:=k;dsimp only at k1 k2 k3 k4 k5;subst k1 k2 k3 k4 k5;unfold VolS.abort;rw[hb];exact⟨rfl,rfl,⟨rfl,fun _ _=>⟨rfl,rfl⟩⟩,fun h=>⟨h.dead,h.ddead,h.fuse,h.len,h.n,h.safe,h.done,h.waits,h.seq⟩⟩
end
end Go.Moat

/- Layer 16: three files on a volume in use. -/
namespace Go.Moat
open Go.Mini
def zf6(j:Nat):Nat:=if j=1 then 1 else 0
structure AI(G:Nat)(V:VolS)(T:z0q)(i:Nat):Prop where
 vi:VI (gg G) V i
 fv:FV (gg G) V T
 zero:zef (gg G) V T
 full:zos (gg G) V T
 own:zu9 (gg G) V T zf6
 row0:z55 V.n.m 0 1
 row1:z55 V.n.m 1 2
 len:V.n.m.ino.length=4
 ino:∀j,(z15 V.n.m.ino j).k=(if j<3 then 1 else 0)∧(z15 V.n.m.ino j).r=zf6 j
 key:∀k:Int,k∈V.n.dirty.map (·.1)→0≤k∧k<(gg G).B
 room:V.n.dirty.length≤120
section
variable{N:Nat}{β:Type}{l:List HA}{S:β→HA}{d v:Nat}{G:Nat}{V V1 V':VolS}{T T':z0q}{i ii at' size:Nat}{bs:List UInt8}{Tb:HA}{s:Sl}
theorem AI.hasN(A:AI G V T i){ii:Nat}(h:ii<3):V.n.m.hasE (ii:Int)=0:=by
 unfold MetaS.hasE;rw[A.len,(A.ino _).1,if_pos (by omega),Int.toNat_natCast,if_pos h,if_neg (by omega)]
theorem AI.row(A:AI G V T i){ii:Nat}(h:ii<3):z55 V.n.m (zf6 ii) (1+ii%2):=by
 unfold zf6;match ii,h with
 | 0,_=>exact A.row0
 | 1,_=>exact A.row1
 | 2,_=>exact A.row0
theorem AI.lab(A:AI G V T i){ii:Nat}(h:ii<3):V.n.m.inodeL (ii:Int)=1+ii%2:=by
 unfold MetaS.inodeL;rw[if_pos (A.hasN h),Int.toNat_natCast,(A.ino ii).2];exact(A.row h).2.2
theorem AI.mono{j:Nat}(A:AI G V T i)(h:i≤j):AI G V T j:=⟨A.vi.mono h,A.fv,A.zero,A.full,A.own,A.row0,A.row1,A.len,A.ino,A.key,A.room⟩
theorem AI.reads(A:AI G V T i)(k:Reads (gg G) V V'){j:Nat}(vi:VI (gg G) V' j)(key:∀k:Int,k∈V'.n.dirty.map (·.1)→0≤k∧k<(gg G).B)(room:V'.n.dirty.length≤120):AI G V' T j:=by
 have e:=k.m;refine⟨vi,A.fv.reads k,fun i x hx hx2=>by rw[zt7 A.fv.fs k];exact A.zero i x (by rw[e]at hx;exact hx) hx2,fun b hb hu=>A.full b hb (by rw[e]at hu;exact hu),fun i s hz=>by rw[e];exact A.own i s hz,by rw[e];exact A.row0,by rw[e];exact A.row1,by rw[e];exact A.len,by rw[e];exact A.ino,key,room⟩
theorem gg_M(G:Nat):(gg G).M=5:=by
 show 3+4 / 2=5;omega
theorem zxd(G:Nat):z5d (gg G).J=130:=by
 show z5d 140=130;decide
theorem AI.syncIn(A:AI G V T i)(hi:i<1000):SyncIn (gg G) V:=
 A.vi.syncIn hi A.fv.fs.ok.inv A.key (by rw[gg_M,zxd];have:=A.room;omega)
theorem AI.begun(A:AI G V T i)(hs:znt (gg G) V V'):AI G V' T (i+1)∧V'.before=some V'.n∧V'.n.dirty.length≤45:=by
 obtain⟨h1,h2,h3,h4⟩:=zc7 hs A.vi A.fv.fs.ok.inv A.fv.fs.ok.re;have hM:=gg_M G;have hr:=zxd G;have h45:V'.n.dirty.length≤45:=by
  rcases h4 with h4 | ⟨h4,h5⟩
  ·rw[h4];simp
  ·rw[h4];omega
 refine⟨A.reads h1 h2 (fun k hk=>?_) (by omega),h3,h45⟩;rcases h4 with h4 | ⟨h4,_⟩
 ·rw[h4]at hk;simp at hk
 ·rw[h4]at hk;exact A.key k hk
theorem AI.aborted(A:AI G V1 T i)(hb:V1.before=some V1.n)(k:Keeps V1 V'):AI G V'.abort T i:=by
 obtain⟨h1,h2,h3,h4⟩:=zf3 (g:=gg G) (i:=i) hb k;exact A.reads h3 (h4 A.vi) (by rw[h1];exact A.key) (by rw[h1];exact A.room)
theorem z13c{ii:Nat}{g:Geo}{Tr:z0q}(h:DkW ii V V' Tr)(hle:∀s,Tr ii s≤g.B)(hk:∀k:Int,k∈V.n.dirty.map (·.1)→0≤k∧k<g.B):∀k:Int,k∈V'.n.dirty.map (·.1)→0≤k∧k<g.B:=fun k hx=>by
 rcases h k hx with h | ⟨s,h1,h2⟩
 ·exact hk k h
 ·have:=hle s
  omega
theorem AI.wrote(A:AI G V T i)(hg:(gg G).ok)(hii:ii<3)(hb:bs≠[])(W:Wrote (gg G) V T ii at' bs V' T')(hn:(V'.n.dirty.map (·.1)).Nodup)(hd:V.n.dirty.length≤45):AI G V' T' i∧∀j,z1z V'.n.m j=if j=ii then max (z1z V.n.m j) (at'+bs.length)else z1z V.n.m j:=by
 obtain⟨u,n',hu,em,k1,k2,k3,k4⟩:=W.al;have hrow:=A.row hii;have hlab:V.n.m.inodeL (ii:Int)<65536:=by rw[A.lab hii];omega
 have hinv:=A.fv.fs.ok.inv;have eino:V'.n.m.ino=V.n.m.ino.set ii n':=by rw[em];show(z2p _ _ _ _).ino.set ii n'=_;rw[z7t]
 have hlen:ii<V.n.m.ino.length:=by rw[A.len];omega
 have esz:∀j,z1z V'.n.m j=if j=ii then max (z1z V.n.m j) (at'+bs.length)else z1z V.n.m j:=fun j=>by
  unfold z1z;rw[eino,z5k hlen];by_cases e:j=ii
  ·subst e;rw[if_pos rfl,if_pos rfl,k4];omega
  ·rw[if_neg e,if_neg e]
 have rw':∀{r a:Nat},z55 V.n.m r a→z55 V'.n.m r a:=fun h=>by
  rw[em];have:=zas hg hlab u V.n.m hinv h.2.1
  exact⟨h.1,this.2,this.1.trans h.2.2⟩
 refine⟨⟨A.vi.keeps W.kp,W.fv,fun i x hx hx2=>?_,W.xt.full A.full,(W.xt.own zf6 (by rw[A.lab hii];exact hrow) A.own).1,rw' A.row0,rw' A.row1,by rw[eino,List.length_set,A.len],fun j=>?_,z13c W.xt.dk (W.fv.fs.le ii) A.key,by have:=z11b hn W.xt.dk (W.fv.fs.out ii);omega⟩,esz⟩
 ·rw[esz]at hx;rw[W.fb,if_neg]
  ·refine A.zero i x ?_ hx2;split at hx<;>omega
  ·rintro⟨rfl,h3,h4⟩
   rw[if_pos rfl]at hx;omega
 ·rw[eino,z5k hlen];split
  ·rename_i e;subst e;rw[k1,k2];exact A.ino j
  ·exact A.ino j
theorem AI.cut(A:AI G V T i)(hii:ii<3)(C:CutP (gg G) V T ii size V' T')(hn:(V'.n.dirty.map (·.1)).Nodup)(hd:V.n.dirty.length≤45):AI G V' T' i∧∀j,z1z V'.n.m j=if j=ii then size else z1z V.n.m j:=by
 obtain⟨n',eino,k1,k2,k3,k4⟩:=C.ino;have hlen:ii<V.n.m.ino.length:=by rw[A.len];omega
 have esz:∀j,z1z V'.n.m j=if j=ii then size else z1z V.n.m j:=fun j=>by
  unfold z1z;rw[eino,z5k hlen];by_cases e:j=ii
  ·rw[if_pos e,if_pos e,k4];exact Int.toNat_natCast _
  ·rw[if_neg e,if_neg e]
 have hino:∀j,(z15 V'.n.m.ino j).k=(if j<3 then 1 else 0)∧(z15 V'.n.m.ino j).r=zf6 j:=fun j=>by
  rw[eino,z5k hlen];split
  ·rename_i e;subst e;rw[k1,k2];exact A.ino j
  ·exact A.ino j
 have hl':V'.n.m.ino.length=4:=by rw[eino,List.length_set,A.len]
 have mem:∀(W:VolS),W.n.m.ino.length=4→∀j,j<4→z15 W.n.m.ino j∈W.n.m.ino:=fun W h j hj=>by
  unfold z15;rw[List.getElem?_eq_getElem (by omega)];exact List.getElem_mem _
 have rw':∀{r a:Nat}(j:Nat),j<3→zf6 j=r→z55 V.n.m r a→z55 V'.n.m r a:=fun j hj hr h=>by
  refine⟨h.1,?_,?_⟩
  ·have:=C.fv.fs.ok.inv.rf.ino _ (mem V' hl' j (by omega)) (by rw[(hino j).1,if_pos hj];omega)
   rw[(hino j).2,hr]at this;exact this
  ·rw[C.rows _ ⟨_,mem V A.len j (by omega),by rw[(A.ino j).1,if_pos hj];omega,by rw[(A.ino j).2,hr]⟩];exact h.2.2
 refine⟨⟨A.vi.keeps C.kp,C.fv,fun i x hx hx2=>?_,C.xt.full A.full,C.xt.own zf6 A.own,rw' 0 (by omega) rfl A.row0,rw' 1 (by omega) rfl A.row1,hl',hino,z13c C.xt.dk (A.fv.fs.le ii) A.key,by have:=z11b hn C.xt.dk (A.fv.fs.out ii);omega⟩,esz⟩;rw[esz]at hx;rw[C.fb i x hx2];split
 ·rfl
 ·rename_i hn;refine A.zero i x ?_ hx2;by_cases e:i=ii
  ·rw[if_pos e]at hx;exact absurd ⟨e,hx⟩ hn
  ·rw[if_neg e]at hx;exact hx
theorem zzk{g:Geo}{m:MetaS}{r a:Nat}(inv:Inv g m)(h:z55 m r a)(hG:g.G+m.ino.length<60000)(hE:(m.alloc g a).1.2≠0):(m.alloc g a).1.2=5:=by
 have hrow:=zb2 inv.ok.rows h.1 h.2.1 h.2.2;have hret:z3w m.rows a=0:=by
  unfold z3w;rw[zec hrow];dsimp only;rw[if_neg];have h1:=inv.refs r h.1;unfold MetaS.cnt at h1;have h2:=List.countP_le_length (p:=z7d r) (l:=m.own);have h3:=List.countP_le_length (p:=z66 r) (l:=m.ino);rw[inv.ok.ownl]at h2;omega
 unfold MetaS.alloc at hE ⊢;cases hat:m.atB g a with
 | some b=>rw[hat]at hE;exact absurd rfl hE
 | none=>
  rw[hat]at hE;dsimp only at hE ⊢;cases hfr:m.own.findIdx? z34 with
  | none=>rfl
  | some k=>
   rw[hfr]at hE;dsimp only at hE;rw[if_pos hret]at hE;exact absurd rfl hE
theorem znv{g:Geo}(hg:g.ok){a:Nat}(ha:a<65536):∀(k:Nat)(m:MetaS),Inv g m→Inv g (z2p g a k m)
 | 0,m,h=>h
 | k+1,m,h=>znv hg ha k _ (zcy hg h ha)
theorem AI.fell(A:AI G V T i)(hg:(gg G).ok)(hii:ii<3){e:Nat}{E:Int}(F:FellW (gg G) V T ii at' e (V.n.m.inodeL (ii:Int)) E V'):E=5:=by
 obtain⟨m,h1,h2⟩:=F.al;have hE:=F.E;rw[←h2]at hE ⊢;have ha:V.n.m.inodeL (ii:Int)<65536:=by rw[A.lab hii];omega
 have hrow:=A.row hii;rw[←A.lab hii]at hrow;have hr:=zas hg ha m V.n.m A.fv.fs.ok.inv hrow.2.1;refine zzk (r:=zf6 ii) (znv hg ha m _ A.fv.fs.ok.inv) ⟨hrow.1,hr.2,hr.1.trans hrow.2.2⟩ ?_ hE;rw[z7t,A.len];have hG:=hg.g2;show(gg G).G+4<60000;omega
theorem z167(h1:1≤G)(h2:G≤20):AI G ((z7e (gg G)).wM (m3 G)) T0 0:=by
 have L:=zuk h1 h2 (show 1≠0 by omega);have hg:=zc8 h1 h2;have hga:(gg G).all=(gg G).blk+(gg G).B:=rfl;have hblk:(gg G).blk=4+(gg G).J+(gg G).I / 2:=rfl;have hall:=hg.all_le;have hf:(z7e (gg G)).disk.secs.length=(gg G).all:=zg2 (gg G);have hM:(z3b (z9a (gg G))).length=(gg G).M:=by
  rw[zcz (zeb (gg G)).ok,(zeb (gg G)).ok.inol];rfl
 refine⟨⟨rfl,rfl,rfl,by show _≤(z7e (gg G)).disk.secs.length;omega,by show(z7e (gg G)).disk.secs.length≤_;omega,hM,⟨?_,?_⟩,show(0:Nat)≤_ by omega,show(0:Nat)≤0 by omega⟩,L.fv,L.zero,fun b _ hb=>?_,fun _ _ h=>absurd rfl h,⟨by omega,L.row0.2,L.row0.1⟩,⟨by omega,L.row1.2,L.row1.1⟩,L.len,L.ino,fun k hk=>?_,show(0:Nat)≤_ by omega⟩
 ·show(0:Int)≤(gg G).all+1;omega
 ·show(((gg G).all+1:Nat):Int)≤_;omega
 ·rw[show z0y ((z7e (gg G)).wM (m3 G)).n.m.used b=false from zae b]at hb;cases hb
 ·cases hk
end
end Go.Moat

/- Layer 16: acts; Meta. -/
namespace Go.Moat
open Go.Mini
structure ActS where
 k:Nat
 f:Nat
 at_:Int
 n:Int
 b:Sl
 bs:List UInt8
def zb4(A:ActS):List MV:=[.int .u8 A.k,.int .u8 A.f,.int .i64 A.at_,.int .i64 A.n,.sl A.b.p A.b.len 1]
theorem zhj(A:ActS):(zb4 A).length=5:=rfl
structure ActIn(T:HA)(A:ActS):Prop where
 k:A.k<256
 f:A.f<256
 at_ : -9223372036854775808≤A.at_∧A.at_<9223372036854775808
 n : -9223372036854775808≤A.n∧A.n<9223372036854775808
 rd:RdC T A.b 1 (bytesOf A.bs)
section
variable{N:Nat}{β:Type}{l:List HA}{S:β→HA}{v d w:Nat}{g:Geo}{V:VolS}{m:M β}{T:HA}{s:Sl}{acts:List ActS}{e:Nat}{cs:List MV}
theorem zoz(n:Nat)(hl:l[n]? = some T)(hr:RdC T s e cs){i o e' ln:Nat}{p:Option MA}(hi:i<s.len)(ho:o<e)(hv:cs[i * e+o]? = some (.sl p ln e')){f:Sl→M β}(kk:Tri (z00 l) (f ⟨p,ln⟩) S):Tri (z00 l) (bd (idx e s (i:Int)) fun q=>bd (fld q o) fun q=>bd (ldL e' q) f) S:=by
 have e1:(bd (idx e s (i:Int)) fun q=>bd (fld q o) fun q=>bd (ldL e' q) f)=bd (bd (idx e s (i:Int)) fun q=>bd (fld q o) fun q=>ldL e' q) f:=by
  rw[bd_bd];congr 1;funext q;rw[bd_bd]
 rw[e1];refine z6j n hl (fun h q hq hh=>?_) kk;obtain⟨a,r,ro,h1,h2,h3,h4⟩:=hr.elem hq hh hi;have h5:=ze6 h4 ho;simp only[bd,h1,fld,ret];exact ziu h2 (h5.trans hv)
theorem z18l(k:Nat)(hl:l[k]? = some T)(h:RdC T s 5 (z0x zb4 acts)){i:Nat}(hi:i<acts.length){f:Int×Int×Int×Int×Sl→M β}(kk:Tri (z00 l) (f ((acts[i].k:Int),(acts[i].f:Int),acts[i].at_,acts[i].n,acts[i].b)) S):Tri (z00 l) (bd (idx 5 s (i:Int)) fun q=>bd (z4f [.int .u8,.int .u8,.int .i64,.int .i64,.sl 1] q) f) S:=
 zop k hl (ts:=[.int .u8,.int .u8,.int .i64,.int .i64,.sl 1]) h (i:=i) (by have:=h.1;rw[z0u zhj]at this;omega) (x:=((acts[i].k:Int),(acts[i].f:Int),acts[i].at_,acts[i].n,acts[i].b)) (by
  show HC.dec _ (((z0x zb4 acts).drop (i * 5)).take 5)=_;rw[zdo zhj hi];rfl) kk
structure FewOk(T:HA)(acts:List ActS)(r:Sl)(k:Nat):Prop where
 le:k≤acts.length
 k40:k≤40
 small:∀(i:Nat)(hi:i<acts.length),i<k→acts[i].b.len≤4000
 len:r.len=k
 rd:0<k→RdC T r 5 (z0x zb4 (acts.take k))
theorem z168(hr:acts≠[]→RdC T s 5 (z0x zb4 acts))(hlen:s.len=acts.length)(hN:200<N):Tri (z00 [T]) (F_39 N s) fun r=>exA fun k:Nat=>pu (FewOk T acts r k) (z00 [T]):=by
 have hne:∀{k:Nat},k<acts.length→acts≠[]:=fun h c=>by subst c;simp at h
 unfold F_39;have cut:∀k:Nat,k≤acts.length→k≤40→(∀(i:Nat)(hi:i<acts.length),i<k→acts[i].b.len≤4000)→FewOk T acts (z2w 5 s 0 k) k:=by
  intro k hk h100 hs;refine⟨hk,h100,hs,by simp[z2w],fun hk0=>?_⟩;have:=(hr (hne (k:=0) (by omega))).sub (lo:=0) (hi:=k) (Nat.zero_le _) (by omega)
  rw[Nat.zero_mul,List.drop_zero,Nat.sub_zero]at this;have e1:(z0x zb4 acts).take (k * 5)=z0x zb4 (acts.take k):=by
   have e2:z0x zb4 acts=z0x zb4 (acts.take k)++z0x zb4 (acts.drop k):=by rw[←z8p,List.take_append_drop]
   rw[e2];exact List.take_left' (by rw[z0u zhj,List.length_take,Nat.min_eq_left hk])
  rw[e1]at this;exact this
 have loop':∀(K k:Nat)(left:Int),41 - k<K→k≤acts.length→k≤40→(∀(i:Nat)(hi:i<acts.length),i<k→acts[i].b.len≤4000)→0≤left∧left≤12000 →
   Tri (z00 [T]) (z0e K (F_5j N s) (left,(k:Int))) fun r=>pu (match r with | .inl _=>FewOk T acts s acts.length | .inr z=>∃k:Nat,FewOk T acts z k) (z00 [T]):=by
  intro K;induction K with
  | zero=>intro k left h;omega
  | succ K ih=>
   intro k left h hk h100 hs hleft;rw[z13];unfold F_5j;by_cases hkl:k<acts.length
   ·refine z07 (by simp[hlen];omega) ?_;have hrow:(z0x zb4 acts)[k * 5+4]? = some (.sl acts[k].b.p acts[k].b.len 1):=by rw[z3l zhj hkl (by omega)];rfl
    refine z02 [0] (Q:=fun c=>pu (c=(decide (40≤k) || decide (4000<acts[k].b.len))) (z00 [T])) ?_ fun c=>z04 fun hc=>z01 ?_
    ·by_cases h1:40≤k
     ·exact z05 (by simp;omega) (z03 [0] fun q hq=>⟨by simp[h1],hq⟩)
     ·refine z07 (by simp;omega) ?_;refine zoz 0 rfl (hr (hne hkl)) (i:=k) (o:=4) (by omega) (by omega) hrow ?_;refine z03 [0] fun q hq=>⟨?_,hq⟩;simp[h1];omega
    dsimp only[sel,rem,nth,del,cat,upd];refine z02 [0] (Q:=fun c'=>pu (c'=((decide (40≤k) || decide (4000<acts[k].b.len)) || decide (left<(acts[k].b.len:Int)))) (z00 [T])) ?_ fun c'=>z04 fun hc'=>z01 ?_
    ·by_cases h1:c=false
     ·refine z07 h1 ?_;refine zoz 0 rfl (hr (hne hkl)) (i:=k) (o:=4) (by omega) (by omega) hrow ?_;refine z03 [0] fun q hq=>⟨?_,hq⟩;rw[←hc,h1];rfl
     ·refine z05 h1 (z03 [0] fun q hq=>⟨?_,hq⟩);rw[←hc];cases c with
      | true=>rfl
      | false=>exact absurd rfl h1
    dsimp only[sel,rem,nth,del,cat,upd];by_cases hbad:(40≤k∨4000<acts[k].b.len)∨left<(acts[k].b.len:Int)
    ·refine z07 (by rw[hc'];simpa using hbad) ?_;refine z3t (by omega) (by omega) (by omega) ?_;rw[Int.toNat_natCast];exact z03 [0] fun q hq=>⟨⟨k,cut k (by omega) h100 hs⟩,hq⟩
    ·refine z05 (by rw[hc'];simpa using hbad) ?_;rw[not_or,not_or]at hbad;refine zoz 0 rfl (hr (hne hkl)) (i:=k) (o:=4) (by omega) (by omega) hrow ?_;dsimp only;rw[z09 (n:=(k:Int)+1) (by omega) (by omega),z09 (n:=left - _) (by omega) (by omega)];refine ih (k+1) _ (by omega) (by omega) (by omega) (fun i hi hik=>?_) (by omega);by_cases e:i=k
     ·subst e;omega
     ·exact hs i hi (by omega)
   ·obtain rfl:k=acts.length:=by omega
    refine z05 (by simp[hlen]) (z03 [0] fun q hq=>⟨⟨Nat.le_refl _,h100,hs,hlen,fun h0=>?_⟩,hq⟩);rw[List.take_length];exact hr (hne h0)
 refine z02 [0] (loop' N 0 12000 (by omega) (by omega) (by omega) (fun i _ h=>by omega) (by omega)) fun r=>z04 fun hr'=>z01 ?_;cases r with
 | inl _=>exact z03 [0] fun q hq=>⟨acts.length,hr',hq⟩
 | inr z=>obtain⟨k,hk⟩:=hr';exact z03 [0] fun q hq=>⟨k,hk,hq⟩
theorem zzl(hg:g.ok)(ok:MetaOk g V.n.m):Tri (z00 [z0l v d g V]) (F_3a N (some ⟨v,0⟩)) fun r=>z00 [z06 r.1 2 (z1t V.n.m.rows),z06 r.2.1 1 (z1c V.n.m.own),z06 r.2.2.1 1 (bytesOf V.n.m.used),z06 r.2.2.2 14 (z2m V.n.m.ino),z0l v d g V]:=by
 unfold F_3a;refine z05 (by simp) ?_;refine tri_vol 0 rfl fun y hy hd=>?_;dsimp only[sel,rem,nth,del,cat,upd,z2c];refine z0r (z0b (z0b (zbx 0 rfl (ts:=[.sl 2,.sl 1,.sl 1,.sl 14]) (x:=(y.x.rows,y.x.own,y.x.used,y.x.ino)) (by simp[z39]) rfl ?_)));refine z0c 1 rfl fun l1=>z0c 2 rfl fun l2=>z0c 3 rfl fun l3=>z0c 4 rfl fun l4=>?_;refine z6w [1,1,1,1] ?_;dsimp only[sel,rem,nth,del,cat,upd];refine z02 [0] (zns (m:=(y.x.rows,y.x.own,y.x.used,y.x.ino)) hg ok ⟨RdC.at 0 rfl (z0k l1),RdC.at 1 rfl (z0k l2),RdC.at 2 rfl (z0k l3),RdC.at 3 rfl (z0k l4)⟩) fun r6=>z01 ?_;dsimp only[sel,rem,nth,del,cat,upd];refine z8r 4 rfl ?_;dsimp only[sel,rem,nth,del,cat,upd];refine z6w [8,0,0,0,0,4,4,4,4,4,4] ?_;dsimp only[sel,rem,nth,del,cat,upd];refine z6s 0 (B:=z0l v d g V) rfl (fun q hq=>by have:=z1r hy hd hq;rwa [stars_one]at this) ?_;exact z03 [1,1,1,1,0] fun q hq=>hq
theorem z18m(x:UInt8){r:Nat}(hr:r<8):z37 .and .u8 (zbc .u8 (x.toNat:Int) (r:Int)) 1=if x.toNat.testBit r then 1 else 0:=by
 have hx:=x.toNat_lt;have h8:IntKind.u8.bits=8:=rfl;rw[zfs (by rw[h8];omega)];have hd:x.toNat / 2^r<2^IntKind.u8.bits:=Nat.lt_of_le_of_lt (Nat.div_le_self _ _) (by rw[h8];omega);have e:z37 .and .u8 ((x.toNat / 2^r:Nat):Int) 1=((x.toNat / 2^r &&& 1:Nat):Int):=(zdm rfl hd (b:=1) (by rw[h8];omega)).1;rw[e];have key:∀n:Fin 256,∀r:Fin 8,(n.val / 2^r.val &&& 1:Nat)=if n.val.testBit r.val then 1 else 0:=by decide +kernel
 have k:=key ⟨x.toNat,by omega⟩ ⟨r,hr⟩;dsimp only at k;rw[k];split<;>rfl
def zjc(kvs:List (Int×MV))(f:Nat→Bool):Prop:=∀k:Nat,(z6t kvs k=none∧f k=false)∨z6t kvs k=some (.bool (f k))
theorem zjc.val{kvs:List (Int×MV)}{f:Nat→Bool}(h:zjc kvs f)(k:Nat):CTy.dec .bool ((z6t kvs k).getD (.bool false))=some (f k):=by
 rcases h k with⟨h1,h2⟩ | h1
 ·rw[h1,h2];rfl
 ·rw[h1];rfl
theorem zjc.put{kvs:List (Int×MV)}{f:Nat→Bool}(h:zjc kvs f)(k:Nat):zjc (z6u kvs k (.bool true)) fun j=>f j || decide (j=k):=by
 intro j;rw[zlf];dsimp only;by_cases e:j=k
 ·subst e;exact .inr (by rw[if_pos rfl];simp)
 ·rw[if_neg (by omega),decide_eq_false e,Bool.or_false];exact h j
theorem zjc.congr{kvs:List (Int×MV)}{f f':Nat→Bool}(h:zjc kvs f)(e:∀k,f' k=f k):zjc kvs f':=fun k=>by rw[e];exact h k
end
end Go.Moat
