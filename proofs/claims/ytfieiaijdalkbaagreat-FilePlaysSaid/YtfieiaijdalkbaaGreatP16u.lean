/- Layer 16: the blocks of files, in plain words. -/
import Derived.Test.YtfieiaijdalkbaaGreatP16n
namespace Go.Moat
open Go.Mini
structure VOk(g:Geo)(V:VolS):Prop where
 inv:Inv g V.n.m
 re:∀b:Nat,b<g.B→V.readE g b=0
 zero:∀b:Nat,b<g.B→z0y V.n.m.used b=false→V.readB g b=z1h
structure Keeps(V V':VolS):Prop where
 disk:V'.disk=V.disk
 seq:V'.seq=V.seq
 safe:V'.safe=V.safe
 before:V'.before=V.before
 dead:V'.dead=V.dead
section
variable{V:VolS}{g:Geo}{m:MetaS}
theorem z9e(b:Nat)(bs:List UInt8)(c:Nat)(hc:c<g.B)(h:V.readE g c=0):(V.write g b bs).readE g c=0:=by
 unfold VolS.readE VolS.write NowS.write at *;dsimp only at *;rw[if_pos (by omega)]at h ⊢;rw[zlb];by_cases e:(c:Int)=b
 ·rw[if_pos e]
 ·rw[if_neg e];exact h
theorem z54(b:Nat)(bs:List UInt8)(c:Nat):(V.write g b bs).readB g c=if c=b then bs else V.readB g c:=by
 unfold VolS.readB VolS.write NowS.write;dsimp only;rw[zlb];by_cases e:c=b
 ·rw[if_pos (by omega),if_pos e]
 ·rw[if_neg (by omega),if_neg e]
theorem VOk.wM(h:VOk g V){m:MetaS}(hm:Inv g m)(hu:∀b,b<g.B→z0y m.used b=false→z0y V.n.m.used b=false):VOk g (V.wM m):=
 ⟨hm,h.re,fun b hb hz=>h.zero b hb (hu b hb hz)⟩
theorem zgs(V:VolS)(m:MetaS):Keeps V (V.wM m):=⟨rfl,rfl,rfl,rfl,rfl⟩
theorem zca(V:VolS)(b:Nat)(bs:List UInt8):Keeps V (V.write g b bs):=⟨rfl,rfl,rfl,rfl,rfl⟩
theorem z4q(V:VolS):Keeps V V:=⟨rfl,rfl,rfl,rfl,rfl⟩
theorem VOk.write(h:VOk g V){b:Nat}(hb:b<g.B)(hbit:z0y V.n.m.used b=true)(bs:List UInt8):VOk g (V.write g b bs):=by
 refine⟨h.inv,fun c hc=>z9e b bs c hc (h.re c hc),fun c hc hz=>?_⟩;have hz':z0y V.n.m.used c=false:=hz;rw[z54,if_neg (by rintro rfl;rw[hbit]at hz';cases hz')];exact h.zero c hc hz'
theorem zyk{m:MetaS}(hg:g.ok)(h:Inv g m)(a:Nat):∀b,b<g.B→z0y (m.alloc g a).2.used b=false→z0y m.used b=false:=by
 intro b hb;have hul:=h.ok.usedl;have hgp:=hg.gp;have hB:g.B=g.G * g.P:=rfl;have key:∀c,c<g.B→z0y (z1x m.used c true) b=false→z0y m.used b=false:=by
  intro c hc;rw[z1y (by omega)];split
  ·intro h;cases h
  ·exact id
 unfold MetaS.alloc;cases hat:m.atB g a with
 | some c=>
  dsimp only;unfold MetaS.atB at hat;split at hat
  ·rw[List.find?_range'_eq_some]at hat;have:=List.mem_range'_1.1 hat.2.1
   exact key c (by omega)
  ·cases hat
 | none=>
  dsimp only;cases hfr:m.own.findIdx? z34 with
  | none=>exact id
  | some k=>
   dsimp only;split
   ·have hk:=(List.findIdx?_eq_some_iff_getElem.1 hfr).1;rw[h.ok.ownl]at hk;have hb:k * g.P+g.P≤g.G * g.P:=z3s hk;have:=hg.p1
    exact key (k * g.P) (by omega)
   ·exact id
theorem ztf{m:MetaS}(hg:g.ok)(h:Inv g m){a:Nat}(h0:(m.alloc g a).1.2=0):∃b:Nat,(m.alloc g a).1.1=b∧b<g.B∧z0y m.used b=false∧(m.alloc g a).2.used=z1x m.used b true:=by
 have hB:g.B=g.G * g.P:=rfl;have hp1:=hg.p1;unfold MetaS.alloc at h0 ⊢;cases hat:m.atB g a with
 | some c=>
  rw[hat]at h0;dsimp only;unfold MetaS.atB at hat;split at hat
  ·rw[List.find?_range'_eq_some]at hat;have h1:=List.mem_range'_1.1 hat.2.1;have h2:=hat.1;unfold MetaS.isAt at h2;simp only[Bool.and_eq_true]at h2;exact⟨c,rfl,by omega,by simpa using h2.2,rfl⟩
  ·cases hat
 | none=>
  rw[hat]at h0;dsimp only at h0 ⊢;cases hfr:m.own.findIdx? z34 with
  | none=>rw[hfr]at h0;simp at h0
  | some k=>
   rw[hfr]at h0;dsimp only at h0 ⊢;by_cases hE:z3w m.rows a=0
   ·rw[if_pos hE];obtain⟨hk,hk0,_⟩:=List.findIdx?_eq_some_iff_getElem.1 hfr;have hkG:k<g.G:=by rw[←h.ok.ownl];exact hk
    have hb:k * g.P+g.P≤g.G * g.P:=z3s hkG;refine⟨k * g.P,rfl,by omega,?_,rfl⟩;cases hbit:z0y m.used (k * g.P)with
    | false=>rfl
    | true=>
     have:=(h.grp k hkG).2 ⟨k * g.P,Nat.le_refl _,by rw[Nat.add_mul];omega,hbit⟩
     rw[List.getElem?_eq_getElem hk]at this;unfold z34 at hk0;simp at hk0;rw[hk0]at this;simp at this
   ·rw[if_neg hE]at h0;exact absurd h0 hE
theorem z182(hg:g.ok):VOk g (z7e g):=by
 have inv:=zeb g;have hga:g.all=g.blk+g.B:=rfl;have hblk:g.blk=4+g.J+g.I / 2:=rfl;refine⟨inv,fun b hb=>?_,fun b hb _=>?_⟩
 ·unfold VolS.readE;rw[if_pos (by omega)];show z7y (z9t g) ((g.blk:Int)+b)=0;rw[show((g.blk:Int)+b)=((g.blk+b:Nat):Int) by simp];exact zbt rfl (by rw[zg2];omega)
 ·unfold VolS.readB;show(z48 (z9t g) ((g.blk:Int)+b)).b=z1h;rw[show((g.blk:Int)+b)=((g.blk+b:Nat):Int) by simp,zli (by omega) (by omega)];rfl
end
def kid(s j:Nat):Nat:=if s=8 then 9+j else if s=41 then(if j=0 then 42 else 75)else 43+j
def dep(s:Nat):Nat:=if s=41 then 2 else if s=8∨s=42 then 1 else 0
abbrev z1b(c s:Nat):Prop:=(c=8∧9≤s∧s≤40)∨(c=41∧42≤s∧s≤74)∨(c=42∧43≤s∧s≤74)
def z2s(p:Nat→Nat)(s:Nat):List Nat:=(List.range 32).map fun j=>p (kid s j)
abbrev z0q:=Nat→Nat→Nat
def put(T:z0q)(i s x:Nat):z0q:=fun j t=>if j=i∧t=s then x else T j t
theorem z3k(p:Nat→Nat)(s:Nat):(z2s p s).length=32:=by simp[z2s]
theorem z4z(p:Nat→Nat)(s:Nat){j:Nat}(hj:j<32):(z2s p s)[j]? = some (p (kid s j)):=by simp[z2s,hj]
theorem zjo{p q:Nat→Nat}{s:Nat}(h:∀j,j<32→p (kid s j)=q (kid s j)):z2s p s=z2s q s:=
 List.map_congr_left fun j hj=>h j (List.mem_range.1 hj)
theorem dep_cases{s:Nat}(h:dep s≠0):s=8∨s=41∨s=42:=by
 unfold dep at h;split at h
 ·omega
 ·split at h
  ·omega
  ·exact absurd rfl h
theorem z4b{s j:Nat}(h:dep s≠0)(hj:j<32)(hk:kid s j<75):z1b s (kid s j):=by
 rcases dep_cases h with rfl | rfl | rfl<;>simp[kid,z1b]at hk ⊢
 ·omega
 ·split at hk<;>simp_all
 ·omega
theorem zjp{s j s' j':Nat}(h:dep s≠0)(h':dep s'≠0)(hj:j<32)(hj':j'<32)(hk:kid s j<75)(e:kid s j=kid s' j'):s=s'∧j=j':=by
 rcases dep_cases h with rfl | rfl | rfl<;>rcases dep_cases h' with rfl | rfl | rfl<;>simp[kid]at hk e ⊢ <;> (repeat' split at hk)<;>(repeat' split at e)<;>omega
theorem zjq{s j:Nat}(h:dep s≠0)(hj:j<32)(hk:kid s j<75):dep s=dep (kid s j)+1:=by
 rcases dep_cases h with rfl | rfl | rfl<;>simp[kid]at hk ⊢
 ·have:dep (9+j)=0:=by unfold dep;rw[if_neg (by omega),if_neg (by omega)]
  rw[this];rfl
 ·split at hk
  ·rename_i e;rw[if_pos e];rfl
  ·omega
 ·have:dep (43+j)=0:=by unfold dep;rw[if_neg (by omega),if_neg (by omega)]
  rw[this];rfl
theorem z1a3{s j:Nat}(h:dep s≠0)(hj:j<32):kid s j≠s:=by
 rcases dep_cases h with rfl | rfl | rfl<;>simp[kid]
 ·omega
 ·split<;>omega
 ·omega
theorem z82(s:Nat){j:Nat}(hj:j<32):kid s j<76:=by
 unfold kid;split
 ·omega
 ·split
  ·split<;>omega
  ·omega
def bk(g:Geo)(V:VolS)(p:Nat):List UInt8:=if p=0 then z1h else V.readB g ((p - 1:Nat):Int)
structure FS(g:Geo)(V:VolS)(T P:z0q):Prop where
 ok:VOk g V
 le:∀i s,T i s≤g.B
 out:∀i s,75≤s→T i s=0
 inj:∀i s j t,T i s≠0→T i s=T j t→i=j∧s=t
 used:∀i s,T i s≠0→z0y V.n.m.used (T i s - 1)=true
 tab:∀i s,dep s≠0→zjv g V (T i s) (z2s (P i) s)
 l64:∀b:Nat,b<g.B→(V.readB g b).length=64
 pout:∀i,P i 75=0
theorem z1ay:tabB (List.replicate 32 0)=z1h:=by decide
section
variable{V:VolS}{g:Geo}{T P P':z0q}{i s:Nat}
theorem FS.congr(h:FS g V T P)(e:∀i s,dep s≠0→∀j,j<32→P' i (kid s j)=P i (kid s j)):FS g V T P':=
 ⟨h.ok,h.le,h.out,h.inj,h.used,fun i s hd=>by rw[zjo (e i s hd)];exact h.tab i s hd,h.l64,fun i=>(e i 41 (by decide) 1 (by omega)).trans (h.pout i)⟩
theorem FS.pos(h:FS g V T P)(hz:T i s≠0):s<75:=by
 apply Decidable.byContradiction;intro hs;exact hz (h.out i s (by omega))
theorem FS.num(h:FS g V T P)(hg:g.ok)(i s:Nat):T i s≤512:=Nat.le_trans (h.le i s) hg.gp
theorem FS.kid0(h:FS g V T P)(hd:dep s≠0)(hz:T i s=0){j:Nat}(hj:j<32):P i (kid s j)=0:=by
 have h1:=(h.tab i s hd).2;rw[if_pos hz]at h1;have h2:=z4z (P i) s hj;rw[h1]at h2;rw[List.getElem?_replicate,if_pos hj]at h2;exact(Option.some.inj h2).symm
theorem z9f{V V':VolS}{p:Nat}{ps:List Nat}(h:zjv g V p ps)(e:p≠0→V'.readE g ((p - 1:Nat):Int)=V.readE g ((p - 1:Nat):Int)∧V'.readB g ((p - 1:Nat):Int)=V.readB g ((p - 1:Nat):Int)):zjv g V' p ps:=by
 refine⟨h.1,?_⟩;have h2:=h.2;by_cases hp:p=0
 ·rw[if_pos hp]at h2 ⊢;exact h2
 ·rw[if_neg hp]at h2 ⊢;rw[(e hp).1,(e hp).2];exact h2
theorem FS.alloc(h:FS g V T P)(hg:g.ok){a:Nat}(ha:a<65536)(hE:(V.n.m.alloc g a).1.2=0)(hs:s<75)(hz:T i s=0) :
  ∃b:Nat,(V.n.m.alloc g a).1.1=b∧b<g.B∧V.readB g b=z1h∧FS g (V.wM (V.n.m.alloc g a).2) (put T i s (b+1)) P∧(∀j t,T j t≠b+1):=by
 obtain⟨b,eb,hb,hbit,eu⟩:=ztf hg h.ok.inv hE;have hu:=h.ok.inv.ok.usedl;have hgp:=hg.gp;have hB:g.B=g.G * g.P:=rfl;have hfree:∀j t,T j t≠b+1:=fun j t e=>by
  have:=h.used j t (by omega)
  rw[e,Nat.add_sub_cancel,hbit]at this;cases this
 have hzb:=h.ok.zero b hb hbit;refine⟨b,eb,hb,hzb,⟨h.ok.wM (zcy hg h.ok.inv ha) (zyk hg h.ok.inv a),fun j t=>?_,fun j t ht=>?_,fun j t j' t' h0 e=>?_,fun j t h0=>?_,fun j t hd=>?_,h.l64,h.pout⟩,hfree⟩
 ·unfold put;split
  ·omega
  ·exact h.le j t
 ·unfold put;rw[if_neg (by omega)];exact h.out j t ht
 ·unfold put at h0 e;split at e<;>split at e
  ·omega
  ·exact absurd e.symm (hfree _ _)
  ·exact absurd e (hfree _ _)
  ·rename_i n1 _;rw[if_neg n1]at h0;exact h.inj _ _ _ _ h0 e
 ·have e1:(V.wM (V.n.m.alloc g a).2).n.m.used=z1x V.n.m.used b true:=eu;rw[e1,z1y (by omega)];unfold put at h0 ⊢;split
  ·rw[Nat.add_sub_cancel,if_pos rfl]
  ·rename_i n1;rw[if_neg n1]at h0;rw[h.used _ _ h0];split<;>rfl
 ·unfold put;split
  ·rename_i e;obtain⟨rfl,rfl⟩:=e;have h1:=h.tab j t hd;refine⟨h1.1,?_⟩;have h2:=h1.2;rw[if_pos hz]at h2;rw[if_neg (by omega),h2,Nat.add_sub_cancel];exact⟨h.ok.re b hb,by rw[z1ay];exact hzb⟩
  ·exact h.tab j t hd
theorem FS.wtab(h:FS g V T P)(hg:g.ok)(hd:dep s≠0)(hz:T i s≠0)(hP:∀k,k<32→P' i (kid s k)≤512)(e:∀j t,t<76→(j=i→∀k,k<32→t≠kid s k∨t=75)→P' j t=P j t):FS g (V.write g (T i s - 1) (tabB (z2s (P' i) s))) T P':=by
 have hb:=h.le i s;have tok:TabOk (z2s (P' i) s):=⟨z3k _ _,fun p hp=>by
  unfold z2s at hp;obtain⟨k,hk,rfl⟩:=List.mem_map.1 hp;exact hP _ (List.mem_range.1 hk)⟩
 refine⟨h.ok.write (by omega) (h.used i s hz) _,h.le,h.out,h.inj,h.used,fun j t ht=>?_,fun b hb=>by
  rw[z54];split
  ·exact zbj tok
  ·exact h.l64 b hb,fun j=>(e j 75 (by omega) fun _ _ _ =>.inr rfl).trans (h.pout j)⟩
 by_cases hjt:j=i∧t=s
 ·obtain⟨rfl,rfl⟩:=hjt;refine⟨tok,?_⟩
  ·rw[if_neg hz];exact⟨z9e _ _ _ (by omega) (h.ok.re _ (by omega)),by rw[z54,if_pos rfl]⟩
 ·have e1:z2s (P' j) t=z2s (P j) t:=zjo fun k hk=>e _ _ (z82 t hk) fun ej k' hk'=>by
   apply Decidable.byContradiction;intro c;rw[not_or]at c;obtain⟨c1,c2⟩:=c;have c1:=Decidable.not_not.1 c1;have hlt:=z82 t hk;exact hjt ⟨ej,(zjp ht hd hk hk' (by omega) c1).1⟩
  rw[e1];refine z9f (h.tab j t ht) fun h0=>?_;have hle:=h.le j t;refine⟨?_,?_⟩
  ·rw[z9e _ _ _ (by omega) (h.ok.re _ (by omega)),h.ok.re _ (by omega)]
  ·rw[z54,if_neg];intro c;have:=h.inj j t i s h0 (by omega)
   exact hjt this
theorem zgt(h:FS g V T P)(hz:T i s≠0)(bs:List UInt8)(j t:Nat):bk g (V.write g (T i s - 1) bs) (T j t)=if j=i∧t=s then bs else bk g V (T j t):=by
 unfold bk;by_cases e:j=i∧t=s
 ·obtain⟨rfl,rfl⟩:=e;rw[if_neg hz,z54,if_pos rfl,if_pos ⟨rfl,rfl⟩]
 ·rw[if_neg e];split
  ·rfl
  ·rename_i h0;rw[z54,if_neg];intro c;exact e (h.inj _ _ _ _ h0 (by omega))
theorem zii(h:FS g V T P)(j t:Nat):(bk g V (T j t)).length=64:=by
 unfold bk;split
 ·rfl
 ·exact h.l64 _ (by have:=h.le j t;omega)
theorem FS.leaf(h:FS g V T P)(hd:dep s=0)(hz:T i s≠0){bs:List UInt8}(h64:bs.length=64):FS g (V.write g (T i s - 1) bs) T P:=by
 have hb:=h.le i s;refine⟨h.ok.write (by omega) (h.used i s hz) _,h.le,h.out,h.inj,h.used,fun j t ht=>?_,fun b hb=>by
  rw[z54];split
  ·exact h64
  ·exact h.l64 b hb,h.pout⟩
 refine z9f (h.tab j t ht) fun h0=>?_;have hle:=h.le j t;refine⟨?_,?_⟩
 ·rw[z9e _ _ _ (by omega) (h.ok.re _ (by omega)),h.ok.re _ (by omega)]
 ·rw[z54,if_neg];intro c;have:=(h.inj j t i s h0 (by omega)).2
  subst this;exact ht hd
end
end Go.Moat

/- Layer 16: a file grows. -/
namespace Go.Mini
section
variable{β:Type}{l:List HA}{S:β→HA}{b o:Nat}{cs:List MV}{ro:Bool}
theorem z1ak{h:Hp}{fn:Nat}{caps:List CTy}{v:MV}{x:(Ty.fnc fn caps).den}(hg:h.get b=.cells cs ro)(hv:cs[o]? = some v)(hx:Ty.dec (.fnc fn caps) v=some x):ld (.fnc fn caps) (some ⟨b,o⟩) h=some (x,h):=by
 unfold ld ldC ldc;simp only[bd,hg,hv,z0p,hx]
theorem zdq(n:Nat)(hl:l[n]? = some (pts b (.cells cs ro))){fn:Nat}{caps:List CTy}{v:MV}{x:(Ty.fnc fn caps).den}(hv:cs[o]? = some v)(hx:Ty.dec (.fnc fn caps) v=some x){f:(Ty.fnc fn caps).den→M β}(kk:Tri (z00 l) (f x) S):Tri (z00 l) (bd (ld (.fnc fn caps) (some ⟨b,o⟩)) f) S:=
 tri_read n hl (fun _ hg=>z1ak hg hv hx) kk
theorem zz4{v:MV}(hc:z10 v=true){f:Option MA→M β}(kk:∀b,Tri (z00 (pts b (.cells [v] false)::l)) (f (some ⟨b,0⟩)) S):Tri (z00 l) (bd (z8d v) f) S:=
 z5e (g:=fun b=>some ⟨b,0⟩) (fun h=>by unfold z8d;rw[if_pos hc]) kk
end
end Go.Mini
namespace Go.Moat
open Go.Mini
def z2p(g:Geo)(a:Nat):Nat→MetaS→MetaS
 | 0,m=>m
 | k+1,m=>z2p g a k (m.alloc g a).2
theorem z97(g:Geo)(a:Nat):∀(j k:Nat)(m:MetaS),z2p g a (j+k) m=z2p g a k (z2p g a j m)
 | 0,k,m=>by rw[Nat.zero_add];rfl
 | j+1,k,m=>by rw[show j+1+k=(j+k)+1 by omega];exact z97 g a j k _
theorem Keeps.trans{A B C:VolS}(h:Keeps A B)(k:Keeps B C):Keeps A C:=⟨k.disk.trans h.disk,k.seq.trans h.seq,k.safe.trans h.safe,k.before.trans h.before,k.dead.trans h.dead⟩
def zor:Nat→List Nat→Prop
 | c,[]=>dep c=0∧c<75
 | c,k::ks=>dep c≠0∧k<32∧kid c k<75∧zor (kid c k) ks
def z2x:Nat→List Nat→List Nat
 | c,[]=>[c]
 | c,k::ks=>c::z2x (kid c k) ks
theorem z5y{c k s:Nat}(hd:dep c≠0)(hk:k<32)(h:z1b (kid c k) s):z1b c s:=by
 rcases dep_cases hd with rfl | rfl | rfl<;>simp[kid,z1b]at h ⊢ <;> (repeat' split at h)<;>omega
theorem zqe{c k j:Nat}(hd:dep c≠0)(hk:k<32)(hj:j<32):¬z1b (kid c k) (kid c j):=by
 intro h;rcases dep_cases hd with rfl | rfl | rfl<;>simp[kid,z1b]at h<;>(repeat' split at h)<;>omega
theorem z6p(c:Nat):¬z1b c c:=by simp[z1b];omega
theorem z4n{c s:Nat}(h:z1b c s):s<75:=by simp[z1b]at h;omega
section
variable{m:MetaS}{r1 r2 n1 n2 a:Nat}
theorem zb2{rs:List Row}(ok:RowsOk rs){r:Nat}(hr:r<16)(h0:0<(z1a rs r).2)(hl:(z1a rs r).1=a):rs.findIdx? (z3z a)=some r:=by
 have hlen:r<rs.length:=by rw[ok.len];exact hr
 have e:z1a rs r=rs[r]:=by unfold z1a;rw[List.getElem?_eq_getElem hlen];rfl
 rw[e]at h0 hl;refine List.findIdx?_eq_some_iff_getElem.2 ⟨hlen,by unfold z3z;simp[h0,hl],fun j hj=>?_⟩;unfold z3z;simp only[Bool.and_eq_true,decide_eq_true_eq,not_and];intro hj0 hja;have:=ok.dist j r (by omega) hlen hj0 h0 (by rw[hja,hl])
 omega
theorem zec{rs:List Row}(h:rs.findIdx? (z3z a)=some r2):zbp rs a=some r2:=by
 unfold zbp;rw[h]
theorem zqf{g:Geo}(hg:g.ok)(inv:Inv g m)(ha:a<65536){r:Nat}(h:0<(z1a m.rows r).2):(z1a (m.alloc g a).2.rows r).1=(z1a m.rows r).1∧0<(z1a (m.alloc g a).2.rows r).2:=by
 unfold MetaS.alloc;split
 ·exact⟨rfl,h⟩
 ·split
  ·exact⟨rfl,h⟩
  ·split
   ·rename_i hE;obtain⟨i,h1,h2,h3⟩:=zqc hE;have hok:=zju inv.ok.rows ha hE;have hi:=zqb h1;refine⟨?_,?_⟩
    ·show(z1a (z99 m.rows a) r).1=_;unfold z99;rw[h2,zbu hi.1];by_cases e:r=i
     ·subst e;rw[if_pos rfl];rcases hi.2 with⟨_,h5⟩ | ⟨h5,_⟩
      ·exact h5.symm
      ·omega
     ·rw[if_neg e]
    ·show 0<(z1a (z99 m.rows a) r).2;rw[hok.2.2 r];omega
   ·exact⟨rfl,h⟩
def z55(m:MetaS)(r a:Nat):Prop:=r<16∧0<(z1a m.rows r).2∧(z1a m.rows r).1=a
theorem z55.alloc{g:Geo}{r:Nat}(hg:g.ok)(inv:Inv g m)(ha:a<65536)(h:z55 m r a):z55 (m.alloc g a).2 r a:=by
 obtain⟨e1,e2⟩:=zqf hg inv ha h.2.1;exact⟨h.1,e2,e1.trans h.2.2⟩
theorem z12d{g:Geo}{r:Nat}(hg:g.ok)(inv:Inv g m)(h:z55 m r a)(hE:(m.alloc g a).1.2=0){b:Nat}(eb:(m.alloc g a).1.1=b):(m.alloc g a).2.own[b / g.P]? = some (r+1)∧∀b',b'<g.B→z0y m.used b'=true→(m.alloc g a).2.own[b' / g.P]? = m.own[b' / g.P]? :=by
 have hrow:=zb2 inv.ok.rows h.1 h.2.1 h.2.2;have hp:=hg.p1;have hol:=inv.ok.ownl;unfold MetaS.alloc at hE eb ⊢;cases hat:m.atB g a with
 | some c=>
  rw[hat]at eb;dsimp only at eb ⊢;obtain rfl:c=b:=by omega
  unfold MetaS.atB at hat;rw[hrow]at hat;dsimp only at hat;rw[List.find?_range'_eq_some]at hat;have h2:=hat.1;unfold MetaS.isAt at h2;simp only[Bool.and_eq_true,decide_eq_true_iff]at h2;exact⟨h2.1,fun _ _ _=>rfl⟩
 | none=>
  rw[hat]at hE eb;dsimp only at hE eb ⊢;cases hfr:m.own.findIdx? z34 with
  | none=>rw[hfr]at hE;simp at hE
  | some k=>
   rw[hfr]at hE eb;dsimp only at hE eb ⊢;by_cases hR:z3w m.rows a=0
   case neg=>rw[if_neg hR]at hE;exact absurd hE hR
   rw[if_pos hR]at eb ⊢;dsimp only at eb ⊢;obtain rfl:k * g.P=b:=by omega
   have eI:z3x m.rows a=r:=by unfold z3x;rw[zec hrow];rfl
   obtain⟨hk,hk0,_⟩:=List.findIdx?_eq_some_iff_getElem.1 hfr;rw[eI,Nat.mul_div_cancel k (by omega)];refine⟨by rw[List.getElem?_set,if_pos rfl,if_pos hk],fun b' hb' hu=>?_⟩;rw[List.getElem?_set,if_neg];intro e;have h1:=inv.gr hg b' hb' hu;rw[←e,List.getElem?_eq_getElem hk]at h1;unfold z34 at hk0;simp at hk0;rw[hk0]at h1;simp at h1
end
def zu9(g:Geo)(V:VolS)(T:z0q)(lab:Nat→Nat):Prop:=∀i s,T i s≠0→V.n.m.own[(T i s - 1) / g.P]? = some (lab i+1)
def z5r(p:Nat→Nat)(ch:List Nat):Nat:=ch.countP fun s=>decide (p s=0)
theorem z18f(p:Nat→Nat)(ch:List Nat):z5r p ch≤ch.length:=List.countP_le_length
theorem zj5(p:Nat→Nat)(c:Nat)(ch:List Nat):z5r p (c::ch)=z5r p [c]+z5r p ch:=by
 unfold z5r;rw[show c::ch=[c]++ch from rfl,List.countP_append]
theorem zz5{p q:Nat→Nat}{ch:List Nat}(h:∀s∈ch,(p s=0↔q s=0)):z5r p ch=z5r q ch:=by
 unfold z5r;refine List.countP_congr fun s hs=>?_;rw[decide_eq_true_iff,decide_eq_true_iff];exact h s hs
def zos(g:Geo)(V:VolS)(T:z0q):Prop:=∀b,b<g.B→z0y V.n.m.used b=true→∃i s,T i s=b+1
def DkW(ii:Nat)(V V':VolS)(T:z0q):Prop:=∀k:Int,k∈V'.n.dirty.map (·.1)→k∈V.n.dirty.map (·.1)∨∃s,T ii s≠0∧k=((T ii s - 1:Nat):Int)
structure Xt(g:Geo)(ii a:Nat)(V:VolS)(T:z0q)(V':VolS)(T':z0q):Prop where
 full:zos g V T→zos g V' T'
 dk:DkW ii V V' T'
 own:∀lab:Nat→Nat,z55 V.n.m (lab ii) a→zu9 g V T lab→zu9 g V' T' lab∧z55 V'.n.m (lab ii) a
theorem Xt.rfl'{g:Geo}{ii a:Nat}{V:VolS}{T:z0q}:Xt g ii a V T V T:=⟨id,fun _ h =>.inl h,fun _ h k=>⟨k,h⟩⟩
theorem Xt.trans{g:Geo}{ii a:Nat}{V V1 V2:VolS}{T T1 T2:z0q}(h:Xt g ii a V T V1 T1)(k:Xt g ii a V1 T1 V2 T2)(e:∀s,T1 ii s≠0→T2 ii s=T1 ii s):Xt g ii a V T V2 T2:=⟨fun x=>k.full (h.full x),fun n hn=>by
 rcases k.dk n hn with hn | hn
 ·rcases h.dk n hn with hn | ⟨s,h1,h2⟩
  ·exact .inl hn
  ·exact .inr ⟨s,by rw[e s h1];exact h1,by rw[e s h1];exact h2⟩
 ·exact .inr hn,fun lab hr ho=>by
 obtain⟨h1,h2⟩:=h.own lab hr ho;exact k.own lab h2 h1⟩
theorem zqg{α:Type}{v:α}:∀{L:List (Int×α)}{k x:Int},x∈(z6r L k v).map (·.1)→x=k∨x∈L.map (·.1)
 | [],k,x,h=>by
  unfold z6r at h;simp at h;exact .inl h
 | e::r,k,x,h=>by
  unfold z6r at h;split at h
  ·rename_i he;rw[List.map_cons,List.mem_cons]at h ⊢;rcases h with h | h
   ·exact .inl h
   ·exact .inr (.inr h)
  ·rw[List.map_cons,List.mem_cons]at h ⊢;rcases h with h | h
   ·exact .inr (.inl h)
   ·rcases zqg h with h | h
    ·exact .inl h
    ·exact .inr (.inr h)
theorem zed{g:Geo}{ii a s:Nat}{V:VolS}{T:z0q}(hz:T ii s≠0)(bs:List UInt8):Xt g ii a V T (V.write g (T ii s - 1) bs) T:=⟨id,fun k hk=>by
 rcases zqg hk with h | h
 ·exact .inr ⟨s,hz,h⟩
 ·exact .inl h,fun _ h k=>⟨k,h⟩⟩
structure Grew(g:Geo)(V:VolS)(T P:z0q)(ii c:Nat)(ch:List Nat)(a:Nat)(V':VolS)(T' P':z0q):Prop where
 fs:FS g V' T' P'
 p:∀j s,P' j s=if j=ii∧z1b c s then T' j s else P j s
 same:∀j s,¬(j=ii∧(s=c∨z1b c s))→T' j s=T j s
 keep:∀s,T ii s≠0→T' ii s=T ii s
 nz:∀s,T' ii s≠0↔T ii s≠0∨s∈ch
 bk:∀j s,dep s=0→bk g V' (T' j s)=bk g V (T j s)
 al:V'.n.m=z2p g a (z5r (T ii) ch) V.n.m
 kp:Keeps V V'
 xt:Xt g ii a V T V' T'
structure Fell(g:Geo)(V:VolS)(T P:z0q)(ii:Nat)(ch:List Nat)(a:Nat)(V':VolS):Prop where
 fs:FS g V' T P
 bk:∀j s,dep s=0→bk g V' (T j s)=bk g V (T j s)
 al:∃n,n<z5r (T ii) ch∧V'.n.m=z2p g a n V.n.m∧(V'.n.m.alloc g a).1.2≠0
 kp:Keeps V V'
theorem znk{g:Geo}{m:MetaS}{a:Nat}(h:(m.alloc g a).1.2≠0):(m.alloc g a).2=m:=by
 unfold MetaS.alloc at h ⊢;split
 ·rename_i b hb;rw[hb]at h;exact absurd rfl h
 ·rename_i hb;rw[hb]at h;dsimp only at h;split
  ·rfl
  ·rename_i k hk;rw[hk]at h;dsimp only at h;split
   ·rename_i hr;rw[if_pos hr]at h;exact absurd rfl h
   ·rfl
section
variable{g:Geo}{V V1 V2:VolS}{T T1 T2 P P2:z0q}{ii c k a:Nat}{ch:List Nat}
theorem FS.forget(h:FS g V T P)(h1:FS g V1 T1 P)(e:∀j s,T j s≠0→T1 j s=T j s):FS g V1 T P:=by
 refine⟨h1.ok,h.le,h.out,h.inj,fun j s hz=>?_,fun j s hd=>?_,h1.l64,h.pout⟩
 ·have:=h1.used j s (by rw[e j s hz];exact hz)
  rwa [e j s hz]at this
 ·by_cases hz:T j s=0
  ·exact z9f (h.tab j s hd) fun c=>absurd hz c
  ·have:=h1.tab j s hd
   rwa [e j s hz]at this
theorem Grew.keepA(h:Grew g V T P ii c ch a V1 T1 P2)(j s:Nat)(hz:T j s≠0):T1 j s=T j s:=by
 by_cases e:j=ii
 ·subst e;exact h.keep s hz
 ·exact h.same j s fun k=>e k.1
theorem zua(G1:Grew g V T P ii c [c] a V1 T1 P)(hch:c ∉ ch):z5r (T1 ii) ch=z5r (T ii) ch:=zz5 fun s hs=>by
 have h1:=G1.nz s;rw[List.mem_singleton]at h1;have h2:s≠c:=by rintro rfl;exact hch hs
 constructor
 ·intro h3;exact Decidable.byContradiction fun h4=>h1.2 (.inl h4) h3
 ·intro h3;exact Decidable.byContradiction fun h4=>(h1.1 h4).elim (fun h=>h h3) h2
def z3j(P T2:z0q)(ii c:Nat):z0q:=fun j s=>if j=ii∧z1b c s then T2 j s else P j s
section
variable(hd:dep c≠0)(hk:k<32)(hk75:kid c k<75)(G1:Grew g V T P ii c [c] a V1 T1 P)(G2:Grew g V1 T1 P ii (kid c k) ch a V2 T2 P2)
include hd hk hk75 G1 G2
theorem znl(j t:Nat)(h:¬(j=ii∧t=kid c k)):z3j P T2 ii c j t=P2 j t:=by
 have _:=hk75;rw[G2.p j t];unfold z3j;by_cases e:j=ii∧z1b c t
 ·obtain⟨rfl,hb⟩:=e;rw[if_pos ⟨rfl,hb⟩];by_cases hb2:z1b (kid c k) t
  ·rw[if_pos ⟨rfl,hb2⟩]
  ·rw[if_neg fun x=>hb2 x.2,G2.same j t (by
    rintro⟨_,x | x⟩
    ·exact h ⟨rfl,x⟩
    ·exact hb2 x)]
   have:=G1.p j t
   rw[if_pos ⟨rfl,hb⟩]at this;exact this.symm
 ·rw[if_neg e,if_neg fun x=>e ⟨x.1,z5y hd hk x.2⟩]
theorem z12e:z2s (z3j P T2 ii c ii) c=(z2s (P ii) c).set k (T2 ii (kid c k)):=by
 apply List.ext_getElem?;intro j;by_cases hj:j<32
 ·rw[z4z _ _ hj,List.getElem?_set,z4z _ _ hj];by_cases e:k=j
  ·subst e;rw[if_pos rfl,if_pos (by rw[z3k];exact hj)];unfold z3j;rw[if_pos ⟨rfl,z4b hd hk hk75⟩]
  ·rw[if_neg e];have hne:¬(ii=ii∧kid c j=kid c k):=fun x=>e (zjp hd hd hk hj hk75 x.2.symm).2;rw[znl hd hk hk75 G1 G2 ii (kid c j) hne,G2.p,if_neg fun x=>zqe hd hk hj x.2]
 ·rw[List.getElem?_eq_none (by rw[z3k];omega),List.getElem?_eq_none (by rw[List.length_set,z3k];omega)]
theorem zx8(hch:c ∉ ch):V2.n.m=z2p g a (z5r (T ii) (c::ch)) V.n.m:=by
 have _:=hd;have _:=hk;have _:=hk75;rw[zj5,z97,←G1.al,←zua G1 hch];exact G2.al
theorem z12f(hch:c ∉ ch)(h:P ii (kid c k)=T2 ii (kid c k)):Grew g V T P ii c (c::ch) a V2 T2 (z3j P T2 ii c):=by
 refine⟨G2.fs.congr fun i s hds j hj=>?_,fun j s=>rfl,fun j s h=>?_,fun s hz=>?_,fun s=>?_,fun j s hs=>?_,?_,G1.kp.trans G2.kp,G1.xt.trans G2.xt G2.keep⟩
 ·by_cases e:i=ii∧kid s j=kid c k
  ·obtain⟨rfl,e⟩:=e;rw[e,G2.p,if_neg fun x=>z6p _ x.2];unfold z3j;rw[if_pos ⟨rfl,z4b hd hk hk75⟩,h]
  ·exact znl hd hk hk75 G1 G2 i _ e
 ·rw[G2.same j s fun x=>h ⟨x.1,.inr (by
   rcases x.2 with e | e
   ·rw[e];exact z4b hd hk hk75
   ·exact z5y hd hk e)⟩,G1.same j s h]
 ·rw[G2.keep s (by rw[G1.keep s hz];exact hz),G1.keep s hz]
 ·rw[G2.nz,G1.nz];simp[or_assoc]
 ·rw[G2.bk j s hs,G1.bk j s hs]
 ·exact zx8 hd hk hk75 G1 G2 hch
theorem zx9:T2 ii c≠0∧T2 ii c=T1 ii c:=by
 have _:=hd;have _:=hk;have _:=hk75;have h1:T1 ii c≠0:=(G1.nz c).2 (.inr (List.mem_singleton.2 rfl));have:=G2.keep c h1
 exact⟨by rw[this];exact h1,this⟩
theorem zz6(hch:c ∉ ch)(hg:g.ok):Grew g V T P ii c (c::ch) a (V2.write g (T2 ii c - 1) (tabB (z2s (z3j P T2 ii c ii) c))) T2 (z3j P T2 ii c):=by
 have hz:=(zx9 hd hk hk75 G1 G2).1;refine⟨G2.fs.wtab hg hd hz (fun j hj=>?_) fun j t ht h=>?_,fun j s=>rfl,fun j s h=>?_,fun s hz=>?_,fun s=>?_,fun j s hs=>?_,?_,(G1.kp.trans G2.kp).trans (zca _ _ _),(G1.xt.trans G2.xt G2.keep).trans (zed hz _) fun _ _=>rfl⟩
 ·by_cases e:kid c j=kid c k
  ·rw[e];unfold z3j;rw[if_pos ⟨rfl,z4b hd hk hk75⟩];exact G2.fs.num hg _ _
  ·rw[znl hd hk hk75 G1 G2 ii (kid c j) fun x=>e x.2];exact(G2.fs.tab ii c hd).1.le _ (List.mem_iff_getElem?.2 ⟨j,z4z _ _ hj⟩)
 ·refine znl hd hk hk75 G1 G2 j t ?_;rintro⟨e1,e2⟩
  rcases h e1 k hk with h | h
  ·exact h e2
  ·omega
 ·rw[G2.same j s fun x=>h ⟨x.1,.inr (by
   rcases x.2 with e | e
   ·rw[e];exact z4b hd hk hk75
   ·exact z5y hd hk e)⟩,G1.same j s h]
 ·rw[G2.keep s (by rw[G1.keep s hz];exact hz),G1.keep s hz]
 ·rw[G2.nz,G1.nz];simp[or_assoc]
 ·rw[zgt G2.fs hz,if_neg (by rintro⟨_,rfl⟩;exact hd hs),G2.bk j s hs,G1.bk j s hs]
 ·show V2.n.m=_;exact zx8 hd hk hk75 G1 G2 hch
end
end
end Go.Moat

/- Layer 16: a file's block is made. -/
namespace Go.Moat
open Go.Mini
section
variable{N:Nat}{β:Type}{l:List HA}{S:β→HA}{v d o c3 c6:Nat}{g:Geo}{V:VolS}{T P:z0q}{ii c a:Nat}{i:Int}{n:Ino}
def z16o(g:Geo)(V:VolS)(T P:z0q)(ii c:Nat)(ch:List Nat)(a:Nat)(r:Int×Int)(x:VolS×z0q×z0q):Prop:=
 (r.2=0→r.1=(x.2.1 ii c:Int)∧Grew g V T P ii c ch a x.1 x.2.1 x.2.2)∧(r.2≠0→r.2=(x.1.n.m.alloc g a).1.2∧Fell g V T P ii ch a x.1)
theorem zqh(hg:g.ok)(fs:FS g V T P)(ha:a<65536)(hc:c<75)(hP:∀s,s=c∨z1b c s→P ii s=T ii s)(hN:5000<N) :
  Tri (z00 [z0l v d g V,pts o (.cells (z1k v i n a) false)]) (F_0e N (some ⟨o,0⟩) (T ii c:Int)) fun r=>exA fun x:VolS×z0q=>pu (z16o g V T P ii c [c] a r (x.1,x.2,P)) (z00 [z0l v d g x.1,pts o (.cells (z1k v i n a) false)]):=by
 have hgp:=hg.gp;have hB:g.B=g.G * g.P:=rfl;by_cases hz:T ii c=0
 ·rw[hz];have e0:∀m:M (Int×Int),bd m ret=m:=fun m=>by
   funext h;unfold bd;cases m h<;>rfl
  rw[←e0 (F_0e N _ _)];refine z02 [0,0] (z15r hg fs.ok.inv.ok ha hN) fun r=>z04 fun h=>z01 ?_;by_cases hE:(V.n.m.alloc g a).1.2=0
  ·obtain⟨b,eb,hb,hzb,fs1,hfree⟩:=fs.alloc hg ha hE hc hz;have er:r=(((b+1:Nat):Int),0):=by
    rw[h,eb,hE,z09 (n:=(b:Int)+1) (by omega) (by omega)];rfl
   refine z03 [0,0] fun q hq=>⟨(V.wM (V.n.m.alloc g a).2,put T ii c (b+1)),⟨fun _=>⟨?_,fs1,fun j s=>?_,fun j s hs=>?_,fun s hs=>?_,fun s=>?_,fun j s hs=>?_,?_,zgs _ _,⟨fun hF b' hb' hu=>?_,fun k hk =>.inl hk,fun lab hr ho=>⟨fun j s hs=>?_,hr.alloc hg fs.ok.inv ha⟩⟩⟩,fun hne=>?_⟩,hq⟩
   ·rw[er];show((b+1:Nat):Int)=(put T ii c (b+1) ii c:Nat);unfold put;rw[if_pos ⟨rfl,rfl⟩]
   ·split
    ·rename_i hb;obtain⟨rfl,hb⟩:=hb;show P j s=put T j c (b+1) j s;unfold put;rw[if_neg (by rintro⟨_,rfl⟩;exact z6p _ hb)];exact hP s (.inr hb)
    ·rfl
   ·show put T ii c (b+1) j s=_;unfold put;rw[if_neg fun x=>hs ⟨x.1,.inl x.2⟩]
   ·show put T ii c (b+1) ii s=_;unfold put;rw[if_neg (by rintro⟨_,rfl⟩;exact hs hz)]
   ·show put T ii c (b+1) ii s≠0↔_;unfold put;by_cases e:s=c
    ·simp[e]
    ·simp[e]
   ·show bk g _ (put T ii c (b+1) j s)=_;unfold put;split
    ·rename_i e;obtain⟨rfl,rfl⟩:=e;rw[hz];unfold bk;rw[if_neg (by omega),if_pos rfl,Nat.add_sub_cancel];exact hzb
    ·rfl
   ·have e1:z5r (T ii) [c]=1:=by simp[z5r,hz]
    rw[e1];rfl
   ·have eu:(V.n.m.alloc g a).2.used=z1x V.n.m.used b true:=by
     obtain⟨b2,e2,_,_,e3⟩:=ztf hg fs.ok.inv hE;rw[eb]at e2;have:b=b2:=by omega
     rw[this];exact e3
    have hul:=fs.ok.inv.ok.usedl;have hu:z0y (V.n.m.alloc g a).2.used b'=true:=hu;rw[eu,z1y (by omega)]at hu;by_cases e:b'=b
    ·subst e;exact⟨ii,c,by show put T ii c (b'+1) ii c=_;unfold put;rw[if_pos ⟨rfl,rfl⟩]⟩
    ·rw[if_neg e]at hu;obtain⟨i,s,h1⟩:=hF b' hb' hu;refine⟨i,s,?_⟩;show put T ii c (b+1) i s=_;unfold put;rw[if_neg (by rintro⟨rfl,rfl⟩;omega)];exact h1
   ·obtain⟨o1,o2⟩:=z12d hg fs.ok.inv hr hE eb;show(V.n.m.alloc g a).2.own[(put T ii c (b+1) j s - 1) / g.P]? = _;have hs:put T ii c (b+1) j s≠0:=hs;unfold put at hs ⊢;by_cases e:j=ii∧s=c
    ·rw[if_pos e,e.1];exact o1
    ·rw[if_neg e]at hs ⊢;have hle:=fs.le j s;rw[o2 _ (by omega) (fs.used j s hs)];exact ho j s hs
   ·rw[er]at hne;exact absurd rfl hne
  ·refine z03 [0,0] fun q hq=>⟨(V,T),⟨fun h0=>absurd (by rw[h]at h0;exact h0) hE,fun _=>⟨by rw[h],fs,fun _ _ _=>rfl,⟨0,by simp[z5r,hz],rfl,hE⟩,z4q V⟩⟩,?_⟩;rw[znk hE]at hq;exact hq
 ·rw[z15q hz];refine z03 [0,0] fun q hq=>⟨(V,T),⟨fun _=>⟨rfl,fs,fun j s=>?_,fun _ _ _=>rfl,fun _ _=>rfl,fun s=>?_,fun _ _ _=>rfl,by rw[show z5r (T ii) [c]=0 by simp[z5r,hz]];rfl,z4q V,Xt.rfl'⟩,fun h=>absurd rfl h⟩,hq⟩
  ·split
   ·rename_i hb;obtain⟨rfl,hb⟩:=hb;exact hP s (.inr hb)
   ·rfl
  ·constructor
   ·exact .inl
   ·rintro(h | h)
    ·exact h
    ·rw[List.mem_singleton]at h;subst h;exact hz
abbrev z16p(v d o c3 c6:Nat)(g:Geo)(V:VolS)(i:Int)(n:Ino)(a:Nat)(Tr:HA):List HA:=[z0l v d g V,pts o (.cells (z1k v i n a) false),pts c3 (.cells [.ptr (some ⟨o,0⟩)] false),pts c6 (.cells [.fn 73 [.ptr (some ⟨c3,0⟩),.ptr (some ⟨c6,0⟩)]] false),Tr]
theorem zot{ks:List Nat}(h:zor c ks):c<75:=by
 cases ks with
 | nil=>exact h.2
 | cons k ks=>
  rcases dep_cases h.1 with rfl | rfl | rfl<;>omega
theorem zj6:∀{ks:List Nat}{c s:Nat},zor c ks→s∈z2x c ks→s=c∨z1b c s
 | [],c,s,_,h =>.inl (List.mem_singleton.1 h)
 | k::ks,c,s,⟨hd,hk,hk75,hp⟩,h=>by
  rcases List.mem_cons.1 h with h | h
  ·exact .inl h
  ·rcases zj6 hp h with h | h
   ·rw[h];exact .inr (z4b hd hk hk75)
   ·exact .inr (z5y hd hk h)
theorem zj7{ks:List Nat}{k:Nat}(hd:dep c≠0)(hk:k<32)(hk75:kid c k<75)(hp:zor (kid c k) ks):c ∉ z2x (kid c k) ks:=fun h=>by
 rcases zj6 hp h with h | h
 ·exact z1a3 hd hk h.symm
 ·exact z6p _ (z5y hd hk h)
theorem z12g(hg:g.ok)(ha:a<65536)(hN:5000<N){Tr:HA}:∀(ks:List Nat)(K c:Nat)(V:VolS)(T P:z0q)(rest:Sl),ks.length<K→zor c ks→FS g V T P→(∀s,s=c∨z1b c s→P ii s=T ii s)→RdC Tr rest 1 (z1c ks) →
  Tri (z00 (z16p v d o c3 c6 g V i n a Tr)) (z0e K (fun self v=>F_1v N self v.1 v.2.1 v.2.2.1 v.2.2.2) ((T ii c:Int),rest,some ⟨c3,0⟩,some ⟨c6,0⟩)) fun r=>exA fun x:VolS×z0q×z0q=>pu (z16o g V T P ii c (z2x c ks) a r x) (z00 (z16p v d o c3 c6 g x.1 i n a Tr)):=by
 intro ks;induction ks with
 | nil=>
  intro K c V T P rest hK hp fs hP hr;obtain⟨K,rfl⟩:∃k,K=k+1:=⟨K - 1,by simp at hK;omega⟩;have hlen:rest.len=0:=by have:=hr.1;simp[z1w]at this;omega
  rw[z13];unfold F_1v;refine z3r 2 rfl rfl ?_;refine z02 [0,0] (zqh hg fs ha (zot hp) hP hN) fun r6=>z12 fun x=>z04 fun h6=>z01 ?_;refine z07 (by simp[hlen]) (z03 [0,0,0,0,0] fun q hq=>⟨(x.1,x.2,P),h6,hq⟩)
 | cons k ks ih=>
  intro K c V T P rest hK hp fs hP hr;obtain⟨K,rfl⟩:∃k,K=k+1:=⟨K - 1,by simp at hK;omega⟩;obtain⟨hd,hk,hk75,hp2⟩:=hp;have hlen:rest.len=ks.length+1:=by have:=hr.1;simp[z1w]at this;omega
  rw[z13];unfold F_1v;refine z3r 2 rfl rfl ?_;refine z02 [0,0] (zqh hg fs ha (zot (ks:=k::ks) ⟨hd,hk,hk75,hp2⟩) hP hN) fun r6=>z12 fun x=>z04 fun h6=>z01 ?_;obtain⟨V1,T1⟩:=x;dsimp only[sel,rem,nth,del,cat,upd];by_cases h60:r6.2=0
  case neg=>
   obtain⟨e6,F⟩:=h6.2 h60;refine z07 (by simp[h60]) (z03 [0,0,0,0,0] fun q hq=>⟨(V1,T,P),⟨fun h=>absurd h h60,fun _=>⟨e6,F.fs,F.bk,?_,F.kp⟩⟩,hq⟩);obtain⟨m,h1,h2⟩:=F.al;exact⟨m,by rw[z2x,zj5];omega,h2⟩
  obtain⟨e6,G1⟩:=h6.1 h60;have e6:r6.1=(T1 ii c:Int):=e6;have G1:Grew g V T P ii c [c] a V1 T1 P:=G1;refine z05 (by simp[h60,hlen];omega) ?_;refine z3r 2 rfl rfl ?_;rw[e6];refine z02 [0,0] (z9n hg (G1.fs.num hg ii c) (G1.fs.tab ii c hd) hN) fun r8=>z04 fun h8=>z01 ?_;dsimp only[sel,rem,nth,del,cat,upd];refine z05 (by simp[h8]) ?_;refine zdq 4 rfl rfl rfl ?_;refine z2a 5 rfl hr (i:=0) (k :=.i64) (v:=(k:Nat)) (by simp[z1w]) ?_;refine z0c 0 rfl fun l8=>?_;refine z2a 0 rfl (z0k l8) (i:=k) (k :=.i64) (v:=(P ii (kid c k):Nat)) (by simp[z1w,z2s,hk]) ?_;refine z3t (by omega) (by omega) (by omega) ?_;have hr2:RdC Tr (z2w 1 rest (Int.toNat 1) (Int.toNat (rest.len:Int))) 1 (z1c ks):=by
   have:=hr.sub (lo:=1) (hi:=rest.len) (by omega) (by omega)
   rw[Int.toNat_natCast];have e1:((z1c (k::ks)).drop (1 * 1)).take ((rest.len - 1) * 1)=z1c ks:=by
    show List.take _ (z1c ks)=_;exact List.take_of_length_le (by rw[z1n];omega)
   rw[←e1];exact this
  generalize (z2w 1 rest (Int.toNat 1) (Int.toNat (rest.len:Int)))=rest2 at hr2;have hP1:∀s,s=kid c k∨z1b (kid c k) s→P ii s=T1 ii s:=fun s hs=>by
   have hb:z1b c s:=by
    rcases hs with rfl | hs
    ·exact z4b hd hk hk75
    ·exact z5y hd hk hs
   rw[G1.p ii s,if_pos ⟨rfl,hb⟩]
  have eP:=hP1 (kid c k) (.inl rfl);have IH:=ih K (kid c k) V1 T1 P rest2 (by simp at hK;omega) hp2 G1.fs hP1 hr2;rw[←eP]at IH;refine z02 [1,1,1,1,1] IH fun r15=>z12 fun x=>z04 fun h15=>z01 ?_;obtain⟨V2,T2,P2⟩:=x;dsimp only[sel,rem,nth,del,cat,upd];by_cases h150:r15.2=0
  case neg=>
   obtain⟨e15,F⟩:=h15.2 h150;have F:Fell g V1 T1 P ii (z2x (kid c k) ks) a V2:=F;refine z07 (by simp[h150]) (z03 [0,0,0,0,0] fun q hq=>⟨(V2,T,P),⟨fun h=>absurd h h150,fun _=>⟨e15,fs.forget F.fs fun j s hz=>G1.keepA j s hz,fun j s hs=>?_,?_,G1.kp.trans F.kp⟩⟩,hq⟩)
   ·by_cases e:j=ii∧(s=c∨z1b c s)
    ·obtain⟨rfl,e⟩:=e;by_cases hz:T j s=0
     ·rw[hz];rfl
     ·have h1:=F.bk j s hs;rw[G1.bk j s hs]at h1;rw[G1.keep s hz]at h1;exact h1
    ·have h1:=F.bk j s hs;rw[G1.bk j s hs,G1.same j s e]at h1;exact h1
   ·obtain⟨n2,h2,e2,e3⟩:=F.al;rw[zua G1 (zj7 hd hk hk75 hp2)]at h2;exact⟨z5r (T ii) [c]+n2,by rw[z2x,zj5 (T ii) c (z2x (kid c k) ks)];omega,by rw[z97,←G1.al];exact e2,e3⟩
  obtain⟨e15,G2⟩:=h15.1 h150;have e15:r15.1=(T2 ii (kid c k):Int):=e15;have G2:Grew g V1 T1 P ii (kid c k) (z2x (kid c k) ks) a V2 T2 P2:=G2;have eT:=zx9 hd hk hk75 G1 G2;refine z05 (by simp[h150]) ?_;refine z2a 4 rfl hr (i:=0) (k :=.i64) (v:=(k:Nat)) (by simp[z1w]) ?_;refine z2a 5 rfl (z0k l8) (i:=k) (k :=.i64) (v:=(P ii (kid c k):Nat)) (by simp[z1w,z2s,hk]) ?_;rw[e15];by_cases hEq:P ii (kid c k)=T2 ii (kid c k)
  ·refine z07 (by simp[hEq]) (z03 [0,0,0,0,0] fun q hq=>⟨(V2,T2,z3j P T2 ii c),⟨fun _=>⟨?_,z12f hd hk hk75 G1 G2 (zj7 hd hk hk75 hp2) hEq⟩,fun h=>absurd rfl h⟩,hq⟩);show(T1 ii c:Int)=(T2 ii c:Nat);rw[eT.2]
  refine z05 (by simp;omega) ?_;refine z2a 4 rfl hr (i:=0) (k :=.i64) (v:=(k:Nat)) (by simp[z1w]) ?_;refine zea 5 rfl (k:=k) (by rw[z3k];exact hk) ?_;rw[←z12e hd hk hk75 G1 G2];have G3:=zz6 hd hk hk75 G1 G2 (zj7 hd hk hk75 hp2) hg;have ht3:=G3.fs.tab ii c hd;refine z0c 5 rfl fun l8'=>?_;refine z02 [5] (zn1 ht3.1 (z0k l8') hN) fun r23=>z04 fun h23=>z01 ?_;dsimp only[sel,rem,nth,del,cat,upd];refine z3r 4 rfl rfl ?_;refine z0r (z0b (z3r 3 rfl rfl ?_));refine z0c 0 rfl fun l23=>?_;have e1:wr .i64 ((T1 ii c:Int) - 1)=((T2 ii c - 1:Nat):Int):=by
   have:=G2.fs.num hg ii c
   rw[←eT.2,z09 (by omega) (by omega)];omega
  rw[e1];have hw:V2.writeE g ((T2 ii c - 1:Nat):Int) (tabB (z2s (z3j P T2 ii c ii) c))=0:=by
   have h1:=G2.fs.le ii c;unfold VolS.writeE MetaS.usedE;rw[if_pos (zbj ht3.1),if_pos (by omega),Int.toNat_natCast,if_pos (G2.fs.used ii c eT.1)]
  refine z02 [2,0] (zce hg G2.fs.ok.inv.ok _ (z0k l23) (by rw[zbj ht3.1];omega)) fun r28=>z04 fun h28=>z01 ?_;rw[hw]at h28;rw[if_pos hw,Int.toNat_natCast];dsimp only[sel,rem,nth,del,cat,upd];refine z03 [0,2,2,2,2] fun q hq=>⟨(V2.write g (T2 ii c - 1) (tabB (z2s (z3j P T2 ii c ii) c)),T2,z3j P T2 ii c),⟨fun _=>⟨?_,G3⟩,fun h=>absurd h28 h⟩,hq⟩;show(T1 ii c:Int)=(T2 ii c:Nat);rw[eT.2]
def lf(k:Nat):Nat:=if k<8 then k else if k<40 then k+1 else k+3
def rs(k:Nat):Nat:=if k<8 then k else if k<40 then 8 else 41
def z1l(k:Nat):List Nat:=z2x (rs k) (z6v k)
def z4o(n:Ino)(p:Nat→Nat):Prop:=∀k,k<60→n.at (z3h k - 4)=(p (rs k):Int)
def Ino.put(n:Ino)(j:Nat)(x:Int):Ino:=⟨n.k,n.r,⟨n.xs.1.set j x,by rw[List.length_set];exact n.xs.2⟩⟩
theorem Ino.put_at(n:Ino){j:Nat}(hj:j<12)(x:Int)(t:Nat):(n.put j x).at t=if t=j then x else n.at t:=by
 unfold Ino.at Ino.put;rw[List.getElem?_set];by_cases e:j=t
 ·subst e;rw[if_pos rfl,if_pos (by rw[n.xs.2];exact hj),if_pos rfl];rfl
 ·rw[if_neg e,if_neg fun h=>e h.symm]
theorem zaf(v:Nat)(i:Int)(n:Ino)(a:Nat){j:Nat}(hj:j<12)(x:Int):(z1k v i n a).set (4+j) (.int .i64 x)=z1k v i (n.put j x) a:=by
 have e:∀m:Ino,z1k v i m a=.ptr (some ⟨v,0⟩) :: .int .i64 i :: .int .u8 m.k :: .int .u8 m.r::(z1w m.xs.1++[.int .u16 a]):=fun m=>rfl;rw[e,e,show 4+j=j+1+1+1+1 by omega,List.set_cons_succ,List.set_cons_succ,List.set_cons_succ,List.set_cons_succ,List.set_append_left _ _ (by rw[z9u,n.xs.2];exact hj)];congr 5;unfold z1w Ino.put;dsimp only;rw[List.map_set]
theorem zlj{k:Nat}(hk:k<60):zor (rs k) (z6v k):=by
 unfold rs z6v;by_cases h8:k<8
 ·rw[if_pos h8,if_pos h8];exact⟨by unfold dep;rw[if_neg (by omega),if_neg (by omega)],by omega⟩
 ·rw[if_neg h8,if_neg h8];by_cases h40:k<40
  ·rw[if_pos h40,if_pos h40];refine⟨by decide,by omega,by simp[kid];omega,?_,by simp[kid];omega⟩;unfold dep kid;rw[if_pos rfl,if_neg (by omega),if_neg (by omega)]
  ·rw[if_neg h40,if_neg h40,show(k - 40) / 32=0 by omega];refine⟨by decide,by omega,by decide,by decide,by omega,by simp[kid];omega,?_,by simp[kid];omega⟩;have e:kid (kid 41 0) ((k - 40)%32)=43+(k - 40)%32:=by simp[kid]
   rw[e];unfold dep;rw[if_neg (by omega),if_neg (by omega)]
theorem z12h(k:Nat):(z6v k).length≤2:=by
 unfold z6v;split
 ·simp
 ·split<;>simp
theorem zub(k:Nat):(z1l k).length≤3:=by
 unfold z1l z6v;split
 ·simp[z2x]
 ·split<;>simp[z2x]
theorem z12i{k:Nat}(hk:k<60):lf k∈z1l k:=by
 unfold lf z1l rs z6v;by_cases h8:k<8
 ·rw[if_pos h8,if_pos h8,if_pos h8];simp[z2x]
 ·rw[if_neg h8,if_neg h8,if_neg h8];by_cases h40:k<40
  ·rw[if_pos h40,if_pos h40,if_pos h40];simp[z2x,kid];omega
  ·rw[if_neg h40,if_neg h40,if_neg h40,show(k - 40) / 32=0 by omega];simp[z2x,kid];omega
theorem z12j{k:Nat}(hk:k<60):dep (lf k)=0∧lf k<75:=by
 unfold dep lf;repeat' split
 all_goals omega
theorem zjw(k:Nat):dep (lf k)=0:=by
 unfold dep lf;repeat' split
 all_goals omega
theorem z1al{k k':Nat}(h:lf k=lf k'):k=k':=by
 unfold lf at h;repeat' split at h
 all_goals omega
theorem zou(hg:g.ok)(fs:FS g V T T){k:Nat}(hk:k<60):WalkTo g V (T ii (rs k)) (z6v k) (T ii (lf k)):=by
 unfold rs z6v lf;by_cases h8:k<8
 ·rw[if_pos h8,if_pos h8,if_pos h8];exact .nil _
 ·rw[if_neg h8,if_neg h8,if_neg h8];by_cases h40:k<40
  ·rw[if_pos h40,if_pos h40,if_pos h40];refine .cons _ _ _ _ _ (fs.num hg _ _) (by omega) (fs.tab ii 8 (by decide)) ?_;rw[z4z _ _ (by omega),show kid 8 (k - 8)=k+1 by simp[kid];omega];exact .nil _
  ·rw[if_neg h40,if_neg h40,if_neg h40,show(k - 40) / 32=0 by omega];refine .cons _ _ _ _ _ (fs.num hg _ _) (by omega) (fs.tab ii 41 (by decide)) ?_;rw[z4z _ _ (by omega)];refine .cons _ _ _ _ _ (fs.num hg _ _) (by omega) (fs.tab ii 42 (by decide)) ?_;rw[z4z _ _ (by omega),show kid 42 ((k - 40)%32)=k+3 by simp[kid];omega];exact .nil _
structure Made(g:Geo)(V:VolS)(T:z0q)(ii k a:Nat)(V':VolS)(T':z0q):Prop where
 fs:FS g V' T' T'
 same:∀j s,j≠ii→T' j s=T j s
 keep:∀s,T ii s≠0→T' ii s=T ii s
 nz:∀s,T' ii s≠0↔T ii s≠0∨s∈z1l k
 bk:∀j s,dep s=0→bk g V' (T' j s)=bk g V (T j s)
 al:V'.n.m=z2p g a (z5r (T ii) (z1l k)) V.n.m
 kp:Keeps V V'
 xt:Xt g ii a V T V' T'
theorem zjx(k:Nat):∀s j,dep s≠0→j<32→kid s j≠rs k:=by
 intro s j hd hj h;unfold rs at h;rcases dep_cases hd with rfl | rfl | rfl<;>simp[kid]at h<;>(repeat' split at h)<;>omega
theorem z18g{V':VolS}{T' P':z0q}{k:Nat}(G:Grew g V T T ii (rs k) (z1l k) a V' T' P'):Made g V T ii k a V' T':=by
 refine⟨G.fs.congr fun i s hd j hj=>?_,fun j s h=>G.same j s fun x=>h x.1,G.keep,G.nz,G.bk,G.al,G.kp,G.xt⟩
 ·rw[G.p];by_cases e:i=ii∧z1b (rs k) (kid s j)
  ·rw[if_pos e]
  ·rw[if_neg e];exact G.same _ _ fun x=>by
    rcases x.2 with y | y
    ·exact zjx k s j hd hj y
    ·exact e ⟨x.1,y⟩
theorem zdr{k:Nat}(hk:k<60):4≤z3h k∧z3h k - 4<12∧2≤z3h k - 4:=by
 unfold z3h;split
 ·omega
 ·split<;>omega
theorem zjy{k k':Nat}:z3h k - 4=z3h k' - 4↔rs k=rs k':=by
 unfold z3h rs;repeat' split
 all_goals omega
theorem znm(k k':Nat):¬z1b (rs k) (rs k'):=by
 unfold rs z1b;repeat' split
 all_goals omega
theorem z12k(hr:z4o n (T ii)){V':VolS}{T' P':z0q}{k:Nat}(hk:k<60)(G:Grew g V T T ii (rs k) (z1l k) a V' T' P'):z4o (n.put (z3h k - 4) (T' ii (rs k):Nat)) (T' ii):=by
 intro k' hk';rw[n.put_at (zdr hk).2.1];by_cases e:rs k'=rs k
 ·rw[if_pos (zjy.2 e),e]
 ·rw[if_neg fun x=>e (zjy.1 x),hr k' hk',G.same ii (rs k')];rintro⟨_,x | x⟩
  ·exact e x
  ·exact znm _ _ x
theorem z12l(hg:g.ok)(ha:a<65536)(hN:5000<N)(fs:FS g V T T)(hr:z4o n (T ii)){k:Nat}(hk:k<60) :
  Tri (z00 [z0l v d g V,pts o (.cells (z1k v i n a) false)]) (F_2y N (some ⟨o,0⟩) (k:Int)) fun r=>exA fun x:VolS×z0q×Ino=>pu ((r.2=0→r.1=(x.2.1 ii (lf k):Nat)∧Made g V T ii k a x.1 x.2.1∧x.2.2=n.put (z3h k - 4) (x.2.1 ii (rs k):Nat)∧z4o x.2.2 (x.2.1 ii))∧(r.2≠0→r.2=(x.1.n.m.alloc g a).1.2∧Fell g V T T ii (z1l k) a x.1)) (z00 [z0l v d g x.1,pts o (.cells (z1k v i x.2.2 a) false)]):=by
 have hO:=zdr hk;have e4:z3h k=4+(z3h k - 4):=by omega
 unfold F_2y;refine zz4 rfl fun c3=>?_;refine z3r 0 rfl rfl ?_;refine z02 [] (zu8 (o:=o) hk) fun r5=>z04 fun h5=>z01 ?_;dsimp only[sel,rem,nth,del,cat,upd];refine z0v fun c6=>?_;refine z21 0 rfl (by simp) rfl ?_;refine zdq 0 rfl rfl rfl ?_;rw[h5];refine z0r ?_;refine tri_ldI 4 rfl (by rw[e4];exact z7f hO.2.1) ?_;rw[hr k hk];refine z0c 1 rfl fun l5=>?_;rw[F_5q];refine z02 [3,3,2,0,0] (z12g hg ha hN (z6v k) N (rs k) V T T r5.2 (by have:=z12h k;omega) (zlj hk) fs (fun _ _=>rfl) (z0k l5)) fun r10=>z12 fun x=>z04 fun h10=>z01 ?_;obtain⟨V',T',P'⟩:=x;dsimp only[sel,rem,nth,del,cat,upd];by_cases h0:r10.2=0
 case neg=>
  exact z07 (by simp[h0]) (z03 [0,0] fun q hq=>⟨(V',T',n),⟨fun h=>absurd h h0,fun _=>h10.2 h0⟩,hq⟩)
 obtain⟨e10,G⟩:=h10.1 h0;have e10:r10.1=(T' ii (rs k):Nat):=e10;have G:Grew g V T T ii (rs k) (z1l k) a V' T' P':=G;refine z05 (by simp[h0]) ?_;refine z0r ?_;refine z21 1 rfl (by rw[z7j];omega) rfl ?_;rw[e10,e4,zaf v i n a hO.2.1];refine z3r 2 rfl rfl ?_;have M:=z18g G;have hr':=z12k hr hk G;have hp:=hr' k hk;refine z02 [0,0] (zj4 hg hk hp (zou hg M.fs hk) hN) fun r13=>z04 fun h13=>z01 ?_;subst h13;dsimp only[sel,rem,nth,del,cat,upd];exact z03 [0,0] fun q hq=>⟨(V',T',n.put (z3h k - 4) (T' ii (rs k):Nat)),⟨fun _=>⟨rfl,M,by rw[Nat.add_sub_cancel_left],hr'⟩,fun h=>absurd rfl h⟩,hq⟩
end
end Go.Moat
