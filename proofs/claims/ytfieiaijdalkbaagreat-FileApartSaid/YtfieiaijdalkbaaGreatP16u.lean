/- Layer 16: the blocks of files, in plain words. -/
import Derived.Test.YtfieiaijdalkbaaGreatP16n
namespace Go.Moat
open Go.Mini
structure VOk(g:Geo)(V:VolS):Prop where
 inv:Inv g V.n.m
 re:∀b:Nat,b<g.B→V.readE g b=0
 zero:∀b:Nat,b<g.B→z0v V.n.m.used b=false→V.readB g b=z1e
structure Keeps(V V':VolS):Prop where
 disk:V'.disk=V.disk
 seq:V'.seq=V.seq
 safe:V'.safe=V.safe
 before:V'.before=V.before
 dead:V'.dead=V.dead
section
variable{V:VolS}{g:Geo}{m:MetaS}
theorem z91(b:Nat)(bs:List UInt8)(c:Nat)(hc:c<g.B)(h:V.readE g c=0):(V.write g b bs).readE g c=0:=by
 unfold VolS.readE VolS.write NowS.write at *;dsimp only at *;rw[if_pos (by omega)]at h ⊢;rw[zks];by_cases e:(c:Int)=b
 ·rw[if_pos e]
 ·rw[if_neg e];exact h
theorem z50(b:Nat)(bs:List UInt8)(c:Nat):(V.write g b bs).readB g c=if c=b then bs else V.readB g c:=by
 unfold VolS.readB VolS.write NowS.write;dsimp only;rw[zks];by_cases e:c=b
 ·rw[if_pos (by omega),if_pos e]
 ·rw[if_neg (by omega),if_neg e]
theorem VOk.wM(h:VOk g V){m:MetaS}(hm:Inv g m)(hu:∀b,b<g.B→z0v m.used b=false→z0v V.n.m.used b=false):VOk g (V.wM m):=
 ⟨hm,h.re,fun b hb hz=>h.zero b hb (hu b hb hz)⟩
theorem zko(V:VolS)(m:MetaS):Keeps V (V.wM m):=⟨rfl,rfl,rfl,rfl,rfl⟩
theorem zbx(V:VolS)(b:Nat)(bs:List UInt8):Keeps V (V.write g b bs):=⟨rfl,rfl,rfl,rfl,rfl⟩
theorem z5p(V:VolS):Keeps V V:=⟨rfl,rfl,rfl,rfl,rfl⟩
theorem VOk.write(h:VOk g V){b:Nat}(hb:b<g.B)(hbit:z0v V.n.m.used b=true)(bs:List UInt8):VOk g (V.write g b bs):=by
 refine⟨h.inv,fun c hc=>z91 b bs c hc (h.re c hc),fun c hc hz=>?_⟩;have hz':z0v V.n.m.used c=false:=hz;rw[z50,if_neg (by rintro rfl;rw[hbit]at hz';cases hz')];exact h.zero c hc hz'
theorem zx6{m:MetaS}(hg:g.ok)(h:Inv g m)(a:Nat):∀b,b<g.B→z0v (m.alloc g a).2.used b=false→z0v m.used b=false:=by
 intro b hb;have hul:=h.ok.usedl;have hgp:=hg.gp;have hB:g.B=g.G * g.P:=rfl;have key:∀c,c<g.B→z0v (z21 m.used c true) b=false→z0v m.used b=false:=by
  intro c hc;rw[z2a (by omega)];split
  ·intro h;cases h
  ·exact id
 unfold MetaS.alloc;cases hat:m.atB g a with
 | some c=>
  dsimp only;unfold MetaS.atB at hat;split at hat
  ·rw[List.find?_range'_eq_some]at hat;have:=List.mem_range'_1.1 hat.2.1
   exact key c (by omega)
  ·cases hat
 | none=>
  dsimp only;cases hfr:m.own.findIdx? z3s with
  | none=>exact id
  | some k=>
   dsimp only;split
   ·have hk:=(List.findIdx?_eq_some_iff_getElem.1 hfr).1;rw[h.ok.ownl]at hk;have hb:k * g.P+g.P≤g.G * g.P:=z3p hk;have:=hg.p1
    exact key (k * g.P) (by omega)
   ·exact id
theorem zsf{m:MetaS}(hg:g.ok)(h:Inv g m){a:Nat}(h0:(m.alloc g a).1.2=0):∃b:Nat,(m.alloc g a).1.1=b∧b<g.B∧z0v m.used b=false∧(m.alloc g a).2.used=z21 m.used b true:=by
 have hB:g.B=g.G * g.P:=rfl;have hp1:=hg.p1;unfold MetaS.alloc at h0 ⊢;cases hat:m.atB g a with
 | some c=>
  rw[hat]at h0;dsimp only;unfold MetaS.atB at hat;split at hat
  ·rw[List.find?_range'_eq_some]at hat;have h1:=List.mem_range'_1.1 hat.2.1;have h2:=hat.1;unfold MetaS.isAt at h2;simp only[Bool.and_eq_true]at h2;exact⟨c,rfl,by omega,by simpa using h2.2,rfl⟩
  ·cases hat
 | none=>
  rw[hat]at h0;dsimp only at h0 ⊢;cases hfr:m.own.findIdx? z3s with
  | none=>rw[hfr]at h0;simp at h0
  | some k=>
   rw[hfr]at h0;dsimp only at h0 ⊢;by_cases hE:z4j m.rows a=0
   ·rw[if_pos hE];obtain⟨hk,hk0,_⟩:=List.findIdx?_eq_some_iff_getElem.1 hfr;have hkG:k<g.G:=by rw[←h.ok.ownl];exact hk
    have hb:k * g.P+g.P≤g.G * g.P:=z3p hkG;refine⟨k * g.P,rfl,by omega,?_,rfl⟩;cases hbit:z0v m.used (k * g.P)with
    | false=>rfl
    | true=>
     have:=(h.grp k hkG).2 ⟨k * g.P,Nat.le_refl _,by rw[Nat.add_mul];omega,hbit⟩
     rw[List.getElem?_eq_getElem hk]at this;unfold z3s at hk0;simp at hk0;rw[hk0]at this;simp at this
   ·rw[if_neg hE]at h0;exact absurd h0 hE
theorem z16o(hg:g.ok):VOk g (z7y g):=by
 have inv:=zdx g;have hga:g.all=g.blk+g.B:=rfl;have hblk:g.blk=4+g.J+g.I / 2:=rfl;refine⟨inv,fun b hb=>?_,fun b hb _=>?_⟩
 ·unfold VolS.readE;rw[if_pos (by omega)];show z7o (z9h g) ((g.blk:Int)+b)=0;rw[show((g.blk:Int)+b)=((g.blk+b:Nat):Int) by simp];exact zbg rfl (by rw[zfi];omega)
 ·unfold VolS.readB;show(getS (z9h g) ((g.blk:Int)+b)).b=z1e;rw[show((g.blk:Int)+b)=((g.blk+b:Nat):Int) by simp,zl0 (by omega) (by omega)];rfl
end
def kid(s j:Nat):Nat:=if s=8 then 9+j else if s=41 then(if j=0 then 42 else 75)else 43+j
def dep(s:Nat):Nat:=if s=41 then 2 else if s=8∨s=42 then 1 else 0
abbrev z1a(c s:Nat):Prop:=(c=8∧9≤s∧s≤40)∨(c=41∧42≤s∧s≤74)∨(c=42∧43≤s∧s≤74)
def kids(p:Nat→Nat)(s:Nat):List Nat:=(List.range 32).map fun j=>p (kid s j)
abbrev z0q:=Nat→Nat→Nat
def put(T:z0q)(i s x:Nat):z0q:=fun j t=>if j=i∧t=s then x else T j t
theorem z3i(p:Nat→Nat)(s:Nat):(kids p s).length=32:=by simp[kids]
theorem z4v(p:Nat→Nat)(s:Nat){j:Nat}(hj:j<32):(kids p s)[j]? = some (p (kid s j)):=by simp[kids,hj]
theorem zj7{p q:Nat→Nat}{s:Nat}(h:∀j,j<32→p (kid s j)=q (kid s j)):kids p s=kids q s:=
 List.map_congr_left fun j hj=>h j (List.mem_range.1 hj)
theorem z2c{s:Nat}(h:dep s≠0):s=8∨s=41∨s=42:=by
 unfold dep at h;split at h
 ·omega
 ·split at h
  ·omega
  ·exact absurd rfl h
theorem z47{s j:Nat}(h:dep s≠0)(hj:j<32)(hk:kid s j<75):z1a s (kid s j):=by
 rcases z2c h with rfl | rfl | rfl<;>simp[kid,z1a]at hk ⊢
 ·omega
 ·split at hk<;>simp_all
 ·omega
theorem zj8{s j s' j':Nat}(h:dep s≠0)(h':dep s'≠0)(hj:j<32)(hj':j'<32)(hk:kid s j<75)(e:kid s j=kid s' j'):s=s'∧j=j':=by
 rcases z2c h with rfl | rfl | rfl<;>rcases z2c h' with rfl | rfl | rfl<;>simp[kid]at hk e ⊢ <;> (repeat' split at hk)<;>(repeat' split at e)<;>omega
theorem zj9{s j:Nat}(h:dep s≠0)(hj:j<32)(hk:kid s j<75):dep s=dep (kid s j)+1:=by
 rcases z2c h with rfl | rfl | rfl<;>simp[kid]at hk ⊢
 ·have:dep (9+j)=0:=by unfold dep;rw[if_neg (by omega),if_neg (by omega)]
  rw[this];rfl
 ·split at hk
  ·rename_i e;rw[if_pos e];rfl
  ·omega
 ·have:dep (43+j)=0:=by unfold dep;rw[if_neg (by omega),if_neg (by omega)]
  rw[this];rfl
theorem z18l{s j:Nat}(h:dep s≠0)(hj:j<32):kid s j≠s:=by
 rcases z2c h with rfl | rfl | rfl<;>simp[kid]
 ·omega
 ·split<;>omega
 ·omega
theorem z7s(s:Nat){j:Nat}(hj:j<32):kid s j<76:=by
 unfold kid;split
 ·omega
 ·split
  ·split<;>omega
  ·omega
def bk(g:Geo)(V:VolS)(p:Nat):List UInt8:=if p=0 then z1e else V.readB g ((p - 1:Nat):Int)
structure FS(g:Geo)(V:VolS)(T P:z0q):Prop where
 ok:VOk g V
 le:∀i s,T i s≤g.B
 out:∀i s,75≤s→T i s=0
 inj:∀i s j t,T i s≠0→T i s=T j t→i=j∧s=t
 used:∀i s,T i s≠0→z0v V.n.m.used (T i s - 1)=true
 tab:∀i s,dep s≠0→zn1 g V (T i s) (kids (P i) s)
 l64:∀b:Nat,b<g.B→(V.readB g b).length=64
 pout:∀i,P i 75=0
theorem z19f:zai (List.replicate 32 0)=z1e:=by decide
section
variable{V:VolS}{g:Geo}{T P P':z0q}{i s:Nat}
theorem FS.congr(h:FS g V T P)(e:∀i s,dep s≠0→∀j,j<32→P' i (kid s j)=P i (kid s j)):FS g V T P':=
 ⟨h.ok,h.le,h.out,h.inj,h.used,fun i s hd=>by rw[zj7 (e i s hd)];exact h.tab i s hd,h.l64,fun i=>(e i 41 (by decide) 1 (by omega)).trans (h.pout i)⟩
theorem FS.pos(h:FS g V T P)(hz:T i s≠0):s<75:=by
 apply Decidable.byContradiction;intro hs;exact hz (h.out i s (by omega))
theorem FS.num(h:FS g V T P)(hg:g.ok)(i s:Nat):T i s≤512:=Nat.le_trans (h.le i s) hg.gp
theorem FS.kid0(h:FS g V T P)(hd:dep s≠0)(hz:T i s=0){j:Nat}(hj:j<32):P i (kid s j)=0:=by
 have h1:=(h.tab i s hd).2;rw[if_pos hz]at h1;have h2:=z4v (P i) s hj;rw[h1]at h2;rw[List.getElem?_replicate,if_pos hj]at h2;exact(Option.some.inj h2).symm
theorem z92{V V':VolS}{p:Nat}{ps:List Nat}(h:zn1 g V p ps)(e:p≠0→V'.readE g ((p - 1:Nat):Int)=V.readE g ((p - 1:Nat):Int)∧V'.readB g ((p - 1:Nat):Int)=V.readB g ((p - 1:Nat):Int)):zn1 g V' p ps:=by
 refine⟨h.1,?_⟩;have h2:=h.2;by_cases hp:p=0
 ·rw[if_pos hp]at h2 ⊢;exact h2
 ·rw[if_neg hp]at h2 ⊢;rw[(e hp).1,(e hp).2];exact h2
theorem FS.alloc(h:FS g V T P)(hg:g.ok){a:Nat}(ha:a<65536)(hE:(V.n.m.alloc g a).1.2=0)(hs:s<75)(hz:T i s=0) :
  ∃b:Nat,(V.n.m.alloc g a).1.1=b∧b<g.B∧V.readB g b=z1e∧FS g (V.wM (V.n.m.alloc g a).2) (put T i s (b+1)) P∧(∀j t,T j t≠b+1):=by
 obtain⟨b,eb,hb,hbit,eu⟩:=zsf hg h.ok.inv hE;have hu:=h.ok.inv.ok.usedl;have hgp:=hg.gp;have hB:g.B=g.G * g.P:=rfl;have hfree:∀j t,T j t≠b+1:=fun j t e=>by
  have:=h.used j t (by omega)
  rw[e,Nat.add_sub_cancel,hbit]at this;cases this
 have hzb:=h.ok.zero b hb hbit;refine⟨b,eb,hb,hzb,⟨h.ok.wM (zeg hg h.ok.inv ha) (zx6 hg h.ok.inv a),fun j t=>?_,fun j t ht=>?_,fun j t j' t' h0 e=>?_,fun j t h0=>?_,fun j t hd=>?_,h.l64,h.pout⟩,hfree⟩
 ·unfold put;split
  ·omega
  ·exact h.le j t
 ·unfold put;rw[if_neg (by omega)];exact h.out j t ht
 ·unfold put at h0 e;split at e<;>split at e
  ·omega
  ·exact absurd e.symm (hfree _ _)
  ·exact absurd e (hfree _ _)
  ·rename_i n1 _;rw[if_neg n1]at h0;exact h.inj _ _ _ _ h0 e
 ·have e1:(V.wM (V.n.m.alloc g a).2).n.m.used=z21 V.n.m.used b true:=eu;rw[e1,z2a (by omega)];unfold put at h0 ⊢;split
  ·rw[Nat.add_sub_cancel,if_pos rfl]
  ·rename_i n1;rw[if_neg n1]at h0;rw[h.used _ _ h0];split<;>rfl
 ·unfold put;split
  ·rename_i e;obtain⟨rfl,rfl⟩:=e;have h1:=h.tab j t hd;refine⟨h1.1,?_⟩;have h2:=h1.2;rw[if_pos hz]at h2;rw[if_neg (by omega),h2,Nat.add_sub_cancel];exact⟨h.ok.re b hb,by rw[z19f];exact hzb⟩
  ·exact h.tab j t hd
theorem FS.wtab(h:FS g V T P)(hg:g.ok)(hd:dep s≠0)(hz:T i s≠0)(hP:∀k,k<32→P' i (kid s k)≤512)(e:∀j t,t<76→(j=i→∀k,k<32→t≠kid s k∨t=75)→P' j t=P j t):FS g (V.write g (T i s - 1) (zai (kids (P' i) s))) T P':=by
 have hb:=h.le i s;have tok:TabOk (kids (P' i) s):=⟨z3i _ _,fun p hp=>by
  unfold kids at hp;obtain⟨k,hk,rfl⟩:=List.mem_map.1 hp;exact hP _ (List.mem_range.1 hk)⟩
 refine⟨h.ok.write (by omega) (h.used i s hz) _,h.le,h.out,h.inj,h.used,fun j t ht=>?_,fun b hb=>by
  rw[z50];split
  ·exact zb8 tok
  ·exact h.l64 b hb,fun j=>(e j 75 (by omega) fun _ _ _ =>.inr rfl).trans (h.pout j)⟩
 by_cases hjt:j=i∧t=s
 ·obtain⟨rfl,rfl⟩:=hjt;refine⟨tok,?_⟩
  ·rw[if_neg hz];exact⟨z91 _ _ _ (by omega) (h.ok.re _ (by omega)),by rw[z50,if_pos rfl]⟩
 ·have e1:kids (P' j) t=kids (P j) t:=zj7 fun k hk=>e _ _ (z7s t hk) fun ej k' hk'=>by
   apply Decidable.byContradiction;intro c;rw[not_or]at c;obtain⟨c1,c2⟩:=c;have c1:=Decidable.not_not.1 c1;have hlt:=z7s t hk;exact hjt ⟨ej,(zj8 ht hd hk hk' (by omega) c1).1⟩
  rw[e1];refine z92 (h.tab j t ht) fun h0=>?_;have hle:=h.le j t;refine⟨?_,?_⟩
  ·rw[z91 _ _ _ (by omega) (h.ok.re _ (by omega)),h.ok.re _ (by omega)]
  ·rw[z50,if_neg];intro c;have:=h.inj j t i s h0 (by omega)
   exact hjt this
theorem zga(h:FS g V T P)(hz:T i s≠0)(bs:List UInt8)(j t:Nat):bk g (V.write g (T i s - 1) bs) (T j t)=if j=i∧t=s then bs else bk g V (T j t):=by
 unfold bk;by_cases e:j=i∧t=s
 ·obtain⟨rfl,rfl⟩:=e;rw[if_neg hz,z50,if_pos rfl,if_pos ⟨rfl,rfl⟩]
 ·rw[if_neg e];split
  ·rfl
  ·rename_i h0;rw[z50,if_neg];intro c;exact e (h.inj _ _ _ _ h0 (by omega))
theorem zhy(h:FS g V T P)(j t:Nat):(bk g V (T j t)).length=64:=by
 unfold bk;split
 ·rfl
 ·exact h.l64 _ (by have:=h.le j t;omega)
theorem FS.leaf(h:FS g V T P)(hd:dep s=0)(hz:T i s≠0){bs:List UInt8}(h64:bs.length=64):FS g (V.write g (T i s - 1) bs) T P:=by
 have hb:=h.le i s;refine⟨h.ok.write (by omega) (h.used i s hz) _,h.le,h.out,h.inj,h.used,fun j t ht=>?_,fun b hb=>by
  rw[z50];split
  ·exact h64
  ·exact h.l64 b hb,h.pout⟩
 refine z92 (h.tab j t ht) fun h0=>?_;have hle:=h.le j t;refine⟨?_,?_⟩
 ·rw[z91 _ _ _ (by omega) (h.ok.re _ (by omega)),h.ok.re _ (by omega)]
 ·rw[z50,if_neg];intro c;have:=(h.inj j t i s h0 (by omega)).2
  subst this;exact ht hd
end
end Go.Moat

/- Layer 16: a file grows. -/
namespace Go.Mini
section
variable{β:Type}{l:List HA}{S:β→HA}{b o:Nat}{cs:List MV}{ro:Bool}
theorem z191{h:Hp}{fn:Nat}{caps:List CTy}{v:MV}{x:(Ty.fnc fn caps).den}(hg:h.get b=.cells cs ro)(hv:cs[o]? = some v)(hx:Ty.dec (.fnc fn caps) v=some x):ld (.fnc fn caps) (some ⟨b,o⟩) h=some (x,h):=by
 unfold ld ldC ldc;simp only[bd,hg,hv,z0o,hx]
theorem zde(n:Nat)(hl:l[n]? = some (pts b (.cells cs ro))){fn:Nat}{caps:List CTy}{v:MV}{x:(Ty.fnc fn caps).den}(hv:cs[o]? = some v)(hx:Ty.dec (.fnc fn caps) v=some x){f:(Ty.fnc fn caps).den→M β}(kk:Tri (z00 l) (f x) S):Tri (z00 l) (bd (ld (.fnc fn caps) (some ⟨b,o⟩)) f) S:=
 z38 n hl (fun _ hg=>z191 hg hv hx) kk
theorem zxq{v:MV}(hc:z0z v=true){f:Option MA→M β}(kk:∀b,Tri (z00 (pts b (.cells [v] false)::l)) (f (some ⟨b,0⟩)) S):Tri (z00 l) (bd (z84 v) f) S:=
 z6e (g:=fun b=>some ⟨b,0⟩) (fun h=>by unfold z84;rw[if_pos hc]) kk
end
end Go.Mini
namespace Go.Moat
open Go.Mini
def allocN(g:Geo)(a:Nat):Nat→MetaS→MetaS
 | 0,m=>m
 | k+1,m=>allocN g a k (m.alloc g a).2
theorem z8v(g:Geo)(a:Nat):∀(j k:Nat)(m:MetaS),allocN g a (j+k) m=allocN g a k (allocN g a j m)
 | 0,k,m=>by rw[Nat.zero_add];rfl
 | j+1,k,m=>by rw[show j+1+k=(j+k)+1 by omega];exact z8v g a j k _
theorem Keeps.trans{A B C:VolS}(h:Keeps A B)(k:Keeps B C):Keeps A C:=⟨k.disk.trans h.disk,k.seq.trans h.seq,k.safe.trans h.safe,k.before.trans h.before,k.dead.trans h.dead⟩
def zo6:Nat→List Nat→Prop
 | c,[]=>dep c=0∧c<75
 | c,k::ks=>dep c≠0∧k<32∧kid c k<75∧zo6 (kid c k) ks
def z3e:Nat→List Nat→List Nat
 | c,[]=>[c]
 | c,k::ks=>c::z3e (kid c k) ks
theorem z5s{c k s:Nat}(hd:dep c≠0)(hk:k<32)(h:z1a (kid c k) s):z1a c s:=by
 rcases z2c hd with rfl | rfl | rfl<;>simp[kid,z1a]at h ⊢ <;> (repeat' split at h)<;>omega
theorem zpm{c k j:Nat}(hd:dep c≠0)(hk:k<32)(hj:j<32):¬z1a (kid c k) (kid c j):=by
 intro h;rcases z2c hd with rfl | rfl | rfl<;>simp[kid,z1a]at h<;>(repeat' split at h)<;>omega
theorem z6l(c:Nat):¬z1a c c:=by simp[z1a];omega
theorem z4k{c s:Nat}(h:z1a c s):s<75:=by simp[z1a]at h;omega
section
variable{m:MetaS}{r1 r2 n1 n2 a:Nat}
theorem zd6{rs:List Row}(ok:RowsOk rs){r:Nat}(hr:r<16)(h0:0<(z1c rs r).2)(hl:(z1c rs r).1=a):rs.findIdx? (z3w a)=some r:=by
 have hlen:r<rs.length:=by rw[ok.len];exact hr
 have e:z1c rs r=rs[r]:=by unfold z1c;rw[List.getElem?_eq_getElem hlen];rfl
 rw[e]at h0 hl;refine List.findIdx?_eq_some_iff_getElem.2 ⟨hlen,by unfold z3w;simp[h0,hl],fun j hj=>?_⟩;unfold z3w;simp only[Bool.and_eq_true,decide_eq_true_eq,not_and];intro hj0 hja;have:=ok.dist j r (by omega) hlen hj0 h0 (by rw[hja,hl])
 omega
theorem zl1{rs:List Row}(h:rs.findIdx? (z3w a)=some r2):zbd rs a=some r2:=by
 unfold zbd;rw[h]
theorem zpn{g:Geo}(hg:g.ok)(inv:Inv g m)(ha:a<65536){r:Nat}(h:0<(z1c m.rows r).2):(z1c (m.alloc g a).2.rows r).1=(z1c m.rows r).1∧0<(z1c (m.alloc g a).2.rows r).2:=by
 unfold MetaS.alloc;split
 ·exact⟨rfl,h⟩
 ·split
  ·exact⟨rfl,h⟩
  ·split
   ·rename_i hE;obtain⟨i,h1,h2,h3⟩:=zpk hE;have hok:=zjd inv.ok.rows ha hE;have hi:=zpj h1;refine⟨?_,?_⟩
    ·show(z1c (z9j m.rows a) r).1=_;unfold z9j;rw[h2,zbh hi.1];by_cases e:r=i
     ·subst e;rw[if_pos rfl];rcases hi.2 with⟨_,h5⟩ | ⟨h5,_⟩
      ·exact h5.symm
      ·omega
     ·rw[if_neg e]
    ·show 0<(z1c (z9j m.rows a) r).2;rw[hok.2.2 r];omega
   ·exact⟨rfl,h⟩
def z81(m:MetaS)(r a:Nat):Prop:=r<16∧0<(z1c m.rows r).2∧(z1c m.rows r).1=a
theorem z81.alloc{g:Geo}{r:Nat}(hg:g.ok)(inv:Inv g m)(ha:a<65536)(h:z81 m r a):z81 (m.alloc g a).2 r a:=by
 obtain⟨e1,e2⟩:=zpn hg inv ha h.2.1;exact⟨h.1,e2,e1.trans h.2.2⟩
theorem z110{g:Geo}{r:Nat}(hg:g.ok)(inv:Inv g m)(h:z81 m r a)(hE:(m.alloc g a).1.2=0){b:Nat}(eb:(m.alloc g a).1.1=b):(m.alloc g a).2.own[b / g.P]? = some (r+1)∧∀b',b'<g.B→z0v m.used b'=true→(m.alloc g a).2.own[b' / g.P]? = m.own[b' / g.P]? :=by
 have hrow:=zd6 inv.ok.rows h.1 h.2.1 h.2.2;have hp:=hg.p1;have hol:=inv.ok.ownl;unfold MetaS.alloc at hE eb ⊢;cases hat:m.atB g a with
 | some c=>
  rw[hat]at eb;dsimp only at eb ⊢;obtain rfl:c=b:=by omega
  unfold MetaS.atB at hat;rw[hrow]at hat;dsimp only at hat;rw[List.find?_range'_eq_some]at hat;have h2:=hat.1;unfold MetaS.isAt at h2;simp only[Bool.and_eq_true,decide_eq_true_iff]at h2;exact⟨h2.1,fun _ _ _=>rfl⟩
 | none=>
  rw[hat]at hE eb;dsimp only at hE eb ⊢;cases hfr:m.own.findIdx? z3s with
  | none=>rw[hfr]at hE;simp at hE
  | some k=>
   rw[hfr]at hE eb;dsimp only at hE eb ⊢;by_cases hR:z4j m.rows a=0
   case neg=>rw[if_neg hR]at hE;exact absurd hE hR
   rw[if_pos hR]at eb ⊢;dsimp only at eb ⊢;obtain rfl:k * g.P=b:=by omega
   have eI:z4a m.rows a=r:=by unfold z4a;rw[zl1 hrow];rfl
   obtain⟨hk,hk0,_⟩:=List.findIdx?_eq_some_iff_getElem.1 hfr;rw[eI,Nat.mul_div_cancel k (by omega)];refine⟨by rw[List.getElem?_set,if_pos rfl,if_pos hk],fun b' hb' hu=>?_⟩;rw[List.getElem?_set,if_neg];intro e;have h1:=inv.gr hg b' hb' hu;rw[←e,List.getElem?_eq_getElem hk]at h1;unfold z3s at hk0;simp at hk0;rw[hk0]at h1;simp at h1
end
def zt7(g:Geo)(V:VolS)(T:z0q)(lab:Nat→Nat):Prop:=∀i s,T i s≠0→V.n.m.own[(T i s - 1) / g.P]? = some (lab i+1)
def z5l(p:Nat→Nat)(ch:List Nat):Nat:=ch.countP fun s=>decide (p s=0)
theorem z172(p:Nat→Nat)(ch:List Nat):z5l p ch≤ch.length:=List.countP_le_length
theorem zin(p:Nat→Nat)(c:Nat)(ch:List Nat):z5l p (c::ch)=z5l p [c]+z5l p ch:=by
 unfold z5l;rw[show c::ch=[c]++ch from rfl,List.countP_append]
theorem zxr{p q:Nat→Nat}{ch:List Nat}(h:∀s∈ch,(p s=0↔q s=0)):z5l p ch=z5l q ch:=by
 unfold z5l;refine List.countP_congr fun s hs=>?_;rw[decide_eq_true_iff,decide_eq_true_iff];exact h s hs
def zo7(g:Geo)(V:VolS)(T:z0q):Prop:=∀b,b<g.B→z0v V.n.m.used b=true→∃i s,T i s=b+1
def DkW(ii:Nat)(V V':VolS)(T:z0q):Prop:=∀k:Int,k∈V'.n.dirty.map (·.1)→k∈V.n.dirty.map (·.1)∨∃s,T ii s≠0∧k=((T ii s - 1:Nat):Int)
structure Xt(g:Geo)(ii a:Nat)(V:VolS)(T:z0q)(V':VolS)(T':z0q):Prop where
 full:zo7 g V T→zo7 g V' T'
 dk:DkW ii V V' T'
 own:∀lab:Nat→Nat,z81 V.n.m (lab ii) a→zt7 g V T lab→zt7 g V' T' lab∧z81 V'.n.m (lab ii) a
theorem Xt.rfl'{g:Geo}{ii a:Nat}{V:VolS}{T:z0q}:Xt g ii a V T V T:=⟨id,fun _ h =>.inl h,fun _ h k=>⟨k,h⟩⟩
theorem Xt.trans{g:Geo}{ii a:Nat}{V V1 V2:VolS}{T T1 T2:z0q}(h:Xt g ii a V T V1 T1)(k:Xt g ii a V1 T1 V2 T2)(e:∀s,T1 ii s≠0→T2 ii s=T1 ii s):Xt g ii a V T V2 T2:=⟨fun x=>k.full (h.full x),fun n hn=>by
 rcases k.dk n hn with hn | hn
 ·rcases h.dk n hn with hn | ⟨s,h1,h2⟩
  ·exact .inl hn
  ·exact .inr ⟨s,by rw[e s h1];exact h1,by rw[e s h1];exact h2⟩
 ·exact .inr hn,fun lab hr ho=>by
 obtain⟨h1,h2⟩:=h.own lab hr ho;exact k.own lab h2 h1⟩
theorem zpo{α:Type}{v:α}:∀{L:List (Int×α)}{k x:Int},x∈(z6n L k v).map (·.1)→x=k∨x∈L.map (·.1)
 | [],k,x,h=>by
  unfold z6n at h;simp at h;exact .inl h
 | e::r,k,x,h=>by
  unfold z6n at h;split at h
  ·rename_i he;rw[List.map_cons,List.mem_cons]at h ⊢;rcases h with h | h
   ·exact .inl h
   ·exact .inr (.inr h)
  ·rw[List.map_cons,List.mem_cons]at h ⊢;rcases h with h | h
   ·exact .inr (.inl h)
   ·rcases zpo h with h | h
    ·exact .inl h
    ·exact .inr (.inr h)
theorem zdy{g:Geo}{ii a s:Nat}{V:VolS}{T:z0q}(hz:T ii s≠0)(bs:List UInt8):Xt g ii a V T (V.write g (T ii s - 1) bs) T:=⟨id,fun k hk=>by
 rcases zpo hk with h | h
 ·exact .inr ⟨s,hz,h⟩
 ·exact .inl h,fun _ h k=>⟨k,h⟩⟩
structure Grew(g:Geo)(V:VolS)(T P:z0q)(ii c:Nat)(ch:List Nat)(a:Nat)(V':VolS)(T' P':z0q):Prop where
 fs:FS g V' T' P'
 p:∀j s,P' j s=if j=ii∧z1a c s then T' j s else P j s
 same:∀j s,¬(j=ii∧(s=c∨z1a c s))→T' j s=T j s
 keep:∀s,T ii s≠0→T' ii s=T ii s
 nz:∀s,T' ii s≠0↔T ii s≠0∨s∈ch
 bk:∀j s,dep s=0→bk g V' (T' j s)=bk g V (T j s)
 al:V'.n.m=allocN g a (z5l (T ii) ch) V.n.m
 kp:Keeps V V'
 xt:Xt g ii a V T V' T'
structure Fell(g:Geo)(V:VolS)(T P:z0q)(ii:Nat)(ch:List Nat)(a:Nat)(V':VolS):Prop where
 fs:FS g V' T P
 bk:∀j s,dep s=0→bk g V' (T j s)=bk g V (T j s)
 al:∃n,n<z5l (T ii) ch∧V'.n.m=allocN g a n V.n.m∧(V'.n.m.alloc g a).1.2≠0
 kp:Keeps V V'
theorem zxs{g:Geo}{m:MetaS}{a:Nat}(h:(m.alloc g a).1.2≠0):(m.alloc g a).2=m:=by
 unfold MetaS.alloc at h ⊢;split
 ·rename_i b hb;rw[hb]at h;exact absurd rfl h
 ·rename_i hb;rw[hb]at h;dsimp only at h;split
  ·rfl
  ·rename_i k hk;rw[hk]at h;dsimp only at h;split
   ·rename_i hr;rw[if_pos hr]at h;exact absurd rfl h
   ·rfl
section
variable{g:Geo}{V V1 V2:VolS}{T T1 T2 P P2:z0q}{ii c k a:Nat}{ch:List Nat}
theorem FS.forget(h:FS g V T P)(h1:FS g V1 T1 P)(e:∀j s,T j s≠0→T1 j s=T j s):FS g V1 T P:=by
 refine⟨h1.ok,h.le,h.out,h.inj,fun j s hz=>?_,fun j s hd=>?_,h1.l64,h.pout⟩
 ·have:=h1.used j s (by rw[e j s hz];exact hz)
  rwa [e j s hz]at this
 ·by_cases hz:T j s=0
  ·exact z92 (h.tab j s hd) fun c=>absurd hz c
  ·have:=h1.tab j s hd
   rwa [e j s hz]at this
theorem Grew.keepA(h:Grew g V T P ii c ch a V1 T1 P2)(j s:Nat)(hz:T j s≠0):T1 j s=T j s:=by
 by_cases e:j=ii
 ·subst e;exact h.keep s hz
 ·exact h.same j s fun k=>e k.1
theorem zt8(G1:Grew g V T P ii c [c] a V1 T1 P)(hch:c ∉ ch):z5l (T1 ii) ch=z5l (T ii) ch:=zxr fun s hs=>by
 have h1:=G1.nz s;rw[List.mem_singleton]at h1;have h2:s≠c:=by rintro rfl;exact hch hs
 constructor
 ·intro h3;exact Decidable.byContradiction fun h4=>h1.2 (.inl h4) h3
 ·intro h3;exact Decidable.byContradiction fun h4=>(h1.1 h4).elim (fun h=>h h3) h2
def z3g(P T2:z0q)(ii c:Nat):z0q:=fun j s=>if j=ii∧z1a c s then T2 j s else P j s
section
variable(hd:dep c≠0)(hk:k<32)(hk75:kid c k<75)(G1:Grew g V T P ii c [c] a V1 T1 P)(G2:Grew g V1 T1 P ii (kid c k) ch a V2 T2 P2)
include hd hk hk75 G1 G2
theorem zn2(j t:Nat)(h:¬(j=ii∧t=kid c k)):z3g P T2 ii c j t=P2 j t:=by
 have _:=hk75;rw[G2.p j t];unfold z3g;by_cases e:j=ii∧z1a c t
 ·obtain⟨rfl,hb⟩:=e;rw[if_pos ⟨rfl,hb⟩];by_cases hb2:z1a (kid c k) t
  ·rw[if_pos ⟨rfl,hb2⟩]
  ·rw[if_neg fun x=>hb2 x.2,G2.same j t (by
    rintro⟨_,x | x⟩
    ·exact h ⟨rfl,x⟩
    ·exact hb2 x)]
   have:=G1.p j t
   rw[if_pos ⟨rfl,hb⟩]at this;exact this.symm
 ·rw[if_neg e,if_neg fun x=>e ⟨x.1,z5s hd hk x.2⟩]
theorem z111:kids (z3g P T2 ii c ii) c=(kids (P ii) c).set k (T2 ii (kid c k)):=by
 apply List.ext_getElem?;intro j;by_cases hj:j<32
 ·rw[z4v _ _ hj,List.getElem?_set,z4v _ _ hj];by_cases e:k=j
  ·subst e;rw[if_pos rfl,if_pos (by rw[z3i];exact hj)];unfold z3g;rw[if_pos ⟨rfl,z47 hd hk hk75⟩]
  ·rw[if_neg e];have hne:¬(ii=ii∧kid c j=kid c k):=fun x=>e (zj8 hd hd hk hj hk75 x.2.symm).2;rw[zn2 hd hk hk75 G1 G2 ii (kid c j) hne,G2.p,if_neg fun x=>zpm hd hk hj x.2]
 ·rw[List.getElem?_eq_none (by rw[z3i];omega),List.getElem?_eq_none (by rw[List.length_set,z3i];omega)]
theorem zvw(hch:c ∉ ch):V2.n.m=allocN g a (z5l (T ii) (c::ch)) V.n.m:=by
 have _:=hd;have _:=hk;have _:=hk75;rw[zin,z8v,←G1.al,←zt8 G1 hch];exact G2.al
theorem z112(hch:c ∉ ch)(h:P ii (kid c k)=T2 ii (kid c k)):Grew g V T P ii c (c::ch) a V2 T2 (z3g P T2 ii c):=by
 refine⟨G2.fs.congr fun i s hds j hj=>?_,fun j s=>rfl,fun j s h=>?_,fun s hz=>?_,fun s=>?_,fun j s hs=>?_,?_,G1.kp.trans G2.kp,G1.xt.trans G2.xt G2.keep⟩
 ·by_cases e:i=ii∧kid s j=kid c k
  ·obtain⟨rfl,e⟩:=e;rw[e,G2.p,if_neg fun x=>z6l _ x.2];unfold z3g;rw[if_pos ⟨rfl,z47 hd hk hk75⟩,h]
  ·exact zn2 hd hk hk75 G1 G2 i _ e
 ·rw[G2.same j s fun x=>h ⟨x.1,.inr (by
   rcases x.2 with e | e
   ·rw[e];exact z47 hd hk hk75
   ·exact z5s hd hk e)⟩,G1.same j s h]
 ·rw[G2.keep s (by rw[G1.keep s hz];exact hz),G1.keep s hz]
 ·rw[G2.nz,G1.nz];simp[or_assoc]
 ·rw[G2.bk j s hs,G1.bk j s hs]
 ·exact zvw hd hk hk75 G1 G2 hch
theorem zvx:T2 ii c≠0∧T2 ii c=T1 ii c:=by
 have _:=hd;have _:=hk;have _:=hk75;have h1:T1 ii c≠0:=(G1.nz c).2 (.inr (List.mem_singleton.2 rfl));have:=G2.keep c h1
 exact⟨by rw[this];exact h1,this⟩
theorem zxt(hch:c ∉ ch)(hg:g.ok):Grew g V T P ii c (c::ch) a (V2.write g (T2 ii c - 1) (zai (kids (z3g P T2 ii c ii) c))) T2 (z3g P T2 ii c):=by
 have hz:=(zvx hd hk hk75 G1 G2).1;refine⟨G2.fs.wtab hg hd hz (fun j hj=>?_) fun j t ht h=>?_,fun j s=>rfl,fun j s h=>?_,fun s hz=>?_,fun s=>?_,fun j s hs=>?_,?_,(G1.kp.trans G2.kp).trans (zbx _ _ _),(G1.xt.trans G2.xt G2.keep).trans (zdy hz _) fun _ _=>rfl⟩
 ·by_cases e:kid c j=kid c k
  ·rw[e];unfold z3g;rw[if_pos ⟨rfl,z47 hd hk hk75⟩];exact G2.fs.num hg _ _
  ·rw[zn2 hd hk hk75 G1 G2 ii (kid c j) fun x=>e x.2];exact(G2.fs.tab ii c hd).1.le _ (List.mem_iff_getElem?.2 ⟨j,z4v _ _ hj⟩)
 ·refine zn2 hd hk hk75 G1 G2 j t ?_;rintro⟨e1,e2⟩
  rcases h e1 k hk with h | h
  ·exact h e2
  ·omega
 ·rw[G2.same j s fun x=>h ⟨x.1,.inr (by
   rcases x.2 with e | e
   ·rw[e];exact z47 hd hk hk75
   ·exact z5s hd hk e)⟩,G1.same j s h]
 ·rw[G2.keep s (by rw[G1.keep s hz];exact hz),G1.keep s hz]
 ·rw[G2.nz,G1.nz];simp[or_assoc]
 ·rw[zga G2.fs hz,if_neg (by rintro⟨_,rfl⟩;exact hd hs),G2.bk j s hs,G1.bk j s hs]
 ·show V2.n.m=_;exact zvw hd hk hk75 G1 G2 hch
end
end
end Go.Moat

/- Layer 16: a file's block is made. -/
namespace Go.Moat
open Go.Mini
section
variable{N:Nat}{β:Type}{l:List HA}{S:β→HA}{v d o c3 c6:Nat}{g:Geo}{V:VolS}{T P:z0q}{ii c a:Nat}{i:Int}{n:Ino}
def z15a(g:Geo)(V:VolS)(T P:z0q)(ii c:Nat)(ch:List Nat)(a:Nat)(r:Int×Int)(x:VolS×z0q×z0q):Prop:=
 (r.2=0→r.1=(x.2.1 ii c:Int)∧Grew g V T P ii c ch a x.1 x.2.1 x.2.2)∧(r.2≠0→r.2=(x.1.n.m.alloc g a).1.2∧Fell g V T P ii ch a x.1)
theorem zpp(hg:g.ok)(fs:FS g V T P)(ha:a<65536)(hc:c<75)(hP:∀s,s=c∨z1a c s→P ii s=T ii s)(hN:5000<N) :
  Tri (z00 [z0l v d g V,pts o (.cells (z1j v i n a) false)]) (F_0e N (some ⟨o,0⟩) (T ii c:Int)) fun r=>exA fun x:VolS×z0q=>pu (z15a g V T P ii c [c] a r (x.1,x.2,P)) (z00 [z0l v d g x.1,pts o (.cells (z1j v i n a) false)]):=by
 have hgp:=hg.gp;have hB:g.B=g.G * g.P:=rfl;by_cases hz:T ii c=0
 ·rw[hz];have e0:∀m:M (Int×Int),bd m ret=m:=fun m=>by
   funext h;unfold bd;cases m h<;>rfl
  rw[←e0 (F_0e N _ _)];refine z02 [0,0] (z14e hg fs.ok.inv.ok ha hN) fun r=>z04 fun h=>z01 ?_;by_cases hE:(V.n.m.alloc g a).1.2=0
  ·obtain⟨b,eb,hb,hzb,fs1,hfree⟩:=fs.alloc hg ha hE hc hz;have er:r=(((b+1:Nat):Int),0):=by
    rw[h,eb,hE,z0d (n:=(b:Int)+1) (by omega) (by omega)];rfl
   refine z03 [0,0] fun q hq=>⟨(V.wM (V.n.m.alloc g a).2,put T ii c (b+1)),⟨fun _=>⟨?_,fs1,fun j s=>?_,fun j s hs=>?_,fun s hs=>?_,fun s=>?_,fun j s hs=>?_,?_,zko _ _,⟨fun hF b' hb' hu=>?_,fun k hk =>.inl hk,fun lab hr ho=>⟨fun j s hs=>?_,hr.alloc hg fs.ok.inv ha⟩⟩⟩,fun hne=>?_⟩,hq⟩
   ·rw[er];show((b+1:Nat):Int)=(put T ii c (b+1) ii c:Nat);unfold put;rw[if_pos ⟨rfl,rfl⟩]
   ·split
    ·rename_i hb;obtain⟨rfl,hb⟩:=hb;show P j s=put T j c (b+1) j s;unfold put;rw[if_neg (by rintro⟨_,rfl⟩;exact z6l _ hb)];exact hP s (.inr hb)
    ·rfl
   ·show put T ii c (b+1) j s=_;unfold put;rw[if_neg fun x=>hs ⟨x.1,.inl x.2⟩]
   ·show put T ii c (b+1) ii s=_;unfold put;rw[if_neg (by rintro⟨_,rfl⟩;exact hs hz)]
   ·show put T ii c (b+1) ii s≠0↔_;unfold put;by_cases e:s=c
    ·simp[e]
    ·simp[e]
   ·show bk g _ (put T ii c (b+1) j s)=_;unfold put;split
    ·rename_i e;obtain⟨rfl,rfl⟩:=e;rw[hz];unfold bk;rw[if_neg (by omega),if_pos rfl,Nat.add_sub_cancel];exact hzb
    ·rfl
   ·have e1:z5l (T ii) [c]=1:=by simp[z5l,hz]
    rw[e1];rfl
   ·have eu:(V.n.m.alloc g a).2.used=z21 V.n.m.used b true:=by
     obtain⟨b2,e2,_,_,e3⟩:=zsf hg fs.ok.inv hE;rw[eb]at e2;have:b=b2:=by omega
     rw[this];exact e3
    have hul:=fs.ok.inv.ok.usedl;have hu:z0v (V.n.m.alloc g a).2.used b'=true:=hu;rw[eu,z2a (by omega)]at hu;by_cases e:b'=b
    ·subst e;exact⟨ii,c,by show put T ii c (b'+1) ii c=_;unfold put;rw[if_pos ⟨rfl,rfl⟩]⟩
    ·rw[if_neg e]at hu;obtain⟨i,s,h1⟩:=hF b' hb' hu;refine⟨i,s,?_⟩;show put T ii c (b+1) i s=_;unfold put;rw[if_neg (by rintro⟨rfl,rfl⟩;omega)];exact h1
   ·obtain⟨o1,o2⟩:=z110 hg fs.ok.inv hr hE eb;show(V.n.m.alloc g a).2.own[(put T ii c (b+1) j s - 1) / g.P]? = _;have hs:put T ii c (b+1) j s≠0:=hs;unfold put at hs ⊢;by_cases e:j=ii∧s=c
    ·rw[if_pos e,e.1];exact o1
    ·rw[if_neg e]at hs ⊢;have hle:=fs.le j s;rw[o2 _ (by omega) (fs.used j s hs)];exact ho j s hs
   ·rw[er]at hne;exact absurd rfl hne
  ·refine z03 [0,0] fun q hq=>⟨(V,T),⟨fun h0=>absurd (by rw[h]at h0;exact h0) hE,fun _=>⟨by rw[h],fs,fun _ _ _=>rfl,⟨0,by simp[z5l,hz],rfl,hE⟩,z5p V⟩⟩,?_⟩;rw[zxs hE]at hq;exact hq
 ·rw[z14d hz];refine z03 [0,0] fun q hq=>⟨(V,T),⟨fun _=>⟨rfl,fs,fun j s=>?_,fun _ _ _=>rfl,fun _ _=>rfl,fun s=>?_,fun _ _ _=>rfl,by rw[show z5l (T ii) [c]=0 by simp[z5l,hz]];rfl,z5p V,Xt.rfl'⟩,fun h=>absurd rfl h⟩,hq⟩
  ·split
   ·rename_i hb;obtain⟨rfl,hb⟩:=hb;exact hP s (.inr hb)
   ·rfl
  ·constructor
   ·exact .inl
   ·rintro(h | h)
    ·exact h
    ·rw[List.mem_singleton]at h;subst h;exact hz
abbrev z15b(v d o c3 c6:Nat)(g:Geo)(V:VolS)(i:Int)(n:Ino)(a:Nat)(Tr:HA):List HA:=[z0l v d g V,pts o (.cells (z1j v i n a) false),pts c3 (.cells [.ptr (some ⟨o,0⟩)] false),pts c6 (.cells [.fn 73 [.ptr (some ⟨c3,0⟩),.ptr (some ⟨c6,0⟩)]] false),Tr]
theorem zo8{ks:List Nat}(h:zo6 c ks):c<75:=by
 cases ks with
 | nil=>exact h.2
 | cons k ks=>
  rcases z2c h.1 with rfl | rfl | rfl<;>omega
theorem zio:∀{ks:List Nat}{c s:Nat},zo6 c ks→s∈z3e c ks→s=c∨z1a c s
 | [],c,s,_,h =>.inl (List.mem_singleton.1 h)
 | k::ks,c,s,⟨hd,hk,hk75,hp⟩,h=>by
  rcases List.mem_cons.1 h with h | h
  ·exact .inl h
  ·rcases zio hp h with h | h
   ·rw[h];exact .inr (z47 hd hk hk75)
   ·exact .inr (z5s hd hk h)
theorem zip{ks:List Nat}{k:Nat}(hd:dep c≠0)(hk:k<32)(hk75:kid c k<75)(hp:zo6 (kid c k) ks):c ∉ z3e (kid c k) ks:=fun h=>by
 rcases zio hp h with h | h
 ·exact z18l hd hk h.symm
 ·exact z6l _ (z5s hd hk h)
theorem z113(hg:g.ok)(ha:a<65536)(hN:5000<N){Tr:HA}:∀(ks:List Nat)(K c:Nat)(V:VolS)(T P:z0q)(rest:Sl),ks.length<K→zo6 c ks→FS g V T P→(∀s,s=c∨z1a c s→P ii s=T ii s)→RdC Tr rest 1 (z18 ks) →
  Tri (z00 (z15b v d o c3 c6 g V i n a Tr)) (z0e K (fun self v=>F_1s N self v.1 v.2.1 v.2.2.1 v.2.2.2) ((T ii c:Int),rest,some ⟨c3,0⟩,some ⟨c6,0⟩)) fun r=>exA fun x:VolS×z0q×z0q=>pu (z15a g V T P ii c (z3e c ks) a r x) (z00 (z15b v d o c3 c6 g x.1 i n a Tr)):=by
 intro ks;induction ks with
 | nil=>
  intro K c V T P rest hK hp fs hP hr;obtain⟨K,rfl⟩:∃k,K=k+1:=⟨K - 1,by simp at hK;omega⟩;have hlen:rest.len=0:=by have:=hr.1;simp[z1w]at this;omega
  rw[z12];unfold F_1s;refine z3o 2 rfl rfl ?_;refine z02 [0,0] (zpp hg fs ha (zo8 hp) hP hN) fun r6=>z10 fun x=>z04 fun h6=>z01 ?_;refine z07 (by simp[hlen]) (z03 [0,0,0,0,0] fun q hq=>⟨(x.1,x.2,P),h6,hq⟩)
 | cons k ks ih=>
  intro K c V T P rest hK hp fs hP hr;obtain⟨K,rfl⟩:∃k,K=k+1:=⟨K - 1,by simp at hK;omega⟩;obtain⟨hd,hk,hk75,hp2⟩:=hp;have hlen:rest.len=ks.length+1:=by have:=hr.1;simp[z1w]at this;omega
  rw[z12];unfold F_1s;refine z3o 2 rfl rfl ?_;refine z02 [0,0] (zpp hg fs ha (zo8 (ks:=k::ks) ⟨hd,hk,hk75,hp2⟩) hP hN) fun r6=>z10 fun x=>z04 fun h6=>z01 ?_;obtain⟨V1,T1⟩:=x;dsimp only[sel,rem,nth,del,cat,upd];by_cases h60:r6.2=0
  case neg=>
   obtain⟨e6,F⟩:=h6.2 h60;refine z07 (by simp[h60]) (z03 [0,0,0,0,0] fun q hq=>⟨(V1,T,P),⟨fun h=>absurd h h60,fun _=>⟨e6,F.fs,F.bk,?_,F.kp⟩⟩,hq⟩);obtain⟨m,h1,h2⟩:=F.al;exact⟨m,by rw[z3e,zin];omega,h2⟩
  obtain⟨e6,G1⟩:=h6.1 h60;have e6:r6.1=(T1 ii c:Int):=e6;have G1:Grew g V T P ii c [c] a V1 T1 P:=G1;refine z05 (by simp[h60,hlen];omega) ?_;refine z3o 2 rfl rfl ?_;rw[e6];refine z02 [0,0] (z9b hg (G1.fs.num hg ii c) (G1.fs.tab ii c hd) hN) fun r8=>z04 fun h8=>z01 ?_;dsimp only[sel,rem,nth,del,cat,upd];refine z05 (by simp[h8]) ?_;refine zde 4 rfl rfl rfl ?_;refine tri_rI 5 rfl hr (i:=0) (k :=.i64) (v:=(k:Nat)) (by simp[z1w]) ?_;refine z0a 0 rfl fun l8=>?_;refine tri_rI 0 rfl (z0j l8) (i:=k) (k :=.i64) (v:=(P ii (kid c k):Nat)) (by simp[z1w,kids,hk]) ?_;refine z3q (by omega) (by omega) (by omega) ?_;have hr2:RdC Tr (z2t 1 rest (Int.toNat 1) (Int.toNat (rest.len:Int))) 1 (z18 ks):=by
   have:=hr.sub (lo:=1) (hi:=rest.len) (by omega) (by omega)
   rw[Int.toNat_natCast];have e1:((z18 (k::ks)).drop (1 * 1)).take ((rest.len - 1) * 1)=z18 ks:=by
    show List.take _ (z18 ks)=_;exact List.take_of_length_le (by rw[z1k];omega)
   rw[←e1];exact this
  generalize (z2t 1 rest (Int.toNat 1) (Int.toNat (rest.len:Int)))=rest2 at hr2;have hP1:∀s,s=kid c k∨z1a (kid c k) s→P ii s=T1 ii s:=fun s hs=>by
   have hb:z1a c s:=by
    rcases hs with rfl | hs
    ·exact z47 hd hk hk75
    ·exact z5s hd hk hs
   rw[G1.p ii s,if_pos ⟨rfl,hb⟩]
  have eP:=hP1 (kid c k) (.inl rfl);have IH:=ih K (kid c k) V1 T1 P rest2 (by simp at hK;omega) hp2 G1.fs hP1 hr2;rw[←eP]at IH;refine z02 [1,1,1,1,1] IH fun r15=>z10 fun x=>z04 fun h15=>z01 ?_;obtain⟨V2,T2,P2⟩:=x;dsimp only[sel,rem,nth,del,cat,upd];by_cases h150:r15.2=0
  case neg=>
   obtain⟨e15,F⟩:=h15.2 h150;have F:Fell g V1 T1 P ii (z3e (kid c k) ks) a V2:=F;refine z07 (by simp[h150]) (z03 [0,0,0,0,0] fun q hq=>⟨(V2,T,P),⟨fun h=>absurd h h150,fun _=>⟨e15,fs.forget F.fs fun j s hz=>G1.keepA j s hz,fun j s hs=>?_,?_,G1.kp.trans F.kp⟩⟩,hq⟩)
   ·by_cases e:j=ii∧(s=c∨z1a c s)
    ·obtain⟨rfl,e⟩:=e;by_cases hz:T j s=0
     ·rw[hz];rfl
     ·have h1:=F.bk j s hs;rw[G1.bk j s hs]at h1;rw[G1.keep s hz]at h1;exact h1
    ·have h1:=F.bk j s hs;rw[G1.bk j s hs,G1.same j s e]at h1;exact h1
   ·obtain⟨n2,h2,e2,e3⟩:=F.al;rw[zt8 G1 (zip hd hk hk75 hp2)]at h2;exact⟨z5l (T ii) [c]+n2,by rw[z3e,zin (T ii) c (z3e (kid c k) ks)];omega,by rw[z8v,←G1.al];exact e2,e3⟩
  obtain⟨e15,G2⟩:=h15.1 h150;have e15:r15.1=(T2 ii (kid c k):Int):=e15;have G2:Grew g V1 T1 P ii (kid c k) (z3e (kid c k) ks) a V2 T2 P2:=G2;have eT:=zvx hd hk hk75 G1 G2;refine z05 (by simp[h150]) ?_;refine tri_rI 4 rfl hr (i:=0) (k :=.i64) (v:=(k:Nat)) (by simp[z1w]) ?_;refine tri_rI 5 rfl (z0j l8) (i:=k) (k :=.i64) (v:=(P ii (kid c k):Nat)) (by simp[z1w,kids,hk]) ?_;rw[e15];by_cases hEq:P ii (kid c k)=T2 ii (kid c k)
  ·refine z07 (by simp[hEq]) (z03 [0,0,0,0,0] fun q hq=>⟨(V2,T2,z3g P T2 ii c),⟨fun _=>⟨?_,z112 hd hk hk75 G1 G2 (zip hd hk hk75 hp2) hEq⟩,fun h=>absurd rfl h⟩,hq⟩);show(T1 ii c:Int)=(T2 ii c:Nat);rw[eT.2]
  refine z05 (by simp;omega) ?_;refine tri_rI 4 rfl hr (i:=0) (k :=.i64) (v:=(k:Nat)) (by simp[z1w]) ?_;refine zdw 5 rfl (k:=k) (by rw[z3i];exact hk) ?_;rw[←z111 hd hk hk75 G1 G2];have G3:=zxt hd hk hk75 G1 G2 (zip hd hk hk75 hp2) hg;have ht3:=G3.fs.tab ii c hd;refine z0a 5 rfl fun l8'=>?_;refine z02 [5] (zmi ht3.1 (z0j l8') hN) fun r23=>z04 fun h23=>z01 ?_;dsimp only[sel,rem,nth,del,cat,upd];refine z3o 4 rfl rfl ?_;refine z0u (z0b (z3o 3 rfl rfl ?_));refine z0a 0 rfl fun l23=>?_;have e1:wr .i64 ((T1 ii c:Int) - 1)=((T2 ii c - 1:Nat):Int):=by
   have:=G2.fs.num hg ii c
   rw[←eT.2,z0d (by omega) (by omega)];omega
  rw[e1];have hw:V2.writeE g ((T2 ii c - 1:Nat):Int) (zai (kids (z3g P T2 ii c ii) c))=0:=by
   have h1:=G2.fs.le ii c;unfold VolS.writeE MetaS.usedE;rw[if_pos (zb8 ht3.1),if_pos (by omega),Int.toNat_natCast,if_pos (G2.fs.used ii c eT.1)]
  refine z02 [2,0] (zc1 hg G2.fs.ok.inv.ok _ (z0j l23) (by rw[zb8 ht3.1];omega)) fun r28=>z04 fun h28=>z01 ?_;rw[hw]at h28;rw[if_pos hw,Int.toNat_natCast];dsimp only[sel,rem,nth,del,cat,upd];refine z03 [0,2,2,2,2] fun q hq=>⟨(V2.write g (T2 ii c - 1) (zai (kids (z3g P T2 ii c ii) c)),T2,z3g P T2 ii c),⟨fun _=>⟨?_,G3⟩,fun h=>absurd h28 h⟩,hq⟩;show(T1 ii c:Int)=(T2 ii c:Nat);rw[eT.2]
def lf(k:Nat):Nat:=if k<8 then k else if k<40 then k+1 else k+3
def rs(k:Nat):Nat:=if k<8 then k else if k<40 then 8 else 41
def z1v(k:Nat):List Nat:=z3e (rs k) (z7a k)
def z4l(n:Ino)(p:Nat→Nat):Prop:=∀k,k<60→n.at (z3d k - 4)=(p (rs k):Int)
def Ino.put(n:Ino)(j:Nat)(x:Int):Ino:=⟨n.k,n.r,⟨n.xs.1.set j x,by rw[List.length_set];exact n.xs.2⟩⟩
theorem Ino.put_at(n:Ino){j:Nat}(hj:j<12)(x:Int)(t:Nat):(n.put j x).at t=if t=j then x else n.at t:=by
 unfold Ino.at Ino.put;rw[List.getElem?_set];by_cases e:j=t
 ·subst e;rw[if_pos rfl,if_pos (by rw[n.xs.2];exact hj),if_pos rfl];rfl
 ·rw[if_neg e,if_neg fun h=>e h.symm]
theorem za7(v:Nat)(i:Int)(n:Ino)(a:Nat){j:Nat}(hj:j<12)(x:Int):(z1j v i n a).set (4+j) (.int .i64 x)=z1j v i (n.put j x) a:=by
 have e:∀m:Ino,z1j v i m a=.ptr (some ⟨v,0⟩) :: .int .i64 i :: .int .u8 m.k :: .int .u8 m.r::(z1w m.xs.1++[.int .u16 a]):=fun m=>rfl;rw[e,e,show 4+j=j+1+1+1+1 by omega,List.set_cons_succ,List.set_cons_succ,List.set_cons_succ,List.set_cons_succ,List.set_append_left _ _ (by rw[z9i,n.xs.2];exact hj)];congr 5;unfold z1w Ino.put;dsimp only;rw[List.map_set]
theorem zl2{k:Nat}(hk:k<60):zo6 (rs k) (z7a k):=by
 unfold rs z7a;by_cases h8:k<8
 ·rw[if_pos h8,if_pos h8];exact⟨by unfold dep;rw[if_neg (by omega),if_neg (by omega)],by omega⟩
 ·rw[if_neg h8,if_neg h8];by_cases h40:k<40
  ·rw[if_pos h40,if_pos h40];refine⟨by decide,by omega,by simp[kid];omega,?_,by simp[kid];omega⟩;unfold dep kid;rw[if_pos rfl,if_neg (by omega),if_neg (by omega)]
  ·rw[if_neg h40,if_neg h40,show(k - 40) / 32=0 by omega];refine⟨by decide,by omega,by decide,by decide,by omega,by simp[kid];omega,?_,by simp[kid];omega⟩;have e:kid (kid 41 0) ((k - 40)%32)=43+(k - 40)%32:=by simp[kid]
   rw[e];unfold dep;rw[if_neg (by omega),if_neg (by omega)]
theorem z114(k:Nat):(z7a k).length≤2:=by
 unfold z7a;split
 ·simp
 ·split<;>simp
theorem zt9(k:Nat):(z1v k).length≤3:=by
 unfold z1v z7a;split
 ·simp[z3e]
 ·split<;>simp[z3e]
theorem z115{k:Nat}(hk:k<60):lf k∈z1v k:=by
 unfold lf z1v rs z7a;by_cases h8:k<8
 ·rw[if_pos h8,if_pos h8,if_pos h8];simp[z3e]
 ·rw[if_neg h8,if_neg h8,if_neg h8];by_cases h40:k<40
  ·rw[if_pos h40,if_pos h40,if_pos h40];simp[z3e,kid];omega
  ·rw[if_neg h40,if_neg h40,if_neg h40,show(k - 40) / 32=0 by omega];simp[z3e,kid];omega
theorem z192{k:Nat}(hk:k<60):dep (lf k)=0∧lf k<75:=by
 unfold dep lf;repeat' split
 all_goals omega
theorem zje(k:Nat):dep (lf k)=0:=by
 unfold dep lf;repeat' split
 all_goals omega
theorem z193{k k':Nat}(h:lf k=lf k'):k=k':=by
 unfold lf at h;repeat' split at h
 all_goals omega
theorem zo9(hg:g.ok)(fs:FS g V T T){k:Nat}(hk:k<60):WalkTo g V (T ii (rs k)) (z7a k) (T ii (lf k)):=by
 unfold rs z7a lf;by_cases h8:k<8
 ·rw[if_pos h8,if_pos h8,if_pos h8];exact .nil _
 ·rw[if_neg h8,if_neg h8,if_neg h8];by_cases h40:k<40
  ·rw[if_pos h40,if_pos h40,if_pos h40];refine .cons _ _ _ _ _ (fs.num hg _ _) (by omega) (fs.tab ii 8 (by decide)) ?_;rw[z4v _ _ (by omega),show kid 8 (k - 8)=k+1 by simp[kid];omega];exact .nil _
  ·rw[if_neg h40,if_neg h40,if_neg h40,show(k - 40) / 32=0 by omega];refine .cons _ _ _ _ _ (fs.num hg _ _) (by omega) (fs.tab ii 41 (by decide)) ?_;rw[z4v _ _ (by omega)];refine .cons _ _ _ _ _ (fs.num hg _ _) (by omega) (fs.tab ii 42 (by decide)) ?_;rw[z4v _ _ (by omega),show kid 42 ((k - 40)%32)=k+3 by simp[kid];omega];exact .nil _
structure Made(g:Geo)(V:VolS)(T:z0q)(ii k a:Nat)(V':VolS)(T':z0q):Prop where
 fs:FS g V' T' T'
 same:∀j s,j≠ii→T' j s=T j s
 keep:∀s,T ii s≠0→T' ii s=T ii s
 nz:∀s,T' ii s≠0↔T ii s≠0∨s∈z1v k
 bk:∀j s,dep s=0→bk g V' (T' j s)=bk g V (T j s)
 al:V'.n.m=allocN g a (z5l (T ii) (z1v k)) V.n.m
 kp:Keeps V V'
 xt:Xt g ii a V T V' T'
theorem zjf(k:Nat):∀s j,dep s≠0→j<32→kid s j≠rs k:=by
 intro s j hd hj h;unfold rs at h;rcases z2c hd with rfl | rfl | rfl<;>simp[kid]at h<;>(repeat' split at h)<;>omega
theorem z173{V':VolS}{T' P':z0q}{k:Nat}(G:Grew g V T T ii (rs k) (z1v k) a V' T' P'):Made g V T ii k a V' T':=by
 refine⟨G.fs.congr fun i s hd j hj=>?_,fun j s h=>G.same j s fun x=>h x.1,G.keep,G.nz,G.bk,G.al,G.kp,G.xt⟩
 ·rw[G.p];by_cases e:i=ii∧z1a (rs k) (kid s j)
  ·rw[if_pos e]
  ·rw[if_neg e];exact G.same _ _ fun x=>by
    rcases x.2 with y | y
    ·exact zjf k s j hd hj y
    ·exact e ⟨x.1,y⟩
theorem zdf{k:Nat}(hk:k<60):4≤z3d k∧z3d k - 4<12∧2≤z3d k - 4:=by
 unfold z3d;split
 ·omega
 ·split<;>omega
theorem zjg{k k':Nat}:z3d k - 4=z3d k' - 4↔rs k=rs k':=by
 unfold z3d rs;repeat' split
 all_goals omega
theorem zn3(k k':Nat):¬z1a (rs k) (rs k'):=by
 unfold rs z1a;repeat' split
 all_goals omega
theorem z116(hr:z4l n (T ii)){V':VolS}{T' P':z0q}{k:Nat}(hk:k<60)(G:Grew g V T T ii (rs k) (z1v k) a V' T' P'):z4l (n.put (z3d k - 4) (T' ii (rs k):Nat)) (T' ii):=by
 intro k' hk';rw[n.put_at (zdf hk).2.1];by_cases e:rs k'=rs k
 ·rw[if_pos (zjg.2 e),e]
 ·rw[if_neg fun x=>e (zjg.1 x),hr k' hk',G.same ii (rs k')];rintro⟨_,x | x⟩
  ·exact e x
  ·exact zn3 _ _ x
theorem z117(hg:g.ok)(ha:a<65536)(hN:5000<N)(fs:FS g V T T)(hr:z4l n (T ii)){k:Nat}(hk:k<60) :
  Tri (z00 [z0l v d g V,pts o (.cells (z1j v i n a) false)]) (F_2u N (some ⟨o,0⟩) (k:Int)) fun r=>exA fun x:VolS×z0q×Ino=>pu ((r.2=0→r.1=(x.2.1 ii (lf k):Nat)∧Made g V T ii k a x.1 x.2.1∧x.2.2=n.put (z3d k - 4) (x.2.1 ii (rs k):Nat)∧z4l x.2.2 (x.2.1 ii))∧(r.2≠0→r.2=(x.1.n.m.alloc g a).1.2∧Fell g V T T ii (z1v k) a x.1)) (z00 [z0l v d g x.1,pts o (.cells (z1j v i x.2.2 a) false)]):=by
 have hO:=zdf hk;have e4:z3d k=4+(z3d k - 4):=by omega
 unfold F_2u;refine zxq rfl fun c3=>?_;refine z3o 0 rfl rfl ?_;refine z02 [] (zt6 (o:=o) hk) fun r5=>z04 fun h5=>z01 ?_;dsimp only[sel,rem,nth,del,cat,upd];refine z0t fun c6=>?_;refine tri_stc 0 rfl (by simp) rfl ?_;refine zde 0 rfl rfl rfl ?_;rw[h5];refine z0u ?_;refine tri_ldI 4 rfl (by rw[e4];exact z7b hO.2.1) ?_;rw[hr k hk];refine z0a 1 rfl fun l5=>?_;rw[F_5h];refine z02 [3,3,2,0,0] (z113 hg ha hN (z7a k) N (rs k) V T T r5.2 (by have:=z114 k;omega) (zl2 hk) fs (fun _ _=>rfl) (z0j l5)) fun r10=>z10 fun x=>z04 fun h10=>z01 ?_;obtain⟨V',T',P'⟩:=x;dsimp only[sel,rem,nth,del,cat,upd];by_cases h0:r10.2=0
 case neg=>
  exact z07 (by simp[h0]) (z03 [0,0] fun q hq=>⟨(V',T',n),⟨fun h=>absurd h h0,fun _=>h10.2 h0⟩,hq⟩)
 obtain⟨e10,G⟩:=h10.1 h0;have e10:r10.1=(T' ii (rs k):Nat):=e10;have G:Grew g V T T ii (rs k) (z1v k) a V' T' P':=G;refine z05 (by simp[h0]) ?_;refine z0u ?_;refine tri_stc 1 rfl (by rw[z7e];omega) rfl ?_;rw[e10,e4,za7 v i n a hO.2.1];refine z3o 2 rfl rfl ?_;have M:=z173 G;have hr':=z116 hr hk G;have hp:=hr' k hk;refine z02 [0,0] (zim hg hk hp (zo9 hg M.fs hk) hN) fun r13=>z04 fun h13=>z01 ?_;subst h13;dsimp only[sel,rem,nth,del,cat,upd];exact z03 [0,0] fun q hq=>⟨(V',T',n.put (z3d k - 4) (T' ii (rs k):Nat)),⟨fun _=>⟨rfl,M,by rw[Nat.add_sub_cancel_left],hr'⟩,fun h=>absurd rfl h⟩,hq⟩
end
end Go.Moat
