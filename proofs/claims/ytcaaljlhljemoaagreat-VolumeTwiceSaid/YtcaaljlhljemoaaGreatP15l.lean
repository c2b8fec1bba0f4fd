/- Layer 15: what is known stays in order. -/
import Derived.Test.YtcaaljlhljemoaaGreatP15j
namespace Go.Moat
open Go.Mini
def za0(i:Nat)(o:Nat):Bool:=decide (o=i+1)
def z7b(i:Nat)(n:Ino):Bool:=decide (n.k≠0)&&decide (n.r=i)
def MetaS.cnt(m:MetaS)(i:Nat):Nat:=m.own.countP (za0 i)+m.ino.countP (z7b i)
structure Inv(g:Geo)(m:MetaS):Prop where
 ok:MetaOk g m
 refs:∀i,i<16→(rowN m.rows i).2=m.cnt i
 grp:∀k,k<g.G→(0<m.own[k]?.getD 0↔∃b,k * g.P≤b∧b<(k+1) * g.P∧z0r m.used b=true)
section
variable{g:Geo}{m:MetaS}
theorem ze0(hg:g.ok){b k:Nat}:b / g.P=k↔k * g.P≤b∧b<(k+1) * g.P:=by
 have:=hg.p1
 rw[Nat.div_eq_iff (by omega),Nat.add_mul,Nat.one_mul];omega
theorem Inv.rf(h:Inv g m):RefOk m:=by
 refine⟨fun o ho h0=>?_,fun n hn hk=>?_⟩
 ·have h16:=h.ok.own16 o ho;rw[h.refs (o - 1) (by omega)];unfold MetaS.cnt;have:0<m.own.countP (za0 (o - 1)):=List.countP_pos_iff.2 ⟨o,ho,by simp[za0];omega⟩
  omega
 ·have h16:=(h.ok.inok n hn).r;rw[h.refs _ h16];unfold MetaS.cnt;have:0<m.ino.countP (z7b n.r):=List.countP_pos_iff.2 ⟨n,hn,by simp[z7b];omega⟩
  omega
theorem Inv.gr(hg:g.ok)(h:Inv g m):zo0 g m:=by
 intro b hb hbit;have hp:=hg.p1;have hk:b / g.P<g.G:=by
  rw[Nat.div_lt_iff_lt_mul (by omega)];exact hb
 obtain⟨h1,h2⟩:=(ze0 hg).1 (rfl:b / g.P=b / g.P);exact(h.grp _ hk).2 ⟨b,h1,h2,hbit⟩
def z4i(g:Geo):MetaS:=⟨List.replicate 16 (0,0),List.replicate g.G 0,z14,List.replicate g.I Ino.z⟩
theorem zgs(i:Nat):z0r z14 i=false:=by
 cases h:z0r z14 i with
 | false=>rfl
 | true=>
  unfold z0r at h;split at h
  ·rename_i b hb;have:=List.mem_of_getElem? hb
   rw[List.eq_of_mem_replicate this]at h;simp at h
  ·cases h
theorem z102(i:Nat):rowN (List.replicate 16 (0,0)) i=(0,0):=by
 unfold rowN;rw[List.getElem?_replicate];split<;>rfl
theorem zan(g:Geo):Inv g (z4i g):=by
 refine⟨⟨⟨rfl,?_,?_,?_⟩,by simp[z4i],?_,by simp[z4i,z14],fun i _=>zgs i,by simp[z4i],?_⟩,?_,?_⟩
 ·intro r hr;rw[List.eq_of_mem_replicate hr];exact⟨by omega,by omega⟩
 ·intro r hr _;rw[List.eq_of_mem_replicate hr]
 ·intro i j hi hj h0;have:=List.eq_of_mem_replicate (List.getElem_mem (l:=List.replicate 16 ((0:Nat),(0:Nat))) hi)
  change 0<((List.replicate 16 ((0:Nat),(0:Nat)))[i]'hi).2 at h0;rw[this]at h0;simp at h0
 ·intro o ho;rw[List.eq_of_mem_replicate ho];omega
 ·intro n hn;rw[List.eq_of_mem_replicate hn];exact z_ok
 ·intro i hi;have h1:(z4i g).own.countP (za0 i)=0:=by
   rw[List.countP_eq_zero];intro o ho;rw[List.eq_of_mem_replicate ho];simp[za0]
  have h2:(z4i g).ino.countP (z7b i)=0:=by
   rw[List.countP_eq_zero];intro o ho;rw[List.eq_of_mem_replicate ho];simp[z7b,Ino.z]
  unfold MetaS.cnt;rw[h1,h2,show(z4i g).rows=List.replicate 16 (0,0)from rfl,z102]
 ·intro k hk;constructor
  ·intro h;rw[show(z4i g).own=List.replicate g.G 0 from rfl,List.getElem?_replicate]at h;split at h<;>simp at h
  ·rintro⟨b,_,_,h⟩
   rw[show(z4i g).used=z14 from rfl,zgs]at h;cases h
theorem zx3{rs:List Row}{a i:Nat}(h:z95 rs a=some i):i<rs.length∧((0<(rowN rs i).2∧(rowN rs i).1=a)∨((rowN rs i).2=0∧∀(j:Nat)(hj:j<rs.length),0<rs[j].2→rs[j].1≠a)):=by
 have hl:=zt5 h;refine⟨hl,?_⟩;have hr:rowN rs i=rs[i]:=by simp[rowN,hl]
 rw[hr];unfold z95 at h;split at h
 ·rename_i j hj;cases h;have:=(List.findIdx?_eq_some_iff_getElem.1 hj).2.1
  unfold z2v at this;left;simpa using this
 ·rename_i hj;right;have h2:=(List.findIdx?_eq_some_iff_getElem.1 h).2.1;unfold z5d at h2;refine⟨by simpa using h2,fun j hj' h0=>?_⟩;rw[List.findIdx?_eq_none_iff]at hj;have:=hj _ (List.getElem_mem hj')
  unfold z2v at this;intro c;simp[h0,c]at this
theorem zj8{rs:List Row}{i:Nat}(hi:i<rs.length)(x:Row)(j:Nat):rowN (rs.set i x) j=if j=i then x else rowN rs j:=by
 unfold rowN;rw[List.getElem?_set];by_cases h:i=j
 ·subst h;rw[if_pos rfl,if_pos hi,if_pos rfl];rfl
 ·rw[if_neg h,if_neg (fun c=>h c.symm)]
theorem RowsOk.upd{rs:List Row}(ok:RowsOk rs){i:Nat}{x:Row}(hi:i<16)(h1:x.1<65536)(h2:x.2≤65535)(h3:x.2=0→x.1=0)(h4:∀(j:Nat)(hj:j<rs.length),j≠i→0<rs[j].2→0<x.2→rs[j].1≠x.1):RowsOk (rs.set i x):=by
 have hl:=ok.len;refine⟨by rw[List.length_set];exact hl,?_,?_,?_⟩
 ·intro r hr;rcases List.mem_or_eq_of_mem_set hr with h | rfl
  ·exact ok.rng r h
  ·exact⟨h1,h2⟩
 ·intro r hr h0;rcases List.mem_or_eq_of_mem_set hr with h | rfl
  ·exact ok.zero r h h0
  ·exact h3 h0
 ·intro p q hp hq hp0 hq0 he;rw[List.length_set]at hp hq;rw[List.getElem_set]at hp0 he;rw[List.getElem_set]at hq0 he;by_cases e1:i=p<;>by_cases e2:i=q
  ·omega
  ·rw[if_pos e1]at hp0 he;rw[if_neg e2]at hq0 he;exact absurd he.symm (h4 q hq (fun c=>e2 c.symm) hq0 hp0)
  ·rw[if_neg e1]at hp0 he;rw[if_pos e2]at hq0 he;exact absurd he (h4 p hp (fun c=>e1 c.symm) hp0 hq0)
  ·rw[if_neg e1]at hp0 he;rw[if_neg e2]at hq0 he;exact ok.dist p q hp hq hp0 hq0 he
theorem zx4{rs:List Row}{a:Nat}(h:z3a rs a=0):∃i,z95 rs a=some i∧retI rs a=i∧(rowN rs i).2≠65535:=by
 unfold z3a at h;split at h
 ·cases h
 ·rename_i i hi;refine⟨i,hi,by unfold retI;rw[hi];rfl,fun c=>?_⟩;rw[if_pos c]at h;cases h
theorem zss{rs:List Row}(ok:RowsOk rs){a:Nat}(ha:a<65536)(h:z3a rs a=0):RowsOk (za4 rs a)∧retI rs a<16∧∀j,(rowN (za4 rs a) j).2=(rowN rs j).2+if j=retI rs a then 1 else 0:=by
 obtain⟨i,h1,h2,h3⟩:=zx4 h;obtain⟨hi,hc⟩:=zx3 h1;have hl:=ok.len;have hr:rowN rs i=rs[i]:=by simp[rowN,hi]
 have hrng:=ok.rng _ (List.getElem_mem hi);unfold za4;rw[h2];refine⟨ok.upd (by omega) ha (by dsimp only;rw[hr]at h3 ⊢;omega) (by dsimp only;omega) fun j hj hne h0 _=>?_,by omega,fun j=>?_⟩
 ·dsimp only;rcases hc with⟨hc1,hc2⟩ | ⟨_,hc2⟩
  ·intro c;rw[hr]at hc1 hc2;exact hne (ok.dist j i hj hi h0 hc1 (by omega))
  ·exact hc2 j hj h0
 ·rw[zj8 hi];by_cases e:j=i
  ·subst e;rw[if_pos rfl,if_pos rfl]
  ·rw[if_neg e,if_neg e];omega
theorem zst{rs:List Row}(ok:RowsOk rs){i:Nat}(hi:i<16)(h0:0<(rowN rs i).2):RowsOk (z7f rs i)∧∀j,(rowN (z7f rs i) j).2=(rowN rs j).2 - if j=i then 1 else 0:=by
 have hl:=ok.len;have hil:i<rs.length:=by omega
 have hr:rowN rs i=rs[i]:=by simp[rowN,hil]
 have hrng:=ok.rng _ (List.getElem_mem hil);rw[hr]at h0;unfold z7f;rw[hr];by_cases h1:rs[i].2=1
 ·rw[if_pos h1];refine⟨ok.upd hi (by omega) (by omega) (fun _=>rfl) fun j hj hne _ hx=>by dsimp only at hx;omega,fun j=>?_⟩;rw[zj8 hil];by_cases e:j=i
  ·subst e;rw[if_pos rfl,if_pos rfl,hr,h1]
  ·rw[if_neg e,if_neg e];omega
 ·rw[if_neg h1];refine⟨ok.upd hi hrng.1 (by dsimp only;omega) (by dsimp only;omega) fun j hj hne hj0 _ c=>hne (ok.dist j i hj hil hj0 h0 c),fun j=>?_⟩;rw[zj8 hil];by_cases e:j=i
  ·subst e;rw[if_pos rfl,if_pos rfl,hr]
  ·rw[if_neg e,if_neg e];omega
theorem getD_set{o:List Nat}{i:Nat}(hi:i<o.length)(x j:Nat):(o.set i x)[j]?.getD 0=if j=i then x else o[j]?.getD 0:=by
 rw[List.getElem?_set];by_cases h:i=j
 ·subst h;rw[if_pos rfl,if_pos hi,if_pos rfl];rfl
 ·rw[if_neg h,if_neg (fun c=>h c.symm)]
theorem zbk(hg:g.ok)(h:Inv g m){a:Nat}(ha:a<65536):Inv g (m.alloc g a).2:=by
 have hol:=h.ok.ownl;have hul:=h.ok.usedl;have hgp:=hg.gp;have hB:g.B=g.G * g.P:=rfl;have hp1:=hg.p1;unfold MetaS.alloc;cases hat:m.atB g a with
 | some b=>
  dsimp only;unfold MetaS.atB at hat;split at hat
  ·rename_i r hr;rw[List.find?_range'_eq_some]at hat;obtain⟨h1,h2,_⟩:=hat;rw[List.mem_range'_1]at h2;unfold MetaS.isAt at h1;simp only[Bool.and_eq_true,decide_eq_true_eq]at h1;refine⟨⟨h.ok.rows,hol,h.ok.own16,by dsimp only;rw[z7e];exact hul,fun i hi=>?_,h.ok.inol,h.ok.inok⟩,h.refs,fun k hk=>?_⟩
   ·dsimp only;rw[z3s (by omega),if_neg (by omega)];exact h.ok.used0 i hi
   ·dsimp only;rw[h.grp k hk];constructor
    ·rintro⟨c,c1,c2,c3⟩
     refine⟨c,c1,c2,?_⟩;rw[z3s (by omega)];split
     ·rfl
     ·exact c3
    ·rintro⟨c,c1,c2,c3⟩
     rw[←h.grp k hk];rw[z3s (by omega)]at c3;split at c3
     ·rename_i e;subst e;have:=(ze0 hg).2 ⟨c1,c2⟩
      rw[this]at h1;rw[h1.1];simp
     ·exact(h.grp k hk).2 ⟨c,c1,c2,c3⟩
  ·cases hat
 | none=>
  dsimp only;cases hfr:m.own.findIdx? z4v with
  | none=>exact h
  | some k=>
   dsimp only;by_cases hE:z3a m.rows a=0
   case neg=>rw[if_neg hE];exact h
   rw[if_pos hE];obtain⟨hk,hk0,_⟩:=List.findIdx?_eq_some_iff_getElem.1 hfr;unfold z4v at hk0;simp only[decide_eq_true_eq]at hk0;obtain⟨r1,r2,r3⟩:=zss h.ok.rows ha hE;have hkG:k<g.G:=by omega
   have hb:k * g.P+g.P≤g.G * g.P:=z2t hkG;refine⟨⟨r1,by dsimp only;rw[List.length_set];exact hol,?_,by dsimp only;rw[z7e];exact hul,fun i hi=>?_,h.ok.inol,h.ok.inok⟩,fun i hi=>?_,fun j hj=>?_⟩
   ·intro o ho;rcases List.mem_or_eq_of_mem_set ho with c | rfl
    ·exact h.ok.own16 o c
    ·omega
   ·dsimp only;rw[z3s (by omega),if_neg (by omega)];exact h.ok.used0 i hi
   ·dsimp only;rw[r3,h.refs i hi];unfold MetaS.cnt;dsimp only;rw[List.countP_set hk];have e1:za0 i m.own[k]=false:=by unfold za0;rw[hk0];simp
    have e2:za0 i (retI m.rows a+1)=decide (i=retI m.rows a):=by
     unfold za0;congr 1;apply propext;omega
    rw[e1,e2];by_cases e:i=retI m.rows a
    ·simp[e];omega
    ·simp[e]
   ·dsimp only;rw[getD_set hk];by_cases e:j=k
    ·subst e;rw[if_pos rfl];constructor
     ·intro _;refine⟨j * g.P,Nat.le_refl _,by rw[Nat.add_mul];omega,?_⟩;rw[z3s (by omega),if_pos rfl]
     ·intro _;omega
    ·rw[if_neg e,h.grp j hj];have hne:∀c,j * g.P≤c→c<(j+1) * g.P→c≠k * g.P:=by
      intro c c1 c2 c3;subst c3;have:=(ze0 hg).2 ⟨c1,c2⟩
      rw[Nat.mul_div_cancel _ (by omega)]at this;omega
     constructor
     ·rintro⟨c,c1,c2,c3⟩
      exact⟨c,c1,c2,by rw[z3s (by omega),if_neg (hne c c1 c2)];exact c3⟩
     ·rintro⟨c,c1,c2,c3⟩
      rw[z3s (by omega),if_neg (hne c c1 c2)]at c3;exact⟨c,c1,c2,c3⟩
theorem zf3(hg:g.ok)(h:Inv g m){b:Nat}(hb:b<g.B)(hbit:z0r m.used b=true):Inv g (m.free g b):=by
 have hol:=h.ok.ownl;have hul:=h.ok.usedl;have hgp:=hg.gp;have hB:g.B=g.G * g.P:=rfl;have hp1:=hg.p1;have hkG:b / g.P<g.G:=by
  rw[Nat.div_lt_iff_lt_mul (by omega)];exact hb
 obtain⟨hd1,hd2⟩:=(ze0 hg).1 (rfl:b / g.P=b / g.P);have hkl:b / g.P<m.own.length:=by omega
 have h0:0<m.own[b / g.P]?.getD 0:=(h.grp _ hkG).2 ⟨b,hd1,hd2,hbit⟩;unfold MetaS.free;generalize hk:b / g.P=k at *;have h16:m.own[k]?.getD 0≤16:=by
  rw[List.getElem?_eq_getElem hkl];exact h.ok.own16 _ (List.getElem_mem hkl)
 have used0:∀i,g.B≤i→z0r (z11 m.used b false) i=false:=by
  intro i hi;rw[z3s (by omega),if_neg (by omega)];exact h.ok.used0 i hi
 have hcnt:z39 (z11 m.used b false) (k * g.P) ((k+1) * g.P)=0↔∀c,k * g.P≤c→c<(k+1) * g.P→z0r (z11 m.used b false) c=false:=by
  unfold z39;rw[List.length_eq_zero_iff,List.filter_eq_nil_iff];constructor
  ·intro hh c c1 c2;have:=hh c (by rw[List.mem_range'_1];omega)
   simpa using this
  ·intro hh c hc;rw[List.mem_range'_1]at hc;simp[hh c hc.1 (by omega)]
 have other:∀j,j<g.G→j≠k→(0<m.own[j]?.getD 0↔∃c,j * g.P≤c∧c<(j+1) * g.P∧z0r (z11 m.used b false) c=true):=by
  intro j hj e;rw[h.grp j hj];have hne:∀c,j * g.P≤c→c<(j+1) * g.P→c≠b:=by
   rintro c c1 c2 rfl
   have:=(ze0 hg).2 ⟨c1,c2⟩
   omega
  constructor
  ·rintro⟨c,c1,c2,c3⟩
   exact⟨c,c1,c2,by rw[z3s (by omega),if_neg (hne c c1 c2)];exact c3⟩
  ·rintro⟨c,c1,c2,c3⟩
   rw[z3s (by omega),if_neg (hne c c1 c2)]at c3;exact⟨c,c1,c2,c3⟩
 by_cases hz:z39 (z11 m.used b false) (k * g.P) ((k+1) * g.P)=0
 ·rw[if_pos hz];have hrow:0<(rowN m.rows (m.own[k]?.getD 0 - 1)).2:=by
   refine h.rf.own _ ?_ h0;rw[List.getElem?_eq_getElem hkl];exact List.getElem_mem hkl
  obtain⟨r1,r2⟩:=zst h.ok.rows (by omega) hrow;refine⟨⟨r1,by dsimp only;rw[List.length_set];exact hol,?_,by dsimp only;rw[z7e];exact hul,used0,h.ok.inol,h.ok.inok⟩,fun i hi=>?_,fun j hj=>?_⟩
  ·intro o ho;rcases List.mem_or_eq_of_mem_set ho with c | rfl
   ·exact h.ok.own16 o c
   ·omega
  ·dsimp only;rw[r2,h.refs i hi];unfold MetaS.cnt;dsimp only;rw[List.countP_set hkl];have e1:za0 i m.own[k]=decide (i=m.own[k]?.getD 0 - 1):=by
    rw[List.getElem?_eq_getElem hkl]at h0 ⊢;unfold za0;congr 1;apply propext;simp only[Option.getD_some]at h0 ⊢;omega
   have e2:za0 i 0=false:=by simp[za0]
   rw[e1,e2];by_cases e:i=m.own[k]?.getD 0 - 1
   ·have:0<m.own.countP (za0 i):=List.countP_pos_iff.2 ⟨m.own[k],List.getElem_mem hkl,by rw[e1];simpa using e⟩
    simp only[e,decide_true,if_true];rw[←e];simp;omega
   ·simp[e]
  ·dsimp only;rw[getD_set hkl];by_cases e:j=k
   ·subst e;rw[if_pos rfl];constructor
    ·intro c;omega
    ·rintro⟨c,c1,c2,c3⟩
     rw[hcnt.1 hz c c1 c2]at c3;cases c3
   ·rw[if_neg e];exact other j hj e
 ·rw[if_neg hz];refine⟨⟨h.ok.rows,hol,h.ok.own16,by dsimp only;rw[z7e];exact hul,used0,h.ok.inol,h.ok.inok⟩,h.refs,fun j hj=>?_⟩;by_cases e:j=k
  ·subst e;dsimp only;refine⟨fun _=>?_,fun _=>h0⟩;exact Classical.byContradiction fun hn=>hz (hcnt.2 fun c c1 c2=>by
    cases hc:z0r (z11 m.used b false) c with
    | false=>rfl
    | true=>exact absurd ⟨c,c1,c2,hc⟩ hn)
  ·exact other j hj e
theorem zpy(hg:g.ok)(h:Inv g m){kind a:Nat}(ha:a<65536):Inv g (m.make kind a).2:=by
 have hil:=h.ok.inol;unfold MetaS.make;by_cases hk:kind=1∨kind=2
 case neg=>rw[if_neg hk];exact h
 rw[if_pos hk];cases hfr:m.ino.findIdx? z4f with
 | none=>exact h
 | some i=>
  dsimp only;by_cases hE:z3a m.rows a=0
  case neg=>rw[if_neg hE];exact h
  rw[if_pos hE];obtain⟨hi,hi0,_⟩:=List.findIdx?_eq_some_iff_getElem.1 hfr;unfold z4f at hi0;simp only[decide_eq_true_eq]at hi0;obtain⟨r1,r2,r3⟩:=zss h.ok.rows ha hE;have hnew:(zd9 kind (retI m.rows a)).Ok:=by
   have hat:∀i,(zd9 kind (retI m.rows a)).at i=0:=by
    intro i;unfold zd9 Ino.at;rw[List.getElem?_replicate];split<;>rfl
   refine⟨by show kind<3;omega,fun c=>?_,r2,by rw[hat];omega,by rw[hat];omega,by rw[hat];omega,by rw[hat];omega,fun i _ _=>by rw[hat];omega⟩;have:kind=0:=c
   omega
  refine⟨⟨r1,h.ok.ownl,h.ok.own16,h.ok.usedl,h.ok.used0,by dsimp only;rw[List.length_set];exact hil,?_⟩,fun j hj=>?_,h.grp⟩
  ·intro n hn;rcases List.mem_or_eq_of_mem_set hn with c | rfl
   ·exact h.ok.inok n c
   ·exact hnew
  ·dsimp only;rw[r3,h.refs j hj];unfold MetaS.cnt;dsimp only;rw[List.countP_set hi];have e1:z7b j m.ino[i]=false:=by unfold z7b;rw[hi0];simp
   have e2:z7b j (zd9 kind (retI m.rows a))=decide (j=retI m.rows a):=by
    unfold z7b zd9;have:decide (kind≠0)=true:=by simp;omega
    dsimp only;rw[this,Bool.true_and];congr 1;apply propext;omega
   rw[e1,e2];by_cases e:j=retI m.rows a
   ·simp[e];omega
   ·simp[e]
theorem zkq(hg:g.ok)(h:Inv g m){i:Nat}(hi:i<m.ino.length)(hk:m.ino[i].k≠0):Inv g (m.unmake i):=by
 have hil:=h.ok.inol;have hm:=List.getElem_mem hi;have hr:=(h.ok.inok _ hm).r;have hn:z4k m.ino i=m.ino[i]:=by simp[z4k,hi]
 obtain⟨r1,r2⟩:=zst h.ok.rows hr (h.rf.ino _ hm hk);unfold MetaS.unmake;rw[hn];refine⟨⟨r1,h.ok.ownl,h.ok.own16,h.ok.usedl,h.ok.used0,by dsimp only;rw[List.length_set];exact hil,?_⟩,fun j hj=>?_,h.grp⟩
 ·intro n hn;rcases List.mem_or_eq_of_mem_set hn with c | rfl
  ·exact h.ok.inok n c
  ·exact z_ok
 ·dsimp only;rw[r2,h.refs j hj];unfold MetaS.cnt;dsimp only;rw[List.countP_set hi];have e1:z7b j m.ino[i]=decide (j=m.ino[i].r):=by
   unfold z7b;have:decide (m.ino[i].k≠0)=true:=by simpa using hk
   rw[this,Bool.true_and];congr 1;apply propext;omega
  have e2:z7b j Ino.z=false:=by simp[z7b,Ino.z]
  rw[e1,e2];by_cases e:j=m.ino[i].r
  ·have:0<m.ino.countP (z7b j):=List.countP_pos_iff.2 ⟨m.ino[i],hm,by rw[e1];simpa using e⟩
   simp only[e,decide_true,if_true];rw[←e];simp;omega
  ·simp[e]
theorem zsu(hg:g.ok)(h:Inv g m){i:Nat}{n:Ino}(hE:m.setE i n=0):Inv g (m.set i n)∧i<m.ino.length:=by
 have hil:=h.ok.inol;unfold MetaS.setE at hE;by_cases h1:m.hasE i=1
 ·rw[if_pos h1]at hE;cases hE
 rw[if_neg h1]at hE;by_cases h2:n.ok=false∨n.k=0
 ·rw[if_pos h2]at hE;cases hE
 rw[if_neg h2]at hE;by_cases h3:m.hasE i≠0
 ·rw[if_pos h3]at hE;cases hE
 rw[if_neg h3]at hE;by_cases h4:n.k≠(z4k m.ino (i:Int).toNat).k∨n.r≠(z4k m.ino (i:Int).toNat).r
 ·rw[if_pos h4]at hE;cases hE
 rw[not_or]at h2 h4;have h3':m.hasE i=0:=Classical.not_not.1 h3;obtain⟨k,hk,e,hkk⟩:=z8a h3';have:k=i:=by omega
 subst this;rw[Int.toNat_natCast]at h4;have hn:z4k m.ino k=m.ino[k]:=by simp[z4k,hk]
 rw[hn]at h4;have ek:n.k=m.ino[k].k:=Classical.not_not.1 h4.1;have er:n.r=m.ino[k].r:=Classical.not_not.1 h4.2;refine⟨?_,hk⟩;unfold MetaS.set;refine⟨⟨h.ok.rows,h.ok.ownl,h.ok.own16,h.ok.usedl,h.ok.used0,by dsimp only;rw[List.length_set];exact hil,?_⟩,fun j hj=>?_,h.grp⟩
 ·intro x hx;rcases List.mem_or_eq_of_mem_set hx with c | rfl
  ·exact h.ok.inok x c
  ·exact Ino.ok_iff.1 (by simpa using h2.1)
 ·dsimp only;rw[h.refs j hj];unfold MetaS.cnt;dsimp only;rw[List.countP_set hk];have e1:z7b j n=z7b j m.ino[k]:=by unfold z7b;rw[ek,er]
  rw[e1];by_cases e:z7b j m.ino[k]=true
  ·have:0<m.ino.countP (z7b j):=List.countP_pos_iff.2 ⟨m.ino[k],List.getElem_mem hk,e⟩
   simp only[e,if_true];omega
  ·simp[e]
end
end Go.Moat

/- Layer 15: a volume that is built, and shown(). -/
namespace Go.Moat
open Go.Mini
section
variable{N:Nat}{β:Type}{l:List HA}{S:β→HA}{v d:Nat}{g:Geo}{V:VolS}{m:M β}{T:HA}{D:DskS}
theorem z157:z6j (List.replicate 16 ((0:Nat),(0:Nat)))=z14:=by decide
theorem z15l:z4j Ino.z++z4j Ino.z=z14:=by decide
theorem z15m(n:Nat)(h:n≤64):z94 (List.replicate n 0)=z14:=by
 unfold z94 z1y z14;rw[List.map_replicate,List.length_replicate];show List.replicate n (0:UInt8)++_=_;rw[List.replicate_append_replicate];congr 1;omega
theorem zy0:∀n:Nat,z5w (List.replicate (2 * n) Ino.z)=List.replicate n z14
 | 0=>rfl
 | n+1=>by
  rw[show 2 * (n+1)=2 * n+1+1 by omega,List.replicate_succ,List.replicate_succ,List.replicate_succ];unfold z5w;rw[zy0 n,z15l]
theorem z15n(hg:g.ok):z1z (z4i g)=List.replicate g.M z14:=by
 have hi:=hg.i3;have hg2:=hg.g2;unfold z1z z4i Geo.M;dsimp only;rw[z157,z15m _ hg2];have e:g.I=2 * (g.I / 2):=by omega
 rw[e,zy0];rw[show 3+2 * (g.I / 2) / 2=g.I / 2+1+1+1 by omega];rfl
theorem zax(g:Geo):(z81 g).secs.length=g.all:=by simp[z81]
theorem zjf{g:Geo}{i:Nat}(h0:0<i)(hi:i<g.all):getS (z81 g) (i:Int)=z3w:=by
 unfold getS;rw[z9o (D:=z81 g) rfl (by rw[zax];exact hi)];rw[if_pos rfl];unfold z81;dsimp only;rw[Int.toNat_natCast,List.getElem?_set,if_neg (by omega),List.getElem?_replicate,if_pos hi];rfl
theorem zy1(hg:g.ok):Clean g (z81 g) (z4i g) 0:=by
 have hpos:0<g.all:=by unfold Geo.all Geo.blk;omega
 have hj:=hg.j1;have ha:g.all=4+g.J+g.I / 2+g.B:=rfl;have hlab:g.lab=1+g.J:=rfl;have hM:g.M=3+g.I / 2:=rfl;refine⟨rfl,by rw[zax];exact Nat.le_refl _,?_,?_,fun i hi=>?_⟩
 ·unfold getS;rw[show z6d (z81 g) 0=0 from z9o (D:=z81 g) rfl (i:=0) (by rw[zax];exact hpos)];rw[if_pos rfl];unfold z81;dsimp only;rw[List.getElem?_set,if_pos (show 0=Int.toNat 0 from rfl),if_pos (by rw[List.length_replicate];exact hpos)];rfl
 ·left;refine⟨?_,rfl⟩;rw[show(1:Int)=((1:Nat):Int)from rfl,zjf (by omega) (by omega)];rfl
 ·rw[zjf (by omega) (by omega),z15n hg,List.getElem?_replicate,if_pos hi];rfl
def zfq(g:Geo):VolS:=zhz (z4i g) (z81 g) 0
theorem zfr(hg:g.ok)(hr:g.roomy)(hN:5000<N) :
  Tri (z00 []) (F_0p N g.t) fun r=>exA fun x:Nat×Nat=>pu (r=(some ⟨x.1,0⟩,some ⟨x.2,0⟩,true)) (z00 [z1f x.2 x.1 g (zfq g)]):=by
 have hall:=hg.all_le;have inv:=zan g;unfold F_0p;refine z02 [] (zhc hg) fun r2=>z04 fun h2=>z01 ?_;subst h2;dsimp only[sel,rem,nth,del,cat,upd];have e:(g.lay).2.2.2.2.2.2=(g.all:Int):=rfl;rw[e];refine z02 [] (z106 hall) fun r3=>z1w fun d=>z04 fun h3=>z01 ?_;subst h3;dsimp only[sel,rem,nth,del,cat,upd];refine z02 [0] (zrr (d:=d) hg hr hN) fun r4=>z04 fun h4=>z01 ?_;subst h4;dsimp only[sel,rem,nth,del,cat,upd];refine z05 (by simp) ?_;refine z02 [0] (zuu hg hr inv.ok inv.rf (inv.gr hg) (zy1 hg) hN) fun r5=>z1w fun v=>z04 fun h5=>z01 ?_;subst h5;dsimp only[sel,rem,nth,del,cat,upd];exact z03 [0] fun q hq=>⟨(d,v),rfl,hq⟩
def g8:Geo:=⟨130,8,2,4⟩
def g6:Geo:=⟨130,6,4,4⟩
theorem z90:g8.ok:=⟨by decide,by decide,by decide,by decide,by decide,by decide,by decide,by decide,by decide⟩
theorem z4d:g6.ok:=⟨by decide,by decide,by decide,by decide,by decide,by decide,by decide,by decide,by decide⟩
theorem z10n:g8.roomy:=by decide
theorem zqr:g6.roomy:=by decide
abbrev s0:=z4i g8
abbrev s1:=(s0.alloc g8 2).2
abbrev s2:=(s1.alloc g8 4).2
abbrev s3:=(s2.alloc g8 2).2
abbrev s4:=s3.free g8 0
abbrev s5:=s4.free g8 1
theorem zy2:Inv g8 s1:=zbk z90 (zan g8) (by decide)
theorem zy3:Inv g8 s2:=zbk z90 zy2 (by decide)
theorem zy4:Inv g8 s3:=zbk z90 zy3 (by decide)
theorem a0:(s0.alloc g8 2).1=(0,0):=by decide
theorem a1:(s1.alloc g8 4).1=(4,0):=by decide
theorem a2:(s2.alloc g8 2).1=(1,0):=by decide
theorem b3:z0r s3.used 0=true:=by decide
theorem zy5:Inv g8 s4:=zf3 z90 zy4 (by decide) b3
theorem b4:z0r s4.used 1=true:=by decide
theorem z158:Inv g8 s5:=zf3 z90 zy5 (by decide) b4
theorem a5:(s5.alloc g8 8).1=(0,0):=by decide
theorem zfs{M:MetaS}(hm:V.n.m=M)(hg:g.ok)(h:Inv g M){a:Nat}(ha:a<65536)(hN:5000<N) :
  Tri (z00 [z1f v d g V]) (F_07 N (some ⟨v,0⟩) (a:Int)) fun r=>exA fun W=>pu (r=(M.alloc g a).1∧W.n.m=(M.alloc g a).2) (z00 [z1f v d g W]):=by
 subst hm;exact(ziq hg h.ok ha hN).post fun r q hq=>⟨_,⟨hq.1,rfl⟩,hq.2⟩
theorem zt8{M:MetaS}(hm:V.n.m=M)(hg:g.ok)(h:Inv g M){b:Nat}(hb:b<g.B)(hu:z0r M.used b=true)(hN:5000<N) :
  Tri (z00 [z1f v d g V]) (F_0k N (some ⟨v,0⟩) (b:Int)) fun r=>exA fun W=>pu (r=0∧W.n.m=M.free g b) (z00 [z1f v d g W]):=by
 subst hm;refine(zl7 hg h.ok h.rf (h.gr hg) (b:Int) hN).post fun r q hq=>?_;have u:V.n.m.usedE g (b:Int)=0:=by
  unfold MetaS.usedE;rw[if_pos ⟨by omega,by omega⟩,Int.toNat_natCast,if_pos hu]
 rw[u,if_pos rfl,Int.toNat_natCast]at hq;exact⟨_,⟨hq.1,rfl⟩,hq.2⟩
theorem zuv(hN:5000<N):Tri (z00 []) (F_2q N) fun r=>pu (r=true) (z00 []):=by
 unfold F_2q;refine z02 [] (zfr (N:=N) z90 z10n hN) fun r1=>z1w fun x=>z04 fun h1=>z01 ?_;obtain⟨d,v⟩:=x;subst h1;dsimp only[sel,rem,nth,del,cat,upd];refine z05 (by simp) ?_;refine z02 [0] (zfs (V:=zfq g8) (M:=s0) (a:=2) rfl z90 (zan g8) (by decide) hN) fun r2=>z1w fun v1=>z04 fun ⟨h2,m1⟩=>z01 ?_;dsimp only[sel,rem,nth,del,cat,upd];refine z02 [0] (zfs (a:=4) m1 z90 zy2 (by decide) hN) fun r3=>z1w fun v2=>z04 fun ⟨h3,m2⟩=>z01 ?_;dsimp only[sel,rem,nth,del,cat,upd];refine z02 [0] (zfs (a:=2) m2 z90 zy3 (by decide) hN) fun r4=>z1w fun v3=>z04 fun ⟨h4,m3⟩=>z01 ?_;dsimp only[sel,rem,nth,del,cat,upd];refine z02 [0] (zt8 (b:=0) m3 z90 zy4 (by decide) b3 hN) fun r5=>z1w fun v4=>z04 fun ⟨h5,m4⟩=>z01 ?_;dsimp only[sel,rem,nth,del,cat,upd];refine z02 [0] (zt8 (b:=1) m4 z90 zy5 (by decide) b4 hN) fun r6=>z1w fun v5=>z04 fun ⟨h6,m5⟩=>z01 ?_;dsimp only[sel,rem,nth,del,cat,upd];refine z02 [0] (zfs (a:=8) m5 z90 z158 (by decide) hN) fun r7=>z1w fun v6=>z04 fun ⟨h7,m6⟩=>z01 ?_;clear m1 m2 m3 m4 m5 m6;rw[a0]at h2;rw[a1]at h3;rw[a2]at h4;rw[a5]at h7;subst h2 h3 h4 h5 h6 h7;dsimp only[sel,rem,nth,del,cat,upd];exact z03 [] fun q hq=>⟨rfl,hq⟩
end
end Go.Moat
