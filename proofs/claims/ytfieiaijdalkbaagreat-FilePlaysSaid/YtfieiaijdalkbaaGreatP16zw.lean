/- Layer 16: a file of the volume is the reference's. -/
import Derived.Test.YtfieiaijdalkbaaGreatP16zt
namespace Go.Moat
open Go.Mini
theorem z7g{k s:Nat}(hk:k<60):s∈z1l k↔s=lf k∨(8≤k∧k<40∧s=8)∨(40≤k∧(s=41∨s=42)):=by
 unfold z1l rs z6v lf;by_cases h8:k<8
 ·rw[if_pos h8,if_pos h8,if_pos h8];simp[z2x];omega
 ·rw[if_neg h8,if_neg h8,if_neg h8];by_cases h40:k<40
  ·rw[if_pos h40,if_pos h40,if_pos h40];simp[z2x,kid];omega
  ·rw[if_neg h40,if_neg h40,if_neg h40,show(k - 40) / 32=0 by omega];simp[z2x,kid];omega
theorem z5l(k:Nat):lf k=if k<8 then k else if k<40 then k+1 else k+3:=rfl
theorem zyh{F:RefF}{nz:Nat→Bool}(h:∀k,k<60→F.has k=nz (lf k))(top:∀s,63≤s→s<75→nz s=false)(t8:nz 8=true↔∃j,j<32∧nz (9+j)=true)(t42:nz 42=true↔∃j,j<32∧nz (43+j)=true)(t41:nz 41=nz 42):(List.range 75).countP nz=F.need:=by
 have e75:List.range 75=List.range 8++([8]++((List.range 32).map (fun j=>9+j)++([41]++([42]++((List.range 20).map (fun j=>43+j)++(List.range 12).map (fun j=>63+j)))))):=by decide
 have e60:List.range 60=List.range 8++((List.range 32).map (fun j=>8+j)++(List.range 20).map (fun j=>40+j)):=by decide
 have c1:(List.range 8).countP nz=(List.range 8).countP F.has:=List.countP_congr fun s hs=>by
  have:=List.mem_range.1 hs
  rw[h s (by omega),z5l,if_pos this]
 have c2:((List.range 32).map fun j=>9+j).countP nz=((List.range 32).map fun j=>8+j).countP F.has:=by
  rw[List.countP_map,List.countP_map];refine List.countP_congr fun s hs=>?_;have:=List.mem_range.1 hs
  dsimp only[Function.comp];rw[h (8+s) (by omega),z5l,if_neg (by omega),if_pos (by omega),show 8+s+1=9+s by omega]
 have c3:((List.range 20).map fun j=>43+j).countP nz=((List.range 20).map fun j=>40+j).countP F.has:=by
  rw[List.countP_map,List.countP_map];refine List.countP_congr fun s hs=>?_;have:=List.mem_range.1 hs
  dsimp only[Function.comp];rw[h (40+s) (by omega),z5l,if_neg (by omega),if_neg (by omega),show 40+s+3=43+s by omega]
 have c4:((List.range 12).map fun j=>63+j).countP nz=0:=by
  rw[List.countP_map,List.countP_eq_zero];intro s hs;have:=List.mem_range.1 hs
  dsimp only[Function.comp];rw[top (63+s) (by omega) (by omega)];simp
 have ei:zd5 F 60=if nz 8=true then 1 else 0:=by
  unfold zd5;have e:((List.range 60).any fun j=>F.has j&&decide (8≤j)&&decide (j<40))=nz 8:=by
   rw[Bool.eq_iff_iff,t8,List.any_eq_true];constructor
   ·rintro⟨k,hk,h1⟩
    have hk:=List.mem_range.1 hk;simp only[Bool.and_eq_true,decide_eq_true_eq]at h1;obtain⟨⟨h1,h2⟩,h3⟩:=h1;refine⟨k - 8,by omega,?_⟩;rw[h k hk,z5l,if_neg (by omega),if_pos h3]at h1;rw[show 9+(k - 8)=k+1 by omega];exact h1
   ·rintro⟨j,hj,h1⟩
    refine⟨8+j,List.mem_range.2 (by omega),?_⟩;simp only[Bool.and_eq_true,decide_eq_true_eq];refine⟨⟨?_,by omega⟩,by omega⟩;rw[h (8+j) (by omega),z5l,if_neg (by omega),if_pos (by omega),show 8+j+1=9+j by omega];exact h1
  rw[e]
 have ed:zar F 60=if nz 42=true then 2 else 0:=by
  unfold zar;have e:((List.range 60).any fun j=>F.has j&&decide (40≤j))=nz 42:=by
   rw[Bool.eq_iff_iff,t42,List.any_eq_true];constructor
   ·rintro⟨k,hk,h1⟩
    have hk:=List.mem_range.1 hk;simp only[Bool.and_eq_true,decide_eq_true_eq]at h1;obtain⟨h1,h2⟩:=h1;refine⟨k - 40,by omega,?_⟩;rw[h k hk,z5l,if_neg (by omega),if_neg (by omega)]at h1;rw[show 43+(k - 40)=k+3 by omega];exact h1
   ·rintro⟨j,hj,h1⟩
    by_cases h20:j<20
    ·refine⟨40+j,List.mem_range.2 (by omega),?_⟩;simp only[Bool.and_eq_true,decide_eq_true_eq];refine⟨?_,by omega⟩;rw[h (40+j) (by omega),z5l,if_neg (by omega),if_neg (by omega),show 40+j+3=43+j by omega];exact h1
    ·rw[top (43+j) (by omega) (by omega)]at h1;cases h1
  rw[e]
 unfold RefF.need z7r;rw[ei,ed,e75,e60];simp only[List.countP_append,List.countP_singleton,c1,c2,c3,c4,t41];split<;>split<;>omega
structure RelI(g:Geo)(V:VolS)(T:z0q)(i:Nat)(F:RefF):Prop where
 len:F.B.length=z1z V.n.m i
 le:F.B.length≤3840
 b:∀x,x<F.B.length→F.B[x]? = some (fb g V T i x)
 has:∀k,k<60→F.has k=decide (T i (lf k)≠0)
 tab:∀c,dep c≠0→T i c≠0→∃j,j<32∧T i (kid c j)≠0
 top:∀s,63≤s→T i s=0
section
variable{g:Geo}{V V':VolS}{T T' P:z0q}{i ii at' size:Nat}{F:RefF}{bs:List UInt8}
theorem zpl{p:Nat→Nat}{a e:Nat}(hhas:∀k,k<60→F.has k=decide (p (lf k)≠0))(htab:∀c,dep c≠0→p c≠0→∃j,j<32∧p (kid c j)≠0)(htop:∀s,63≤s→p s=0)(hk0:∀c,dep c≠0→p c=0→∀j,j<32→p (kid c j)=0):z7u p=F.need:=by
 unfold z7u;refine zyh hhas (fun s h1 _=>by rw[htop s h1];rfl) ?_ ?_ ?_
 ·rw[decide_eq_true_iff];constructor
  ·intro h;obtain⟨j,hj,h1⟩:=htab 8 (by decide) h;exact⟨j,hj,decide_eq_true h1⟩
  ·rintro⟨j,hj,h1⟩ hz
   exact of_decide_eq_true h1 (hk0 8 (by decide) hz j hj)
 ·rw[decide_eq_true_iff];constructor
  ·intro h;obtain⟨j,hj,h1⟩:=htab 42 (by decide) h;exact⟨j,hj,decide_eq_true h1⟩
  ·rintro⟨j,hj,h1⟩ hz
   exact of_decide_eq_true h1 (hk0 42 (by decide) hz j hj)
 ·refine decide_eq_decide.2 ⟨fun h=>?_,fun h hz=>h (hk0 41 (by decide) hz 0 (by omega))⟩;obtain⟨j,hj,h1⟩:=htab 41 (by decide) h;unfold kid at h1;rw[if_neg (by omega),if_pos rfl]at h1;split at h1
  ·exact h1
  ·exact absurd (htop 75 (by omega)) h1
theorem RelI.need(R:RelI g V T i F)(fs:FS g V T T):z7u (T i)=F.need:=
 zpl (a:=0) (e:=0) R.has R.tab R.top fun c hd hz j hj=>fs.kid0 hd hz hj
theorem zmy{p q:Nat→Nat}{a n:Nat}(hq:∀s,q s≠0↔p s≠0∨∃k,k<60∧a / 64≤k∧64 * k<a+bs.length∧s∈z1l k)(hhas:∀k,k<60→F.has k=decide (p (lf k)≠0))(htab:∀c,dep c≠0→p c≠0→∃j,j<32∧p (kid c j)≠0)(htop:∀s,63≤s→p s=0) :
  (∀k,k<60→(F.write a bs 60).has k=decide (q (lf k)≠0))∧(∀c,dep c≠0→q c≠0→∃j,j<32∧q (kid c j)≠0)∧(∀s,63≤s→q s=0):=by
 refine⟨fun k hk=>?_,fun c hd h=>?_,fun s hs=>?_⟩
 ·unfold RefF.write;dsimp only;rw[Bool.eq_iff_iff,decide_eq_true_iff,hq];split
  ·rename_i h;exact⟨fun _ =>.inr ⟨k,hk,by omega,by omega,(z7g hk).2 (.inl rfl)⟩,fun _=>rfl⟩
  ·rename_i h;rw[hhas k hk,decide_eq_true_iff];refine⟨.inl,fun h1=>?_⟩;rcases h1 with h1 | ⟨k',h1,h2,h3,h4⟩
   ·exact h1
   ·have h5:=(z7g h1).1 h4;have:k'=k:=by
     rw[z5l,z5l]at h5;repeat' split at h5
     all_goals omega
    subst this;omega
 ·rcases(hq c).1 h with h1 | ⟨k,h1,h2,h3,h4⟩
  ·obtain⟨j,hj,h5⟩:=htab c hd h1;exact⟨j,hj,(hq _).2 (.inl h5)⟩
  ·have h5:=(z7g h1).1 h4;have put:∀s,s∈z1l k→q s≠0:=fun s hs=>(hq s).2 (.inr ⟨k,h1,h2,h3,hs⟩);have hl:=put (lf k) ((z7g h1).2 (.inl rfl));rcases dep_cases hd with rfl | rfl | rfl
   ·have hk:8≤k∧k<40:=by
     rw[z5l]at h5;repeat' split at h5
     all_goals omega
    refine⟨k - 8,by omega,?_⟩;rw[z5l,if_neg (by omega),if_pos (by omega)]at hl;rw[show kid 8 (k - 8)=k+1 by unfold kid;rw[if_pos rfl];omega];exact hl
   ·have hk:40≤k:=by
     rw[z5l]at h5;repeat' split at h5
     all_goals omega
    exact⟨0,by omega,put 42 ((z7g h1).2 (.inr (.inr ⟨hk,.inr rfl⟩)))⟩
   ·have hk:40≤k:=by
     rw[z5l]at h5;repeat' split at h5
     all_goals omega
    refine⟨k - 40,by omega,?_⟩;rw[z5l,if_neg (by omega),if_neg (by omega)]at hl;rw[show kid 42 (k - 40)=k+3 by unfold kid;rw[if_neg (by omega),if_neg (by omega)];omega];exact hl
 ·refine Decidable.byContradiction fun c=>?_;rcases(hq s).1 c with h | ⟨k,h1,h2,h3,h4⟩
  ·exact h (htop s hs)
  ·have h5:=(z7g h1).1 h4;rw[z5l]at h5;repeat' split at h5
   all_goals omega
theorem RelI.need_write(R:RelI g V T i F)(fs:FS g V T T)(a:Nat):(List.range 75).countP (wnz (T i) a (a+bs.length))=(F.write a bs 60).need:=by
 have hq:∀s,(if wnz (T i) a (a+bs.length) s=true then 1 else 0)≠0↔T i s≠0∨∃k,k<60∧a / 64≤k∧64 * k<a+bs.length∧s∈z1l k:=fun s=>by
  rw[←zoh];split<;>simp[*]
 obtain⟨h1,h2,h3⟩:=zmy (F:=F) (p:=T i) (q:=fun s=>if wnz (T i) a (a+bs.length) s=true then 1 else 0) (n:=0) hq R.has R.tab R.top;have e:(List.range 75).countP (wnz (T i) a (a+bs.length))=z7u fun s=>if wnz (T i) a (a+bs.length) s=true then 1 else 0:=by
  unfold z7u;refine List.countP_congr fun s _=>?_;rw[decide_eq_true_iff];dsimp only;split<;>simp[*]
 rw[e];refine zpl (a:=0) (e:=0) h1 h2 h3 fun c hd hz j hj=>?_;have hz:¬wnz (T i) a (a+bs.length) c=true:=fun x=>by rw[if_pos x]at hz;omega
 refine if_neg fun x=>hz ?_;rw[zoh]at x ⊢;rcases x with x | ⟨k,x1,x2,x3,x4⟩
 ·exact .inl fun y=>x (fs.kid0 hd y hj)
 ·refine .inr ⟨k,x1,x2,x3,?_⟩;have h5:=(z7g x1).1 x4;refine(z7g x1).2 ?_;rw[z5l]at h5 ⊢;rcases dep_cases hd with rfl | rfl | rfl<;>simp[kid]at h5<;>(repeat' split at h5)<;>(repeat' split)<;>omega
end
end Go.Moat

/- Layer 16: how many blocks can be had. -/
namespace Go.Moat
open Go.Mini
def z6e(g:Geo)(m:MetaS)(r b:Nat):Bool:=(decide (m.own[b / g.P]? = some 0) || decide (m.own[b / g.P]? = some (r+1))) && !z0y m.used b
def zb5(g:Geo)(m:MetaS)(r:Nat):Nat:=(List.range g.B).countP (z6e g m r)
theorem countP_drop{p q:Nat→Bool}{b:Nat}(h1:p b=true)(h2:q b=false)(h:∀j,j≠b→q j=p j):∀n:Nat,(List.range n).countP q+(if b<n then 1 else 0)=(List.range n).countP p
 | 0=>by simp
 | n+1=>by
  have ih:=countP_drop h1 h2 h n;rw[List.range_succ,List.countP_append,List.countP_append,List.countP_singleton,List.countP_singleton];by_cases e:n=b
  ·subst e;rw[if_neg (by omega)]at ih;have hlt:(if n<n+1 then 1 else 0)=1:=if_pos (by omega);rw[h1,h2,hlt];simp;omega
  ·rw[h n e];by_cases e2:b<n
   ·rw[if_pos e2]at ih;have hlt:(if b<n+1 then 1 else 0)=1:=if_pos (by omega);rw[hlt];split<;>omega
   ·rw[if_neg e2]at ih;have hlt:(if b<n+1 then 1 else 0)=0:=if_neg (by omega);rw[hlt];split<;>omega
section
variable{g:Geo}{m:MetaS}{r a:Nat}
theorem znx(hg:g.ok)(inv:Inv g m)(h:z55 m r a):((m.alloc g a).1.2=0→zb5 g (m.alloc g a).2 r+1=zb5 g m r)∧((m.alloc g a).1.2=5→zb5 g m r=0)∧((m.alloc g a).1.2≠0→(m.alloc g a).2=m):=by
 have hrow:=zb2 inv.ok.rows h.1 h.2.1 h.2.2;have hp:=hg.p1;have hB:g.B=g.G * g.P:=rfl;have hol:=inv.ok.ownl;have hul:=inv.ok.usedl;have hgp:=hg.gp;have hretI:z3x m.rows a=r:=by unfold z3x;rw[zec hrow];rfl
 have hretE:z3w m.rows a=0∨z3w m.rows a=4:=by
  unfold z3w;rw[zec hrow];dsimp only;split
  ·exact .inr rfl
  ·exact .inl rfl
 refine⟨?_,?_,znk⟩
 ·intro hE;unfold MetaS.alloc at hE ⊢;cases hat:m.atB g a with
  | some b=>
   dsimp only;unfold MetaS.atB at hat;rw[hrow]at hat;dsimp only at hat;have hb:=List.mem_of_find?_eq_some hat;have hb2:=List.find?_some hat;have hbB:b<g.B:=by rw[List.mem_range'_1]at hb;omega
   unfold MetaS.isAt at hb2;rw[Bool.and_eq_true,decide_eq_true_iff]at hb2;have:=countP_drop (p:=z6e g m r) (q:=z6e g {m with used:=z1x m.used b true} r) (b:=b) (by unfold z6e;rw[hb2.2,decide_eq_true hb2.1];simp) (by unfold z6e;dsimp only;rw[z1y (by omega),if_pos rfl];simp) (fun j hj=>by unfold z6e;dsimp only;rw[z1y (by omega),if_neg hj]) g.B
   rw[if_pos hbB]at this;exact this
  | none=>
   rw[hat]at hE;dsimp only at hE ⊢;cases hfr:m.own.findIdx? z34 with
   | none=>rw[hfr]at hE;cases hE
   | some k=>
    rw[hfr]at hE;dsimp only at hE ⊢;by_cases hr:z3w m.rows a=0
    case neg=>rw[if_neg hr]at hE;exact absurd hE hr
    rw[if_pos hr];dsimp only;obtain⟨hk,h0,_⟩:=List.findIdx?_eq_some_iff_getElem.1 hfr;have h0:m.own[k]=0:=of_decide_eq_true h0;have hkG:k<g.G:=by omega
    have hkB:k * g.P<g.B:=by
     rw[hB];exact Nat.mul_lt_mul_of_pos_right hkG (by omega)
    have hdiv:k * g.P / g.P=k:=Nat.mul_div_cancel _ (by omega);have hfree:z0y m.used (k * g.P)=false:=by
     cases hx:z0y m.used (k * g.P)with
     | false=>rfl
     | true=>
      have:=(inv.grp k hkG).2 ⟨k * g.P,Nat.le_refl _,by rw[Nat.add_mul];omega,hx⟩
      rw[List.getElem?_eq_getElem hk,h0]at this;simp at this
    have:=countP_drop (p:=z6e g m r) (q:=z6e g {m with rows:=z99 m.rows a,own:=m.own.set k (z3x m.rows a+1),used:=z1x m.used (k * g.P) true} r) (b:=k * g.P)
     (by unfold z6e;rw[hfree,hdiv,List.getElem?_eq_getElem hk,h0];simp) (by unfold z6e;dsimp only;rw[z1y (by omega),if_pos rfl];simp)
     (fun j hj=>by
      unfold z6e;dsimp only;rw[z1y (by omega),if_neg hj,hretI,List.getElem?_set];by_cases e:k=j / g.P
      ·rw[if_pos e,if_pos hk,←e,List.getElem?_eq_getElem hk,h0];simp
      ·rw[if_neg e]) g.B
    rw[if_pos hkB]at this;exact this
 ·intro hE;unfold MetaS.alloc at hE;cases hat:m.atB g a with
  | some b=>rw[hat]at hE;cases hE
  | none=>
   rw[hat]at hE;dsimp only at hE;cases hfr:m.own.findIdx? z34 with
   | some k=>
    rw[hfr]at hE;dsimp only at hE;split at hE
    ·cases hE
    ·dsimp only at hE;omega
   | none=>
    unfold zb5;rw[List.countP_eq_zero];intro b hb;have hb:=List.mem_range.1 hb;unfold MetaS.atB at hat;rw[hrow]at hat;dsimp only at hat;rw[List.find?_eq_none]at hat;have h1:=hat b (by rw[List.mem_range'_1];omega);have h2:=List.findIdx?_eq_none_iff.1 hfr;unfold MetaS.isAt at h1;unfold z6e;intro hx;rw[Bool.and_eq_true,Bool.or_eq_true,decide_eq_true_iff,decide_eq_true_iff]at hx;rcases hx.1 with hx1 | hx1
    ·have:=h2 0 (List.mem_of_getElem? hx1)
     simp[z34]at this
    ·exact h1 (by rw[Bool.and_eq_true,decide_eq_true_iff];exact⟨hx1,hx.2⟩)
theorem zkv(hg:g.ok)(ha:a<65536):∀(k:Nat)(m:MetaS),Inv g m→z55 m r a→zb5 g m r≤zb5 g (z2p g a k m) r+k∧z55 (z2p g a k m) r a∧Inv g (z2p g a k m)
 | 0,m,inv,h=>⟨Nat.le_refl _,h,inv⟩
 | k+1,m,inv,h=>by
  obtain⟨h1,h2,h3⟩:=znx hg inv h;obtain⟨i1,i2,i3⟩:=zkv hg ha k _ (zcy hg inv ha) (h.alloc hg inv ha);refine⟨?_,i2,i3⟩;show _≤zb5 g (z2p g a k (m.alloc g a).2) r+(k+1);by_cases e:(m.alloc g a).1.2=0
  ·have:=h1 e
   omega
  ·rw[h3 e]at i1 ⊢;omega
theorem FellW.room{V V':VolS}{T:z0q}{ii at' e:Nat}(hg:g.ok)(ha:a<65536)(inv:Inv g V.n.m)(h:z55 V.n.m r a)(F:FellW g V T ii at' e a 5 V'):z7u (T ii)+zb5 g V.n.m r<(List.range 75).countP (wnz (T ii) at' e):=by
 obtain⟨m,h1,h2⟩:=F.al;obtain⟨i1,i2,i3⟩:=zkv (r:=r) hg ha m _ inv h;have:=(znx hg i3 i2).2.1 h2
 omega
end
end Go.Moat

/- Layer 16: free: how many blocks can be had, as it is counted. -/
namespace Go.Moat
open Go.Mini
section
variable{N:Nat}{β:Type}{l:List HA}{S:β→HA}{d v:Nat}{G:Nat}{V:VolS}{m:MetaS}{r a:Nat}{Tm:HA}{rm:Sl×Sl×Sl×Sl}
theorem z13e(inv:Inv (gg G) m)(h:z55 m r a){k o:Nat}(hk:m.own[k]? = some (o+1)):o<16∧((z1a m.rows o).1=a↔o=r):=by
 have ho:=inv.ok.own16 _ (List.mem_of_getElem? hk);refine⟨by omega,fun e=>?_,fun e=>by rw[e];exact h.2.2⟩;have hr:=inv.refs o (by omega);have hpos:0<(z1a m.rows o).2:=by
  rw[hr];unfold MetaS.cnt;have:0<m.own.countP (z7d o):=List.countP_pos_iff.2 ⟨_,List.mem_of_getElem? hk,by simp[z7d]⟩
  omega
 have hl:=inv.ok.rows.len;have hol:o<m.rows.length:=by omega
 have hrl:r<m.rows.length:=by have:=h.1;omega
 have h1:=inv.ok.rows.dist o r hol hrl;have e1:z1a m.rows o=m.rows[o]:=by unfold z1a;rw[List.getElem?_eq_getElem hol];rfl
 have e2:z1a m.rows r=m.rows[r]:=by unfold z1a;rw[List.getElem?_eq_getElem hrl];rfl
 rw[←e1,←e2]at h1;exact h1 hpos h.2.1 (by rw[e,h.2.2])
def z9p(G:Nat)(m:MetaS)(r n:Nat):Nat:=(List.range n).countP (z6e (gg G) m r)
theorem zxe(G:Nat)(m:MetaS)(r n:Nat):z9p G m r (n+1)=z9p G m r n+if z6e (gg G) m r n=true then 1 else 0:=by
 unfold z9p;rw[List.range_succ,List.countP_append,List.countP_singleton]
theorem zuy(G:Nat)(m:MetaS)(r n:Nat):z9p G m r n≤n:=by
 have:=List.countP_le_length (p:=z6e (gg G) m r) (l:=List.range n)
 rw[List.length_range]at this;exact this
theorem z18o(hu:m.used.length=64)(h3:RdC Tm rm.2.2.1 1 (bytesOf m.used)){k:Nat}(hk:k<20)(hok:m.own[k]? = some 0∨m.own[k]? = some (r+1)){x:Int}:∀(K b:Nat),8 * k+8 - b<K→8 * k≤b→b≤8 * k+8 →
  Tri (z00 [Tm]) (z0e K (F_3w N rm (x,(k:Int))) ((z9p G m r b:Int),(b:Int))) fun z=>pu (z=(z9p G m r (8 * k+8):Int)) (z00 [Tm]):=by
 have l3:=h3.1;rw[z0d,hu]at l3;intro K;induction K with
 | zero=>intro b h;omega
 | succ K ih=>
  intro b hK hb1 hb2;rw[z13];generalize z0e K (F_3w N rm (x,(k:Int)))=go at ih ⊢;unfold F_3w;have e8:wr .i64 (wr .i64 ((8:Int) * (k:Int))+8)=((8 * k+8:Nat):Int):=by
   rw[z09 (n:=(8:Int) * (k:Int)) (by omega) (by omega),z09 (by omega) (by omega)];omega
  have e1:wr .i64 ((b:Int).tdiv 8)=((b / 8:Nat):Int):=by
   rw[show(b:Int).tdiv 8=((b / 8:Nat):Int)from rfl,z09 (by omega) (by omega)]
  have e2:(b:Int).tmod 8=((b%8:Nat):Int):=rfl;dsimp only;rw[e8,e1,e2];by_cases hbk:b<8 * k+8
  case neg=>
   obtain rfl:b=8 * k+8:=by omega
   exact z05 (by simp) (z03 [0] fun q hq=>⟨rfl,hq⟩)
  refine z07 (by simp;omega) ?_;have hku:b / 8<m.used.length:=by omega
  refine z2a 0 rfl h3 (i:=b / 8) (k :=.u8) (v:=((m.used[b / 8].toNat:Nat):Int)) (zaa hku) ?_;rw[if_neg (by omega)];have hle:=zuy G m r b;have er:z6e (gg G) m r b = !m.used[b / 8].toNat.testBit (b%8):=by
   unfold z6e;have eg:z0y m.used b=m.used[b / 8].toNat.testBit (b%8):=by
    unfold z0y;rw[List.getElem?_eq_getElem hku]
   have ep:b / (gg G).P=k:=by show b / 8=k;omega
   rw[eg,ep];rcases hok with h | h<;>rw[h]<;>simp
  refine z02 [0] (Q:=fun j=>pu (j=(z9p G m r (b+1):Int)) (z00 [Tm])) ?_ fun j17=>z04 fun h17=>z01 ?_
  ·rw[z18m _ (by omega),zxe,er];cases m.used[b / 8].toNat.testBit (b%8)with
   | false=>
    refine z07 (by simp) (z03 [0] fun q hq=>⟨?_,hq⟩);rw[z09 (by omega) (by omega)];simp
   | true=>exact z05 (by simp) (z03 [0] fun q hq=>⟨by simp,hq⟩)
  subst h17;rw[z09 (n:=(b:Int)+1) (by omega) (by omega)];exact ih (b+1) (by omega) (by omega) (by omega)
theorem z18p(hG:G≤20)(inv:Inv (gg G) m)(h:z55 m r a)(h1:RdC Tm rm.1 2 (z1t m.rows))(h2:RdC Tm rm.2.1 1 (z1c m.own))(h3:RdC Tm rm.2.2.1 1 (bytesOf m.used))(hN:100<N):∀(K k:Nat),G - k<K→k≤G →
  Tri (z00 [Tm]) (z0e K (F_3x N (a:Int) rm) ((z9p G m r (8 * k):Int),(k:Int))) fun z=>pu (z=(z9p G m r (8 * G):Int)) (z00 [Tm]):=by
 have hol:m.own.length=G:=inv.ok.ownl;have hr16:=inv.ok.rows.len;have l1:=zay h1;have l2:=h2.1;rw[z1n,hol]at l2;intro K;induction K with
 | zero=>intro k h;omega
 | succ K ih=>
  intro k hK hk;rw[z13];generalize z0e K (F_3x N (a:Int) rm)=go at ih ⊢;unfold F_3x;by_cases hkG:k<G
  case neg=>
   obtain rfl:k=G:=by omega
   exact z05 (by simp;omega) (z03 [0] fun q hq=>⟨rfl,hq⟩)
  refine z07 (by simp;omega) ?_;have hkl:k<m.own.length:=by omega
  have hko:m.own[k]? = some m.own[k]:=List.getElem?_eq_getElem hkl;refine z2a 0 rfl h2 (i:=k) (k :=.i64) (v:=((m.own[k]:Nat):Int)) (by simp[z1w,hkl]) ?_;have hle:=zuy G m r (8 * k);refine z02 [0] (Q:=fun c=>pu (c=(decide (m.own[k]? = some 0) || decide (m.own[k]? = some (r+1)))) (z00 [Tm])) ?_ fun c12=>z04 fun h12=>z01 ?_
  ·by_cases h0:m.own[k]=0
   ·refine z05 (by simp[h0]) (z03 [0] fun q hq=>⟨?_,hq⟩);rw[hko,h0];simp
   ·refine z07 (by simp[h0]) ?_;obtain⟨o,ho⟩:∃o,m.own[k]=o+1:=⟨m.own[k] - 1,by omega⟩;rw[ho]at hko ⊢;obtain⟨o16,hlab⟩:=z13e inv h hko;refine z02 [0] (Q:=fun c=>pu (c=(decide (m.own[k]? = some 0) || decide (m.own[k]? = some (r+1)))) (z00 [Tm])) ?_ fun c11=>z04 fun h11=>z01 (z03 [0] fun q hq=>⟨h11,hq⟩);refine z07 (by simp;omega) ?_;have eo:wr .i64 (((o+1:Nat):Int) - 1)=((o:Nat):Int):=by rw[z09 (by omega) (by omega)];omega
    rw[eo];have hrl:o<m.rows.length:=by omega
    refine z7a 0 rfl h1 (i:=o) (o:=0) (by omega) (by omega) (v:=((m.rows[o].1:Nat):Int)) (k :=.u16) (by rw[z3l z2e hrl (by omega)];rfl) ?_;refine z03 [0] fun q hq=>⟨?_,hq⟩;have e1:z1a m.rows o=m.rows[o]:=by unfold z1a;rw[List.getElem?_eq_getElem hrl];rfl
    rw[←e1,hko];by_cases e:o=r
    ·rw[hlab.2 e,e];simp
    ·have:(z1a m.rows o).1≠a:=fun x=>e (hlab.1 x)
     simp[e];omega
  subst h12;refine z02 [0] (Q:=fun j=>pu (j=(z9p G m r (8 * (k+1)):Int)) (z00 [Tm])) ?_ fun j19=>z04 fun h19=>z01 ?_
  ·by_cases hc:m.own[k]? = some 0∨m.own[k]? = some (r+1)
   ·refine z07 (by simpa using hc) ?_;rw[z09 (n:=(8:Int) * (k:Int)) (by omega) (by omega),show(8:Int) * (k:Int)=((8 * k:Nat):Int) by omega];refine z02 [0] (z18o (G:=G) inv.ok.usedl h3 (by omega) hc N (8 * k) (by omega) (by omega) (by omega)) fun j18=>z04 fun h18=>z01 ?_;exact z03 [0] fun q hq=>⟨h18,hq⟩
   ·refine z05 (by simpa using hc) (z03 [0] fun q hq=>⟨?_,hq⟩);have key:∀n,n≤8→z9p G m r (8 * k+n)=z9p G m r (8 * k):=by
     intro n;induction n with
     | zero=>intro _;rfl
     | succ n ih2=>
      intro hn;rw[show 8 * k+(n+1)=8 * k+n+1 by omega,zxe,ih2 (by omega),if_neg,Nat.add_zero];unfold z6e;have ep:(8 * k+n) / (gg G).P=k:=by show(8 * k+n) / 8=k;omega
      rw[ep];rw[not_or]at hc;simp[hc.1,hc.2]
    rw[show 8 * (k+1)=8 * k+8 by omega,key 8 (by omega)]
  subst h19;rw[z09 (n:=(k:Int)+1) (by omega) (by omega)];exact ih (k+1) (by omega) (by omega)
theorem z13f(hg:(gg G).ok)(hG:G≤20)(inv:Inv (gg G) V.n.m)(h:z55 V.n.m r a)(hN:5000<N):Tri (z00 [z0l v d (gg G) V]) (F_3b N (some ⟨v,0⟩) (a:Int)) fun z=>pu (z=(zb5 (gg G) V.n.m r:Int)) (z00 [z0l v d (gg G) V]):=by
 unfold F_3b;refine z02 [0] (zzl (N:=N) hg inv.ok) fun rm=>z01 ?_;dsimp only[sel,rem,nth,del,cat,upd];refine z0c 0 rfl fun l0=>z0c 1 rfl fun l1=>z0c 2 rfl fun l2=>z0c 3 rfl fun l3=>?_;refine z6w [0,0,0,0] ?_;dsimp only[sel,rem,nth,del,cat,upd];have q0:RdC (z00 [z06 rm.1 2 (z1t V.n.m.rows),z06 rm.2.1 1 (z1c V.n.m.own),z06 rm.2.2.1 1 (bytesOf V.n.m.used),z06 rm.2.2.2 14 (z2m V.n.m.ino)]) rm.1 2 (z1t V.n.m.rows):=RdC.at 0 rfl (z0k l0);have q1:RdC (z00 [z06 rm.1 2 (z1t V.n.m.rows),z06 rm.2.1 1 (z1c V.n.m.own),z06 rm.2.2.1 1 (bytesOf V.n.m.used),z06 rm.2.2.2 14 (z2m V.n.m.ino)]) rm.2.1 1 (z1c V.n.m.own):=RdC.at 1 rfl (z0k l1);have q2:RdC (z00 [z06 rm.1 2 (z1t V.n.m.rows),z06 rm.2.1 1 (z1c V.n.m.own),z06 rm.2.2.1 1 (bytesOf V.n.m.used),z06 rm.2.2.2 14 (z2m V.n.m.ino)]) rm.2.2.1 1 (bytesOf V.n.m.used):=RdC.at 2 rfl (z0k l2);generalize z00 [z06 rm.1 2 (z1t V.n.m.rows),z06 rm.2.1 1 (z1c V.n.m.own),z06 rm.2.2.1 1 (bytesOf V.n.m.used),z06 rm.2.2.2 14 (z2m V.n.m.ino)]=Tm at q0 q1 q2 ⊢;refine z02 [0] (z18p (N:=N) hG inv h q0 q1 q2 (by omega) N 0 (by omega) (by omega)) fun j20=>z04 fun h20=>z01 ?_;refine z03 [1] fun q hq=>⟨?_,hq⟩;rw[h20];have e:(gg G).B=8 * G:=by show G * 8=8 * G;omega
 unfold zb5;rw[e];rfl
end
end Go.Moat
