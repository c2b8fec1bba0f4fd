/- Layer 16: bytes are written. -/
import Derived.Test.YtfieiaijdalkbaaGreatP16u
namespace Go.Moat
open Go.Mini
section
variable{g:Geo}{m:MetaS}{a k n i:Nat}{x:Ino}
theorem z11d(g:Geo)(m:MetaS)(a:Nat):(m.alloc g a).2.ino=m.ino:=by
 unfold MetaS.alloc;split
 ·rfl
 ·split
  ·rfl
  ·split<;>rfl
theorem z7t(g:Geo)(a:Nat):∀(n:Nat)(m:MetaS),(z2p g a n m).ino=m.ino
 | 0,m=>rfl
 | n+1,m=>by rw[z2p,z7t g a n,z11d]
theorem zpw(g:Geo)(m:MetaS)(i:Nat)(x:Ino)(a:Nat):(m.set i x).alloc g a=((m.alloc g a).1,(m.alloc g a).2.set i x):=by
 have e:(m.set i x).atB g a=m.atB g a:=rfl;unfold MetaS.alloc;rw[e];show(match m.atB g a with | some b=>_ | none=>(match m.own.findIdx? z34 with | none=>_ | some k=>if z3w m.rows a=0 then _ else _))=_;cases m.atB g a with
 | some b=>rfl
 | none=>
  dsimp only;cases m.own.findIdx? z34 with
  | none=>rfl
  | some k=>
   dsimp only;by_cases h:z3w m.rows a=0
   ·rw[if_pos h,if_pos h];rfl
   ·rw[if_neg h,if_neg h];rfl
theorem zn0(g:Geo)(i:Nat)(x:Ino)(a:Nat):∀(n:Nat)(m:MetaS),z2p g a n (m.set i x)=(z2p g a n m).set i x
 | 0,m=>rfl
 | n+1,m=>by rw[z2p,zpw,z2p,zn0 g i x a n]
def zd6(g:Geo)(a k:Nat)(m:MetaS):Prop:=∀j,j<k→((z2p g a j m).alloc g a).1.2=0
theorem zd6.le{k':Nat}(h:zd6 g a k m)(hk:k'≤k):zd6 g a k' m:=fun j hj=>h j (by omega)
theorem zd6.step{k':Nat}(h:zd6 g a k m)(hk:n+k'≤k):zd6 g a k' (z2p g a n m):=fun j hj=>by
 rw[←z97];exact h _ (by omega)
theorem zd6.set(h:zd6 g a k m):zd6 g a k (m.set i x):=fun j hj=>by
 rw[zn0,zpw];exact h j hj
end
def fb(g:Geo)(V:VolS)(T:z0q)(i x:Nat):UInt8:=(bk g V (T i (lf (x / 64))))[x%64]?.getD 0
def z90(X:List UInt8)(f:Nat)(Y:List UInt8):List UInt8:=X.take f++Y++X.drop (f+Y.length)
theorem zkk(X:List UInt8)(f:Nat)(Y:List UInt8):z11 (bytesOf X) f (bytesOf Y)=bytesOf (z90 X f Y):=by
 unfold z11 z90 bytesOf;simp[List.map_take,List.map_drop]
theorem zih{X:List UInt8}{f:Nat}{Y:List UInt8}(h:f+Y.length≤X.length):(z90 X f Y).length=X.length:=by
 unfold z90;simp;omega
theorem zpx{X:List UInt8}{f:Nat}{Y:List UInt8}(h:f+Y.length≤X.length)(j:Nat):(z90 X f Y)[j]?.getD 0=if f≤j∧j<f+Y.length then Y[j - f]?.getD 0 else X[j]?.getD 0:=by
 unfold z90;have l1:(X.take f).length=f:=by rw[List.length_take];omega
 by_cases h1:j<f
 ·rw[if_neg (by omega),List.append_assoc,List.getElem?_append_left (by omega),List.getElem?_take,if_pos h1]
 ·by_cases h2:j<f+Y.length
  ·rw[if_pos ⟨by omega,h2⟩,List.append_assoc,List.getElem?_append_right (by omega),l1,List.getElem?_append_left (by omega)]
  ·rw[if_neg (by omega),List.getElem?_append_right (by rw[List.length_append];omega),List.length_append,l1,List.getElem?_drop];congr 2;omega
section
variable{g:Geo}{V:VolS}{T:z0q}{ii k:Nat}
theorem ztc(fs:FS g V T T)(hz:T ii (lf k)≠0)(bs:List UInt8)(j x:Nat):fb g (V.write g (T ii (lf k) - 1) bs) T j x=if j=ii∧x / 64=k then bs[x%64]?.getD 0 else fb g V T j x:=by
 unfold fb;rw[zgt fs hz];by_cases e:j=ii∧x / 64=k
 ·rw[if_pos ⟨e.1,by rw[e.2]⟩,if_pos e]
 ·rw[if_neg fun h=>e ⟨h.1,z1al h.2⟩,if_neg e]
end
def z7u(p:Nat→Nat):Nat:=(List.range 75).countP fun s=>decide (p s≠0)
structure WInv(g:Geo)(V:VolS)(T:z0q)(n:Ino)(ii a at':Nat)(bs:List UInt8)(done c:Nat)(V1:VolS)(T1:z0q)(n1:Ino):Prop where
 fs:FS g V1 T1 T1
 roots:z4o n1 (T1 ii)
 same:∀j s,j≠ii→T1 j s=T j s
 keep:∀s,T ii s≠0→T1 ii s=T ii s
 nz:∀s,T1 ii s≠0↔T ii s≠0∨∃k,at' / 64≤k∧64 * k<at'+done∧0<done∧s∈z1l k
 fb:∀j x,fb g V1 T1 j x=if j=ii∧at'≤x∧x<at'+done then bs[x - at']?.getD 0 else fb g V T j x
 al:∃u,u≤3 * c∧V1.n.m=z2p g a u V.n.m∧z7u (T1 ii)=z7u (T ii)+u
 kp:Keeps V V1
 xt:Xt g ii a V T V1 T1
 node:n1.k=n.k∧n1.r=n.r∧n1.at 0=n.at 0∧n1.at 1=n.at 1
 cnt:(done=0∧c=0)∨(done=bs.length∧64 * c≤at'%64+done+63)∨((at'+done)%64=0∧64 * c=at'%64+done)
theorem zkl{k:Nat}(hk:k<60):(z1l k).Nodup:=by
 unfold z1l z6v rs;split
 ·simp[z2x]
 ·split
  ·simp[z2x,kid];omega
  ·rw[show(k - 40) / 32=0 by omega];simp[z2x,kid];omega
theorem ztd{k s:Nat}(hk:k<60)(h:s∈z1l k):s<75:=by
 rcases zj6 (zlj hk) h with h | h
 ·rw[h];exact zot (zlj hk)
 ·exact z4n h
theorem zl7:∀(n:Nat)(l:List Nat),l.Nodup→(∀x∈l,x<n)→(List.range n).countP (fun s=>decide (s∈l))=l.length
 | 0,l,_,h=>by
  cases l with
  | nil=>rfl
  | cons a l=>exact absurd (h a (List.mem_cons_self ..)) (by omega)
 | n+1,l,hn,h=>by
  rw[List.range_succ,List.countP_append,List.countP_singleton];have ih:=zl7 n (l.erase n) (hn.erase _) fun x hx=>by
   obtain⟨h1,h2⟩:=hn.mem_erase_iff.1 hx;have:=h x h2
   omega
  have e:(List.range n).countP (fun s=>decide (s∈l.erase n))=(List.range n).countP (fun s=>decide (s∈l)):=by
   refine List.countP_congr fun b hb=>?_;have:=List.mem_range.1 hb
   rw[decide_eq_true_iff,decide_eq_true_iff,hn.mem_erase_iff];exact⟨fun h=>h.2,fun h=>⟨by omega,h⟩⟩
  rw[e]at ih;rw[ih];by_cases hm:n∈l
  ·rw[if_pos (by simpa using hm),List.length_erase_of_mem hm];have:0<l.length:=List.length_pos_of_mem hm
   omega
  ·rw[if_neg (by simpa using hm),List.erase_of_not_mem hm];rfl
theorem zc9{α:Type}(p q:α→Bool):∀l:List α,l.countP (fun s=>p s || q s)=l.countP p+l.countP fun s => !p s&&q s
 | []=>rfl
 | x::l=>by
  rw[List.countP_cons,List.countP_cons,List.countP_cons,zc9 p q l];cases p x<;>cases q x<;>simp<;>omega
theorem zpy{p q:Nat→Nat}{k:Nat}(hk:k<60)(h:∀s,q s≠0↔p s≠0∨s∈z1l k):z7u q=z7u p+z5r p (z1l k):=by
 have e1:z7u q=(List.range 75).countP fun s=>decide (p s≠0) || decide (s∈z1l k):=by
  unfold z7u;refine List.countP_congr fun s _=>?_;simp only[Bool.or_eq_true,decide_eq_true_iff];exact h s
 rw[e1,zc9];congr 1;have e2:=zl7 75 ((z1l k).filter fun s=>decide (p s=0)) ((zkl hk).filter _) fun s hs=>ztd hk (List.mem_filter.1 hs).1;unfold z5r;rw[List.countP_eq_length_filter (l:=z1l k),←e2];refine List.countP_congr fun s _=>?_;simp[List.mem_filter,and_comm]
def wnz(p:Nat→Nat)(at' e:Nat)(s:Nat):Bool:=decide (p s≠0) || (List.range 60).any fun k=>decide (at' / 64≤k)&&(decide (64 * k<e)&&decide (s∈z1l k))
theorem zoh{p:Nat→Nat}{at' e s:Nat}:wnz p at' e s=true↔p s≠0∨∃k,k<60∧at' / 64≤k∧64 * k<e∧s∈z1l k:=by
 simp[wnz]
theorem zte(lo hi:Nat):∀n:Nat,(List.range n).countP (fun k=>decide (lo≤k)&&decide (k<hi))≤min n hi - lo
 | 0=>by simp
 | n+1=>by
  have ih:=zte lo hi n;rw[List.range_succ,List.countP_append,List.countP_singleton];split
  ·rename_i h;simp only[Bool.and_eq_true,decide_eq_true_iff]at h;omega
  ·rename_i h;simp only[Bool.and_eq_true,decide_eq_true_iff]at h;omega
theorem zpz(b:Nat→Bool):∀l:List Nat,(∀k∈l,k<60)→(List.range 75).countP (fun s=>l.any fun k=>b k&&decide (s∈z1l k))≤3 * l.countP b
 | [],_=>by simp
 | k::l,h=>by
  have ih:=zpz b l fun x hx=>h x (List.mem_cons_of_mem _ hx);have e:=zc9 (fun s=>b k&&decide (s∈z1l k)) (fun s=>l.any fun k=>b k&&decide (s∈z1l k)) (List.range 75);simp only[List.any_cons];rw[e,List.countP_cons];have h1:(List.range 75).countP (fun s => !(b k&&decide (s∈z1l k))&&l.any fun k=>b k&&decide (s∈z1l k))≤(List.range 75).countP (fun s=>l.any fun k=>b k&&decide (s∈z1l k)):=List.countP_mono_left fun s _ hs=>(Bool.and_eq_true _ _ ▸ hs).2;have h2:(List.range 75).countP (fun s=>b k&&decide (s∈z1l k))≤if b k=true then 3 else 0:=by
   cases hb:b k with
   | false=>simp
   | true=>
    have h3:=zl7 75 (z1l k) (zkl (h k (List.mem_cons_self ..))) fun s hs=>ztd (h k (List.mem_cons_self ..)) hs;simp only[Bool.true_and];rw[h3];exact Nat.le_trans (zub k) (by simp)
  split at h2
  ·rename_i hb;rw[if_pos hb];omega
  ·rename_i hb;rw[if_neg hb];omega
theorem z1a2{p:Nat→Nat}{at' n:Nat}:(List.range 75).countP (wnz p at' (at'+n))≤z7u p+3 * ((at'%64+n+63) / 64):=by
 have e:=zc9 (fun s=>decide (p s≠0)) (fun s=>(List.range 60).any fun k=>(decide (at' / 64≤k)&&decide (64 * k<at'+n))&&decide (s∈z1l k)) (List.range 75);have e2:(List.range 75).countP (wnz p at' (at'+n))=_:=(List.countP_congr fun s _=>by unfold wnz;simp only[Bool.and_assoc]).trans e;rw[e2];have h1:∀f:Nat→Bool,(List.range 75).countP (fun s => !decide (p s≠0)&&f s)≤(List.range 75).countP f:=fun f=>List.countP_mono_left fun s _ hs=>(Bool.and_eq_true _ _ ▸ hs).2;have h2:=zpz (fun k=>decide (at' / 64≤k)&&decide (64 * k<at'+n)) (List.range 60) fun k hk=>List.mem_range.1 hk;have h3:=zte (at' / 64) ((at'+n+63) / 64) 60;have h4:(List.range 60).countP (fun k=>decide (at' / 64≤k)&&decide (64 * k<at'+n))≤(List.range 60).countP (fun k=>decide (at' / 64≤k)&&decide (k<(at'+n+63) / 64)):=List.countP_mono_left fun k _ hk=>by
  simp only[Bool.and_eq_true,decide_eq_true_iff]at hk ⊢;omega
 have h5:=h1 fun s=>(List.range 60).any fun k=>(decide (at' / 64≤k)&&decide (64 * k<at'+n))&&decide (s∈z1l k);show z7u p+_≤_;omega
structure FellW(g:Geo)(V:VolS)(T:z0q)(ii at' e a:Nat)(E:Int)(V':VolS):Prop where
 al:∃m,z7u (T ii)+m<(List.range 75).countP (wnz (T ii) at' e)∧((z2p g a m V.n.m).alloc g a).1.2=E
 E:E≠0
 kp:Keeps V V'
 tr:∃T1,FS g V' T1 T1∧(∀j s,j≠ii→T1 j s=T j s)∧∀s,T ii s≠0→T1 ii s=T ii s
 ino:V'.n.m.ino=V.n.m.ino
section
variable{N:Nat}{β:Type}{l:List HA}{S:β→HA}{v d o:Nat}{g:Geo}{V V1:VolS}{T T1:z0q}{ii a at' done c:Nat}{i:Int}{n n1:Ino}{bs:List UInt8}{Tb:HA}
theorem z11e(h:WInv g V T n ii a at' bs done c V1 T1 n1){V2:VolS}{T2:z0q}{n2:Ino}{k f mm:Nat}(hd:done<bs.length)(hk:k=(at'+done) / 64)(hf:f=(at'+done)%64)(hm:mm=min (bs.length - done) (64 - f))(hk60:k<60)
  (M:Made g V1 T1 ii k a V2 T2) (hn2:n2=n1.put (z3h k - 4) (T2 ii (rs k):Nat)) (hr2:z4o n2 (T2 ii)) :
  WInv g V T n ii a at' bs (done+mm) (c+1) (V2.write g (T2 ii (lf k) - 1) (z90 (bk g V2 (T2 ii (lf k))) f ((bs.drop done).take mm))) T2 n2:=by
 have hz:T2 ii (lf k)≠0:=(M.nz _).2 (.inr (z12i hk60));have hl64:=zii M.fs ii (lf k);have hlen:((bs.drop done).take mm).length=mm:=by rw[List.length_take,List.length_drop];omega
 have hO:=zdr hk60;refine⟨M.fs.leaf (zjw k) hz (by rw[zih (by omega)];exact hl64),hr2,fun j s hj=>by rw[M.same j s hj,h.same j s hj],fun s hs=>by rw[M.keep s (by rw[h.keep s hs];exact hs),h.keep s hs],fun s=>?_,fun j x=>?_,?_,(h.kp.trans M.kp).trans (zca _ _ _),(h.xt.trans M.xt M.keep).trans (zed hz _) fun _ _=>rfl,?_,?_⟩
 ·rw[M.nz,h.nz,or_assoc];refine or_congr Iff.rfl ⟨?_,?_⟩
  ·rintro(⟨k',h1,h2,h3,h4⟩ | h1)
   ·exact⟨k',h1,by omega,by omega,h4⟩
   ·exact⟨k,by omega,by omega,by omega,h1⟩
  ·rintro⟨k',h1,h2,h3,h4⟩
   by_cases e:k'=k
   ·subst e;exact .inr h4
   ·exact .inl ⟨k',h1,by omega,by omega,h4⟩
 ·rw[ztc M.fs hz,zpx (by omega),hlen];have e1:Go.Moat.fb g V2 T2 j x=Go.Moat.fb g V1 T1 j x:=by
   unfold Go.Moat.fb;rw[M.bk j _ (zjw _)]
  have e2:=h.fb j x;by_cases hj:j=ii
  ·subst hj;by_cases hx:x / 64=k
   ·rw[if_pos ⟨rfl,hx⟩];by_cases hin:f≤x%64∧x%64<f+mm
    ·rw[if_pos hin,if_pos ⟨rfl,by omega,by omega⟩,List.getElem?_take,if_pos (by omega),List.getElem?_drop];congr 2;omega
    ·rw[if_neg hin];have e3:(Go.Moat.bk g V2 (T2 j (lf k)))[x%64]?.getD 0=Go.Moat.fb g V2 T2 j x:=by unfold Go.Moat.fb;rw[hx]
     rw[e3,e1,e2];by_cases h3:at'≤x∧x<at'+done
     ·rw[if_pos ⟨rfl,h3⟩,if_pos ⟨rfl,by omega,by omega⟩]
     ·rw[if_neg fun y=>h3 y.2,if_neg];rintro⟨_,y1,y2⟩
      omega
   ·rw[if_neg fun y=>hx y.2,e1,e2];by_cases h3:at'≤x∧x<at'+done
    ·rw[if_pos ⟨rfl,h3⟩,if_pos ⟨rfl,by omega,by omega⟩]
    ·rw[if_neg fun y=>h3 y.2,if_neg];rintro⟨_,y1,y2⟩
     omega
  ·rw[if_neg fun y=>hj y.1,e1,e2,if_neg fun y=>hj y.1,if_neg fun y=>hj y.1]
 ·obtain⟨u1,h1,e1,e3⟩:=h.al;have h2:=z18f (T1 ii) (z1l k);have h3:=zub k;exact⟨u1+z5r (T1 ii) (z1l k),by omega,by rw[z97,←e1];exact M.al,by rw[zpy hk60 M.nz,e3];omega⟩
 ·obtain⟨h1,h2,h3,h4⟩:=h.node;subst hn2;refine⟨h1,h2,?_,?_⟩
  ·rw[Ino.put_at _ hO.2.1,if_neg (by omega),h3]
  ·rw[Ino.put_at _ hO.2.1,if_neg (by omega),h4]
 ·rcases h.cnt with h1 | h1 | h1<;>omega
theorem z11f(hg:g.ok)(ha:a<65536)(hN:5000<N)(hmax:at'+bs.length≤3840) :
  ∀(K done c:Nat)(V1:VolS)(T1:z0q)(n1:Ino)(rest:Sl),bs.length - done<K→done≤bs.length→WInv g V T n ii a at' bs done c V1 T1 n1→RdC Tb rest 1 (bytesOf (bs.drop done)) →
  Tri (z00 [z0l v d g V1,pts o (.cells (z1k v i n1 a) false),Tb]) (z0e K (F_5i N (some ⟨v,0⟩) (some ⟨o,0⟩,0)) (((at'+done:Nat):Int),rest)) fun r=>exA fun x:VolS×z0q×Ino×Nat=>pu ((r=.inl ((at'+bs.length:Nat):Int)∧WInv g V T n ii a at' bs bs.length x.2.2.2 x.1 x.2.1 x.2.2.1)∨∃E,r=.inr E∧FellW g V T ii at' (at'+bs.length) a E x.1) (z00 [z0l v d g x.1,pts o (.cells (z1k v i x.2.2.1 a) false),Tb]):=by
 intro K;induction K with
 | zero=>intro done c V1 T1 n1 rest h;omega
 | succ K ih=>
  intro done c V1 T1 n1 rest hK hdl h hr;have hrl:=z4m hr;rw[List.length_drop]at hrl;rw[z13];unfold F_5i;by_cases hd:done<bs.length
  case neg=>
   obtain rfl:done=bs.length:=by omega
   exact z05 (by simp;omega) (z03 [0,0,0] fun q hq=>⟨(V1,T1,n1,c),.inl ⟨rfl,h⟩,hq⟩)
  refine z07 (by simp;omega) ?_;have ek:wr .i64 (((at'+done:Nat):Int).tdiv 64)=(((at'+done) / 64:Nat):Int):=by
   have e1:((at'+done:Nat):Int).tdiv 64=(((at'+done) / 64:Nat):Int):=rfl;rw[e1,z09 (by omega) (by omega)]
  have ef:((at'+done:Nat):Int).tmod 64=(((at'+done)%64:Nat):Int):=rfl;dsimp only;rw[ek,ef];obtain⟨k,hk⟩:∃k,k=(at'+done) / 64:=⟨_,rfl⟩;obtain⟨f,hf⟩:∃f,f=(at'+done)%64:=⟨_,rfl⟩;obtain⟨mm,hm⟩:∃mm,mm=min (bs.length - done) (64 - f):=⟨_,rfl⟩;rw[←hk,←hf];have hk60:k<60:=by omega
  refine z02 [0,0] (z12l (ii:=ii) hg ha hN h.fs h.roots hk60) fun r8=>z12 fun x=>z04 fun h8=>z01 ?_;obtain⟨V2,T2,n2⟩:=x;dsimp only[sel,rem,nth,del,cat,upd];by_cases h80:r8.2=0
  case neg=>
   obtain⟨eE,F⟩:=h8.2 h80;have F:Fell g V1 T1 T1 ii (z1l k) a V2:=F;refine z07 (by simp[h80]) (z03 [0,0,0] fun q hq=>⟨(V2,T1,n2,c),.inr ⟨r8.2,rfl,?_,h80,h.kp.trans F.kp,⟨T1,F.fs,h.same,h.keep⟩,by obtain⟨_,_,e1,_⟩:=h.al;obtain⟨_,_,e2,_⟩:=F.al;show V2.n.m.ino=_;rw[e2,z7t,e1,z7t]⟩,?_⟩)
   ·obtain⟨u1,h1,e1,e3⟩:=h.al;obtain⟨m,h2,e2,_⟩:=F.al;refine⟨u1+m,?_,by rw[z97,←e1,←e2];exact eE.symm⟩;have e4:z7u (T1 ii)+z5r (T1 ii) (z1l k)≤(List.range 75).countP (wnz (T ii) at' (at'+bs.length)):=by
     have e5:=zpy (p:=T1 ii) (q:=fun s=>if T1 ii s≠0∨s∈z1l k then 1 else 0) hk60 fun s=>by
      split<;>rename_i hx
      ·simp[hx]
      ·simp[hx]
     rw[←e5];unfold z7u;refine List.countP_mono_left fun s _ hs=>?_;rw[decide_eq_true_iff]at hs;rw[zoh];have hs2:T1 ii s≠0∨s∈z1l k:=by
      refine Decidable.byContradiction fun c=>hs ?_;exact if_neg c
     rcases hs2 with hs2 | hs2
     ·rcases(h.nz s).1 hs2 with hs3 | ⟨k',h3,h4,h5,h6⟩
      ·exact .inl hs3
      ·exact .inr ⟨k',by omega,h3,by omega,h6⟩
     ·exact .inr ⟨k,hk60,by omega,by omega,hs2⟩
    omega
   ·exact hq
  obtain⟨e8,M,hn2,hr2⟩:=h8.1 h80;have e8:r8.1=(T2 ii (lf k):Nat):=e8;have M:Made g V1 T1 ii k a V2 T2:=M;have W:=z11e h hd hk hf hm hk60 M hn2 hr2;have hz:T2 ii (lf k)≠0:=(M.nz _).2 (.inr (z12i hk60));have hle:=M.fs.le ii (lf k);have hnum:=M.fs.num hg ii (lf k);have hl64:=zii M.fs ii (lf k);have ebk:bk g V2 (T2 ii (lf k))=V2.readB g ((T2 ii (lf k) - 1:Nat):Int):=by unfold bk;rw[if_neg hz]
  refine z05 (by simp[h80]) ?_;have ep:wr .i64 (r8.1 - 1)=((T2 ii (lf k) - 1:Nat):Int):=by
   rw[e8,z09 (by omega) (by omega)];omega
  rw[ep];have hre:=M.fs.ok.re (T2 ii (lf k) - 1) (by omega);refine z02 [0] (zdh hg _) fun r9=>z04 fun h9=>z01 ?_;rw[hre]at h9;rw[if_pos hre,←ebk];dsimp only[sel,rem,nth,del,cat,upd];refine z05 (by simp[h9]) ?_;obtain⟨s9,e9⟩:=r9;dsimp only[sel,rem,nth,del,cat,upd];refine z93 1 rfl (fun _ h0=>?_) fun b9 ln9 h0 hl9=>?_
  ·have:=congrArg List.length h0
   rw[z0d,hl64]at this;simp at this
  subst h0;rw[z0d,hl64]at hl9;obtain rfl:ln9=64:=by omega
  refine z3t (by omega) (by simp;omega) (by simp) ?_;rw[Int.toNat_natCast,Int.toNat_natCast];have es:z2w 1 (⟨some ⟨b9,0⟩,64⟩:Sl) f 64=⟨some ⟨b9,f⟩,64 - f⟩:=by
   unfold z2w;simp[MA.add]
  rw[es];refine z02 [1,2] (zdn (o:=f) (k:=64 - f) hr (by rw[z0d,hl64];omega) (bytes_cell _) (by omega)) fun n11=>z04 fun h11=>z01 ?_;have e11:min rest.len (64 - f)=mm:=by omega
  rw[e11]at h11 ⊢;rw[h11];have eo:z11 (bytesOf (bk g V2 (T2 ii (lf k)))) f ((bytesOf (bs.drop done)).take (mm * 1))=bytesOf (z90 (bk g V2 (T2 ii (lf k))) f ((bs.drop done).take mm)):=by
   rw[Nat.mul_one,←zkk];congr 1;unfold bytesOf;rw[List.map_take]
  rw[eo];have hlen:((bs.drop done).take mm).length=mm:=by rw[List.length_take,List.length_drop];omega
  have hX:(z90 (bk g V2 (T2 ii (lf k))) f ((bs.drop done).take mm)).length=64:=by rw[zih (by omega)];exact hl64
  have hw:V2.writeE g ((T2 ii (lf k) - 1:Nat):Int) (z90 (bk g V2 (T2 ii (lf k))) f ((bs.drop done).take mm))=0:=by
   unfold VolS.writeE MetaS.usedE;rw[if_pos hX,if_pos (by omega),Int.toNat_natCast,if_pos (M.fs.used ii _ hz)]
  refine z02 [2,0] (zce hg M.fs.ok.inv.ok _ (s:=⟨some ⟨b9,0⟩,64⟩) (rd_pts0 (by rw[z0d,hX])) (by omega)) fun r12=>z04 fun h12=>z01 ?_;rw[hw]at h12;rw[if_pos hw,Int.toNat_natCast];dsimp only[sel,rem,nth,del,cat,upd];refine z05 (by simp[h12]) ?_;refine z3t (by omega) (by omega) (by omega) ?_;rw[Int.toNat_natCast,Int.toNat_natCast];have er:wr .i64 (((at'+done:Nat):Int)+(mm:Nat))=((at'+(done+mm):Nat):Int):=by
   rw[z09 (by omega) (by omega)];omega
  rw[er];have hr':RdC Tb (z2w 1 rest mm rest.len) 1 (bytesOf (bs.drop (done+mm))):=by
   have:=zbm hr (lo:=mm) (hi:=rest.len) (by omega) (by omega)
   rw[List.drop_drop,List.take_of_length_le (by rw[List.length_drop];omega)]at this;exact this
  exact z1u [0,2,1] (ih (done+mm) (c+1) _ T2 n2 _ (by omega) (by omega) W hr')
theorem FellW.no{at' k:Nat}{E:Int}{V':VolS}(F:FellW g V T ii at' (at'+k) a E V')(hroom:zd6 g a (3 * ((at'%64+k+63) / 64)) V.n.m):False:=by
 obtain⟨m,h1,h2⟩:=F.al;have h3:=z1a2 (p:=T ii) (at':=at') (n:=k);exact absurd (hroom m (by omega)) (by rw[h2];exact F.E)
end
end Go.Moat

/- Layer 16: Write. -/
namespace Go.Moat
open Go.Mini
structure FV(g:Geo)(V:VolS)(T:z0q):Prop where
 fs:FS g V T T
 roots:∀i,z4o (z15 V.n.m.ino i) (T i)
structure Wrote(g:Geo)(V:VolS)(T:z0q)(ii at':Nat)(bs:List UInt8)(V':VolS)(T':z0q):Prop where
 fv:FV g V' T'
 same:∀j s,j≠ii→T' j s=T j s
 keep:∀s,T ii s≠0→T' ii s=T ii s
 nz:∀s,T' ii s≠0↔T ii s≠0∨∃k,at' / 64≤k∧64 * k<at'+bs.length∧0<bs.length∧s∈z1l k
 fb:∀j x,fb g V' T' j x=if j=ii∧at'≤x∧x<at'+bs.length then bs[x - at']?.getD 0 else fb g V T j x
 al:∃u n',u≤3 * ((at'%64+bs.length+63) / 64)∧V'.n.m=(z2p g (V.n.m.inodeL ii) u V.n.m).set ii n'∧n'.k=(z15 V.n.m.ino ii).k∧n'.r=(z15 V.n.m.ino ii).r∧n'.at 0=(z15 V.n.m.ino ii).at 0∧n'.at 1=max ((z15 V.n.m.ino ii).at 1) ((at'+bs.length:Nat):Int)
 kp:Keeps V V'
 xt:Xt g ii (V.n.m.inodeL ii) V T V' T'
section
variable{N:Nat}{β:Type}{l:List HA}{S:β→HA}{v d o:Nat}{g:Geo}{V:VolS}{T P:z0q}{ii a at':Nat}{n:Ino}{bs:List UInt8}{Tb:HA}{s:Sl}
theorem FS.wM(h:FS g V T P){m:MetaS}(hi:Inv g m)(hu:m.used=V.n.m.used):FS g (V.wM m) T P:=
 ⟨h.ok.wM hi (fun b _ hb=>by rw[hu]at hb;exact hb),h.le,h.out,h.inj,fun i s hz=>by rw[show(V.wM m).n.m.used=m.used from rfl,hu];exact h.used i s hz,h.tab,h.l64,h.pout⟩
theorem z1b4(g:Geo)(V:VolS)(m:MetaS)(p:Nat):bk g (V.wM m) p=bk g V p:=rfl
theorem z12m{p:Nat→Nat}(hr:z4o n p)(hp:∀s,p s≤512){i:Nat}(h2:2≤i)(hi:i<12):0≤n.at i∧n.at i≤512:=by
 obtain⟨k,hk,e⟩:∃k,k<60∧z3h k - 4=i:=by
  by_cases h10:i<10
  ·exact⟨i - 2,by omega,by unfold z3h;rw[if_pos (by omega)];omega⟩
  ·by_cases h:i=10
   ·exact⟨8,by omega,by rw[h];rfl⟩
   ·exact⟨40,by omega,by rw[show i=11 by omega];rfl⟩
 have:=hr k hk
 rw[e]at this;have h5:=hp (rs k);omega
theorem z5k{l:List Ino}{i:Nat}(hi:i<l.length)(x:Ino)(j:Nat):z15 (l.set i x) j=if j=i then x else z15 l j:=by
 unfold z15;rw[List.getElem?_set];by_cases e:i=j
 ·subst e;rw[if_pos rfl,if_pos hi,if_pos rfl];rfl
 ·rw[if_neg e,if_neg fun h=>e h.symm]
theorem zg3{m:MetaS}(h:m.hasE (ii:Int)=0):ii<m.ino.length∧(z15 m.ino ii).k≠0:=by
 unfold MetaS.hasE at h;split at h
 ·rename_i h1;refine⟨by omega,fun e=>?_⟩;rw[Int.toNat_natCast,if_pos e]at h;cases h
 ·cases h
theorem zds(hok:MetaOk g V.n.m)(h:V.n.m.hasE (ii:Int)=0):(z15 V.n.m.ino ii).Ok:=by
 have h1:=(zg3 h).1;unfold z15;rw[List.getElem?_eq_getElem h1];exact hok.inok _ (List.getElem_mem h1)
theorem zag(h:V.n.m.hasE (ii:Int)=0):V.n.m.inodeN ii=z15 V.n.m.ino ii:=by
 unfold MetaS.inodeN;rw[if_pos h,Int.toNat_natCast]
theorem zuc(hg:g.ok)(fs:FS g V T T){n1 n2:Ino}{T0:z0q}(h0:∀j,j≠ii→z4o (z15 V.n.m.ino j) (T j))(hr:z4o n1 (T ii))(hE:V.n.m.hasE (ii:Int)=0)(hk:n1.k=(z15 V.n.m.ino ii).k)(hrr:n1.r=(z15 V.n.m.ino ii).r)(ha:n1.at 0=(z15 V.n.m.ino ii).at 0){sz:Int}(h1:0≤sz)(h2:sz≤3840) :
  V.n.m.setE (ii:Int) (n1.put 1 sz)=0∧FV g (V.wM (V.n.m.set ii (n1.put 1 sz))) T:=by
 have hlt:=zg3 hE;have hok:=zds fs.ok.inv.ok hE;have n2ok:(n1.put 1 sz).ok=true:=by
  refine Ino.ok_iff.2 ⟨?_,?_,?_,?_,?_,?_,?_,?_⟩
  ·show n1.k<3;rw[hk];exact hok.k
  ·intro h;have:n1.k=0:=h
   rw[hk]at this;exact absurd this hlt.2
  ·show n1.r<16;rw[hrr];exact hok.r
  ·rw[Ino.put_at _ (by omega),if_neg (by omega),ha];exact hok.l0
  ·rw[Ino.put_at _ (by omega),if_neg (by omega),ha];exact hok.l1
  ·rw[Ino.put_at _ (by omega),if_pos rfl];exact h1
  ·rw[Ino.put_at _ (by omega),if_pos rfl];exact h2
  ·intro i hi2 hi12;rw[Ino.put_at _ (by omega),if_neg (by omega)];exact z12m hr (fun s=>fs.num hg ii s) hi2 hi12
 have hs:V.n.m.setE (ii:Int) (n1.put 1 sz)=0:=by
  unfold MetaS.setE;rw[hE,if_neg (by decide),if_neg,if_neg (by simp),if_neg]
  ·rintro(h | h)
   ·exact h (by rw[Int.toNat_natCast];exact hk)
   ·exact h (by rw[Int.toNat_natCast];exact hrr)
  ·rintro(h | h)
   ·rw[n2ok]at h;cases h
   ·exact hlt.2 (by rw[←hk];exact h)
 have hi:=(z18e hg fs.ok.inv hs).1;refine⟨hs,fs.wM hi rfl,fun j=>?_⟩;show z4o (z15 (V.n.m.ino.set ii (n1.put 1 sz)) j) (T j);rw[z5k hlt.1];by_cases e:j=ii
 ·subst e;rw[if_pos rfl];intro k hk;rw[Ino.put_at _ (by omega),if_neg (by have:=zdr hk;omega)];exact hr k hk
 ·rw[if_neg e];exact h0 j e
def wE(m:MetaS)(i at':Int)(k:Nat):Int:=if m.hasE i≠0 then m.hasE i else if at'<0 then 1 else if 3840<at'∨3840 - at'<(k:Int)then 4 else 0
theorem z12n{x:Int}(h:0≤x)(h2:x<2^63):wr .i64 ((3840:Int) - x)=3840 - x:=by
 rw[z09 (by omega) (by omega)]
theorem zks(hg:g.ok)(ok:MetaOk g V.n.m){i at':Int}(hat:at'<2^63)(hs:s.len=bs.length)(h:wE V.n.m i at' bs.length≠0∨bs=[]) :
  Tri (z00 [z0l v d g V]) (F_01 N (some ⟨v,0⟩) i at' s) fun r=>pu (r=wE V.n.m i at' bs.length) (z00 [z0l v d g V]):=by
 unfold wE at h ⊢;unfold F_01;refine z02 [0] (z96 hg ok i) fun r5=>z12 fun o=>z04 fun h5=>z01 ?_;by_cases hE:V.n.m.hasE i=0
 case neg=>
  rw[if_neg hE]at h5;subst h5;refine z07 (by simpa using hE) (z03 [0] fun q hq=>⟨?_,hq⟩);rw[if_pos hE]
 rw[if_pos hE]at h5 ⊢;subst h5;have hE':¬(V.n.m.hasE i≠0):=fun c=>c hE;simp only[if_neg hE']at h ⊢;refine z05 (by simp) ?_;by_cases h0:at'<0
 ·rw[if_pos h0];exact z07 (by simpa using h0) (z03 [0] fun q hq=>⟨rfl,hq⟩)
 rw[if_neg h0]at h ⊢;refine z05 (by simpa using h0) ?_;rw[z12n (by omega) hat,hs];by_cases h4:3840<at'∨3840 - at'<(bs.length:Int)
 ·rw[if_pos h4];exact z07 (by simpa using h4) (z03 [0] fun q hq=>⟨rfl,hq⟩)
 rw[if_neg h4]at h ⊢;have hb:bs=[]:=by
  rcases h with h | h
  ·exact absurd rfl h
  ·exact h
 subst hb;refine z05 (by simpa using h4) (z07 (by simp) (z03 [0] fun q hq=>⟨rfl,hq⟩))
theorem znn(hg:g.ok)(hN:5000<N)(F:FV g V T)(hE:V.n.m.hasE (ii:Int)=0)(hmax:at'+bs.length≤3840)(hne:bs≠[])(hr:RdC Tb s 1 (bytesOf bs))(ha:V.n.m.inodeL ii<65536) :
  Tri (z00 [z0l v d g V,Tb]) (F_01 N (some ⟨v,0⟩) (ii:Int) (at':Int) s) fun r=>exA fun x:VolS×z0q=>pu ((r=0∧Wrote g V T ii at' bs x.1 x.2)∨FellW g V T ii at' (at'+bs.length) (V.n.m.inodeL ii) r x.1) (z00 [z0l v d g x.1,Tb]):=by
 have hlen:=z4m hr;have hpos:0<bs.length:=List.length_pos_iff.2 hne;have hlt:=zg3 hE;have hok:=zds F.fs.ok.inv.ok hE;unfold F_01;refine z02 [0] (z96 hg F.fs.ok.inv.ok (ii:Int)) fun r5=>z12 fun o=>z04 fun h5=>z01 ?_;rw[if_pos hE]at h5 ⊢;rw[zag hE];subst h5;dsimp only[sel,rem,nth,del,cat,upd];refine z05 (by simp) ?_;refine z05 (by simp) ?_;rw[z12n (by omega) (by omega)];refine z05 (by simp;omega) ?_;refine z05 (by simp;omega) ?_;have W0:WInv g V T (z15 V.n.m.ino ii) ii (V.n.m.inodeL ii) at' bs 0 0 V T (z15 V.n.m.ino ii):=by
  refine⟨F.fs,F.roots ii,fun _ _ _=>rfl,fun _ _=>rfl,fun s=>?_,fun j x=>?_,⟨0,by omega,rfl,rfl⟩,z4q V,Xt.rfl',⟨rfl,rfl,rfl,rfl⟩,.inl ⟨rfl,rfl⟩⟩
  ·constructor
   ·exact .inl
   ·rintro(h | ⟨k,_,_,h,_⟩)
    ·exact h
    ·omega
  ·rw[if_neg];rintro⟨_,_,_⟩
   omega
 refine z02 [0,0,0] (z11f (i:=(ii:Int)) hg ha hN hmax N 0 0 V T (z15 V.n.m.ino ii) s (by omega) (by omega) W0 (by rw[List.drop_zero];exact hr)) fun j14=>z12 fun x=>z04 fun hj=>z01 ?_;obtain⟨V1,T1,n1,c⟩:=x;rcases hj with⟨hj,W⟩ | ⟨E,hj,W⟩
 case inr=>
  subst hj;exact z03 [0,1] fun q hq=>⟨(V1,T1),.inr W,hq⟩
 have W:WInv g V T (z15 V.n.m.ino ii) ii (V.n.m.inodeL ii) at' bs bs.length c V1 T1 n1:=W;subst hj;dsimp only[sel,rem,nth,del,cat,upd];obtain⟨w1,w2,w3,w4⟩:=W.node;obtain⟨u,hu,eu,_⟩:=W.al;have eino:V1.n.m.ino=V.n.m.ino:=by rw[eu,z7t]
 refine z0r (z0b (z0b (tri_ldI 1 rfl (z7f (n:=n1) (j:=1) (by omega)) ?_)));rw[w4];refine z0r (z0b (z0b (z21 1 rfl (by rw[z7j];omega) rfl ?_)));rw[show 0+2+3=4+1 from rfl,zaf v _ n1 _ (by omega)];have emax:(if(z15 V.n.m.ino ii).at 1<((at'+bs.length:Nat):Int)then((at'+bs.length:Nat):Int)else(z15 V.n.m.ino ii).at 1)=max ((z15 V.n.m.ino ii).at 1) ((at'+bs.length:Nat):Int):=by
  split<;>omega
 rw[emax];have hs0:=hok.s0;have hs1:=hok.s1;have hE1:V1.n.m.hasE (ii:Int)=0:=by
  unfold MetaS.hasE;rw[eino];exact hE
 obtain⟨hset,fv⟩:=zuc (V:=V1) (n2:=n1) (T0:=T1) hg W.fs (n1:=n1) (sz:=max ((z15 V.n.m.ino ii).at 1) ((at'+bs.length:Nat):Int)) (fun j hj=>by
  rw[eino];intro k hk;rw[W.same j _ hj];exact F.roots j k hk) W.roots hE1 (by rw[eino];exact w1) (by rw[eino];exact w2) (by rw[eino];exact w3) (by omega) (by omega)
 refine z02 [0,0] (zqd hg W.fs.ok.inv.ok hN) fun r24=>z04 fun h24=>z01 ?_;rw[hset]at h24;rw[if_pos hset,Int.toNat_natCast];dsimp only[sel,rem,nth,del,cat,upd];refine z03 [0,1] fun q hq=>⟨(V1.wM (V1.n.m.set ii (n1.put 1 (max ((z15 V.n.m.ino ii).at 1) ((at'+bs.length:Nat):Int)))),T1),.inl ⟨h24,fv,W.same,W.keep,W.nz,W.fb,⟨u,n1.put 1 (max ((z15 V.n.m.ino ii).at 1) ((at'+bs.length:Nat):Int)),?_,?_,w1,w2,?_,?_⟩,W.kp.trans (zgs _ _),⟨W.xt.full,W.xt.dk,W.xt.own⟩⟩,hq⟩
 ·have h3:=W.cnt;have:c≤(at'%64+bs.length+63) / 64:=by
   rcases h3 with h | h | h<;>omega
  omega
 ·show V1.n.m.set ii _=_;rw[eu]
 ·rw[Ino.put_at _ (by omega),if_neg (by omega)];exact w3
 ·rw[Ino.put_at _ (by omega),if_pos rfl]
theorem zvr(hg:g.ok)(hN:5000<N)(F:FV g V T)(hE:V.n.m.hasE (ii:Int)=0)(hmax:at'+bs.length≤3840)(hne:bs≠[])(hr:RdC Tb s 1 (bytesOf bs))(ha:V.n.m.inodeL ii<65536)(hroom:zd6 g (V.n.m.inodeL ii) (3 * ((at'%64+bs.length+63) / 64)) V.n.m) :
  Tri (z00 [z0l v d g V,Tb]) (F_01 N (some ⟨v,0⟩) (ii:Int) (at':Int) s) fun r=>exA fun x:VolS×z0q=>pu (r=0∧Wrote g V T ii at' bs x.1 x.2) (z00 [z0l v d g x.1,Tb]):=
 (znn hg hN F hE hmax hne hr ha).post fun r q ⟨x,hx,hq⟩=>⟨x,hx.elim id fun F=>(F.no hroom).elim,hq⟩
end
end Go.Moat

/- Layer 16: Read. -/
namespace Go.Moat
open Go.Mini
def z5s(f:Nat→UInt8)(at' n:Nat):List UInt8:=(List.range n).map fun j=>f (at'+j)
theorem z7k(f:Nat→UInt8)(at' n:Nat):(z5s f at' n).length=n:=by simp[z5s]
theorem zah(f:Nat→UInt8)(at' n:Nat){j:Nat}(h:j<n):(z5s f at' n)[j]? = some (f (at'+j)):=by simp[z5s,h]
theorem z12o(f:Nat→UInt8)(at' n m:Nat):z5s f at' (n+m)=z5s f at' n++z5s f (at'+n) m:=by
 apply List.ext_getElem?;intro j;by_cases h:j<n
 ·rw[List.getElem?_append_left (by rw[z7k];exact h),zah _ _ _ h,zah _ _ _ (by omega)]
 ·rw[List.getElem?_append_right (by rw[z7k];omega),z7k];by_cases h2:j<n+m
  ·rw[zah _ _ _ h2,zah _ _ _ (by omega)];congr 2;omega
  ·rw[List.getElem?_eq_none (by rw[z7k];omega),List.getElem?_eq_none (by rw[z7k];omega)]
def rE(m:MetaS)(i at' n:Int):Int:=if m.hasE i≠0 then m.hasE i else if at'<0∨n<0 then 1 else 0
def z1z(m:MetaS)(i:Nat):Nat:=((z15 m.ino i).at 1).toNat
def rN(m:MetaS)(i at' n:Int):Nat:=if rE m i at' n=0 then min n.toNat (z1z m i.toNat - at'.toNat)else 0
section
variable{N:Nat}{β:Type}{l:List HA}{S:β→HA}{v d o:Nat}{g:Geo}{V:VolS}{T P:z0q}{ii a at':Nat}{n:Ino}{bs:List UInt8}{s:Sl}{i:Int}
theorem z15t(fs:FS g V T T){x m:Nat}(hm:m≤64 - x%64):((bk g V (T ii (lf (x / 64)))).drop (x%64)).take m=z5s (fb g V T ii) x m:=by
 have hl:=zii fs ii (lf (x / 64));apply List.ext_getElem?;intro j;by_cases h:j<m
 ·rw[zah _ _ _ h,List.getElem?_take,if_pos h,List.getElem?_drop];unfold fb;rw[show(x+j) / 64=x / 64 by omega,show(x+j)%64=x%64+j by omega,List.getElem?_eq_getElem (by omega)];rfl
 ·rw[List.getElem?_eq_none (by rw[List.length_take];omega),List.getElem?_eq_none (by rw[z7k];omega)]
theorem zz7(hg:g.ok)(fs:FS g V T T)(hr:z4o n (T ii)){k:Nat}(hk:k<60)(hN:5000<N) :
  Tri (z00 [z0l v d g V,pts o (.cells (z1k v i n a) false)]) (F_30 N (some ⟨o,0⟩) (k:Int)) fun r=>pu (r.2=0) (z00 [z06 r.1 1 (bytesOf (bk g V (T ii (lf k)))),z0l v d g V,pts o (.cells (z1k v i n a) false)]):=by
 have hle:=fs.le ii (lf k);have hnum:=fs.num hg ii (lf k);unfold F_30;refine z02 [0,0] (zj4 hg hk (hr k hk) (zou hg fs hk) hN) fun r3=>z04 fun h3=>z01 ?_;subst h3;dsimp only[sel,rem,nth,del,cat,upd];unfold bk;by_cases hz:T ii (lf k)=0
 ·rw[if_pos hz];refine z07 (by simp[hz]) (z85 64 (by omega) fun b=>z03 [0,0,0] fun q hq=>⟨rfl,?_⟩);exact z4r (.cons (fun _ k =>.mk (by rw[z0d];rfl) k) (.cons (fun _ k=>k) (.cons (fun _ k=>k) .nil))) q hq
 ·rw[if_neg hz];refine z05 (by simp;omega) ?_;refine z0r (z0b (z3r 1 rfl rfl ?_));have ep:wr .i64 ((T ii (lf k):Int) - 1)=((T ii (lf k) - 1:Nat):Int):=by
   rw[z09 (by omega) (by omega)];omega
  rw[ep];have hre:=fs.ok.re (T ii (lf k) - 1) (by omega);refine z02 [0] (zdh hg _) fun r7=>z04 fun h7=>z01 ?_;rw[hre]at h7;rw[if_pos hre];dsimp only[sel,rem,nth,del,cat,upd];exact z03 [1,0,0] fun q hq=>⟨h7,hq⟩
theorem z12p(hg:g.ok)(hN:5000<N)(fs:FS g V T T)(hr:z4o n (T ii)){y nn:Int}{tot:Nat}(hy:(at':Int)<y)(hy2:y≤3840)(hn:0≤nn)(htot:(tot:Int)=min nn (y - at')) :
  ∀(K done:Nat)(out:Sl),tot - done<K→done≤tot →
  Tri (z00 [z06 out 1 (bytesOf (z5s (fb g V T ii) at' done)),z0l v d g V,pts o (.cells (z1k v i n a) false)]) (z0e K (F_3p N (at':Int) nn (some ⟨o,0⟩,0) y) (((at'+done:Nat):Int),out)) fun r=>exA fun s:Sl=>pu (r=.inl s) (z00 [z06 s 1 (bytesOf (z5s (fb g V T ii) at' tot)),z0l v d g V,pts o (.cells (z1k v i n a) false)]):=by
 have hend:wr .i64 ((at':Int)+(if wr .i64 (y - (at':Int))<nn then wr .i64 (y - (at':Int))else nn))=((at'+tot:Nat):Int):=by
  rw[z09 (n:=y - (at':Int)) (by omega) (by omega)];split
  ·rw[z09 (by omega) (by omega)];omega
  ·rw[z09 (by omega) (by omega)];omega
 intro K;induction K with
 | zero=>intro done out h;omega
 | succ K ih=>
  intro done out hK hdl;rw[z13];generalize z0e K (F_3p N (at':Int) nn (some ⟨o,0⟩,0) y)=go at ih ⊢;unfold F_3p;dsimp only;rw[hend];by_cases hd:done<tot
  case neg=>
   obtain rfl:done=tot:=by omega
   exact z05 (by simp) (z03 [0,0,0] fun q hq=>⟨out,rfl,hq⟩)
  refine z07 (by simp;omega) ?_;have ek:wr .i64 (((at'+done:Nat):Int).tdiv 64)=(((at'+done) / 64:Nat):Int):=by
   have e1:((at'+done:Nat):Int).tdiv 64=(((at'+done) / 64:Nat):Int):=rfl;rw[e1,z09 (by omega) (by omega)]
  have ef:((at'+done:Nat):Int).tmod 64=(((at'+done)%64:Nat):Int):=rfl;rw[ek,ef];have hm:∃mm:Nat,(if wr .i64 (((at'+tot:Nat):Int) - ((at'+done:Nat):Int))<wr .i64 (64 - (((at'+done)%64:Nat):Int))then wr .i64 (((at'+tot:Nat):Int) - ((at'+done:Nat):Int))else wr .i64 (64 - (((at'+done)%64:Nat):Int)))=(mm:Int)∧mm=min (tot - done) (64 - (at'+done)%64):=by
   refine⟨_,?_,rfl⟩;rw[z09 (n:=((at'+tot:Nat):Int) - ((at'+done:Nat):Int)) (by omega) (by omega),z09 (n:=64 - (((at'+done)%64:Nat):Int)) (by omega) (by omega)];split<;>omega
  obtain⟨mm,em,hmm⟩:=hm;rw[em];refine z02 [1,1] (zz7 (ii:=ii) hg fs hr (k:=(at'+done) / 64) (by omega) hN) fun r12=>z04 fun h12=>z01 ?_;dsimp only[sel,rem,nth,del,cat,upd];refine z05 (by simp[h12]) ?_;refine z0c 0 rfl fun l12=>?_;refine z0c 3 rfl fun lo=>?_;rw[z0d,z7k]at lo;have hbl:=zii fs ii (lf ((at'+done) / 64));rw[z0d,hbl]at l12;have e2:wr .i64 ((((at'+done)%64:Nat):Int)+(mm:Int))=(((at'+done)%64+mm:Nat):Int):=by
   rw[z09 (by omega) (by omega)];omega
  rw[e2];refine z3t (by omega) (by omega) (by omega) ?_;rw[Int.toNat_natCast,Int.toNat_natCast];have hsub:=zbm (z0k (s:=r12.1) (cs:=bytesOf (bk g V (T ii (lf ((at'+done) / 64))))) (by rw[z0d,hbl];omega)) (lo:=(at'+done)%64) (hi:=(at'+done)%64+mm) (by omega) (by omega);rw[show(at'+done)%64+mm - (at'+done)%64=mm by omega,z15t fs (by omega)]at hsub;have hmost:most=70368744177664:=rfl;refine z02 [3,0] (z3a (s:=out) (by':=1) hsub (by omega) (bytes_cell _) (by
   show(out.len+((at'+done)%64+mm - (at'+done)%64)) * 1≤most;omega)) fun o2=>z01 ?_
  dsimp only[sel,rem,nth,del,cat,upd];have e3:wr .i64 (((at'+done:Nat):Int)+(mm:Int))=((at'+(done+mm):Nat):Int):=by
   rw[z09 (by omega) (by omega)];omega
  rw[e3];refine z1u [0,1,1] (Tri.pre (ih (done+mm) o2 (by omega) (by omega)) fun q hq=>z4k (fun q h=>?_) hq);have e4:bytesOf (z5s (fb g V T ii) at' done)++bytesOf (z5s (fb g V T ii) (at'+done) mm)=bytesOf (z5s (fb g V T ii) at' (done+mm)):=by
   rw[z12o];simp[bytesOf]
  rw[←e4];exact h
theorem zhb(hg:g.ok)(hN:5000<N)(F:FV g V T){i at' n:Int}(hat:at'<2^63) :
  Tri (z00 [z0l v d g V]) (F_0h N (some ⟨v,0⟩) i at' n) fun r=>pu (r.2=rE V.n.m i at' n) (z00 [z06 r.1 1 (bytesOf (z5s (fb g V T i.toNat) at'.toNat (rN V.n.m i at' n))),z0l v d g V]):=by
 have enil:∀f k,bytesOf (z5s f k 0)=[]:=fun _ _=>rfl;unfold F_0h;refine z02 [0] (z96 hg F.fs.ok.inv.ok i) fun r5=>z12 fun o=>z04 fun h5=>z01 ?_;by_cases hE:V.n.m.hasE i=0
 case neg=>
  rw[if_neg hE]at h5;subst h5;have er:rE V.n.m i at' n=V.n.m.hasE i:=by unfold rE;rw[if_pos hE]
  have en:rN V.n.m i at' n=0:=by unfold rN;rw[er,if_neg hE]
  rw[en,enil,er];exact z07 (by simpa using hE) (z03 [0] fun q hq=>⟨rfl,z2h (fun q h =>.nil 1 h) hq⟩)
 rw[if_pos hE]at h5 ⊢;subst h5;dsimp only[sel,rem,nth,del,cat,upd];refine z05 (by simp) ?_;by_cases hneg:at'<0∨n<0
 ·have er:rE V.n.m i at' n=1:=by unfold rE;rw[if_neg (by simpa using hE),if_pos hneg]
  have en:rN V.n.m i at' n=0:=by unfold rN;rw[er,if_neg (by decide)]
  rw[en,enil,er];exact z07 (by simpa using hneg) (z03 [0] fun q hq=>⟨rfl,z2h (fun q h =>.nil 1 h) hq⟩)
 refine z05 (by simpa using hneg) ?_;rw[not_or]at hneg;have er:rE V.n.m i at' n=0:=by unfold rE;rw[if_neg (by simpa using hE),if_neg (by omega)]
 have hi:i=((i.toNat:Nat):Int):=by
  unfold MetaS.hasE at hE;split at hE
  ·omega
  ·cases hE
 obtain⟨ii,rfl⟩:∃k:Nat,i=k:=⟨_,hi⟩;obtain⟨x,rfl⟩:∃k:Nat,at'=k:=⟨at'.toNat,by omega⟩;rw[zag hE];have hok:=zds F.fs.ok.inv.ok hE;have h0:=hok.s0;have h1:=hok.s1;refine z0r (z0b (z0b (tri_ldI 1 rfl (z7f (n:=z15 V.n.m.ino ii) (j:=1) (by omega)) ?_)));have en:rN V.n.m ii x n=min n.toNat (((z15 V.n.m.ino ii).at 1).toNat - x):=by
  unfold rN;rw[er,if_pos rfl];rfl
 rw[en,er,Int.toNat_natCast,Int.toNat_natCast];by_cases hge:(z15 V.n.m.ino ii).at 1≤(x:Int)
 ·have e0:min n.toNat (((z15 V.n.m.ino ii).at 1).toNat - x)=0:=by omega
  rw[e0,enil];exact z07 (by simpa using hge) (z03 [0] fun q hq=>⟨rfl,z2h (fun q h =>.nil 1 h) hq⟩)
 refine z05 (by simpa using hge) ?_;refine z02 [0,0] ((z12p (i:=(ii:Int)) (ii:=ii) (nn:=n) (y:=(z15 V.n.m.ino ii).at 1) (tot:=min n.toNat (((z15 V.n.m.ino ii).at 1).toNat - x)) hg hN F.fs (F.roots ii) (by omega) h1 (by omega) (by omega) N 0 ⟨none,0⟩ (by omega) (by omega)).pre fun q hq=>z2h (fun q h =>.nil 1 h) hq) fun j15=>z12 fun s=>z04 fun hj=>z01 ?_;subst hj;dsimp only[sel,rem,nth,del,cat,upd];exact z03 [0,0] fun q hq=>⟨rfl,hq⟩
end
end Go.Moat
