/- Layer 16: each block that is used is one file's, once, and in a group of its label. -/
import Derived.Test.YtfieiaijdalkbaaGreatP16zo
namespace Go.Moat
open Go.Mini
theorem bd_ret{α:Type}(m:M α):bd m ret=m:=by
 funext h;unfold bd;cases m h<;>rfl
section
variable{N:Nat}{β:Type}{l:List HA}{S:β→HA}{d v:Nat}{G:Nat}{V V1 V':VolS}{T T':z0q}{i ii at' size:Nat}{bs:List UInt8}{Tb:HA}{s:Sl}{acts:List ActS}{mm:Nat}{rm:Sl×Sl×Sl×Sl}{Tm:HA}
end
end Go.Moat

/- Layer 16: when all files are let go of no block is used. -/
namespace Go.Moat
open Go.Mini
structure DI(V:VolS)(T:z0q)(n:Nat):Prop where
 fv:FV (gg 20) V T
 zero:zef (gg 20) V T
 full:zos (gg 20) V T
 ino:∀j:Nat,n≤j→j<3→V.n.m.hasE (j:Int)=0
 gone:∀j s,(j<n∨3≤j)→T j s=0
section
variable{N:Nat}{β:Type}{l:List HA}{S:β→HA}{d v:Nat}{V V':VolS}{T T':z0q}{i ii:Nat}{Tb:HA}{s:Sl}{acts:List ActS}
theorem z18n{g:Geo}(C:CutP g V T ii 0 V' T')(s:Nat):T' ii s=0:=by
 by_cases h75:s<75
 case neg=>exact C.fv.fs.out _ _ (by omega)
 have lf0:∀s,s<75→dep s=0→T' ii s=0:=fun s h hd=>by rw[C.leaf s h hd,if_pos (Nat.zero_le _)]
 have k0:∀c,c=8∨c=42→∀j,j<32→T' ii (kid c j)=0:=fun c hc j hj=>by
  rcases hc with rfl | rfl
  ·have e:kid 8 j=9+j:=rfl;rw[e];exact lf0 _ (by omega) (by unfold dep;rw[if_neg (by omega),if_neg (by omega)])
  ·have e:kid 42 j=43+j:=rfl;rw[e];exact lf0 _ (by omega) (by unfold dep;rw[if_neg (by omega),if_neg (by omega)])
 have z42:T' ii 42=0:=C.none 42 (by omega) (by decide) (k0 42 (.inr rfl));by_cases hd:dep s=0
 ·exact lf0 s h75 hd
 rcases dep_cases hd with rfl | rfl | rfl
 ·exact C.none 8 (by omega) (by decide) (k0 8 (.inl rfl))
 ·refine C.none 41 (by omega) (by decide) fun j hj=>?_;unfold kid;rw[if_neg (by omega),if_pos rfl];split
  ·exact z42
  ·exact C.fv.fs.out _ _ (by omega)
 ·exact z42
theorem DI.drop(D:DI V T ii)(hg:(gg 20).ok)(hii:ii<3)(C:CutP (gg 20) V T ii 0 V' T'):V'.n.m.hasE (ii:Int)=0∧DI (V'.wM (V'.n.m.unmake ii)) T' (ii+1):=by
 have hE:=D.ino ii (by omega) hii;obtain⟨n',eino,k1,k2,k3,k4⟩:=C.ino;have hlt:=zg3 hE;have hE':∀j:Int,V'.n.m.hasE j=V.n.m.hasE j:=fun j=>by
  unfold MetaS.hasE;rw[eino,List.length_set,z5k hlt.1];by_cases e:j.toNat=ii
  ·rw[if_pos e,e,k1]
  ·rw[if_neg e]
 have hl':ii<V'.n.m.ino.length:=by rw[eino,List.length_set];exact hlt.1
 have e2:V'.n.m.ino[ii]=n':=by simp[eino]
 have inv:=zz3 hg C.fv.fs.ok.inv hl' (by rw[e2,k1];exact hlt.2);have ei:∀j,z15 (V'.n.m.unmake ii).ino j=if j=ii then Ino.z else z15 V'.n.m.ino j:=fun j=>z5k hl' Ino.z j
 have all:=z18n C;refine⟨by rw[hE'];exact hE,⟨⟨C.fv.fs.wM inv rfl,fun j k hk=>?_⟩,fun j x hx hx2=>?_,fun b hb hu=>C.xt.full D.full b hb hu,fun j h1 h2=>?_,fun j s h=>?_⟩⟩
 ·show(z15 (V'.n.m.unmake ii).ino j).at _=_;rw[ei];split
  ·rename_i e;subst e;rw[zat _ rfl,all];rfl
  ·exact C.fv.roots j k hk
 ·show fb (gg 20) V' T' j x=0;by_cases e:j=ii
  ·subst e;exact zbw (all _)
  ·have es:z1z (V'.n.m.unmake ii) j=z1z V.n.m j:=by
    unfold z1z;rw[ei,if_neg e,eino,z5k hlt.1,if_neg e]
   have hx:z1z (V'.n.m.unmake ii) j≤x:=hx;rw[es]at hx;rw[C.fb j x hx2,if_neg fun y=>e y.1];exact D.zero j x hx hx2
 ·have:=D.ino j (by omega) h2
  rw[←hE']at this;show(V'.n.m.unmake ii).hasE (j:Int)=0;unfold MetaS.hasE at this ⊢;rw[Int.toNat_natCast]at this ⊢;rw[ei,if_neg (show ¬j=ii by omega),show(V'.n.m.unmake ii).ino.length=V'.n.m.ino.length from List.length_set];exact this
 ·rcases h with h | h
  ·by_cases e:j=ii
   ·subst e;exact all s
   ·rw[C.same j s e];exact D.gone j s (.inl (by omega))
  ·rw[C.same j s (by omega)];exact D.gone j s (.inr h)
theorem z13d{bs:List UInt8}(hl:bs.length=64)(h:∀i,z0y bs i=false):bs=z1h:=by
 apply List.ext_getElem?;intro j;by_cases hj:j<64
 ·have hjl:j<bs.length:=by omega
  rw[List.getElem?_eq_getElem hjl,show z1h=List.replicate 64 0 from rfl,List.getElem?_replicate,if_pos hj];congr 1;apply UInt8.toNat_inj.1;show bs[j].toNat=0;have hb:∀r,r<8→bs[j].toNat.testBit r=false:=fun r hr=>by
   have:=h (8 * j+r)
   unfold z0y at this;rw[show(8 * j+r) / 8=j by omega,show(8 * j+r)%8=r by omega,List.getElem?_eq_getElem hjl]at this;exact this
  have hlt:=bs[j].toNat_lt;generalize bs[j].toNat=x at hb hlt;have key:∀x:Fin 256,(∀r:Fin 8,x.val.testBit r.val=false)→x.val=0:=by decide +kernel
  exact key ⟨x,by omega⟩ fun r=>hb r.val r.isLt
 ·rw[List.getElem?_eq_none (by omega),List.getElem?_eq_none (by rw[show z1h=List.replicate 64 0 from rfl,List.length_replicate];omega)]
theorem DI.none(D:DI V T 3):V.n.m.used=z1h∧∀k,k<V.n.m.own.length→V.n.m.own[k]? = some 0:=by
 have inv:=D.fv.fs.ok.inv;have hu:∀b,z0y V.n.m.used b=false:=fun b=>by
  cases hb:z0y V.n.m.used b with
  | false=>rfl
  | true=>
   by_cases hB:b<(gg 20).B
   ·obtain⟨j,s,e⟩:=D.full b hB hb;rw[D.gone j s (by omega)]at e;omega
   ·rw[inv.ok.used0 b (by omega)]at hb;cases hb
 refine⟨z13d inv.ok.usedl hu,fun k hk=>?_⟩;rw[List.getElem?_eq_getElem hk];congr 1;have:=inv.grp k (by rw[←inv.ok.ownl];exact hk)
 rw[List.getElem?_eq_getElem hk,Option.getD_some]at this;refine Decidable.byContradiction fun c=>?_;obtain⟨b,_,_,hb⟩:=this.1 (by omega);rw[hu b]at hb;cases hb
end
end Go.Moat
