/- Layer 16: files that are the reference's stay so. -/
import Derived.Test.YtfieiaijdalkbaaGreatP16zw
namespace Go.Moat
open Go.Mini
section
variable{g:Geo}{V V':VolS}{T T' P:z0q}{i ii a size:Nat}{F:RefF}{bs:List UInt8}
theorem RelI.reads(R:RelI g V T i F)(fs:FS g V T T)(k:Reads g V V'):RelI g V' T i F:=
 ⟨by rw[k.m];exact R.len,R.le,fun x hx=>by rw[zt7 fs k];exact R.b x hx,R.has,R.tab,R.top⟩
theorem RelI.same(R:RelI g V T i F)(hs:∀s,T' i s=T i s)(hz:z1z V'.n.m i=z1z V.n.m i)(hf:∀x,x<3840→fb g V' T' i x=fb g V T i x):RelI g V' T' i F:=
 ⟨R.len.trans hz.symm,R.le,fun x hx=>by rw[hf x (by have:=R.le;omega)];exact R.b x hx,fun k hk=>by rw[hs];exact R.has k hk,fun c hd=>by rw[hs];simp only[hs];exact R.tab c hd,fun s h=>by rw[hs];exact R.top s h⟩
theorem RelI.pad(R:RelI g V T i F)(Z:zef g V T){e:Nat}(he:e≤3840){x:Nat}(hx:x<max F.B.length e):(z88 F.B e)[x]? = some (fb g V T i x):=by
 unfold z88;by_cases h:x<F.B.length
 ·rw[List.getElem?_append_left h];exact R.b x h
 ·rw[List.getElem?_append_right (by omega),List.getElem?_replicate,if_pos (by omega),Z i x (by rw[←R.len];omega) (by omega)]
theorem RelI.write(R:RelI g V T ii F)(Z:zef g V T)(fs:FS g V T T)(hne:bs≠[])(hmax:a+bs.length≤3840)(W:Wrote g V T ii a bs V' T')(hz:z1z V'.n.m ii=max (z1z V.n.m ii) (a+bs.length)):RelI g V' T' ii (F.write a bs 60):=by
 have hpos:0<bs.length:=List.length_pos_iff.2 hne;have hl:=zlp F.B (a+bs.length);have hle:=R.le;have hq:∀s,T' ii s≠0↔T ii s≠0∨∃k,k<60∧a / 64≤k∧64 * k<a+bs.length∧s∈z1l k:=fun s=>by
  rw[W.nz];refine or_congr Iff.rfl ⟨fun ⟨k,h1,h2,_,h4⟩=>⟨k,by omega,h1,h2,h4⟩,fun ⟨k,_,h1,h2,h4⟩=>⟨k,h1,h2,hpos,h4⟩⟩
 obtain⟨t1,t2,t3⟩:=zmy (n:=0) hq R.has R.tab R.top;have hlen:(F.write a bs 60).B.length=max F.B.length (a+bs.length):=by
  show(_++_++_:List UInt8).length=_;rw[List.length_append,List.length_append,List.length_take,List.length_drop,hl];omega
 refine⟨by rw[hlen,hz,R.len],by rw[hlen];omega,fun x hx=>?_,t1,t2,t3⟩;rw[hlen]at hx;rw[W.fb];show((z88 F.B (a+bs.length)).take a++bs++(z88 F.B (a+bs.length)).drop (a+bs.length))[x]? = _;have l1:((z88 F.B (a+bs.length)).take a).length=a:=by rw[List.length_take,hl];omega
 by_cases h1:x<a
 ·rw[if_neg (by omega),List.append_assoc,List.getElem?_append_left (by omega),List.getElem?_take,if_pos h1];exact R.pad Z (by omega) (by omega)
 ·by_cases h2:x<a+bs.length
  ·rw[if_pos ⟨rfl,by omega,h2⟩,List.getElem?_append_left (by rw[List.length_append];omega),List.getElem?_append_right (by omega),l1,List.getElem?_eq_getElem (by omega)];rfl
  ·rw[if_neg (by omega),List.getElem?_append_right (by rw[List.length_append];omega),List.getElem?_drop,List.length_append,l1,show a+bs.length+(x - (a+bs.length))=x by omega];exact R.pad Z (by omega) (by omega)
theorem RelI.cut(R:RelI g V T ii F)(Z:zef g V T)(hsz:size≤3840)(C:CutP g V T ii size V' T')(hz:z1z V'.n.m ii=size):RelI g V' T' ii (F.cut size 60):=by
 have hle:=R.le;have hlen:(F.cut size 60).B.length=size:=by
  show(zf2 F.B size).length=size;unfold zf2;split
  ·rw[List.length_take];omega
  ·rw[zlp];omega
 refine⟨by rw[hlen,hz],by rw[hlen];exact hsz,fun x hx=>?_,fun k hk=>?_,fun c hd h=>?_,fun s hs=>?_⟩
 ·rw[hlen]at hx;rw[C.fb ii x (by omega),if_neg (by omega)];show(zf2 F.B size)[x]? = _;unfold zf2;split
  ·rw[List.getElem?_take,if_pos hx];exact R.b x (by omega)
  ·exact R.pad Z hsz (by omega)
 ·show(if _ then _ else _)=_;obtain⟨h1,h2⟩:=z12j hk;rw[C.leaf (lf k) h2 h1,zta k hk];by_cases h:(size+63) / 64≤k
  ·rw[if_pos ⟨h,hk⟩,if_pos h];rfl
  ·rw[if_neg (by omega),if_neg h];exact R.has k hk
 ·refine Decidable.byContradiction fun hn=>h ?_;have h75:c<75:=by rcases dep_cases hd with rfl | rfl | rfl<;>omega
  exact C.none c h75 hd fun j hj=>Decidable.byContradiction fun x=>hn ⟨j,hj,x⟩
 ·by_cases h75:s<75
  ·have hd:dep s=0:=by
    unfold dep;rw[if_neg (by omega),if_neg (by omega)]
   rw[C.leaf s h75 hd];split
   ·rfl
   ·exact R.top s hs
  ·exact C.fv.fs.out _ _ (by omega)
structure R3(G:Nat)(V:VolS)(T:z0q)(xs:List RefF):Prop where
 len:xs.length=3
 rel:∀(j:Nat)(hj:j<xs.length),RelI (gg G) V T j xs[j]
variable{G:Nat}{xs:List RefF}{n:Nat}
theorem R3.reads(R:R3 G V T xs)(fs:FS (gg G) V T T)(k:Reads (gg G) V V'):R3 G V' T xs:=⟨R.len,fun j hj=>(R.rel j hj).reads fs k⟩
theorem R3.upd{F':RefF}(R:R3 G V T xs)(h:RelI (gg G) V' T' ii F')(hs:∀j s,j≠ii→T' j s=T j s)(hz:∀j,j≠ii→z1z V'.n.m j=z1z V.n.m j)(hf:∀j x,j≠ii→x<3840→fb (gg G) V' T' j x=fb (gg G) V T j x):R3 G V' T' (xs.set ii F'):=by
 refine⟨by rw[List.length_set];exact R.len,fun j hj=>?_⟩;rw[List.getElem_set];split
 ·rename_i e;subst e;exact h
 ·rename_i e;exact(R.rel j (by simpa using hj)).same (fun s=>hs j s fun x=>e x.symm) (hz j fun x=>e x.symm) fun x hx=>hf j x (fun y=>e y.symm) hx
theorem z14y(h1:1≤G)(h2:G≤20):R3 G ((z7e (gg G)).wM (m3 G)) T0 [⟨[],fun _=>false⟩,⟨[],fun _=>false⟩,⟨[],fun _=>false⟩]:=by
 have key:∀j,j<3→RelI (gg G) ((z7e (gg G)).wM (m3 G)) T0 j ⟨[],fun _=>false⟩:=fun j hj=>by
  refine⟨?_,by simp,fun x hx=>by simp at hx,fun k _=>rfl,fun c _ h=>absurd rfl h,fun s _=>rfl⟩;show 0=((z15 (m3 G).ino j).at 1).toNat;rw[zow];match j,hj with
  | 0,_=>rfl
  | 1,_=>rfl
  | 2,_=>rfl
 refine⟨rfl,fun j hj=>?_⟩;match j,hj with
 | 0,_=>exact key 0 (by omega)
 | 1,_=>exact key 1 (by omega)
 | 2,_=>exact key 2 (by omega)
end
end Go.Moat

/- Layer 16: a write that fails leaves files; a write and a cut, and the reference's. -/
namespace Go.Moat
open Go.Mini
def rt(s:Nat):Nat:=if s<8 then s else if s≤40 then 8 else 41
theorem z13g{s j:Nat}(hd:dep s≠0)(hj:j<32):kid s j=75∨rt (kid s j)=rt s:=by
 rcases dep_cases hd with rfl | rfl | rfl
 ·right;have e:kid 8 j=9+j:=rfl;rw[e];unfold rt;rw[if_neg (by omega),if_pos (by omega)];rfl
 ·by_cases h:j=0
  ·right;subst h;rfl
  ·left;simp[kid,h]
 ·right;have e:kid 42 j=43+j:=rfl;rw[e];unfold rt;rw[if_neg (by omega),if_neg (by omega)];rfl
theorem z1b6{k:Nat}(hk:k<60):rt (rs k)=rs k:=by
 unfold rs rt;repeat' split
 all_goals omega
def z98(T T1:z0q)(ii:Nat):z0q:=fun j s=>if j=ii∧T ii (rt s)=0 then 0 else T1 j s
section
variable{N:Nat}{β:Type}{l:List HA}{S:β→HA}{d v:Nat}{G:Nat}{g:Geo}{V V1 V':VolS}{T T1 T':z0q}{i ii at' e a:Nat}{E:Int}{bs:List UInt8}{Tb:HA}{s:Sl}{xs:List RefF}
theorem FellW.fv(F:FV g V T)(W:FellW g V T ii at' e a E V'):∃T2,FV g V' T2:=by
 obtain⟨T1,fs,hs,hk⟩:=W.tr;refine⟨z98 T T1 ii,?_⟩;have sub:∀i s,z98 T T1 ii i s≠0→z98 T T1 ii i s=T1 i s:=fun i s h=>by
  unfold z98 at h ⊢;split
  ·rename_i c;rw[if_pos c]at h;exact absurd rfl h
  ·rfl
 have le:∀i s,z98 T T1 ii i s≤T1 i s:=fun i s=>by unfold z98;split<;>omega
 refine⟨⟨fs.ok,fun i s=>Nat.le_trans (le i s) (fs.le i s),fun i s h=>by have:=le i s;have:=fs.out i s h;omega,fun i s j t h e=>?_,fun i s h=>?_,fun i s hd=>?_,fs.l64,fun i=>by have:=le i 75;have:=fs.out i 75 (by omega);omega⟩,fun i k hk60=>?_⟩
 ·have h2:z98 T T1 ii j t≠0:=by rw[←e];exact h
  have e1:=sub i s h;have e2:=sub j t h2;exact fs.inj i s j t (by rw[←e1];exact h) (by rw[←e1,←e2,e])
 ·rw[sub i s h];exact fs.used i s (by rw[←sub i s h];exact h)
 ·by_cases c:i=ii∧T ii (rt s)=0
  ·have e1:z98 T T1 ii i s=0:=if_pos c;have e2:z2s (z98 T T1 ii i) s=List.replicate 32 0:=by
    unfold z2s;apply List.ext_getElem?;intro j;by_cases hj:j<32
    ·rw[List.getElem?_map,List.getElem?_range hj,List.getElem?_replicate,if_pos hj];show some (z98 T T1 ii i (kid s j))=_;congr 1;rcases z13g hd hj with h | h
     ·have:=le i (kid s j)
      rw[h]at this ⊢;have:=fs.out i 75 (by omega)
      omega
     ·exact if_pos ⟨c.1,by rw[h];exact c.2⟩
    ·rw[List.getElem?_eq_none (by simp;omega),List.getElem?_eq_none (by simp;omega)]
   have h0:=fs.tab ii 75;unfold zjv;rw[e1,e2];exact⟨by
    have hz:∀x∈List.replicate 32 0,x≤512:=fun x hx=>by rw[List.eq_of_mem_replicate hx];omega
    first | exact⟨List.length_replicate,hz⟩ | exact⟨hz,List.length_replicate⟩,by rw[if_pos rfl]⟩
  ·have e1:z98 T T1 ii i s=T1 i s:=if_neg c;have e2:z2s (z98 T T1 ii i) s=z2s (T1 i) s:=by
    unfold z2s;apply List.map_congr_left;intro j hj;have hj:=List.mem_range.1 hj;rcases z13g hd hj with h | h
    ·have:=le i (kid s j)
     have h75:=fs.out i 75 (by omega);rw[h]at this ⊢;omega
    ·exact if_neg fun x=>c ⟨x.1,by rw[←h];exact x.2⟩
   rw[e1,e2];exact fs.tab i s hd
 ·have:=F.roots i k hk60
  rw[W.ino,this];congr 1;unfold z98;by_cases c:i=ii
  ·subst c;rw[z1b6 hk60];by_cases h0:T i (rs k)=0
   ·rw[if_pos ⟨rfl,h0⟩,h0]
   ·rw[if_neg fun x=>h0 x.2,hk _ h0]
  ·rw[if_neg fun x=>c x.1,hs i _ c]
theorem AI.wE(A:AI G V T i)(hii:ii<3)(x:Int)(n:Nat):wE V.n.m (ii:Int) x n=RefF.writeE x n:=by
 unfold Go.Moat.wE RefF.writeE;rw[if_neg fun c=>c (A.hasN hii)]
theorem AI.cE(A:AI G V T i)(hii:ii<3)(x:Int):cE V.n.m (ii:Int) x=RefF.cutE x:=by
 unfold Go.Moat.cE RefF.cutE;rw[if_neg fun c=>c (A.hasN hii)]
theorem R3.lt(R:R3 G V T xs)(hii:ii<3):ii<xs.length:=by rw[R.len];exact hii
def WOut(G:Nat)(V:VolS)(T:z0q)(i ii:Nat)(xs:List RefF)(hx:ii<xs.length)(x:Int)(bs:List UInt8)(r:Int)(V':VolS)(T':z0q):Prop:=
 (r=RefF.writeE x bs.length∧r≠5∧AI G V' T' i∧R3 G V' T' (xs.set ii (xs[ii].wr x bs))) ∨
 (r=5∧RefF.writeE x bs.length=0∧bs≠[]∧FellW (gg G) V T ii x.toNat (x.toNat+bs.length) (V.n.m.inodeL (ii:Int)) 5 V')
theorem zqr(hg:(gg G).ok)(hN:5000<N)(A:AI G V T i)(R:R3 G V T xs)(hd:V.n.dirty.length≤45)(hii:ii<3){x:Int}(hx : -9223372036854775808≤x∧x<9223372036854775808)(hr:RdC Tb s 1 (bytesOf bs)) :
  Tri (z00 [z0l v d (gg G) V,Tb]) (F_01 N (some ⟨v,0⟩) (ii:Int) x s) fun r=>exA fun y:VolS×z0q=>pu (WOut G V T i ii xs (R.lt hii) x bs r y.1 y.2∧Keeps V y.1) (z00 [z0l v d (gg G) y.1,Tb]):=by
 have hE:=A.hasN hii;have eW:=A.wE hii x bs.length;rw[←bd_ret (F_01 N _ _ _ _)];by_cases hw:Go.Moat.wE V.n.m (ii:Int) x bs.length≠0∨bs=[]
 ·refine z02 [0] (zks hg A.fv.fs.ok.inv.ok (by omega) (z4m hr) hw) fun r=>z04 fun h=>z01 ?_;subst h;refine z03 [0,0] fun q hq=>⟨(V,T),⟨.inl ⟨eW,?_,A,?_⟩,z4q V⟩,hq⟩
  ·rw[eW];unfold RefF.writeE;split
   ·omega
   ·split<;>omega
  ·have e:xs[ii]'(R.lt hii)=(xs[ii]'(R.lt hii)).wr x bs:=by
    unfold RefF.wr;rw[if_pos (by rw[←eW];exact hw)]
   rw[←e,List.set_getElem_self];exact R
 ·rw[not_or,Decidable.not_not,eW]at hw;obtain⟨hw,hne⟩:=hw;have hw':=hw;unfold RefF.writeE at hw;split at hw
  ·cases hw
  split at hw
  ·cases hw
  rename_i h1 h2;obtain⟨x',rfl⟩:∃x':Nat,x=x':=⟨x.toNat,by omega⟩;refine z02 [0,0] (znn hg hN A.fv hE (by omega) hne hr (by rw[A.lab hii];omega)) fun r=>z12 fun y=>z04 fun h=>z01 ?_;obtain⟨V',T'⟩:=y;dsimp only[sel,rem,nth,del,cat,upd];refine z7v 0 rfl (φ:=(V'.n.dirty.map (·.1)).Nodup) (fun q h=>zpr h) fun hnd=>?_;rcases h with⟨h,W⟩ | F
  ·subst h;obtain⟨A',hz⟩:=A.wrote hg hii hne W hnd hd;refine z03 [0,0] fun q hq=>⟨(V',T'),⟨.inl ⟨hw'.symm,by omega,A',?_⟩,W.kp⟩,hq⟩;have e:(xs[ii]'(R.lt hii)).wr (x':Int) bs=(xs[ii]'(R.lt hii)).write x' bs 60:=by
    unfold RefF.wr;rw[if_neg (by rw[hw'];simp[hne])];rfl
   rw[e];refine R.upd ((R.rel ii (R.lt hii)).write A.zero A.fv.fs hne (by omega) W (by rw[hz,if_pos rfl])) W.same (fun j hj=>by rw[hz,if_neg hj]) fun j y hj _=>by rw[W.fb,if_neg fun c=>hj c.1]
  ·have h5:=A.fell hg hii F;subst h5;exact z03 [0,0] fun q hq=>⟨(V',T),⟨.inr ⟨rfl,hw',hne,F⟩,F.kp⟩,hq⟩
theorem z18q(hg:(gg G).ok)(hN:5000<N)(A:AI G V T i)(R:R3 G V T xs)(hd:V.n.dirty.length≤45)(hii:ii<3)(x:Int) :
  Tri (z00 [z0l v d (gg G) V]) (F_00 N (some ⟨v,0⟩) (ii:Int) x) fun r=>exA fun y:VolS×z0q=>pu (r=RefF.cutE x∧AI G y.1 y.2 i∧R3 G y.1 y.2 (xs.set ii ((xs[ii]'(R.lt hii)).ct x))) (z00 [z0l v d (gg G) y.1]):=by
 have hE:=A.hasN hii;have eC:=A.cE hii x;rw[←bd_ret (F_00 N _ _ _)];by_cases hw:Go.Moat.cE V.n.m (ii:Int) x≠0
 ·refine z02 [0] (zuf hg A.fv.fs.ok.inv.ok hw) fun r=>z04 fun h=>z01 ?_;refine z03 [0] fun q hq=>⟨(V,T),⟨h.trans eC,A,?_⟩,hq⟩;have e:(xs[ii]'(R.lt hii)).ct x=xs[ii]'(R.lt hii):=by
   unfold RefF.ct;rw[if_pos (by rw[←eC];exact hw)]
  rw[e,List.set_getElem_self];exact R
 ·rw[Decidable.not_not,eC]at hw;have hw':=hw;unfold RefF.cutE at hw;split at hw
  ·cases hw
  rename_i h1;obtain⟨size,rfl⟩:∃size:Nat,x=size:=⟨x.toNat,by omega⟩;refine z02 [0] (zug hg hN A.fv A.zero hE (by omega)) fun r=>z12 fun y=>z04 fun h=>z01 ?_;obtain⟨V',T'⟩:=y;obtain⟨h,C⟩:=h;have C:CutP (gg G) V T ii size V' T':=C;dsimp only[sel,rem,nth,del,cat,upd];refine z7v 0 rfl (φ:=(V'.n.dirty.map (·.1)).Nodup) (fun q h=>zpr h) fun hnd=>?_;obtain⟨A',hz⟩:=A.cut hii C hnd hd;refine z03 [0] fun q hq=>⟨(V',T'),⟨h.trans hw'.symm,A',?_⟩,hq⟩;have e:(xs[ii]'(R.lt hii)).ct (size:Int)=(xs[ii]'(R.lt hii)).cut size 60:=by
   unfold RefF.ct;rw[if_neg (by rw[hw'];simp)];rfl
  rw[e];refine R.upd ((R.rel ii (R.lt hii)).cut A.zero (by omega) C (by rw[hz,if_pos rfl])) C.same (fun j hj=>by rw[hz,if_neg hj]) fun j y hj hy=>by rw[C.fb j y hy,if_neg fun c=>hj c.1]
end
end Go.Moat
