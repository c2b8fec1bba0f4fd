/- Layer 16: a write of the law. -/
import Derived.Test.YtfieiaijdalkbaaGreatP16wb
namespace Go.Moat
open Go.Mini
section
variable{N:Nat}{β:Type}{l:List HA}{S:β→HA}{d v w:Nat}{G:Nat}{V V1 V':VolS}{T T1 T':z0q}{i ii:Nat}{bs:List UInt8}{Tb:HA}{s:Sl}{xs:List RefF}
theorem z14w{b ln:Nat}:∀(K k:Nat)(cs:List MV),ln - k<K→k≤ln→ln≤10000→cs.length=ln→(∀j,j<ln→∃y,cs[j]? = some (.int .u8 y)) →
  Tri (z00 [pts b (.cells cs false)]) (z0e K (F_17 N ⟨some ⟨b,0⟩,ln⟩) (k:Int)) fun _=>z00 []:=by
 intro K;induction K with
 | zero=>intro k cs h;omega
 | succ K ih=>
  intro k cs hK hk hb hl hc;rw[z13];generalize z0e K (F_17 N ⟨some ⟨b,0⟩,ln⟩)=go at ih ⊢;unfold F_17;by_cases hkl:k<ln
  case neg=>exact z05 (by simp;omega) (z03 [] fun q hq=>hq)
  refine z07 (by simp;omega) ?_;obtain⟨y,hy⟩:=hc k hkl;refine z2l (i:=k) hkl (tri_ldI 0 rfl (by rw[Nat.zero_add,Nat.mul_one];exact hy) ?_);refine z2l (i:=k) hkl (z21 0 rfl (by omega) rfl ?_);dsimp only[sel,rem,nth,del,cat,upd];rw[z09 (n:=(k:Int)+1) (by omega) (by omega)];refine ih (k+1) _ (by omega) (by omega) hb (by rw[List.length_set];exact hl) fun j hj=>?_;rw[List.getElem?_set];split
  ·rw[if_pos (by omega)];exact⟨_,rfl⟩
  ·exact hc j hj
theorem z14x(hb:bs.length≤4000)(hN:5000<N):Tri (z00 [z06 s 1 (bytesOf bs)]) (z0e N (F_17 N s) 0) fun _=>z00 []:=by
 refine z93 0 rfl (fun h0 h1=>?_) fun b ln h0 hl=>?_
 ·subst h0;obtain⟨N',rfl⟩:∃N',N=N'+1:=⟨N - 1,by omega⟩;rw[z13];unfold F_17;exact z05 (by simp) (z03 [] fun q hq=>hq)
 ·subst h0;rw[z0d,Nat.mul_one]at hl;refine z14w (N:=N) N 0 _ (by omega) (by omega) (by omega) (by rw[z0d];omega) fun j hj=>?_;exact⟨_,zaa (by omega)⟩
theorem zpk{cs vs:List MV}(h:vs.length=cs.length):z11 cs 0 vs=vs:=by
 unfold z11;simp[h]
theorem z11a(hg:(gg G).ok)(hN:5000<N)(A:AI G V T i)(R:R3 G V T xs)(hi:i<999)(hii:ii<3){a:ActS}(hA:ActIn Tb a)(hbl:a.b.len≤4000) :
  Tri (z00 [z0l v d (gg G) V,pts w (.cells (z0x refC xs) false),Tb]) (F_3h N (some ⟨v,0⟩) (some ⟨w,ii * 61⟩) (ii:Int) ((a.k:Int),(a.f:Int),a.at_,a.n,a.b) (zb5 (gg G) V.n.m (zf6 ii):Int)) fun c=>exA fun x:VolS×z0q×List RefF=>pu (c=true∧AI G x.1 x.2.1 (i+1)∧R3 G x.1 x.2.1 x.2.2) (z00 [z0l v d (gg G) x.1,pts w (.cells (z0x refC x.2.2) false),Tb]):=by
 have hmost:most=70368744177664:=rfl;have hbs:=z4m hA.rd;unfold F_3h;refine z02 [0] (zf5 hg (A.syncIn (by omega)) hN) fun r6=>z12 fun V1=>z04 fun h6=>z01 ?_;obtain⟨A1,hb1,hd1⟩:=A.begun h6.2;have k1:=(zc7 h6.2 A.vi A.fv.fs.ok.inv A.fv.fs.ok.re).1;have R1:=R.reads A.fv.fs k1;rw[←k1.m];dsimp only[sel,rem,nth,del,cat,upd];refine z05 (by simp[h6.1]) ?_;refine z5e (g:=fun b=>(some ⟨b,0⟩:Option MA)) (x :=.cells [] false) (fun h'=>rfl) fun q7=>?_;refine z6s 0 (B:=z06 ⟨some ⟨q7,0⟩,0⟩ 1 []) rfl (fun q hq=>z06.mk rfl hq) ?_;dsimp only[sel,rem,nth,del,cat,upd];refine z02 [0,2] (z3a (by':=1) hA.rd (by omega) (bytes_cell _) (by dsimp only;omega)) fun l8=>z01 ?_;rw[List.nil_append];dsimp only[sel,rem,nth,del,cat,upd];refine z0c 0 rfl fun l0=>?_;refine z02 [2,0] (zqr hg hN A1 R1 hd1 hii hA.at_ (z0k l0)) fun r9=>z12 fun y=>z04 fun h9=>z01 ?_;obtain⟨V2,T2⟩:=y;obtain⟨h9,K2⟩:=h9;have K2:Keeps V1 V2:=K2;have h9:WOut G V1 T (i+1) ii xs (R1.lt hii) a.at_ a.bs r9 V2 T2:=h9;dsimp only[sel,rem,nth,del,cat,upd];refine z02 [1] (z14x (N:=N) (by omega) hN) fun _=>z01 ?_;dsimp only[sel,rem,nth,del,cat,upd];have hix:=R1.lt hii;have hle:=(R1.rel ii hix).le;refine z0r (z5f 2 rfl (by rw[z0u refC_len];omega) ?_);rw[zdo refC_len hix];refine z5e (g:=fun b=>(some ⟨b,0⟩:Option MA)) (x :=.cells (refC ⟨[],fun _=>false⟩) false) (fun h'=>rfl) fun c18=>?_;refine z50 0 rfl (refC_len _) (by rw[refC_len,refC_len];omega) (zpm _) ?_;rw[zpk (by rw[refC_len,refC_len])];dsimp only[sel,rem,nth,del,cat,upd];refine z4l 2 rfl hA.rd ?_;rw[show refC xs[ii]=z0x refC [xs[ii]]from(zbo _).symm];refine z02 [0] (zr5 (N:=N) (xs:=[xs[ii]]) (b:=c18) (i:=0) (by simp) (by omega) hle hA.at_ (by omega)) fun r20=>z04 fun h20=>z01 ?_;subst h20;dsimp only[sel,rem,nth,del,cat,upd];have ex1:([xs[ii]]:List RefF).set 0 (([xs[ii]]:List RefF)[0].wr a.at_ a.bs)=[xs[ii].wr a.at_ a.bs]:=rfl;rw[ex1];rcases h9 with⟨e9,n5,A2,R2⟩ | ⟨e9,w0,hne,F⟩
 ·refine z05 (by simpa using n5) ?_;refine z5f 0 rfl (by rw[z0u refC_len];simp) ?_;rw[zbo,List.drop_zero,List.take_of_length_le (by rw[refC_len];omega)];refine z0r (z50 3 rfl (refC_len _) (by rw[z0u refC_len,refC_len];omega) (zpm _) ?_);rw[zlg refC_len hix];dsimp only[sel,rem,nth,del,cat,upd];exact z03 [1,2,1] fun q hq=>⟨(V2,T2,_),⟨by simp[e9],A2,R2⟩,hq⟩
 ·refine z07 (by simpa using e9) ?_;refine z02 [1] (znu hg fun n hn=>?_) fun _=>z01 ?_
  ·rw[K2.before,hb1]at hn;cases hn;exact A1.fv.fs.ok.inv.ok
  dsimp only[sel,rem,nth,del,cat,upd];have A3:=A1.aborted hb1 K2;have R3':=R1.reads A1.fv.fs (zf3 (g:=gg G) (i:=i) hb1 K2).2.2.1;have eF:xs[ii].wr a.at_ a.bs=xs[ii].write a.at_.toNat a.bs 60:=by
   unfold RefF.wr;rw[if_neg (by rw[w0];simp[hne])]
  refine z02 [1,2,1,0] (Q:=fun c=>pu (c=true) (z00 [pts c18 (.cells (z0x refC [xs[ii].wr a.at_ a.bs]) false),pts w (.cells (z0x refC xs) false),Tb,z0l v d (gg G) V2.abort])) ?_ fun c24=>z04 fun h24=>z01 ?_
  ·refine z07 (by simpa using w0) ?_;refine z02 [0] (zie (N:=N) (b:=c18) (xs:=[xs[ii].wr a.at_ a.bs]) (i:=0) (by simp) (by omega)) fun r22=>z04 fun h22=>z01 ?_;refine z02 [1] (zie (N:=N) (b:=w) (xs:=xs) (i:=ii) hix (by omega)) fun r23=>z04 fun h23=>z01 ?_;refine z03 [1,0,0,0] fun q hq=>⟨?_,hq⟩;have hrow:=A1.row hii;rw[←A1.lab hii]at hrow;have hroom:=F.room hg (by rw[A1.lab hii];omega) A1.fv.fs.ok.inv hrow;rw[(R1.rel ii hix).need A1.fv.fs,(R1.rel ii hix).need_write A1.fv.fs,←eF]at hroom;have b1:=zl6 (xs[ii].wr a.at_ a.bs) 60;have b2:=zwt (xs[ii].wr a.at_ a.bs) 60;have b3:=zt6 (xs[ii].wr a.at_ a.bs) 60;have b4:(xs[ii].wr a.at_ a.bs).need≤63:=by unfold RefF.need;omega
   have e22:r22=((xs[ii].wr a.at_ a.bs).need:Int):=h22;rw[e22,h23,z09 (by omega) (by omega)];simp;omega
  subst h24;dsimp only[sel,rem,nth,del,cat,upd];exact z03 [3,1,1] fun q hq=>⟨(V2.abort,T,xs),⟨rfl,A3,R3'⟩,hq⟩
end
end Go.Moat

/- Layer 16: each file has the document's bytes, and as many blocks as it needs. -/
namespace Go.Moat
open Go.Mini
section
variable{N:Nat}{β:Type}{l:List HA}{S:β→HA}{d v w:Nat}{G:Nat}{V V1 V':VolS}{T T1 T':z0q}{i ii:Nat}{bs:List UInt8}{Tb:HA}{s:Sl}{xs:List RefF}
theorem z13h{α:Type}{A:HA}{p:Prop}[Decidable p]{m n:M α}{f:α→M β}(h:p)(k:Tri A (bd m f) S):Tri A (bd (if p then m else n) f) S:=by rw[if_pos h];exact k
theorem RelI.read{g:Geo}{F:RefF}(R:RelI g V T ii F){a n:Nat}(hn:a+n≤F.B.length):z5s (fb g V T ii) a n=(F.B.drop a).take n:=by
 apply List.ext_getElem?;intro j;by_cases hj:j<n
 ·rw[zah _ _ _ hj,List.getElem?_take,if_pos hj,List.getElem?_drop,R.b _ (by omega)]
 ·rw[List.getElem?_eq_none (by rw[z7k];omega),List.getElem?_eq_none (by rw[List.length_take];omega)]
theorem z13i(hg:(gg G).ok)(hN:5000<N)(A:AI G V T i)(R:R3 G V T xs):Tri (z00 [z0l v d (gg G) V,pts w (.cells (z0x refC xs) false)]) (F_3l N (some ⟨v,0⟩) (some ⟨w,0⟩)) fun r=>pu (r=true) (z00 [z0l v d (gg G) V,pts w (.cells (z0x refC xs) false)]):=by
 have hmost:most=70368744177664:=rfl;have loop:∀(K k:Nat),3 - k<K→k≤3→Tri (z00 [z0l v d (gg G) V,pts w (.cells (z0x refC xs) false)]) (z0e K (F_48 N (some ⟨v,0⟩) (some ⟨w,0⟩)) (k:Int)) fun r=>pu (r=.inl ()) (z00 [z0l v d (gg G) V,pts w (.cells (z0x refC xs) false)]):=by
  intro K;induction K with
  | zero=>intro k h;omega
  | succ K ih=>
   intro k hK hk;rw[z13];generalize z0e K (F_48 N (some ⟨v,0⟩) (some ⟨w,0⟩))=go at ih ⊢;unfold F_48;by_cases hk3:k<3
   case neg=>
    obtain rfl:k=3:=by omega
    exact z05 (by simp) (z03 [0,0] fun q hq=>⟨rfl,hq⟩)
   refine z07 (by simp;omega) ?_;have hE:=A.hasN hk3;have hkx:=R.lt hk3;have Rk:=R.rel k hkx;have hle:=Rk.le;have hok:=zds A.fv.fs.ok.inv.ok hE;have hs0:=hok.s0;refine z02 [0] (zf4 hg A.fv.fs.ok.inv.ok (k:Int)) fun r5=>z04 fun h5=>z01 ?_;subst h5;rw[zag hE];dsimp only;refine z13h ⟨z0n _,by rw[z9g,z0n];omega,z8l _⟩ ?_;refine z0j ?_;refine z02 [0] (zhb hg hN A.fv (i:=(k:Int)) (at':=0) (n:=3840) (by omega)) fun r6=>z04 fun h6=>z01 ?_;dsimp only[sel,rem,nth,del,cat,upd];refine z02 [1] (zkt hg hN A.fv (k:Int)) fun r7=>z04 fun h7=>z01 ?_;dsimp only[sel,rem,nth,del,cat,upd];have e6:r6.2=0:=by rw[h6];unfold rE;rw[if_neg fun c=>c hE,if_neg (by omega)]
   have e7:r7.2=0:=h7.trans hE;have esz:z1z V.n.m k=xs[k].B.length:=Rk.len.symm;have erN:rN V.n.m (k:Int) 0 3840=xs[k].B.length:=by
    unfold rN;rw[if_pos (by rw[←h6];exact e6),Int.toNat_natCast,esz];omega
   have eat:(z15 V.n.m.ino k).at 1=(xs[k].B.length:Int):=by
    have:z1z V.n.m k=((z15 V.n.m.ino k).at 1).toNat:=rfl
    omega
   have erd:z5s (fb (gg G) V T (k:Int).toNat) (0:Int).toNat (rN V.n.m (k:Int) 0 3840)=xs[k].B:=by
    rw[erN,Int.toNat_natCast];have:=Rk.read (a:=0) (n:=xs[k].B.length) (by omega)
    rw[List.drop_zero,List.take_of_length_le (Nat.le_refl _)]at this;exact this
   rw[erd,if_pos hE,Int.toNat_natCast];refine z0c 0 rfl fun l0=>z0c 2 rfl fun l1=>?_;rw[z1n,zvj A.fv.fs,Rk.need A.fv.fs]at l0;have el:r7.1.len=xs[k].need:=by omega
   have eidx:∀(f:Option MA→M (Unit⊕Bool)){S:Unit⊕Bool→HA}{l:List HA},Tri (z00 l) (f (some ⟨w,k * 61⟩)) S→Tri (z00 l) (bd (nonNil (some ⟨w,0⟩)) fun q=>bd (idxA 3 61 q (k:Int)) f) S:=fun f S l h=>by
    refine z0r ?_;rw[idxA_eq hk3,Nat.zero_add];exact h
   have eidb:∀(f:Option MA→M Bool){S:Bool→HA}{l:List HA},Tri (z00 l) (f (some ⟨w,k * 61⟩)) S→Tri (z00 l) (bd (nonNil (some ⟨w,0⟩)) fun q=>bd (idxA 3 61 q (k:Int)) f) S:=fun f S l h=>by
    refine z0r ?_;rw[idxA_eq hk3,Nat.zero_add];exact h
   refine z02 [0,1,0,0] (Q:=fun c=>pu (c=false) (z00 [z06 r7.1 1 (z1c (z5g (T k))),z06 r6.1 1 (bytesOf xs[k].B),z0l v d (gg G) V,pts w (.cells (z0x refC xs) false)])) ?_ fun c14=>z04 fun h14=>z01 ?_
   ·refine z07 (by simp[hE,e6,e7]) ?_;have eo:z11 ([MV.int .u8 (0:Int),MV.int .u8 (0:Int)]++z0t 12 [MV.int .i64 (0:Int)]) 0 (z16 (z15 V.n.m.ino k))=z16 (z15 V.n.m.ino k):=zpk (by rw[z9g,z0n,z0n]);rw[eo,show(z16 (z15 V.n.m.ino k))[3]? = some (.int .i64 ((z15 V.n.m.ino k).at 1))from z76 _ (by omega),eat];refine z0j (a:=MV.int .i64 (xs[k].B.length:Int)) ?_;refine z0j (a:=(xs[k].B.length:Int)) ?_;refine eidb _ ?_;refine z0b (zol 3 rfl (v:=xs[k].B) (by rw[z3l refC_len hkx (by omega)];rfl) ?_);exact z03 [0,0,0,0] fun q hq=>⟨by simp,hq⟩
   subst h14;dsimp only[sel,rem,nth,del,cat,upd];refine z02 [0,0,0,0] (Q:=fun c=>pu (c=false) (z00 [z06 r7.1 1 (z1c (z5g (T k))),z0l v d (gg G) V,pts w (.cells (z0x refC xs) false)])) ?_ fun c20=>z04 fun h20=>z01 ?_
   ·refine z07 rfl ?_;refine z4l 1 rfl (z0k l1) ?_;refine eidb _ ?_;refine z0b (zol 3 rfl (v:=xs[k].B) (by rw[z3l refC_len hkx (by omega)];rfl) ?_);exact z03 [0,1,1] fun q hq=>⟨by simp,hq⟩
   subst h20;dsimp only[sel,rem,nth,del,cat,upd];refine z02 [0,0,0] (Q:=fun c=>pu (c=false) (z00 [z0l v d (gg G) V,pts w (.cells (z0x refC xs) false)])) ?_ fun c24=>z04 fun h24=>z01 ?_
   ·refine z07 rfl ?_;refine eidb _ ?_;refine z02 [2] (zie (N:=N) (b:=w) (xs:=xs) (i:=k) hkx (by omega)) fun r23=>z04 fun h23=>z01 ?_;exact z03 [2,0] fun q hq=>⟨by rw[h23,el];simp,hq⟩
   subst h24;dsimp only[sel,rem,nth,del,cat,upd];refine z05 (by simp) ?_;rw[z09 (n:=(k:Int)+1) (by omega) (by omega)];exact ih (k+1) (by omega) (by omega)
 unfold F_3l;refine z02 [0,0] (loop N 0 (by omega) (by omega)) fun j=>z04 fun h=>z01 ?_;subst h;exact z03 [0,0] fun q hq=>⟨rfl,hq⟩
end
end Go.Moat

/- Layer 16: whatever is written, read and cut: an act. -/
namespace Go.Moat
open Go.Mini
section
variable{N:Nat}{β:Type}{l:List HA}{S:β→HA}{d v w:Nat}{G:Nat}{V V1 V':VolS}{T T1 T':z0q}{i ii:Nat}{bs:List UInt8}{Tb:HA}{s:Sl}{xs:List RefF}
theorem AI.synced(A:AI G V T i)(hs:Synced (gg G) V V'):AI G V' T (i+1)∧Reads (gg G) V V':=by
 have k:Reads (gg G) V V':=⟨by rw[hs.n],fun b hb=>by
  obtain⟨e1,e2⟩:=zpt hs A.vi.ddead A.vi.len hb;exact⟨e1.trans (A.fv.fs.ok.re b hb).symm,e2⟩⟩
 refine⟨A.reads k (A.vi.synced hs A.fv.fs.ok.inv.ok) (fun y hy=>?_) ?_,k⟩
 ·rw[hs.n]at hy;simp at hy
 ·rw[hs.n];simp
theorem z18r{g:Geo}(hg:g.ok)(hN:5000<N)(F:FV g V T)(hE:V.n.m.hasE (ii:Int)=0)(x:Int) :
  Tri (z00 [z0l v d g V]) (F_00 N (some ⟨v,0⟩) (ii:Int) x) fun _=>exA fun y:VolS=>pu (Keeps V y) (z00 [z0l v d g y]):=by
 rw[←bd_ret (F_00 N _ _ _)];by_cases hw:Go.Moat.cE V.n.m (ii:Int) x≠0
 ·refine z02 [0] (zuf hg F.fs.ok.inv.ok hw) fun r=>z04 fun h=>z01 ?_;exact z03 [0] fun q hq=>⟨V,z4q V,hq⟩
 ·rw[Decidable.not_not]at hw;unfold Go.Moat.cE at hw;rw[if_neg fun c=>c hE]at hw;split at hw
  ·cases hw
  rename_i h1;obtain⟨size,rfl⟩:∃size:Nat,x=size:=⟨x.toNat,by omega⟩;refine z02 [0] (zxb hg hN F hE (by omega)) fun r=>z12 fun y=>z04 fun h=>z01 ?_;exact z03 [0] fun q hq=>⟨y.1,h.2.2,hq⟩
theorem AI.readB(A:AI G V T i)(R:R3 G V T xs)(hii:ii<3)(a n:Int):rE V.n.m (ii:Int) a n=RefF.readE a n∧z5s (fb (gg G) V T (ii:Int).toNat) a.toNat (rN V.n.m (ii:Int) a n)=(xs[ii]'(R.lt hii)).readB a n:=by
 have hE:=A.hasN hii;have Rk:=R.rel ii (R.lt hii);have e:rE V.n.m (ii:Int) a n=RefF.readE a n:=by
  unfold rE RefF.readE;rw[if_neg fun c=>c hE]
 refine⟨e,?_⟩;unfold RefF.readB rN;rw[e,Int.toNat_natCast,←Rk.len];unfold RefF.readE;by_cases h:a<0∨n<0
 ·rw[if_pos h,if_neg (by omega),if_pos (by omega)];rfl
 ·rw[if_neg h,if_pos rfl];by_cases h2:((xs[ii]'(R.lt hii)).B.length:Int)≤a
  ·rw[if_pos (by omega),show min n.toNat ((xs[ii]'(R.lt hii)).B.length - a.toNat)=0 by omega];rfl
  ·rw[if_neg (by omega)];exact Rk.read (by omega)
def zzm(G v d w:Nat)(Tb:HA)(i:Nat)(j:Unit⊕Bool):HA:=exA fun x:VolS×z0q×List RefF=>pu (j=.inl ()∧AI G x.1 x.2.1 i∧R3 G x.1 x.2.1 x.2.2) (z00 [z0l v d (gg G) x.1,pts w (.cells (z0x refC x.2.2) false),Tb])
theorem zlq{k:Nat}{f:Unit⊕Bool→M (Unit⊕Bool)}{m:M (Unit⊕Bool)}{a b c:HA}(hf:f (.inl ())=ret (.inl ()))(h:Tri (z00 [a,b,c]) m (zzm G v d w Tb k)):Tri (z00 [a,b,c]) (bd m f) (zzm G v d w Tb k):=by
 unfold zzm at h ⊢;refine z02 [0,0,0] h fun j=>z12 fun x=>z04 fun hx=>z01 ?_;obtain⟨e,h2,h3⟩:=hx;subst e;rw[hf];exact z03 [0,0,0] fun q hq=>⟨x,⟨rfl,h2,h3⟩,hq⟩
theorem z16c{acts:List ActS}{r3b:Bool}{r:Sl}{k:Nat}(hg:(gg G).ok)(hG:G≤20)(hN:5000<N)(hin:∀A∈acts,ActIn Tb A)(hf:FewOk Tb acts r k):∀(K i:Nat)(V:VolS)(T:z0q)(xs:List RefF),k - i<K→i≤k→AI G V T i→R3 G V T xs →
  Tri (z00 [z0l v d (gg G) V,pts w (.cells (z0x refC xs) false),Tb]) (z0e K (F_49 N (some ⟨v,0⟩,r3b) (some ⟨w,0⟩) r) (i:Int)) fun j=>pu (j=.inl ()) (z00 []):=by
 intro K;induction K with
 | zero=>intro i V T xs h;omega
 | succ K ih=>
  intro i V T xs h hi A R;have hle:=hf.le;have hlen:=hf.len;have h40:=hf.k40;rw[z13];generalize z0e K (F_49 N (some ⟨v,0⟩,r3b) (some ⟨w,0⟩) r)=go at ih ⊢;unfold F_49;by_cases hik:i<k
  case neg=>
   obtain rfl:i=k:=by omega
   exact z05 (by simp;omega) (z03 [] fun q hq=>⟨rfl,hq⟩)
  have hia:i<acts.length:=by omega
  have hit:i<(acts.take k).length:=by rw[List.length_take];omega
  have hA:=hin _ (List.getElem_mem hia);have hsm:=hf.small i hia hik;have eA:(acts.take k)[i]=acts[i]:=by simp
  refine z07 (by simp;omega) ?_;refine z18l 2 rfl (hf.rd (by omega)) hit ?_;rw[eA];generalize acts[i]=a at hA hsm;have efi:wr .i64 ((a.f:Int).tmod 3)=((a.f%3:Nat):Int):=by
   rw[show(a.f:Int).tmod 3=((a.f%3:Nat):Int)from rfl,z09 (by omega) (by omega)]
  have hf3:a.f%3<3:=by omega
  dsimp only;rw[efi];obtain⟨ii,eii⟩:∃ii,ii=a.f%3:=⟨_,rfl⟩;rw[←eii]at hf3 ⊢;have hix:=R.lt hf3;have hle3:=(R.rel ii hix).le;have eix:idxA 3 61 (some ⟨w,0⟩) ((ii:Nat):Int)=ret (some ⟨w,ii * 61⟩):=by rw[idxA_eq hf3,Nat.zero_add]
  have hbl:=z4m hA.rd;refine z02 [0,0,0] (Q:=zzm G v d w Tb (i+1)) ?_ fun j39=>z12 fun x=>z04 fun hx=>z01 ?_
  ·by_cases c0:(a.k:Int).tmod 5=0
   ·refine z07 (by simpa using c0) (z8q fun _=>?_);rw[eix];refine z0j ?_;have ela:wr .u16 (wr .i64 ((1:Int)+((ii:Nat):Int).tmod 2))=((1+ii%2:Nat):Int):=by
     rw[show((ii:Nat):Int).tmod 2=((ii%2:Nat):Int)from rfl,z09 (n:=(1:Int)+((ii%2:Nat):Int)) (by omega) (by omega),show(1:Int)+((ii%2:Nat):Int)=((1+ii%2:Nat):Int) by omega];have:ii%2=0∨ii%2=1:=by omega
     rcases this with h | h<;>rw[h]<;>rfl
    rw[ela];refine z02 [0] (z13f hg hG A.fv.fs.ok.inv (A.row hf3) hN) fun r13=>z04 fun h13=>z01 ?_;subst h13;dsimp only[sel,rem,nth,del,cat,upd];refine z02 [0,0,0] (z11a hg hN A R (by omega) hf3 hA (by omega)) fun r14=>z12 fun y=>z04 fun h14=>z01 ?_;obtain⟨h14,A2,R2⟩:=h14;subst h14;exact z05 (by simp) (z03 [0,0,0] fun q hq=>⟨y,⟨rfl,A2,R2⟩,hq⟩)
   refine z05 (by simpa using c0) (zlq rfl ?_);by_cases c1:(a.k:Int).tmod 5=1
   ·refine z07 (by simpa using c1) ?_;obtain⟨e1,e2⟩:=A.readB R hf3 a.at_ a.n;refine z02 [0] (zhb hg hN A.fv (i:=(ii:Int)) (at':=a.at_) (n:=a.n) (by have:=hA.at_;omega)) fun r15=>z04 fun h15=>z01 ?_;rw[e2,e1]at *;dsimp only[sel,rem,nth,del,cat,upd];rw[eix];refine z0j ?_;refine z02 [2] (zux (N:=N) (b:=w) hix hle3 (by have:=hA.at_;omega) (by have:=hA.n;omega)) fun r17=>z04 fun h17=>z01 ?_;subst h17;dsimp only[sel,rem,nth,del,cat,upd];refine z0c 1 rfl fun l1=>?_;refine z4l 1 rfl (z0k l1) ?_;exact z05 (by simp[h15]) (z03 [2,0,1] fun q hq=>⟨(V,T,xs),⟨rfl,A.mono (by omega),R⟩,hq⟩)
   refine z05 (by simpa using c1) (zlq rfl ?_);by_cases c2:(a.k:Int).tmod 5=2
   ·refine z07 (by simpa using c2) (ztv fun _=>?_);refine z02 [1] (zf5 hg (A.syncIn (by omega)) hN) fun r20=>z12 fun V1=>z04 fun h20=>z01 ?_;obtain⟨A1,hb1,hd1⟩:=A.begun h20.2;have k1:=(zc7 h20.2 A.vi A.fv.fs.ok.inv A.fv.fs.ok.re).1;have R1:=R.reads A.fv.fs k1;dsimp only[sel,rem,nth,del,cat,upd];refine z02 [0,1,1] (Q:=fun c=>exA fun x:VolS×z0q×List RefF=>pu (c=false∧AI G x.1 x.2.1 (i+1)∧R3 G x.1 x.2.1 x.2.2) (z00 [z0l v d (gg G) x.1,pts w (.cells (z0x refC x.2.2) false),Tb])) ?_ fun c24=>z12 fun x=>z04 fun h24=>z01 ?_
    ·refine z07 (by simp[h20.1]) ?_;refine z02 [0] (z18q hg hN A1 R1 hd1 hf3 a.at_) fun r21=>z12 fun y=>z04 fun h21=>z01 ?_;obtain⟨h21,A2,R2⟩:=h21;rw[eix];refine z0j ?_;dsimp only[sel,rem,nth,del,cat,upd];refine z02 [1] (zw3 (N:=N) (b:=w) hix (by omega) hle3 a.at_) fun r23=>z04 fun h23=>z01 ?_;exact z03 [1,0,0] fun q hq=>⟨(y.1,y.2,xs.set ii (xs[ii].ct a.at_)),⟨by simp[h21,h23],A2,R2⟩,hq⟩
    obtain⟨h24,A2,R2⟩:=h24;subst h24;exact z05 (by simp) (z03 [0,0,0] fun q hq=>⟨x,⟨rfl,A2,R2⟩,hq⟩)
   refine z05 (by simpa using c2) (zlq rfl ?_);by_cases c3:(a.k:Int).tmod 5=3
   ·refine z07 (by simpa using c3) ?_;refine z02 [0] (zqp hg (A.syncIn (by omega)) hN) fun r25=>z12 fun V1=>z04 fun h25=>z01 ?_;obtain⟨A1,k1⟩:=A.synced h25.2;exact z05 (by simp[h25.1]) (z03 [0,0,0] fun q hq=>⟨(V1,T,xs),⟨rfl,A1,R.reads A.fv.fs k1⟩,hq⟩)
   refine z05 (by simpa using c3) ?_;refine z02 [0] (zf5 hg (A.syncIn (by omega)) hN) fun r26=>z12 fun V1=>z04 fun h26=>z01 ?_;obtain⟨A1,hb1,hd1⟩:=A.begun h26.2;have k1:=(zc7 h26.2 A.vi A.fv.fs.ok.inv A.fv.fs.ok.re).1;have R1:=R.reads A.fv.fs k1;dsimp only[sel,rem,nth,del,cat,upd];refine z05 (by simp[h26.1]) ?_;refine z02 [0,1] (zqr hg hN A1 R1 hd1 hf3 hA.at_ hA.rd) fun r27=>z12 fun y=>z04 fun h27=>z01 ?_;obtain⟨V2,T2⟩:=y;obtain⟨h27,K2⟩:=h27;have K2:Keeps V1 V2:=K2;have h27:WOut G V1 T (i+1) ii xs (R1.lt hf3) a.at_ a.bs r27 V2 T2:=h27;obtain⟨T3,F2,hE2⟩:∃T3,FV (gg G) V2 T3∧V2.n.m.hasE (ii:Int)=0:=by
    rcases h27 with⟨_,_,A2,_⟩ | ⟨_,_,_,F⟩
    ·exact⟨T2,A2.fv,A2.hasN hf3⟩
    ·obtain⟨T3,h3⟩:=F.fv A1.fv;refine⟨T3,h3,?_⟩;have:=A1.hasN hf3
     unfold MetaS.hasE at this ⊢;rw[F.ino];exact this
   dsimp only[sel,rem,nth,del,cat,upd];refine z02 [0] (z18r hg hN F2 hE2 a.n) fun r28=>z12 fun V3=>z04 fun K3=>z01 ?_;dsimp only[sel,rem,nth,del,cat,upd];have K:=K2.trans K3;refine z02 [0] (znu hg fun n hn=>?_) fun _=>z01 ?_
   ·rw[K.before,hb1]at hn;cases hn;exact A1.fv.fs.ok.inv.ok
   dsimp only[sel,rem,nth,del,cat,upd];have A3:=A1.aborted hb1 K;have R3':=R1.reads A1.fv.fs (zf3 (g:=gg G) (i:=i) hb1 K).2.2.1;exact z03 [0,1,0] fun q hq=>⟨(V3.abort,T,xs),⟨rfl,A3,R3'⟩,hq⟩
  obtain⟨e,A2,R2⟩:=hx;subst e;dsimp only[sel,rem,nth,del,cat,upd];refine z02 [0,0] (z13i hg hN A2 R2) fun r42=>z04 fun h42=>z01 ?_;subst h42;dsimp only[sel,rem,nth,del,cat,upd];refine z05 (by simp) ?_;rw[z09 (n:=(i:Int)+1) (by omega) (by omega)];exact z1u [0,0,0] (ih (i+1) x.1 x.2.1 x.2.2 (by omega) (by omega) A2 R2)
end
end Go.Moat

/- Layer 16: the law: whatever is written, read and cut. -/
namespace Go.Moat
open Go.Mini
section
variable{N:Nat}{Tb:HA}{s:Sl}{acts:List ActS}{gr:Nat}
theorem z13j(hN:5000<N)(hgr:gr<256)(hin:∀A∈acts,ActIn Tb A)(hr:acts≠[]→RdC Tb s 5 (z0x zb4 acts))(hlen:s.len=acts.length):Tri (z00 [Tb]) (F_4p N (gr:Int) s) fun r=>pu (r=true) emp:=by
 unfold F_4p;refine z02 [] (zul hN) fun r2=>z04 fun h2=>z01 ?_;subst h2;dsimp only[sel,rem,nth,del,cat,upd];obtain⟨G,hG⟩:∃G,G=gr%20+1:=⟨_,rfl⟩;have eG:wr .i64 (wr .i64 ((gr:Int).tmod 20)+1)=(G:Int):=by
  rw[show(gr:Int).tmod 20=((gr%20:Nat):Int)from rfl,z09 (n:=((gr%20:Nat):Int)) (by omega) (by omega),z09 (by omega) (by omega)];omega
 rw[eG];have hg:=zc8 (G:=G) (by omega) (by omega);refine z02 [] (zj9 (N:=N) (G:=G) (by omega) (by omega) hN) fun r3=>z12 fun x=>z04 fun h3=>z01 ?_;obtain⟨d,v⟩:=x;subst h3;dsimp only[sel,rem,nth,del,cat,upd];refine z05 (by simp) ?_;refine z5e (g:=fun b=>(some ⟨b,0⟩:Option MA)) (x :=.cells (z0x refC [⟨[],fun _=>false⟩,⟨[],fun _=>false⟩,⟨[],fun _=>false⟩]) false) (fun h'=>rfl) fun w=>?_;refine z02 [2] (z168 hr hlen (by omega)) fun r4=>z12 fun k=>z04 fun h4=>z01 ?_;dsimp only[sel,rem,nth,del,cat,upd];refine z02 [2,1,0] (z16c (N:=N) (r3b:=true) hg (by omega) hN hin h4 N 0 _ T0 _ (by have:=h4.k40;omega) (by omega) (z167 (by omega) (by omega)) (z14y (by omega) (by omega))) fun j=>z04 fun h=>z01 ?_;subst h;exact z03 [] fun q hq=>⟨rfl,hq⟩
end
end Go.Moat
