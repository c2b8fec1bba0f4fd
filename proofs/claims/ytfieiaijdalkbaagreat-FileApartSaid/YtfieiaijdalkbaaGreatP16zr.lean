/- Layer 16: each block that is used is one file's, once, and in a group of its label. -/
import Derived.Test.YtfieiaijdalkbaaGreatP16zo
namespace Go.Moat
open Go.Mini
theorem bd_ret{α:Type}(m:M α):bd m ret=m:=by
 funext h;unfold bd;cases m h<;>rfl
section
variable{N:Nat}{β:Type}{l:List HA}{S:β→HA}{d v:Nat}{G:Nat}{V V1 V':VolS}{T T':z0q}{i ii at' size:Nat}{bs:List UInt8}{Tb:HA}{s:Sl}{acts:List ActS}{mm:Nat}{rm:Sl×Sl×Sl×Sl}{Tm:HA}
theorem AI.three(A:AI G V T i){j:Nat}(hj:3≤j)(s:Nat):T j s=0:=by
 have hz:∀m,(z14 V.n.m.ino j).at m=0:=fun m=>by
  have hk:=(A.ino j).1;rw[if_neg (by omega)]at hk;have e:z14 V.n.m.ino j=Ino.z:=by
   unfold z14 at hk ⊢;cases hx:V.n.m.ino[j]? with
   | none=>rfl
   | some n=>
    rw[hx]at hk;exact(A.fv.fs.ok.inv.ok.inok n (List.mem_of_getElem? hx)).z hk
  rw[e];exact zat _ rfl m
 have hr:∀k,k<60→T j (rs k)=0:=fun k hk=>by
  have:=A.fv.roots j k hk
  rw[hz]at this;omega
 by_cases h75:s<75
 case neg=>exact A.fv.fs.out _ _ (by omega)
 have zu:=fun c(h:T j c=0)=>zn5 A.fv.fs h (fun _ _=>rfl);by_cases h8:s<8
 ·have:=hr s (by omega)
  rw[ze0 h8]at this;exact this
 by_cases h41:s<41
 ·refine zu 8 (hr 8 (by omega)) s ?_;by_cases e:s=8
  ·exact .inl e
  ·exact .inr (.inl ⟨rfl,by omega,by omega⟩)
 ·refine zu 41 (hr 40 (by omega)) s ?_;by_cases e:s=41
  ·exact .inl e
  ·exact .inr (.inr (.inl ⟨rfl,by omega,by omega⟩))
theorem zx4(hg:(gg G).ok)(hN:5000<N)(A:AI G V T i)(hd:V.n.dirty.length≤45)(hii:ii<3){a:Int}(ha : -9223372036854775808≤a∧a<9223372036854775808)(hb:bs.length≤4000)(hr:RdC Tb s 1 (bytesOf bs)) :
  Tri (z00 [z0l v d (gg G) V,Tb]) (F_00 N (some ⟨v,0⟩) (ii:Int) a s) fun r=>exA fun x:VolS×z0q=>pu ((r≠5∧AI G x.1 x.2 i)∨(r=5∧Keeps V x.1)) (z00 [z0l v d (gg G) x.1,Tb]):=by
 have hE:=A.hasN hii;by_cases hw:wE V.n.m (ii:Int) a bs.length≠0∨bs=[]
 ·rw[←bd_ret (F_00 N _ _ _ _)];refine z02 [0] (zkb hg A.fv.fs.ok.inv.ok (by omega) (z4r hr) hw) fun r=>z04 fun h=>z01 ?_;subst h;refine z03 [0,0] fun q hq=>⟨(V,T),.inl ⟨?_,A⟩,hq⟩;unfold wE;rw[if_neg fun c=>c hE];split
  ·omega
  ·split<;>omega
 ·rw[not_or,Decidable.not_not]at hw;obtain⟨hw,hne⟩:=hw;unfold wE at hw;rw[if_neg fun c=>c hE]at hw;split at hw
  ·cases hw
  split at hw
  ·cases hw
  rename_i h1 h2;obtain⟨at',rfl⟩:∃at':Nat,a=at':=⟨a.toNat,by omega⟩;rw[←bd_ret (F_00 N _ _ _ _)];refine z02 [0,0] (zn4 hg hN A.fv hE (by omega) hne hr (by rw[A.lab hii];omega)) fun r=>z10 fun x=>z04 fun h=>z01 ?_;obtain⟨V',T'⟩:=x;dsimp only[sel,rem,nth,del,cat,upd];refine z6p 0 rfl (φ:=(V'.n.dirty.map (·.1)).Nodup) (fun q h=>zp0 h) fun hnd=>?_;rcases h with⟨h,W⟩ | F
  ·subst h;exact z03 [0,0] fun q hq=>⟨(V',T'),.inl ⟨by omega,(A.wrote hg hii hne W hnd hd).1⟩,hq⟩
  ·have h5:=A.fell hg hii F;exact z03 [0,0] fun q hq=>⟨(V',T),.inr ⟨h5,F.kp⟩,hq⟩
theorem z13g(hg:(gg G).ok)(hN:5000<N)(A:AI G V T i)(hd:V.n.dirty.length≤45)(hii:ii<3)(a:Int) :
  Tri (z00 [z0l v d (gg G) V]) (F_01 N (some ⟨v,0⟩) (ii:Int) a) fun r=>exA fun x:VolS×z0q=>pu (AI G x.1 x.2 i) (z00 [z0l v d (gg G) x.1]):=by
 have hE:=A.hasN hii;by_cases hw:cE V.n.m (ii:Int) a≠0
 ·rw[←bd_ret (F_01 N _ _ _)];refine z02 [0] (z14j hg A.fv.fs.ok.inv.ok hw) fun r=>z04 fun h=>z01 ?_;exact z03 [0] fun q hq=>⟨(V,T),A,hq⟩
 ·rw[Decidable.not_not]at hw;unfold cE at hw;rw[if_neg fun c=>c hE]at hw;split at hw
  ·cases hw
  rename_i h1;obtain⟨size,rfl⟩:∃size:Nat,a=size:=⟨a.toNat,by omega⟩;rw[←bd_ret (F_01 N _ _ _)];refine z02 [0] (zl5 hg hN A.fv A.zero hE (by omega)) fun r=>z10 fun x=>z04 fun h=>z01 ?_;obtain⟨V',T'⟩:=x;dsimp only[sel,rem,nth,del,cat,upd];refine z6p 0 rfl (φ:=(V'.n.dirty.map (·.1)).Nodup) (fun q h=>zp0 h) fun hnd=>?_;exact z03 [0] fun q hq=>⟨(V',T'),(A.cut hii h.2 hnd hd).1,hq⟩
theorem z13h{M:MetaS}{k:Nat}{xs:List Nat}{r20:Sl×Int}(ok:MetaOk (gg 20) M)(h1:RdC Tm rm.1 2 (z1s M.rows))(h2:RdC Tm rm.2.1 1 (z18 M.own))(hl:r20.1.len=xs.length)(hx:∀b∈xs,b<160∧∃r,M.own[b / 8]? = some (r+1)∧r<16∧(z1c M.rows r).1=1+k%2)(hnd:xs.Nodup)(hk:k<3)(f:Nat→Bool)(hf:∀b∈xs,f b=false)(hN:5000<N)(hxl:xs.length≤1000) :
  ∀(K j:Nat)(kvs:List (Int×MV)),xs.length - j<K→j≤xs.length→zbl kvs (fun b=>f b || decide (b∈xs.take j)) →
  Tri (z00 [z3u .i64 mm kvs,z06 r20.1 1 (z18 xs),Tm]) (z0e K (F_3u N rm (some mm) (k:Int) r20) (j:Int)) fun r=>exA fun kvs'=>pu (r=.inl ()∧zbl kvs' fun b=>f b || decide (b∈xs)) (z00 [z3u .i64 mm kvs',Tm]):=by
 have hol:=ok.ownl;have hr16:=ok.rows.len;have l1:=zao h1;have l2:=h2.1;rw[z1k,hol]at l2;have hol:M.own.length=20:=hol;have l2:20=rm.2.1.len * 1:=l2;intro K;induction K with
 | zero=>intro j kvs h;omega
 | succ K ih=>
  intro j kvs hK hj hc;rw[z12];generalize z0e K (F_3u N rm (some mm) (k:Int) r20)=go at ih ⊢;unfold F_3u;by_cases hjl:j<xs.length
  case neg=>
   obtain rfl:j=xs.length:=by omega
   rw[List.take_length]at hc;exact z05 (by simp;omega) (z03 [0,1] fun q hq=>⟨kvs,⟨rfl,hc⟩,hq⟩)
  obtain⟨b160,r,e1,e2,e3⟩:=hx _ (List.getElem_mem hjl);have hbf:=hf _ (List.getElem_mem hjl);have hnb:xs[j] ∉ xs.take j:=fun h=>by
   obtain⟨m,hm,e⟩:=List.mem_iff_getElem.1 h;rw[List.length_take]at hm;rw[List.getElem_take]at e;have:=(List.getElem_inj hnd).1 e
   omega
  have hval:(f xs[j] || decide (xs[j]∈xs.take j))=false:=by rw[hbf,decide_eq_false hnb];rfl
  refine z07 (by simp;omega) ?_;refine z0a 1 rfl fun lo=>?_;refine tri_rI 1 rfl (z0j lo) (i:=j) (k :=.i64) (v:=((xs[j]:Nat):Int)) (by simp[z1w,hjl]) ?_;have ed:wr .i64 (((xs[j]:Nat):Int).tdiv 8)=((xs[j] / 8:Nat):Int):=by
   rw[show((xs[j]:Nat):Int).tdiv 8=((xs[j] / 8:Nat):Int)from rfl,z0d (by omega) (by omega)]
  have eo:M.own[xs[j] / 8]? = some (r+1):=e1;have hoc:(z18 M.own)[xs[j] / 8]? = some (.int .i64 ((r+1:Nat):Int)):=by simp[z1w,eo]
  refine z02 [0,0,0] (Q:=fun c=>pu (c=false) (z00 [z3u .i64 mm kvs,z06 r20.1 1 (z18 xs),Tm])) ?_ fun c27=>z04 fun h27=>z01 ?_
  ·refine z07 (by simp;omega) ?_;refine zgl 0 rfl _ ?_;rw[hc.val,hval];exact z95 (z03 [0,0,0] fun q hq=>⟨rfl,hq⟩)
  subst h27;dsimp only[sel,rem,nth,del,cat,upd];refine z02 [0,0,0] (Q:=fun c=>pu (c=false) (z00 [z3u .i64 mm kvs,z06 r20.1 1 (z18 xs),Tm])) ?_ fun c30=>z04 fun h30=>z01 ?_
  ·refine z07 (by simp;omega) ?_;rw[ed];refine tri_rI 2 rfl h2 hoc ?_;exact z03 [0,0,0] fun q hq=>⟨by simp;omega,hq⟩
  subst h30;dsimp only[sel,rem,nth,del,cat,upd];refine z02 [0,0,0] (Q:=fun c=>pu (c=false) (z00 [z3u .i64 mm kvs,z06 r20.1 1 (z18 xs),Tm])) ?_ fun c33=>z04 fun h33=>z01 ?_
  ·refine z07 rfl ?_;rw[ed];refine tri_rI 2 rfl h2 hoc ?_;exact z03 [0,0,0] fun q hq=>⟨by simp;omega,hq⟩
  subst h33;dsimp only[sel,rem,nth,del,cat,upd];refine z02 [0,0,0] (Q:=fun c=>pu (c=false) (z00 [z3u .i64 mm kvs,z06 r20.1 1 (z18 xs),Tm])) ?_ fun c39=>z04 fun h39=>z01 ?_
  ·refine z07 rfl ?_;rw[ed];refine tri_rI 2 rfl h2 hoc ?_;have er:wr .i64 (((r+1:Nat):Int) - 1)=((r:Nat):Int):=by rw[z0d (by omega) (by omega)];omega
   rw[er];have hrl:r<M.rows.length:=by omega
   refine z6h 2 rfl h1 (i:=r) (o:=0) (by omega) (by omega) (v:=((M.rows[r].1:Nat):Int)) (k :=.u16) (by rw[z5e z2b hrl (by omega)];rfl) ?_;have e4:M.rows[r].1=1+k%2:=by
    have:=e3
    unfold z1c at this;rw[List.getElem?_eq_getElem hrl]at this;exact this
   have e5:wr .u16 (wr .i64 ((1:Int)+(k:Int).tmod 2))=((1+k%2:Nat):Int):=by
    rw[show(k:Int).tmod 2=((k%2:Nat):Int)from rfl,z0d (n:=(1:Int)+((k%2:Nat):Int)) (by omega) (by omega),show(1:Int)+((k%2:Nat):Int)=((1+k%2:Nat):Int) by omega];have:k%2=0∨k%2=1:=by omega
    rcases this with h | h<;>rw[h]<;>rfl
   exact z03 [0,0,0] fun q hq=>⟨by rw[e4,e5];simp,hq⟩
  subst h39;dsimp only[sel,rem,nth,del,cat,upd];refine z05 (by simp) ?_;refine zo3 0 rfl _ _ ?_;rw[z0d (n:=(j:Int)+1) (by omega) (by omega)];refine z1n [0,0,0] (ih (j+1) _ (by omega) (by omega) ((hc.put xs[j]).congr fun b=>?_));have e6:b∈xs.take (j+1)↔(b∈xs.take j∨b=xs[j]):=by
   rw[List.take_succ_eq_append_getElem hjl,List.mem_append,List.mem_singleton]
  rw[decide_eq_decide.2 e6,Bool.decide_or,Bool.or_assoc]
def zg7(T:z0q)(k b:Nat):Bool:=(List.range k).any fun j=>decide (b∈z4w (T j))
theorem z13i{d v:Nat}{r3b:Bool}(hg:(gg 20).ok)(hN:5000<N)(A:AI 20 V T i)(h1:RdC Tm rm.1 2 (z1s V.n.m.rows))(h2:RdC Tm rm.2.1 1 (z18 V.n.m.own)) :
  ∀(K k:Nat)(kvs:List (Int×MV)),3 - k<K→k≤3→zbl kvs (zg7 T k) →
  Tri (z00 [z3u .i64 mm kvs,z0l v d (gg 20) V,Tm]) (z0e K (F_3v N (some ⟨v,0⟩,r3b) rm (some mm)) (k:Int)) fun r=>exA fun kvs'=>pu (r=.inl ()∧zbl kvs' (zg7 T 3)) (z00 [z3u .i64 mm kvs',z0l v d (gg 20) V,Tm]):=by
 have fs:=A.fv.fs;intro K;induction K with
 | zero=>intro k kvs h;omega
 | succ K ih=>
  intro k kvs hK hk hc;rw[z12];generalize z0e K (F_3v N (some ⟨v,0⟩,r3b) rm (some mm))=go at ih ⊢;unfold F_3v;by_cases hkl:k<3
  case neg=>
   obtain rfl:k=3:=by omega
   exact z05 (by simp) (z03 [0,0,0] fun q hq=>⟨kvs,⟨rfl,hc⟩,hq⟩)
  refine z07 (by simp;omega) ?_;have hE:=A.hasN hkl;refine z02 [1] (zkc hg hN A.fv (k:Int)) fun r20=>z04 fun h20=>z01 ?_;simp only[if_pos hE,Int.toNat_natCast];dsimp only[sel,rem,nth,del,cat,upd];refine z05 (by simp[h20,hE]) ?_;refine z0a 0 rfl fun lo=>?_;rw[z1k]at lo;have hB:(gg 20).B=160:=rfl;refine z02 [2,0,1] (z13h (N:=N) (r20:=r20) (k:=k) (f:=zg7 T k) fs.ok.inv.ok h1 h2 (by omega) (fun b hb=>?_) (zq8 fs k) hkl (fun b hb=>?_) hN ?_ N 0 kvs ?_ (by omega) (hc.congr fun b=>by simp)) fun j40=>z10 fun kvs'=>z04 fun h40=>z01 ?_
  ·obtain⟨s,hs,e⟩:=(z90 fs).1 hb;have hle:=fs.le k s;have ho:=A.own k s hs;rw[←e]at ho;refine⟨by omega,zen k,ho,(A.row hkl).1,(A.row hkl).2.2⟩
  ·unfold zg7;rw[List.any_eq_false];intro j hj;have hj:=List.mem_range.1 hj;rw[decide_eq_true_iff];intro hb2;obtain⟨s,hs,e⟩:=(z90 fs).1 hb;obtain⟨s',hs',e'⟩:=(z90 fs).1 hb2;have:=(fs.inj k s j s' hs (by omega)).1
   omega
  ·rw[zk1 fs];unfold z9g;have:=List.countP_le_length (p:=fun s=>decide (T k s≠0)) (l:=List.range 75)
   rw[List.length_range]at this;omega
  ·rw[zk1 fs];unfold z9g;have:=List.countP_le_length (p:=fun s=>decide (T k s≠0)) (l:=List.range 75)
   rw[List.length_range]at this;omega
  obtain⟨h40,hc'⟩:=h40;subst h40;dsimp only[sel,rem,nth,del,cat,upd];rw[z0d (n:=(k:Int)+1) (by omega) (by omega)];refine z1n [0,1,0] (ih (k+1) kvs' (by omega) (by omega) (hc'.congr fun b=>?_));unfold zg7;rw[List.range_succ,List.any_append];simp
theorem z13j(A:AI 20 V T i){kvs:List (Int×MV)}(hc:zbl kvs (zg7 T 3))(h3:RdC Tm rm.2.2.1 1 (bytesOf V.n.m.used)):∀(K b:Nat),160 - b<K→b≤160 →
  Tri (z00 [z3u .i64 mm kvs,Tm]) (z0e K (F_3w N rm (some mm)) (b:Int)) fun r=>pu (r=.inl ()) (z00 []):=by
 have fs:=A.fv.fs;have hul:=fs.ok.inv.ok.usedl;have l3:=h3.1;rw[z0c,hul]at l3;intro K;induction K with
 | zero=>intro b h;omega
 | succ K ih=>
  intro b hK hb;rw[z12];generalize z0e K (F_3w N rm (some mm))=go at ih ⊢;unfold F_3w;by_cases hbl:b<160
  case neg=>exact z05 (by simp;omega) (z03 [] fun q hq=>⟨rfl,hq⟩)
  refine z07 (by simp;omega) ?_;refine z02 [0,0] (Q:=fun c=>pu (c=false) (z00 [z3u .i64 mm kvs,Tm])) ?_ fun c52=>z04 fun h52=>z01 ?_
  ·refine z07 (by simp;omega) ?_;have e1:wr .i64 ((b:Int).tdiv 8)=((b / 8:Nat):Int):=by
    rw[show(b:Int).tdiv 8=((b / 8:Nat):Int)from rfl,z0d (by omega) (by omega)]
   have e2:(b:Int).tmod 8=((b%8:Nat):Int):=rfl;have hku:b / 8<V.n.m.used.length:=by omega
   rw[e1,e2];refine tri_rI 1 rfl h3 (i:=b / 8) (k :=.u8) (v:=((V.n.m.used[b / 8].toNat:Nat):Int)) (zcg hku) ?_;rw[if_neg (by omega)];refine zgl 0 rfl _ ?_;rw[hc.val];refine z95 (z03 [0,0] fun q hq=>⟨?_,hq⟩);rw[z178 _ (by omega)];have eb:z0v V.n.m.used b=V.n.m.used[b / 8].toNat.testBit (b%8):=by
    unfold z0v;rw[List.getElem?_eq_getElem hku]
   have eh:zg7 T 3 b=z0v V.n.m.used b:=by
    rw[Bool.eq_iff_iff];constructor
    ·intro h;unfold zg7 at h;obtain⟨j,_,hj⟩:=List.any_eq_true.1 h;obtain⟨s,hs,rfl⟩:=(z90 fs).1 (of_decide_eq_true hj);exact fs.used j s hs
    ·intro h;obtain⟨j,s,e⟩:=A.full b hbl h;unfold zg7;refine List.any_eq_true.2 ⟨j,List.mem_range.2 ?_,decide_eq_true ((z90 fs).2 ⟨s,by omega,by omega⟩)⟩;refine Decidable.byContradiction fun c=>?_;have:=A.three (j:=j) (by omega) s
     omega
   rw[eh,eb];cases V.n.m.used[b / 8].toNat.testBit (b%8)<;>rfl
  subst h52;dsimp only[sel,rem,nth,del,cat,upd];refine z05 (by simp) ?_;rw[z0d (n:=(b:Int)+1) (by omega) (by omega)];exact z1n [0,0] (ih (b+1) (by omega) (by omega))
theorem z13k{d v:Nat}{r3b:Bool}{r:Sl}{k:Nat}(hN:5000<N)(hin:∀A∈acts,ActIn Tb A)(hf:FewOk Tb acts r k):∀(K i:Nat)(V:VolS)(T:z0q),k - i<K→i≤k→AI 20 V T i →
  Tri (z00 [z0l v d (gg 20) V,Tb]) (z0e K (F_3x N (some ⟨v,0⟩,r3b) r) (i:Int)) fun j=>exA fun x:VolS×z0q=>pu (j=.inl ()∧AI 20 x.1 x.2 k) (z00 [z0l v d (gg 20) x.1]):=by
 have hg:=z99 (G:=20) (by omega) (by omega);intro K;induction K with
 | zero=>intro i V T h;omega
 | succ K ih=>
  intro i V T h hi A;have hle:=hf.le;have hlen:=hf.len;have h40:=hf.k40;rw[z12];generalize z0e K (F_3x N (some ⟨v,0⟩,r3b) r)=go at ih ⊢;unfold F_3x;by_cases hik:i<k
  case neg=>
   obtain rfl:i=k:=by omega
   exact z05 (by simp;omega) (z03 [0] fun q hq=>⟨(V,T),⟨rfl,A⟩,hq⟩)
  have hia:i<acts.length:=by omega
  have hit:i<(acts.take k).length:=by rw[List.length_take];omega
  have hA:=hin _ (List.getElem_mem hia);have hsm:=hf.small i hia hik;have eA:(acts.take k)[i]=acts[i]:=by simp
  refine z07 (by simp;omega) ?_;refine z177 1 rfl (hf.rd (by omega)) hit ?_;rw[eA];generalize acts[i]=a at hA hsm;refine z6p 0 rfl (φ:=True) (fun _ _=>trivial) fun _=>?_;refine z02 [0] (zuv hg (A.syncIn (by omega)) hN) fun r9=>z10 fun V1=>z04 fun h9=>z01 ?_;obtain⟨A1,hb1,hd1⟩:=A.begun h9.2;dsimp only[sel,rem,nth,del,cat,upd];refine z05 (by simp[h9.1]) ?_;have efi:wr .i64 ((a.f:Int).tmod 3)=((a.f%3:Nat):Int):=by
   rw[show(a.f:Int).tmod 3=((a.f%3:Nat):Int)from rfl,z0d (by omega) (by omega)]
  have hf3:a.f%3<3:=by omega
  rw[efi];have hbl:=z4r hA.rd;refine z02 [0,0] (Q:=fun c=>exA fun x:VolS×z0q=>pu ((c=false∧AI 20 x.1 x.2 (i+1)∧((a.k:Int).tmod 5=0∨x=(V1,T)))∨(c=true∧Keeps V1 x.1∧(a.k:Int).tmod 5=0)) (z00 [z0l v d (gg 20) x.1,Tb])) ?_ fun c11=>z10 fun x=>z04 fun h11=>z01 ?_
  ·by_cases c0:(a.k:Int).tmod 5=0
   ·refine z07 (by simpa using c0) ?_;refine z02 [0,0] (zx4 hg hN A1 hd1 hf3 hA.at_ (by omega) hA.rd) fun r10=>z10 fun x=>z04 fun h10=>z01 ?_;refine z03 [0,0] fun q hq=>⟨x,?_,hq⟩;rcases h10 with⟨h10,A2⟩ | ⟨h10,K2⟩
    ·exact .inl ⟨by simp[h10],A2,.inl c0⟩
    ·exact .inr ⟨by simp[h10],K2,c0⟩
   ·exact z05 (by simpa using c0) (z03 [0,0] fun q hq=>⟨(V1,T),.inl ⟨rfl,A1,.inr rfl⟩,hq⟩)
  obtain⟨V2,T2⟩:=x;dsimp only at h11;dsimp only[sel,rem,nth,del,cat,upd];refine z02 [0] (Q:=fun _=>exA fun x:VolS×z0q=>pu (AI 20 x.1 x.2 (i+1)∧((a.k:Int).tmod 5=0∨x=(V1,T))) (z00 [z0l v d (gg 20) x.1])) ?_ fun _=>z10 fun x=>z04 fun h13=>z01 ?_
  ·rcases h11 with⟨h11,A2,e2⟩ | ⟨h11,K2,c0⟩
   ·exact z05 (by simp[h11]) (z03 [0] fun q hq=>⟨(V2,T2),⟨A2,e2⟩,hq⟩)
   ·refine z07 h11 ?_;refine z02 [0] (zy7 hg fun n hn=>?_) fun _=>z01 (z03 [0] fun q hq=>⟨(V2.abort,T),⟨A1.aborted hb1 K2,.inl c0⟩,hq⟩);rw[K2.before,hb1]at hn;cases hn;exact A1.fv.fs.ok.inv.ok
  obtain⟨V3,T3⟩:=x;dsimp only at h13;dsimp only[sel,rem,nth,del,cat,upd];refine z02 [0] (Q:=fun _=>exA fun x:VolS×z0q=>pu (AI 20 x.1 x.2 (i+1)) (z00 [z0l v d (gg 20) x.1])) ?_ fun _=>z10 fun x=>z04 fun A4=>z01 ?_
  ·by_cases c2:(a.k:Int).tmod 5=2
   ·refine z07 (by simpa using c2) ?_;obtain⟨A3,h13⟩:=h13;rcases h13 with h13 | h13
    ·omega
    cases h13;refine z02 [0] (z13g hg hN A1 hd1 hf3 a.at_) fun _=>z10 fun x=>z04 fun hx=>z01 (z03 [0] fun q hq=>⟨x,hx,hq⟩)
   ·exact z05 (by simpa using c2) (z03 [0] fun q hq=>⟨(V3,T3),h13.1,hq⟩)
  obtain⟨V4,T4⟩:=x;dsimp only at A4;dsimp only[sel,rem,nth,del,cat,upd];refine z02 [0] (znd (N:=N) hg A4.fv.fs.ok.inv.ok) fun r16=>z01 ?_;dsimp only[sel,rem,nth,del,cat,upd];refine z0a 0 rfl fun l0=>z0a 1 rfl fun l1=>z0a 2 rfl fun l2=>z0a 3 rfl fun l3=>?_;refine z6s [0,0,0,0] ?_;dsimp only[sel,rem,nth,del,cat,upd];have q0:RdC (z00 [z06 r16.1 2 (z1s V4.n.m.rows),z06 r16.2.1 1 (z18 V4.n.m.own),z06 r16.2.2.1 1 (bytesOf V4.n.m.used),z06 r16.2.2.2 14 (z2j V4.n.m.ino)]) r16.1 2 (z1s V4.n.m.rows):=RdC.at 0 rfl (z0j l0);have q1:RdC (z00 [z06 r16.1 2 (z1s V4.n.m.rows),z06 r16.2.1 1 (z18 V4.n.m.own),z06 r16.2.2.1 1 (bytesOf V4.n.m.used),z06 r16.2.2.2 14 (z2j V4.n.m.ino)]) r16.2.1 1 (z18 V4.n.m.own):=RdC.at 1 rfl (z0j l1);have q2:RdC (z00 [z06 r16.1 2 (z1s V4.n.m.rows),z06 r16.2.1 1 (z18 V4.n.m.own),z06 r16.2.2.1 1 (bytesOf V4.n.m.used),z06 r16.2.2.2 14 (z2j V4.n.m.ino)]) r16.2.2.1 1 (bytesOf V4.n.m.used):=RdC.at 2 rfl (z0j l2);generalize z00 [z06 r16.1 2 (z1s V4.n.m.rows),z06 r16.2.1 1 (z18 V4.n.m.own),z06 r16.2.2.1 1 (bytesOf V4.n.m.used),z06 r16.2.2.2 14 (z2j V4.n.m.ino)]=Tm at q0 q1 q2 ⊢;refine zsv .i64 fun mm=>?_;refine z02 [0,1,0] (z13i (N:=N) (r3b:=r3b) hg hN A4 q0 q1 N 0 [] (by omega) (by omega) fun k =>.inl ⟨rfl,rfl⟩) fun j43=>z10 fun kvs=>z04 fun h43=>z01 ?_;obtain⟨h43,hc⟩:=h43;subst h43;dsimp only[sel,rem,nth,del,cat,upd];refine z02 [0,1] (z13j (N:=N) A4 hc q2 N 0 (by omega) (by omega)) fun j53=>z04 fun h53=>z01 ?_;subst h53;dsimp only[sel,rem,nth,del,cat,upd];rw[z0d (n:=(i:Int)+1) (by omega) (by omega)];exact z1n [0,0] (ih (i+1) V4 T4 (by omega) (by omega) A4)
end
end Go.Moat

/- Layer 16: when all files are let go of no block is used. -/
namespace Go.Moat
open Go.Mini
structure DI(V:VolS)(T:z0q)(n:Nat):Prop where
 fv:FV (gg 20) V T
 zero:ztc (gg 20) V T
 full:zo7 (gg 20) V T
 ino:∀j:Nat,n≤j→j<3→V.n.m.hasE (j:Int)=0
 gone:∀j s,(j<n∨3≤j)→T j s=0
section
variable{N:Nat}{β:Type}{l:List HA}{S:β→HA}{d v:Nat}{V V':VolS}{T T':z0q}{i ii:Nat}{Tb:HA}{s:Sl}{acts:List ActS}
theorem AI.di(A:AI 20 V T i):DI V T 0:=⟨A.fv,A.zero,A.full,fun j _ h=>A.hasN h,fun j s h=>A.three (by omega) s⟩
theorem z179{g:Geo}(C:CutP g V T ii 0 V' T')(s:Nat):T' ii s=0:=by
 by_cases h75:s<75
 case neg=>exact C.fv.fs.out _ _ (by omega)
 have lf0:∀s,s<75→dep s=0→T' ii s=0:=fun s h hd=>by rw[C.leaf s h hd,if_pos (Nat.zero_le _)]
 have k0:∀c,c=8∨c=42→∀j,j<32→T' ii (kid c j)=0:=fun c hc j hj=>by
  rcases hc with rfl | rfl
  ·have e:kid 8 j=9+j:=rfl;rw[e];exact lf0 _ (by omega) (by unfold dep;rw[if_neg (by omega),if_neg (by omega)])
  ·have e:kid 42 j=43+j:=rfl;rw[e];exact lf0 _ (by omega) (by unfold dep;rw[if_neg (by omega),if_neg (by omega)])
 have z42:T' ii 42=0:=C.none 42 (by omega) (by decide) (k0 42 (.inr rfl));by_cases hd:dep s=0
 ·exact lf0 s h75 hd
 rcases z2c hd with rfl | rfl | rfl
 ·exact C.none 8 (by omega) (by decide) (k0 8 (.inl rfl))
 ·refine C.none 41 (by omega) (by decide) fun j hj=>?_;unfold kid;rw[if_neg (by omega),if_pos rfl];split
  ·exact z42
  ·exact C.fv.fs.out _ _ (by omega)
 ·exact z42
theorem DI.drop(D:DI V T ii)(hg:(gg 20).ok)(hii:ii<3)(C:CutP (gg 20) V T ii 0 V' T'):V'.n.m.hasE (ii:Int)=0∧DI (V'.wM (V'.n.m.unmake ii)) T' (ii+1):=by
 have hE:=D.ino ii (by omega) hii;obtain⟨n',eino,k1,k2,k3,k4⟩:=C.ino;have hlt:=zfj hE;have hE':∀j:Int,V'.n.m.hasE j=V.n.m.hasE j:=fun j=>by
  unfold MetaS.hasE;rw[eino,List.length_set,z5f hlt.1];by_cases e:j.toNat=ii
  ·rw[if_pos e,e,k1]
  ·rw[if_neg e]
 have hl':ii<V'.n.m.ino.length:=by rw[eino,List.length_set];exact hlt.1
 have e2:V'.n.m.ino[ii]=n':=by simp[eino]
 have inv:=zxp hg C.fv.fs.ok.inv hl' (by rw[e2,k1];exact hlt.2);have ei:∀j,z14 (V'.n.m.unmake ii).ino j=if j=ii then Ino.z else z14 V'.n.m.ino j:=fun j=>z5f hl' Ino.z j
 have all:=z179 C;refine⟨by rw[hE'];exact hE,⟨⟨C.fv.fs.wM inv rfl,fun j k hk=>?_⟩,fun j x hx hx2=>?_,fun b hb hu=>C.xt.full D.full b hb hu,fun j h1 h2=>?_,fun j s h=>?_⟩⟩
 ·show(z14 (V'.n.m.unmake ii).ino j).at _=_;rw[ei];split
  ·rename_i e;subst e;rw[zat _ rfl,all];rfl
  ·exact C.fv.roots j k hk
 ·show fb (gg 20) V' T' j x=0;by_cases e:j=ii
  ·subst e;exact zbj (all _)
  ·have es:z2g (V'.n.m.unmake ii) j=z2g V.n.m j:=by
    unfold z2g;rw[ei,if_neg e,eino,z5f hlt.1,if_neg e]
   have hx:z2g (V'.n.m.unmake ii) j≤x:=hx;rw[es]at hx;rw[C.fb j x hx2,if_neg fun y=>e y.1];exact D.zero j x hx hx2
 ·have:=D.ino j (by omega) h2
  rw[←hE']at this;show(V'.n.m.unmake ii).hasE (j:Int)=0;unfold MetaS.hasE at this ⊢;rw[Int.toNat_natCast]at this ⊢;rw[ei,if_neg (show ¬j=ii by omega),show(V'.n.m.unmake ii).ino.length=V'.n.m.ino.length from List.length_set];exact this
 ·rcases h with h | h
  ·by_cases e:j=ii
   ·subst e;exact all s
   ·rw[C.same j s e];exact D.gone j s (.inl (by omega))
  ·rw[C.same j s (by omega)];exact D.gone j s (.inr h)
theorem z14y{r3b:Bool}(hN:5000<N):∀(K n:Nat)(V:VolS)(T:z0q),3 - n<K→n≤3→DI V T n →
  Tri (z00 [z0l v d (gg 20) V]) (z0e K (F_3y N (some ⟨v,0⟩,r3b)) (n:Int)) fun j=>exA fun x:VolS×z0q=>pu (j=.inl ()∧DI x.1 x.2 3) (z00 [z0l v d (gg 20) x.1]):=by
 have hg:=z99 (G:=20) (by omega) (by omega);intro K;induction K with
 | zero=>intro n V T h;omega
 | succ K ih=>
  intro n V T h hn D;rw[z12];generalize z0e K (F_3y N (some ⟨v,0⟩,r3b))=go at ih ⊢;unfold F_3y;by_cases hn3:n<3
  case neg=>
   obtain rfl:n=3:=by omega
   exact z05 (by simp) (z03 [0] fun q hq=>⟨(V,T),⟨rfl,D⟩,hq⟩)
  refine z07 (by simp;omega) ?_;have hE:=D.ino n (by omega) hn3;refine z02 [0] (Q:=fun r=>exA fun x:VolS×z0q=>pu (r=0∧DI x.1 x.2 (n+1)) (z00 [z0l v d (gg 20) x.1])) ?_ fun r61=>z10 fun x=>z04 fun h61=>z01 ?_
  ·unfold F_4f;refine z02 [0] (zl5 (size:=0) hg hN D.fv D.zero hE (by omega)) fun r3=>z10 fun x=>z04 fun h3=>z01 ?_;obtain⟨V',T'⟩:=x;obtain⟨h3,C⟩:=h3;have C:CutP (gg 20) V T n 0 V' T':=C;subst h3;dsimp only[sel,rem,nth,del,cat,upd];refine z05 (by simp) ?_;obtain⟨hE',D'⟩:=D.drop hg hn3 C;have inv:=C.fv.fs.ok.inv;refine z02 [0] (zt4 hg inv.ok inv.rf (n:Int) hN) fun r4=>z04 fun h4=>z01 ?_;rw[if_pos hE',Int.toNat_natCast];exact z03 [0] fun q hq=>⟨(_,T'),⟨by rw[h4,hE'],D'⟩,hq⟩
  obtain⟨V',T'⟩:=x;obtain⟨h61,D'⟩:=h61;have D':DI V' T' (n+1):=D';subst h61;dsimp only[sel,rem,nth,del,cat,upd];refine z05 (by simp) ?_;rw[z0d (n:=(n:Int)+1) (by omega) (by omega)];exact z1n [0] (ih (n+1) V' T' (by omega) (by omega) D')
theorem z120{bs:List UInt8}(hl:bs.length=64)(h:∀i,z0v bs i=false):bs=z1e:=by
 apply List.ext_getElem?;intro j;by_cases hj:j<64
 ·have hjl:j<bs.length:=by omega
  rw[List.getElem?_eq_getElem hjl,show z1e=List.replicate 64 0 from rfl,List.getElem?_replicate,if_pos hj];congr 1;apply UInt8.toNat_inj.1;show bs[j].toNat=0;have hb:∀r,r<8→bs[j].toNat.testBit r=false:=fun r hr=>by
   have:=h (8 * j+r)
   unfold z0v at this;rw[show(8 * j+r) / 8=j by omega,show(8 * j+r)%8=r by omega,List.getElem?_eq_getElem hjl]at this;exact this
  have hlt:=bs[j].toNat_lt;generalize bs[j].toNat=x at hb hlt;have key:∀x:Fin 256,(∀r:Fin 8,x.val.testBit r.val=false)→x.val=0:=by decide +kernel
  exact key ⟨x,by omega⟩ fun r=>hb r.val r.isLt
 ·rw[List.getElem?_eq_none (by omega),List.getElem?_eq_none (by rw[show z1e=List.replicate 64 0 from rfl,List.length_replicate];omega)]
theorem DI.none(D:DI V T 3):V.n.m.used=z1e∧∀k,k<V.n.m.own.length→V.n.m.own[k]? = some 0:=by
 have inv:=D.fv.fs.ok.inv;have hu:∀b,z0v V.n.m.used b=false:=fun b=>by
  cases hb:z0v V.n.m.used b with
  | false=>rfl
  | true=>
   by_cases hB:b<(gg 20).B
   ·obtain⟨j,s,e⟩:=D.full b hB hb;rw[D.gone j s (by omega)]at e;omega
   ·rw[inv.ok.used0 b (by omega)]at hb;cases hb
 refine⟨z120 inv.ok.usedl hu,fun k hk=>?_⟩;rw[List.getElem?_eq_getElem hk];congr 1;have:=inv.grp k (by rw[←inv.ok.ownl];exact hk)
 rw[List.getElem?_eq_getElem hk,Option.getD_some]at this;refine Decidable.byContradiction fun c=>?_;obtain⟨b,_,_,hb⟩:=this.1 (by omega);rw[hu b]at hb;cases hb
theorem z14z{rm:Sl×Sl×Sl×Sl}{Tm:HA}{own:List Nat}(h2:RdC Tm rm.2.1 1 (z18 own))(h0:∀k,k<own.length→own[k]? = some 0)(hl:own.length≤100):∀(K k:Nat),own.length - k<K→k≤own.length →
  Tri (z00 [Tm]) (z0e K (F_3z N rm) (k:Int)) fun r=>pu (r=.inl ()) (z00 [Tm]):=by
 have l2:=h2.1;rw[z1k]at l2;intro K;induction K with
 | zero=>intro k h;omega
 | succ K ih=>
  intro k hK hk;rw[z12];generalize z0e K (F_3z N rm)=go at ih ⊢;unfold F_3z;by_cases hkl:k<own.length
  case neg=>exact z05 (by simp;omega) (z03 [0] fun q hq=>⟨rfl,hq⟩)
  refine z07 (by simp;omega) ?_;refine tri_rI 0 rfl h2 (i:=k) (k :=.i64) (v:=((0:Nat):Int)) (by simp[z1w,h0 k hkl]) ?_;refine z05 (by simp) ?_;rw[z0d (n:=(k:Int)+1) (by omega) (by omega)];exact ih (k+1) (by omega) (by omega)
theorem z121(hN:5000<N)(hin:∀A∈acts,ActIn Tb A)(hr:acts≠[]→RdC Tb s 5 (z1l zau acts))(hlen:s.len=acts.length):Tri (z00 [Tb]) (F_4g N s) fun r=>pu (r=true) emp:=by
 have hg:=z99 (G:=20) (by omega) (by omega);unfold F_4g;refine z02 [] (zti hN) fun r2=>z04 fun h2=>z01 ?_;subst h2;dsimp only[sel,rem,nth,del,cat,upd];refine z02 [] (zis (N:=N) (G:=20) (by omega) (by omega) hN) fun r3=>z10 fun x=>z04 fun h3=>z01 ?_;obtain⟨d,v⟩:=x;subst h3;dsimp only[sel,rem,nth,del,cat,upd];refine z05 (by simp) ?_;refine z02 [1] (z14x hr hlen (by omega)) fun r4=>z10 fun k=>z04 fun h4=>z01 ?_;dsimp only[sel,rem,nth,del,cat,upd];refine z02 [1,0] (z13k (N:=N) (r3b:=true) hN hin h4 N 0 _ T0 (by have:=h4.k40;omega) (by omega) (z14w (by omega) (by omega))) fun j56=>z10 fun x=>z04 fun h56=>z01 ?_;obtain⟨V,T⟩:=x;obtain⟨h56,A⟩:=h56;have A:AI 20 V T k:=A;subst h56;dsimp only[sel,rem,nth,del,cat,upd];refine z02 [0] (z14y (N:=N) (r3b:=true) hN N 0 V T (by omega) (by omega) A.di) fun j62=>z10 fun x=>z04 fun h62=>z01 ?_;obtain⟨V',T'⟩:=x;obtain⟨h62,D⟩:=h62;have D:DI V' T' 3:=D;subst h62;dsimp only[sel,rem,nth,del,cat,upd];obtain⟨z1,z2⟩:=D.none;refine z02 [0] (znd (N:=N) hg D.fv.fs.ok.inv.ok) fun r65=>z01 ?_;dsimp only[sel,rem,nth,del,cat,upd];refine z0a 1 rfl fun l1=>z0a 2 rfl fun l2=>?_;have hol:=D.fv.fs.ok.inv.ok.ownl;refine z02 [1] (z14z (N:=N) (rm:=r65) (z0j l1) z2 (by rw[hol];show 20≤100;omega) N 0 (by rw[hol];show 20 - 0<N;omega) (by omega)) fun j70=>z04 fun h70=>z01 ?_;subst h70;dsimp only[sel,rem,nth,del,cat,upd];refine z02 [2] (Q:=fun c=>pu (c=true) (z00 [])) ?_ fun c76=>z04 fun h76=>z01 (z03 [] fun q hq=>⟨h76,hq⟩);refine z07 rfl ?_;refine z5d 0 rfl (z0j l2) ?_;refine z6e (g:=fun b=>(⟨some ⟨b,0⟩,64⟩:Sl)) (x :=.cells (z0r 64 [MV.int .u8 (0:Int)]) false) (fun h'=>rfl) fun b=>?_;refine z5d 0 rfl (bs:=z1e) (by rw[ziq];exact rd_pts0 (by rw[z0c];rfl)) ?_;exact z03 [] fun q hq=>⟨by rw[z1];simp,hq⟩
end
end Go.Moat
