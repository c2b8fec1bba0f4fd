/- Maps: what is found under a key; entries that are put. -/
import Derived.Test.YtfieiaijdalkbaaGreatML
namespace Go.Mini
section
variable{P:Program}{ρ:Rho}{w:World}
def zji(d:TypeDesc)(key:MV):Prop:=(∃k n,key=.int k n∧d=.int k)∨(∃s,key=.str s∧d=.string)∨∃b,key=.bool b∧d=.bool
theorem zkx{t:TypeId}{c:CTy}(h:cty P t=some c){key:MV}(hk:z8x c key=true):∃d,P.underlying t=some d∧zji d key:=by
 unfold z8x at hk;split at hk
 ·have:=of_decide_eq_true hk
  subst this;exact⟨_,zob h,.inl ⟨_,_,rfl,rfl⟩⟩
 ·exact⟨_,zoc h,.inr (.inl ⟨_,rfl,rfl⟩)⟩
 ·exact⟨_,zl1 h,.inr (.inr ⟨_,rfl,rfl⟩)⟩
 ·cases hk
theorem z14e{a b:MV}(h:z8y a b=some true):b=a:=by
 unfold z8y at h;split at h
 ·split at h
  ·rename_i e;subst e;simp at h;rw[h]
  ·cases h
 ·simp at h;rw[h]
 ·simp at h;rw[h]
 ·cases h
theorem zxs{d:TypeDesc}{key k:MV}(hd:zji d key){rk re:Value}(h1:VRel ρ key rk)(h2:VRel ρ k re){b:Bool}(h:z8y key k=some b):Instr.sameNow d rk re=some b:=by
 rcases hd with⟨kd,n,rfl,rfl⟩ | ⟨s,rfl,rfl⟩ | ⟨x,rfl,rfl⟩
 ·cases h1;cases k<;>simp only[z8y]at h<;>first | (cases h;done) | skip
  cases h2;split at h
  ·rename_i e;subst e;cases h;simp only[Instr.sameNow,if_true];congr 1
  ·cases h
 ·cases h1;cases k<;>simp only[z8y]at h<;>first | (cases h;done) | skip
  cases h2;cases h;simp only[Instr.sameNow,zib]
 ·cases h1;cases k<;>simp only[z8y]at h<;>first | (cases h;done) | skip
  cases h2;cases h;simp only[Instr.sameNow];congr 1
theorem zdu{d:TypeDesc}{key:MV}(hd:zji d key){rk:Value}(h1:VRel ρ key rk){es:List (MV×MV)}{rs:List MapEntry}(hr:ERel ρ es rs) :
  ∀{r:Option (Nat×MV)},z6x key es=some r→∀i,∃r',Instr.findNow d rk rs i=some r'∧((r=none∧r'=none)∨∃j v x e,r=some (j,v)∧r'=some (i+j,x)∧VRel ρ v x∧rs[j]? = some e∧VRel ρ key e.key):=by
 induction hr with
 | nil=>intro r h i;cases h;exact⟨none,rfl,.inl ⟨rfl,rfl⟩⟩
 | cons k v e es rs hk hv h ih=>
  intro r hf i;simp only[z6x]at hf;simp only[Instr.findNow];cases hq:z8y key k with
  | none=>rw[hq]at hf;cases hf
  | some b=>
   rw[hq]at hf;rw[zxs hd h1 hk hq];cases b with
   | true=>
    cases hf;have:=z14e hq
    subst this;exact⟨_,rfl,.inr ⟨0,v,e.val,e,rfl,rfl,hv,rfl,hk⟩⟩
   | false=>
    dsimp only at hf ⊢;cases hg:z6x key es with
    | none=>rw[hg]at hf;cases hf
    | some r0=>
     rw[hg]at hf;obtain⟨r',h2,h3⟩:=ih hg (i+1);refine⟨r',h2,?_⟩;rcases h3 with⟨rfl,rfl⟩ | ⟨j,u,x,e',rfl,rfl,h4,h5,h6⟩
     ·cases hf;exact .inl ⟨rfl,rfl⟩
     ·cases hf;exact .inr ⟨j+1,u,x,e',rfl,by rw[show i+1+j=i+(j+1) by omega],h4,by simpa using h5,h6⟩
theorem z83{t:TypeId}{d:TypeDesc}(hu:P.underlying t=some d){rk:Value}{rs:List MapEntry}{r':Option (Nat×Value)}(h:Instr.findNow d rk rs 0=some r'):(Instr.findKey t rk rs).run P w=.ok r' w:=by
 unfold Instr.findKey;simp[z0o hu,h]
theorem z62{t:TypeId}{d:TypeDesc}(hu:P.underlying t=some d){key:MV}(hd:zji d key){rk:Value}(n:Nat)(b:Bool):(Instr.checkKey b (n+1) t rk).run P w=.ok () w:=by
 rcases hd with⟨kd,m,rfl,rfl⟩ | ⟨s,rfl,rfl⟩ | ⟨x,rfl,rfl⟩<;>simp[Instr.checkKey,z0o hu]
theorem zm7{h:Hp}(kh:HRel ρ h w.heap){t kt E:TypeId}(hu:P.underlying t=some (.map kt E)){c:CTy}(hc:cty P kt=some c){m:Option Nat}{key:MV}(hk:z8x c key=true){rm rk:Value}(hm:VRel ρ (.map m) rm)(hr:VRel ρ key rk)
  {zi:TypeInfo} {zv:Value} (hi:P.info? E=some zi) (hz:zi.zero=some zv) {z:MV} (hzr:VRel ρ z zv) {o:Option MV} {h':Hp} (e:z84 m key h=some (o,h')) :
  h'=h∧∃x,VRel ρ (o.getD z) x∧∀ok:Bool,(Instr.lookup t rm rk ok).run P w=.ok (if ok then .tuple #[x,.bool o.isSome]else x) w:=by
 obtain⟨d,hd,hkd⟩:=zkx hc hk;obtain⟨es,h1,e1,e2⟩:=z0f e;have key0:∀(rs:Array MapEntry),ERel ρ es rs.toList→h1=h→(∀(ok:Bool)(r':Option (Nat×Value)),Instr.findNow d rk rs.toList 0=some r' →
   (Instr.lookup t rm rk ok).run P w=.ok (if ok then .tuple #[(match r' with | some (_,v)=>v | none=>zv),.bool r'.isSome]else(match r' with | some (_,v)=>v | none=>zv)) w) →
   h'=h∧∃x,VRel ρ (o.getD z) x∧∀ok:Bool,(Instr.lookup t rm rk ok).run P w=.ok (if ok then .tuple #[x,.bool o.isSome]else x) w:=by
  intro rs hers hh hrun;subst hh;cases hf:z6x key es with
  | none=>rw[hf]at e2;cases e2
  | some r=>
   rw[hf]at e2;obtain⟨r',h3,h4⟩:=zdu hkd hr hers hf 0;rcases h4 with⟨rfl,rfl⟩ | ⟨j,v,x,e',rfl,rfl,h5,_⟩
   ·cases e2;exact⟨rfl,zv,hzr,fun ok=>hrun ok none h3⟩
   ·cases e2;exact⟨rfl,x,h5,fun ok=>hrun ok _ h3⟩
 cases hm with
 | mapNil=>
  cases e1;refine key0 #[] .nil rfl fun ok r' h3=>?_;cases r'<;>cases ok<;>simp[Instr.lookup,z0o hu,z62 hd hkd 9999,z83 hd h3,z38 hi hz]
 | map b rb hb=>
  simp only[z8e]at e1;split at e1
  ·rename_i es' hg;cases e1;have hbk:=kh.blk _ _ hb;rw[hg]at hbk;obtain⟨rs,ck,h3,h4,h9⟩:=hbk;refine key0 rs h4 rfl fun ok r' h5=>?_;cases r'<;>cases ok<;>simp[Instr.lookup,z0o hu,getObj,Sem.run,h3,z62 hd hkd 9999,z83 hd h5,z38 hi hz]
  ·cases e1
theorem ERel.set{es:List (MV×MV)}{rs:List MapEntry}(hr:ERel ρ es rs){key v:MV}{x:Value}(hv:VRel ρ v x):∀(j:Nat)(f:MapEntry→MapEntry),(∀e,rs[j]? = some e→VRel ρ key (f e).key∧(f e).val=x)→ERel ρ (es.set j (key,v)) (rs.modify j f):=by
 induction hr with
 | nil=>intro j f _;cases j<;>exact .nil
 | cons k u e es rs hk hu h ih=>
  intro j f hf;cases j with
  | zero=>
   obtain⟨h1,h2⟩:=hf e rfl;exact .cons _ _ _ _ _ h1 (by rw[h2];exact hv) h
  | succ j=>exact .cons _ _ _ _ _ hk hu (ih j f fun e' he=>hf e' (by simpa using he))
theorem ERel.push{es:List (MV×MV)}{rs:List MapEntry}(hr:ERel ρ es rs){key v:MV}{e:MapEntry}(hk:VRel ρ key e.key)(hv:VRel ρ v e.val):ERel ρ (es++[(key,v)]) (rs++[e]):=by
 induction hr with
 | nil=>exact .cons _ _ _ _ _ hk hv .nil
 | cons k u e' es rs hk' hu h ih=>exact .cons _ _ _ _ _ hk' hu ih
theorem zs4{d:TypeDesc}{key:MV}(hd:zji d key){a b:Value}(h1:VRel ρ key a)(h2:VRel ρ key b):a=b∧∀n,Instr.sameBits n a b=true:=by
 rcases hd with⟨kd,n,rfl,rfl⟩ | ⟨s,rfl,rfl⟩ | ⟨x,rfl,rfl⟩<;>cases h1<;>cases h2<;>refine⟨rfl,fun n=>?_⟩<;>simp[Instr.sameBits,zib]
theorem zd1(w:World)(b:Nat)(o:Obj)(hb:b<w.heap.size):(w.heap.setIfInBounds b o)[b]? = some o:=by
 simp[Array.getElem?_setIfInBounds,hb]
theorem zxt{d:TypeDesc}{key:MV}(hd:zji d key){rk:Value}(h1:VRel ρ key rk){es:List (MV×MV)}{rs:List MapEntry}(hr:ERel ρ es rs)(h:z6x key es=some none):∀e∈rs,e.key≠rk:=by
 induction hr with
 | nil=>intro e he;cases he
 | cons k v e es rs hk hv _ ih=>
  simp only[z6x]at h;intro e' he';cases hq:z8y key k with
  | none=>rw[hq]at h;cases h
  | some b=>
   rw[hq]at h;cases b with
   | true=>simp at h
   | false=>
    have h':z6x key es=some none:=by
     dsimp only at h;cases hx:z6x key es with
     | none=>rw[hx]at h;cases h
     | some o=>rw[hx]at h;cases o<;>first | rfl | simp at h
    rcases List.mem_cons.1 he' with rfl | he'
    ·intro hc;rw[hc]at hk;rcases hd with⟨kd,n,rfl,rfl⟩ | ⟨s,rfl,rfl⟩ | ⟨x,rfl,rfl⟩
     ·cases h1;cases k<;>simp only[z8y]at hq<;>first | (cases hq;done) | skip
      cases hk;simp at hq
     ·cases h1;cases k<;>simp only[z8y]at hq<;>first | (cases hq;done) | skip
      cases hk;simp at hq
     ·cases h1;cases k<;>simp only[z8y]at hq<;>first | (cases hq;done) | skip
      cases hk;simp at hq
    ·exact ih h' e' he'
theorem zs5{rs:Array MapEntry}{ck:Nat}{rk rv:Value}(h:MapKept.Stamped rs ck)(hk:∀e∈rs.toList,e.key≠rk):MapKept.Stamped (rs.push {key:=rk,val:=rv,born:=ck}) (ck+1):=by
 obtain⟨h1,h2,h3⟩:=h;refine⟨fun x hx=>?_,?_,?_⟩
 ·rw[Array.toList_push]at hx;rcases List.mem_append.1 hx with hx | hx
  ·exact Nat.lt_succ_of_lt (h1 x hx)
  ·rw[List.mem_singleton.1 hx];exact Nat.lt_succ_self _
 ·rw[Array.toList_push,List.map_append,List.nodup_append];refine⟨h2,by simp,fun a ha b hb=>?_⟩;obtain⟨x,hx,rfl⟩:=List.mem_map.1 ha;simp at hb;have:=h1 x hx
  omega
 ·rw[Array.toList_push,List.map_append,List.nodup_append];refine⟨h3,by simp,fun a ha b hb=>?_⟩;obtain⟨x,hx,rfl⟩:=List.mem_map.1 ha;simp at hb;subst hb;exact hk x hx
theorem zo8{rs:Array MapEntry}{ck:Nat}{rv:Value}{j:Nat}{e':MapEntry}(h:MapKept.Stamped rs ck)(hj:rs[j]? = some e'):MapKept.Stamped (rs.modify j fun e=>{e with key:=e'.key,val:=rv}) ck:=by
 obtain⟨h1,h2,h3⟩:=h;have hl:∀(l:List MapEntry)(j:Nat),l[j]? = some e'→(l.modify j fun e=>{e with key:=e'.key,val:=rv}).map (·.born)=l.map (·.born)∧(l.modify j fun e=>{e with key:=e'.key,val:=rv}).map (·.key)=l.map (·.key):=by
  intro l;induction l with
  | nil=>intro j h;simp at h
  | cons x l ih=>
   intro j h;cases j with
   | zero=>
    simp at h;subst h;simp
   | succ j=>
    obtain⟨a,b⟩:=ih j (by simpa using h);simp[a,b]
 obtain⟨e1,e2⟩:=hl rs.toList j (by simpa using hj);refine⟨fun x hx=>?_,?_,?_⟩
 ·rw[Array.toList_modify]at hx;have:x.born∈(rs.toList.modify j fun e=>{e with key:=e'.key,val:=rv}).map (·.born):=List.mem_map_of_mem hx
  rw[e1]at this;obtain⟨y,hy,e⟩:=List.mem_map.1 this;rw[←e];exact h1 y hy
 ·rw[Array.toList_modify,e1];exact h2
 ·rw[Array.toList_modify,e2];exact h3
theorem z10a{h:Hp}(kh:HRel ρ h w.heap){t kt E:TypeId}(hu:P.underlying t=some (.map kt E)){c:CTy}(hc:cty P kt=some c){m:Option Nat}{key v:MV}(hk:z8x c key=true){rm rk rv:Value}(hm:VRel ρ (.map m) rm)(hr:VRel ρ key rk)(hv:VRel ρ v rv)
  {h':Hp} {u:Unit} (e:mapPut m key v h=some (u,h')):∃w',(Instr.mapUpdate t rm rk rv).run P w=.ok () w'∧HRel ρ h' w'.heap∧HStp ρ h w ρ h' w':=by
 obtain⟨d,hd,hkd⟩:=zkx hc hk;cases hm with
 | mapNil=>cases e
 | map b rb hb=>
  simp only[mapPut]at e;split at e
  ·rename_i es hg;have hbk:=kh.blk _ _ hb;rw[hg]at hbk;obtain⟨rs,ck,h3,h4,h9⟩:=hbk;have hlt:rb.r<w.heap.size:=(Array.getElem?_eq_some_iff.1 h3).1;have fin:∀(es':List (MV×MV))(rs':Array MapEntry)(ck':Nat),h'=h.set b (.map es')→ERel ρ es' rs'.toList→MapKept.Stamped rs' ck' →
     (Instr.mapUpdate t (.map (some rb.r)) rk rv).run P w=(setObj rb.r (.map rs' ck'):Sem Unit).run P w→∃w',(Instr.mapUpdate t (.map (some rb.r)) rk rv).run P w=.ok () w'∧HRel ρ h' w'.heap∧HStp ρ h w ρ h' w':=by
    intro es' rs' ck' hh her hst hrun;subst hh;refine⟨{w with heap:=w.heap.setIfInBounds rb.r (.map rs' ck')},?_,?_⟩
    ·rw[hrun];simp[setObj,Sem.run,h3]
    ·exact kh.write (w':={w with heap:=w.heap.setIfInBounds rb.r (.map rs' ck')}) (.map es') hb (.inr ⟨es,hg⟩) (by simp) (by simp) (by simp) (fun i hi=>by simp[Array.getElem?_setIfInBounds,Ne.symm hi]) rfl rfl rfl
      ⟨rs',ck',zd1 w rb.r _ hlt,her,hst⟩
   cases hf:z6x key es with
   | none=>rw[hf]at e;cases e
   | some r=>
    rw[hf]at e;obtain⟨r',h5,h6⟩:=zdu hkd hr h4 hf 0;rcases h6 with⟨rfl,rfl⟩ | ⟨j,u',x,e',rfl,rfl,_,h7,h8⟩
    ·cases e;refine fin _ (rs.push {key:=rk,val:=rv,born:=ck}) (ck+1) rfl ?_ (zs5 h9 (zxt hkd hr h4 hf)) ?_
     ·rw[Array.toList_push];exact h4.push hr hv
     ·simp[Instr.mapUpdate,z0o hu,getObj,Sem.run,h3,z62 hd hkd 9999,z83 hd h5]
    ·cases e;obtain⟨rfl,hsb⟩:=zs4 hkd h8 hr;have hj:rs[j]? = some e':=by simpa using h7
     refine fin _ (rs.modify j fun e=>{e with key:=e'.key,val:=rv}) ck rfl ?_ (zo8 h9 hj) ?_
     ·rw[Array.toList_modify];exact h4.set hv j _ fun e he=>⟨hr,rfl⟩
     ·simp[Instr.mapUpdate,z0o hu,getObj,Sem.run,h3,z62 hd hkd 9999,z83 hd h5,hj,Instr.keyThatStays,hsb]
  ·cases e
theorem ERel.erase{es:List (MV×MV)}{rs:List MapEntry}(hr:ERel ρ es rs):∀j,ERel ρ (es.eraseIdx j) (rs.eraseIdx j):=by
 induction hr with
 | nil=>intro j;exact .nil
 | cons k u e es rs hk hu h ih=>
  intro j;cases j with
  | zero=>exact h
  | succ j=>exact .cons _ _ _ _ _ hk hu (ih j)
theorem zff(rs:Array MapEntry)(j:Nat):(rs.eraseIdxIfInBounds j).toList=rs.toList.eraseIdx j:=by
 unfold Array.eraseIdxIfInBounds;split
 ·simp
 ·rename_i h;rw[List.eraseIdx_of_length_le (by simp at h ⊢;omega)]
theorem zqv{rs:Array MapEntry}{ck:Nat}(h:MapKept.Stamped rs ck)(j:Nat):MapKept.Stamped (rs.eraseIdxIfInBounds j) ck:=by
 obtain⟨h1,h2,h3⟩:=h;have hs:(rs.eraseIdxIfInBounds j).toList.Sublist rs.toList:=by
  rw[zff];exact List.eraseIdx_sublist ..
 exact⟨fun x hx=>h1 x (hs.subset hx),h2.sublist (hs.map _),h3.sublist (hs.map _)⟩
theorem z10b(w:World)(b:Nat)(o:Obj)(h:w.heap[b]? = some o):({w with heap:=w.heap.setIfInBounds b o}:World)=w:=by
 have:w.heap.setIfInBounds b o=w.heap:=by
  apply Array.ext_getElem?;intro i;rw[Array.getElem?_setIfInBounds];split
  ·rename_i e;subst e;split
   ·exact h.symm
   ·rename_i hi;exact absurd (Array.getElem?_eq_some_iff.1 h).1 hi
  ·rfl
 rw[this]
theorem z10c{h:Hp}(kh:HRel ρ h w.heap){t t2 kt E ty:TypeId}(hu:P.underlying t=some (.map kt E)){c:CTy}(hc:cty P kt=some c){m:Option Nat}{key:MV}(hk:z8x c key=true){rm rk:Value}(hm:VRel ρ (.map m) rm)(hr:VRel ρ key rk)
  {h':Hp} {u:Unit} (e:mapDel m key h=some (u,h')):∃w',(Builtin.delete_ #[t,t2] ty #[rm,rk]).run P w=.ok (.tuple #[]) w'∧HRel ρ h' w'.heap∧HStp ρ h w ρ h' w':=by
 obtain⟨d,hd,hkd⟩:=zkx hc hk;cases hm with
 | mapNil=>
  cases e;refine⟨w,?_,kh,HStp.refl _ _ _⟩;simp[Builtin.delete_,z0o hu,z62 hd hkd 9999]
 | map b rb hb=>
  simp only[mapDel]at e;split at e
  ·rename_i es hg;have hbk:=kh.blk _ _ hb;rw[hg]at hbk;obtain⟨rs,ck,h3,h4,h9⟩:=hbk;have hlt:rb.r<w.heap.size:=(Array.getElem?_eq_some_iff.1 h3).1;cases hf:z6x key es with
   | none=>rw[hf]at e;cases e
   | some r=>
    rw[hf]at e;obtain⟨r',h5,h6⟩:=zdu hkd hr h4 hf 0;rcases h6 with⟨rfl,rfl⟩ | ⟨j,u',x,e',rfl,rfl,_,h7,h8⟩
    ·cases e;refine⟨w,?_,kh,HStp.refl _ _ _⟩;simp[Builtin.delete_,z0o hu,getObj,setObj,Sem.run,h3,z62 hd hkd 9999,z83 hd h5,z10b w rb.r _ h3]
    ·cases e;refine⟨{w with heap:=w.heap.setIfInBounds rb.r (.map (rs.eraseIdxIfInBounds j) ck)},?_,?_⟩
     ·simp[Builtin.delete_,z0o hu,getObj,setObj,Sem.run,h3,z62 hd hkd 9999,z83 hd h5]
     ·exact kh.write (w':={w with heap:=w.heap.setIfInBounds rb.r (.map (rs.eraseIdxIfInBounds j) ck)}) (.map (es.eraseIdx j)) hb (.inr ⟨es,hg⟩) (by simp) (by simp) (by simp) (fun i hi=>by simp[Array.getElem?_setIfInBounds,Ne.symm hi]) rfl rfl rfl
       ⟨_,ck,zd1 w rb.r _ hlt,by rw[zff];exact h4.erase j,zqv h9 j⟩
  ·cases e
theorem z10d{h:Hp}(kh:HRel ρ h w.heap){t kt E ty:TypeId}(hu:P.underlying t=some (.map kt E)){m:Option Nat}{rm:Value}(hm:VRel ρ (.map m) rm)
  {h':Hp} {u:Unit} (e:mapClr m h=some (u,h')):∃w',(Builtin.clear_ #[t] ty #[rm]).run P w=.ok (.tuple #[]) w'∧HRel ρ h' w'.heap∧HStp ρ h w ρ h' w':=by
 cases hm with
 | mapNil=>
  cases e;refine⟨w,?_,kh,HStp.refl _ _ _⟩;simp[Builtin.clear_,z0o hu]
 | map b rb hb=>
  simp only[mapClr]at e;split at e
  ·rename_i es hg;have hbk:=kh.blk _ _ hb;rw[hg]at hbk;obtain⟨rs,ck,h3,h4,h9⟩:=hbk;have hlt:rb.r<w.heap.size:=(Array.getElem?_eq_some_iff.1 h3).1;cases e;refine⟨{w with heap:=w.heap.setIfInBounds rb.r (.map #[] ck)},?_,?_⟩
   ·simp[Builtin.clear_,z0o hu,getObj,setObj,Sem.run,h3]
   ·exact kh.write (w':={w with heap:=w.heap.setIfInBounds rb.r (.map #[] ck)}) (.map []) hb (.inr ⟨es,hg⟩) (by simp) (by simp) (by simp) (fun i hi=>by simp[Array.getElem?_setIfInBounds,Ne.symm hi]) rfl rfl rfl
     ⟨_,ck,zd1 w rb.r _ hlt,.nil,by simp[MapKept.Stamped]⟩
  ·cases e
theorem zv3{h:Hp}(kh:HRel ρ h w.heap){t E ty:TypeId}(hu:P.underlying t=some (.slice E)){z:List MV}(hz:z56 P E=some z)(hl:z.length=P.cellsOf E){p:Option MA}{l e:Nat}{rm:Value}(hm:VRel ρ (.sl p l e) rm)
  {h':Hp} {u:Unit} (e1:slClr (P.cellsOf E) z ⟨p,l⟩ h=some (u,h')):∃w',(Builtin.clear_ #[t] ty #[rm]).run P w=.ok (.tuple #[]) w'∧HRel ρ h' w'.heap∧HStp ρ h w ρ h' w':=by
 unfold slClr at e1;by_cases h0:l=0
 ·subst h0;rw[if_pos rfl]at e1;cases e1;refine⟨w,?_,kh,HStp.refl _ _ _⟩;cases hm with
  | slNil=>simp[Builtin.clear_,z0o hu]
  | sl a rb _ _ cap ra hb hlc hca=>simp[Builtin.clear_,z0o hu]
 ·rw[if_neg h0]at e1;cases hm with
  | slNil=>exact absurd rfl h0
  | sl a rb _ _ cap ra hb hlc hca=>
   obtain⟨i,v,hi,hv,hr⟩:=zeroOf_spec hz;have hrel:=zl0 (ρ:=ρ) l (hr ρ) (P.cellsOf E) hl;simp only[stn]at e1;split at e1
   ·rename_i cs hg;split at e1
    ·rename_i hcc;cases e1;obtain⟨w',hr2,h1,h2⟩:=zem (P:=P) kh hb hg a.off hrel hcc.2.2 hcc.1;refine⟨w',?_,h1,h2⟩;have hsz:v.cells.size=P.cellsOf E:=by
      have:=(hr ρ).length
      rw[←hl,this];simp
     rcases hca with hca | ⟨rfl,hca⟩
     ·omega
     have hne:∃n,l=n+1:=⟨l - 1,by omega⟩;obtain⟨n,rfl⟩:=hne;simp only[Builtin.clear_,Sem.run_bind,z0o hu,Result.andThen_ok,z38 hi hv,Builtin.zeroCells,hsz];simp[z0o hu,z38 hi hv,hsz];simp[hsz]at hr2;rw[hr2];rfl
    ·cases e1
   ·cases e1
end
end Go.Mini

/- All single operations in one; regions. -/
namespace Go.Mini
universe u
section
variable{P:Program}{β:Type}{s:S}{res:β×Hp}{next:Act→World→Prop}{Q:Exit→Act→World→Prop}{C:List (Nat×Entry)}{priv:List Nat}
theorem z14m{k:Fr→M β}{type:TypeId}{pos:String}{after:Array Edge}{guard:Option (Nat×Bool)}{ins:Ins}{d:Nat}{t:TypeId}{m kk:Operand}{okk:Bool}(ok:Ok s)
  (hc:z0s P priv ⟨some d,.lookup t m kk okk,type,pos,after,guard⟩=some ins) (hn:insOk s.t.size ins=true) (e:z08 C ins s.fr k s.h=some res) (h:z29 s ins.dst k res next) :
  (⟨some d,.lookup t m kk okk,type,pos,after,guard⟩:Oper).wp P ⟨s.t,[]⟩ s.w next Q:=by
 simp only[z0s]at hc;split at hc
 ·rename_i kt E n hu;split at hc
  ·rename_i c z key ktc hcE hz hkey hkt;obtain⟨zi,zv,hi,hzv,hzr⟩:=zeroOf_spec hz;split at hc
   case h_2=>cases hc
   rename_i z1 hz1;have hzz:VRel s.ρ z1 zv:=by
    have h0:=hzr s.ρ;unfold z16k at hz1;rw[hi]at hz1;dsimp only at hz1;rw[hzv]at hz1;cases zv with
    | agg vs=>
     cases hz1;have:=VRel.agg z vs.toList h0
     simpa using this
    | _=>
     simp only[Value.cells]at h0;cases h0 with
     | cons _ _ _ _ h1 h2=>
      cases h2;cases hz1;exact h1
   cases okk with
   | true=>
    cases hc;obtain⟨r,hv,e1⟩:=z31 e;obtain⟨kv,hk,e2⟩:=z0i e1;obtain⟨hkk,e3⟩:=z2u e2;obtain⟨o,h1,e4,e5⟩:=z0f e3;obtain⟨y,h2,e6,e7⟩:=z0f e5;obtain⟨e8,rfl⟩:=z2z e6;obtain⟨rfl,x,hx,hrun⟩:=zm7 (P:=P) (w:=s.w) ok.heap hu hkt hkk (z71 ok hv) (z17 ok hkey hk) hi hzv hzz e4;have hen:=Ty.enc_dec e8;rw[hen]at e7;exact z1d ok rfl (z0a rfl hn) (rv :=.tuple #[x,.bool o.isSome]) (by simp[execOp,hrun true]) (.tup _ [x,.bool o.isSome] (.cons _ _ _ _ hx (.cons _ _ _ _ (.bool _) .nil))) e7 h
   | false=>
    cases hc;obtain⟨r,hv,e1⟩:=z31 e;obtain⟨kv,hk,e2⟩:=z0i e1;obtain⟨hkk,e3⟩:=z2u e2;obtain⟨o,h1,e4,e5⟩:=z0f e3;obtain⟨y,h2,e6,e7⟩:=z0f e5;obtain⟨e8,rfl⟩:=z2z e6;obtain⟨rfl,x,hx,hrun⟩:=zm7 (P:=P) (w:=s.w) ok.heap hu hkt hkk (z71 ok hv) (z17 ok hkey hk) hi hzv hzz e4;have hen:=Ty.enc_dec e8;rw[hen]at e7;exact z1d ok rfl (z0a rfl hn) (rv:=x) (by simp[execOp,hrun false]) hx e7 h
  ·cases hc
 ·cases hc
theorem zvg{k:Fr→M β}{type:TypeId}{pos:String}{after:Array Edge}{guard:Option (Nat×Bool)}{ins:Ins}{t:TypeId}{m kk x:Operand}(ok:Ok s)
  (hc:z0s P priv ⟨none,.mapUpdate t m kk x,type,pos,after,guard⟩=some ins) (hn:insOk s.t.size ins=true) (e:z08 C ins s.fr k s.h=some res) (h:z29 s ins.dst k res next) :
  (⟨none,.mapUpdate t m kk x,type,pos,after,guard⟩:Oper).wp P ⟨s.t,[]⟩ s.w next Q:=by
 simp only[z0s]at hc;split at hc
 ·rename_i kt E n hu;split at hc
  ·rename_i key a ktc hkey ha hkt;cases hc;obtain⟨r,hv,e1⟩:=z31 e;obtain⟨kv,hk,e2⟩:=z0i e1;obtain⟨v,hv2,e3⟩:=z0i e2;obtain⟨hkk,e4⟩:=z2u e3;obtain⟨u,h1,e5,e6⟩:=z0f e4;obtain⟨w',hrun,k1,k2⟩:=z10a (P:=P) (w:=s.w) ok.heap hu hkt hkk (z71 ok hv) (z17 ok hkey hk) (z17 ok ha hv2) e5;obtain⟨ok2,st⟩:=ok.step k1 k2;exact zky rfl (w':=w') (by simp[execOp,hrun]) (h _ ok2 st e6)
  ·cases hc
 ·cases hc
theorem zl2{o:Oper}(hd:o.dst=none){y:Value}{w':World}(hrun:(execOp (Act.eval ⟨s.t,[]⟩) o).run P s.w=.ok (.value y) w')(h:next ⟨s.t,[]⟩ w'):o.wp P ⟨s.t,[]⟩ s.w next Q:=by
 unfold Oper.wp;rw[hrun,Oper.upon_value];simpa[Act.put,hd]using h
theorem z14n{k:Fr→M β}{type:TypeId}{pos:String}{after:Array Edge}{guard:Option (Nat×Bool)}{ins:Ins}{args:Array Operand}{argTypes:Array TypeId}(ok:Ok s)
  (hc:z0s P priv ⟨none,.call ⟨.builtin .delete,args,argTypes⟩,type,pos,after,guard⟩=some ins) (hn:insOk s.t.size ins=true) (e:z08 C ins s.fr k s.h=some res) (h:z29 s ins.dst k res next) :
  (⟨none,.call ⟨.builtin .delete,args,argTypes⟩,type,pos,after,guard⟩:Oper).wp P ⟨s.t,[]⟩ s.w next Q:=by
 simp only[z0s]at hc;split at hc
 ·rename_i t t2 x y ht hx;obtain rfl:args = #[x,y]:=z3n hx;obtain rfl:argTypes = #[t,t2]:=z3n ht;split at hc
  ·rename_i kt E a hu ha;split at hc
   ·rename_i key ktc hkey hkt;cases hc;obtain⟨r,hv,e1⟩:=z31 e;obtain⟨kv,hk,e2⟩:=z0i e1;obtain⟨hkk,e4⟩:=z2u e2;obtain⟨u,h1,e5,e6⟩:=z0f e4;obtain⟨w',hrun,k1,k2⟩:=z10c (P:=P) (w:=s.w) (ty:=type) (t2:=t2) ok.heap hu hkt hkk (z17 ok ha hv) (z17 ok hkey hk) e5;obtain⟨ok2,st⟩:=ok.step k1 k2;exact zl2 rfl (y :=.tuple #[]) (w':=w') (by simp[execOp,resolve,invoke,builtin,hrun]) (h _ ok2 st e6)
   ·cases hc
  ·cases hc
 ·cases hc
theorem z17m{k:Fr→M β}{type:TypeId}{pos:String}{after:Array Edge}{guard:Option (Nat×Bool)}{ins:Ins}{args:Array Operand}{argTypes:Array TypeId}(ok:Ok s)
  (hc:z0s P priv ⟨none,.call ⟨.builtin .clear,args,argTypes⟩,type,pos,after,guard⟩=some ins) (hn:insOk s.t.size ins=true) (e:z08 C ins s.fr k s.h=some res) (h:z29 s ins.dst k res next) :
  (⟨none,.call ⟨.builtin .clear,args,argTypes⟩,type,pos,after,guard⟩:Oper).wp P ⟨s.t,[]⟩ s.w next Q:=by
 simp only[z0s]at hc;split at hc
 ·rename_i t x ht hx;obtain rfl:args = #[x]:=z3n hx;obtain rfl:argTypes = #[t]:=z3n ht;split at hc
  ·rename_i kt E a hu ha;cases hc;obtain⟨r,hv,e1⟩:=z31 e;obtain⟨u,h1,e5,e6⟩:=z0f e1;obtain⟨w',hrun,k1,k2⟩:=z10d (P:=P) (w:=s.w) (ty:=type) ok.heap hu (z17 ok ha hv) e5;obtain⟨ok2,st⟩:=ok.step k1 k2;exact zl2 rfl (y :=.tuple #[]) (w':=w') (by simp[execOp,resolve,invoke,builtin,hrun]) (h _ ok2 st e6)
  ·rename_i E a hu ha;split at hc
   ·rename_i z hz;split at hc
    ·rename_i hl;cases hc;obtain⟨p,l,z',hv,e1⟩:=z2b e;obtain⟨u,h1,e5,e6⟩:=z0f e1;obtain⟨w',hrun,k1,k2⟩:=zv3 (P:=P) (w:=s.w) (ty:=type) ok.heap hu hz hl (z17 ok ha hv) e5;obtain⟨ok2,st⟩:=ok.step k1 k2;exact zl2 rfl (y :=.tuple #[]) (w':=w') (by simp[execOp,resolve,invoke,builtin,hrun]) (h _ ok2 st e6)
    ·cases hc
   ·cases hc
  ·cases hc
 ·cases hc
theorem zcl{k:Fr→M β}(hC:∀f en,z0g C f=some en→Sound P f en){o:Oper}{ins:Ins}(ok:Ok s)(hc:z0s P priv o=some ins)(hn:insOk s.t.size ins=true)(e:z08 C ins s.fr k s.h=some res)(h:z29 s ins.dst k res next) :
  o.wp P ⟨s.t,[]⟩ s.w next Q:=by
 obtain⟨dst,op,type,pos,after,guard⟩:=o;cases dst with
 | none=>
  cases op with
  | store t a x=>exact z17e ok hc hn e h
  | mapUpdate t m kk x=>exact zvg ok hc hn e h
  | call c=>
   obtain⟨callee,args,argTypes⟩:=c;cases callee with
   | builtin b=>
    cases b with
    | delete=>exact z14n ok hc hn e h
    | clear=>exact z17m ok hc hn e h
    | _=>cases hc
   | _=>cases hc
  | _=>cases hc
 | some d=>
  cases op with
  | move x=>exact z19l ok hc hn e h
  | assign x=>exact z14f ok hc hn e h
  | unOp op t x=>exact z19m ok hc hn e h
  | binOp op t x y u=>exact z17c ok hc hn e h
  | convert a b x=>exact z10e ok hc hn e h
  | extract x i=>exact z10f ok hc hn e h
  | sliceToArrayPointer t x=>exact z17b ok hc hn e h
  | alloc t=>exact z17d ok hc hn e h
  | box t x=>exact z1at ok hc hn e h
  | build t parts=>exact z17l ok hc hn e h
  | buildSlice t len parts=>exact zsu ok hc hn e h
  | load t x=>exact z19n ok hc hn e h
  | nilCheck x=>exact zxu ok hc hn e h
  | fieldAddr t x i=>exact zv6 ok hc hn e h
  | field t x i=>exact z17f ok hc hn e h
  | indexAddr t x i=>exact zv7 ok hc hn e h
  | index t x i=>exact z17k ok hc hn e h
  | slice t x lo hi mx=>
   cases mx with
   | none=>exact z17j ok hc hn e h
   | some m=>cases hc
  | makeSlice t a b=>exact zv8 ok hc hn e h
  | makeMap t r=>
   cases r with
   | none=>exact z10s ok hc hn e h
   | some r=>cases hc
  | lookup t m kk okk=>exact z14m ok hc hn e h
  | makeFunc fn first caps=>
   cases fn with
   | func f=>exact zy9 ok hc hn e h
   | _=>cases hc
  | makeInterface t x=>exact zmr ok hc hn e h
  | call c=>
   obtain⟨callee,args,argTypes⟩:=c;cases callee with
   | value f=>
    cases f with
    | func f=>exact zvf ok hC hc hn e h
    | tmp n=>exact zy8 ok hC hc hn e h
    | _=>cases hc
   | invoke r m=>cases hc
   | builtin b=>
    cases b with
    | len=>exact z1au ok hc hn e h
    | min=>exact z1av ok hc hn e h
    | max=>exact z1aw ok hc hn e h
    | append=>exact z14k ok hc hn e h
    | copy=>exact z19q ok hc hn e h
    | _=>cases hc
  | _=>cases hc
end
end Go.Mini
