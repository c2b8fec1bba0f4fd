/- What comes in: slices and numbers, beside one another. -/
import Derived.Test.YtfieiaijdalkbaaGreatMV
import Derived.Test.YtfieiaijdalkbaaGreatMLW
namespace Go.Mini
open Go.ChangeShapes Go.WideShapes Go.RowKit
section
variable{P:Program}
theorem zw4{W:World}{r:Reach}{base:Nat}{t E:TypeId}{v:Value}(hu:P.underlying t=some (.slice E))(h:Value.okWide P W r base t v):∃a l c,v=.slice a l c:=by
 unfold Value.okWide at h;rw[hu]at h;dsimp only at h;unfold Cell.okWide at h;rw[hu]at h;cases v<;>simp[Cell.ok,hu]at h;exact⟨_,_,_,rfl⟩
theorem z16d{W:World}{r:Reach}{base:Nat}{t:TypeId}{k:IntKind}{v:Value}(hu:P.underlying t=some (.int k))(h:Value.okWide P W r base t v):∃n,v=.int k n∧k.has n:=by
 unfold Value.okWide at h;rw[hu]at h;dsimp only at h;unfold Cell.okWide at h;rw[hu]at h;cases v<;>simp[Cell.ok,hu]at h;obtain⟨rfl,h⟩:=h;exact⟨_,rfl,h⟩
end
end Go.Mini

/- The laws' own toolkit: rows of structs that came in. -/
namespace Go.Mini
theorem CTy.dec_enc(t:CTy)(x:t.den):t.dec (t.enc x)=some x:=by
 cases t with
 | int k=>exact if_pos rfl
 | sl e=>exact if_pos rfl
 | _=>rfl
theorem HC.dec_enc:∀(ts:List CTy)(x:HC ts),HC.dec ts (HC.enc ts x)=some x
 | [],()=>rfl
 | [t],x=>CTy.dec_enc t x
 | t::u::r,x=>by
  show(match t.dec (t.enc x.1)with
   | none=>none
   | some a=>match HC.dec (u::r) (HC.enc (u::r) x.2)with
    | some y=>some (a,y)
    | none=>none)=some x
  rw[CTy.dec_enc t x.1,HC.dec_enc (u::r) x.2];rfl
end Go.Mini

/- Rows of structs that hold slices, as they come in: of such a slice its length alone is known (its block is dead). -/
namespace Go.Mini
open Go.ChangeShapes Go.WideShapes Go.RowKit
section
variable{P:Program}{ρ:Rho}
def z16r(v:Option Value):Option RB:=match v with
 | some (.slice (some a) _ c)=>some ⟨a.block,a.off,c * 1000⟩
 | _=>none
def zny(rb:RB)(cell:Nat→Option Value):Rho:=fun b=>match b with
 | 0=>some rb
 | j+1=>z16r (cell j)
theorem holds_get'(n:Nat):∀(h:Hp)(c:Nat),(h.holds n).get c=if h.size≤c∧c<h.size+n then .dead else h.get c:=by
 induction n with
 | zero=>intro h c;rw[if_neg (by omega)];rfl
 | succ n ih=>
  intro h c;show(Hp.holds n (h.push .dead)).get c=_;rw[ih,Hp.size_push,Hp.get_push];by_cases h1:c=h.size
  ·rw[if_neg (by omega),if_pos h1,if_pos (by omega)]
  ·rw[if_neg h1];by_cases h2:h.size+1≤c∧c<h.size+1+n
   ·rw[if_pos h2,if_pos (by omega)]
   ·rw[if_neg h2,if_neg (by omega)]
theorem holds_size'(n:Nat):∀h:Hp,(h.holds n).size=h.size+n:=by
 induction n with
 | zero=>intro h;rfl
 | succ n ih=>
  intro h;show(Hp.holds n (h.push .dead)).size=_;rw[ih,Hp.size_push];omega
theorem HRel.out{rb:RB}{x:Blk}{H:Array Obj}{cell:Nat→Option Value}{n:Nat}(hn:∀j,n≤j→cell j=.none)(hb:z5i (zny rb cell) rb x H)(hG:GM=[]:=by rfl):HRel (zny rb cell) ((Hp.empty.push x).holds n) H where
 gl:=fun i g h=>by rw[hG]at h;cases h
 dom:=fun b q h=>by
  rw[holds_size',Hp.size_push];cases b with
  | zero=>simp only[Hp.empty];omega
  | succ j=>
   by_cases hj:n≤j
   ·have h2:z16r (cell j)=some q:=h;rw[hn j hj]at h2;cases h2
   ·simp[Hp.empty];omega
 live:=fun b hd=>by
  by_cases e:b=0
  ·subst e;exact⟨rb,rfl⟩
  ·refine absurd ?_ hd;unfold z1o;rw[holds_get',Hp.get_push];split
   ·rfl
   ·exact if_neg (by simpa[Hp.empty]using e)
 inj:=fun b b' q q' h h' hd hd' hne=>by
  have dead:∀c,c≠0→z1o ((Hp.empty.push x).holds n) c:=fun c hc=>by
   unfold z1o;rw[holds_get',Hp.get_push];split
   ·rfl
   ·exact if_neg (by simpa[Hp.empty]using hc)
  by_cases e:b=0
  ·exact absurd (dead b' fun c=>hne (e.trans c.symm)) hd'
  ·exact absurd (dead b e) hd.live
 blk:=fun b q h=>by
  rw[holds_get',Hp.size_push];cases b with
  | zero=>
   cases h;rw[if_neg (by simp[Hp.empty]),Hp.get_push,if_pos (show 0=Hp.empty.size from rfl)];exact hb
  | succ j=>
   split
   ·trivial
   ·rw[Hp.get_push,if_neg (by simp[Hp.empty])];trivial
theorem z18t{x:Blk}{n:Nat}(h1:∀cs,x≠.cells cs false)(h2:∀es,x≠.map es)(b:Nat):¬Own ((Hp.empty.push x).holds n) b:=by
 rintro(⟨cs,h⟩ | ⟨es,h⟩)<;>rw[holds_get']at h<;>split at h
 ·cases h
 ·rw[Hp.get_push]at h;split at h
  ·exact h1 _ h
  ·cases h
 ·cases h
 ·rw[Hp.get_push]at h;split at h
  ·exact h2 _ h
  ·cases h
end
end Go.Mini

/- Rows of structs that hold slices of bytes, as they come in: their bytes can be read. -/
namespace Go.Mini
open Go.ChangeShapes Go.WideShapes Go.RowKit
section
variable{P:Program}{ρ:Rho}
def isU8:CTy→Bool
 | .int .u8=>true
 | _=>false
def zzp(P:Program)(t:TypeId):CTy→Bool
 | .bool | .int _ | .str=>true
 | .sl e=>Nat.beq e 1&&(match P.underlying t with
  | some (.slice E)=>Nat.beq (P.cellsOf E) 1&&(match zhk P 1 E with
   | some [(0,c)]=>isU8 c
   | _=>false)
  | _=>false)
 | _=>false
def zjf(P:Program):Nat→TypeId→Option (List (Nat×CTy))
 | 0,_=>none
 | d+1,t=>match P.underlying t with
  | some (.struct fs)=>fs.toList.foldr (fun f r=>match zjf P d f.type,r with
   | some l,some r=>some (l.map (fun x=>(f.offset+x.1,x.2))++r)
   | _,_=>none) (some [])
  | some (.array n e)=>match zjf P d e with
   | some l=>some ((List.range n).flatMap fun i=>l.map fun x=>(i * P.cellsOf e+x.1,x.2))
   | none=>none
  | _=>match cty P t with
   | some c=>bif zzp P t c then some [(0,c)]else none
   | none=>none
def zb6(H:Array Obj)(v:Value)(bs:List UInt8):Prop:=∃(a:Addr)(c:Nat)(cc:Array Value)(el:TypeId)(fz:Nat×Nat),v=.slice (some a) bs.length c∧bs.length≤c∧0<c∧c≤maxLen∧a.spot=none∧H[a.block]? = some (.cells cc el fz)∧a.off+c≤cc.size∧∀(i:Nat)(hi:i<bs.length),cc[a.off+i]? = some (.int .u8 bs[i].toNat)
def ByV(H:Array Obj)(v:Value):Prop:=v=.slice none 0 0∨(∃a,v=.slice (some a) 0 0)∨∃bs,zb6 H v bs
def zk5(H:Array Obj)(c:CTy)(v:Value):Prop:=(zrj c=true∧zdj c v)∨(c=.sl 1∧ByV H v)
def valN:Option Value→Nat
 | some (.int _ n)=>n.toNat
 | _=>0
theorem z18u{v:Value}(h:zdj (.int .u8) v):∃x:UInt8,v=.int .u8 x.toNat:=by
 obtain⟨m,x,h1,h2,h3⟩:=h fun _=>none;cases h1 with
 | int k n=>
  cases k with
  | u8=>
   have h4:IntKind.u8.has n:=h3;simp[IntKind.has,IntKind.min,IntKind.max,IntKind.signed,IntKind.bits]at h4;refine⟨UInt8.ofNat n.toNat,?_⟩;rw[UInt8.toNat_ofNat_of_lt' (by simp;omega)];congr 1;omega
  | _=>cases h2
 | _=>cases h2
theorem z16g{H:Type}{enc:TypeId×Value→H}{w:World}{t E:TypeId}(hu:P.underlying t=some (.slice E))(hE:P.cellsOf E=1)(hL:zhk P 1 E=some [(0,.int .u8)]){fuel:Nat}{cs:List Value}{x:DataW H×List MemPlace}(ht:DataW.trod enc P w 0 (fun _=>true) true fuel t cs=some x):∃v r,cs=v::r∧ByV w.heap v:=by
 obtain⟨dd,ps⟩:=x;rcases DataW.trod_slice hu ht with⟨h0,_⟩ | ⟨a,len,cap,elems,rest,n,_,h0,_,_,hl,hm,hlen,hel,hsp,_⟩
 ·exact⟨_,_,h0,.inl rfl⟩
 ·refine⟨_,_,h0,?_⟩;by_cases hc:cap=0
  ·subst hc;obtain rfl:len=0:=by omega
   exact .inr (.inl ⟨a,rfl⟩)
  right;right;obtain⟨hrl,hr⟩:=hsp rfl;have z5p:∀i,i<cap→∃v,w.cell? (a.add i)=some v∧zdj (.int .u8) v:=by
   intro i hi;have h1:∃y,(w.cells? 0 (a.add (i * P.cellsOf E)) (P.cellsOf E)).bind (DataW.trod enc P w 0 (fun _=>true) true n E)=some y:=by
    by_cases hil:i<len
    ·have h2:=hel i hil;rw[h2,List.getElem?_eq_getElem (by omega)];exact⟨_,rfl⟩
    ·have h2:=hr (i - len) (by omega);rw[show len+(i - len)=i by omega]at h2;rw[h2,List.getElem?_eq_getElem (by omega)];exact⟨_,rfl⟩
   obtain⟨y,hy⟩:=h1;rw[Option.bind_eq_some_iff]at hy;obtain⟨cs,h1,h2⟩:=hy;unfold World.cells? at h1;rw[if_pos (Nat.zero_le _)]at h1;obtain⟨h3,h4⟩:=zls h1;have h5:0<cs.length:=by rw[h3];simp[hE]
   obtain⟨v,hv,hf⟩:=zjd 1 E _ hL n cs y h2 (0,.int .u8) (by simp);dsimp only at hv hf;obtain⟨k,hk,h6⟩:=h4 0 v hv;have hk0:k=0:=by
    have:(List.range (P.cellsOf E))[0]? = some 0:=by rw[List.getElem?_range (by omega)]
    rw[this]at hk;exact(Option.some.inj hk).symm
   subst hk0;rw[zd0,hE,Nat.mul_one]at h6;exact⟨v,h6,hf⟩
  have hrow:∃cc el fz,w.heap[a.block]? = some (.cells cc el fz)∧a.spot=none:=by
   obtain⟨v,h1,_⟩:=z5p 0 (by omega);rw[zd0]at h1;unfold World.cell? at h1;split at h1
   ·rename_i cc el fz hh;refine⟨cc,el,fz,hh,?_⟩;cases hs:a.spot with
    | none=>rfl
    | some z=>rw[hs]at h1;cases h1
   ·cases h1
  obtain⟨cc,el,fz,hh,hspot⟩:=hrow;have each2:∀i,i<cap→∃x:UInt8,cc[a.off+i]? = some (.int .u8 x.toNat):=by
   intro i hi;obtain⟨v,h1,h2⟩:=z5p i hi;obtain⟨x,rfl⟩:=z18u h2;refine⟨x,?_⟩;have hb:=zqs hspot i 0;rw[zd0,Nat.add_zero]at hb;rw[hb]at h1;unfold World.cell? at h1;rw[hh]at h1;exact h1
  refine⟨(List.range len).map fun i=>UInt8.ofNat (valN cc[a.off+i]?),a,cap,cc,el,fz,by simp,by simpa using hl,by omega,hm,hspot,hh,?_,?_⟩
  ·obtain⟨x,hx⟩:=each2 (cap - 1) (by omega);have:=(Array.getElem?_eq_some_iff.1 hx).1
   omega
  ·intro i hi;have hi':i<len:=by simpa using hi
   obtain⟨x,hx⟩:=each2 i (by omega);rw[hx];simp only[List.getElem_map,List.getElem_range,hx,valN];simp
theorem zhl{H:Type}{enc:TypeId×Value→H}{w:World}:∀(d:Nat)(t:TypeId)(L:List (Nat×CTy)),zjf P d t=some L→∀(fuel:Nat)(cs:List Value)(x:DataW H×List MemPlace),
  DataW.trod enc P w 0 (fun _=>true) true fuel t cs=some x→∀y∈L,∃v,cs[y.1]? = some v∧zk5 w.heap y.2 v
 | 0,_,_,h,_,_,_,_,_,_=>by cases h
 | d+1,t,L,h,fuel,cs,x,ht,y,hy=>by
  cases fuel with
  | zero=>cases ht
  | succ fuel=>
   have ht0:=ht;have h0:=h;simp only[zjf]at h;split at h
   ·rename_i fs hu;simp only[DataW.trod,hu]at ht;split at ht
    ·obtain⟨ys,hys,_⟩:=map_some ht;obtain⟨f,hf,l,hl,z,hz,rfl⟩:=zf7 h y hy;obtain⟨q,hq⟩:=zlr hys f hf;obtain⟨v,hv,hfl⟩:=zhl d f.type l hl fuel _ q hq z hz;refine⟨v,?_,hfl⟩;rw[List.getElem?_take]at hv;split at hv
     ·rw[List.getElem?_drop]at hv;exact hv
     ·cases hv
    ·cases ht
   ·rename_i n e hu;split at h
    ·rename_i l hl;cases h;rw[List.mem_flatMap]at hy;obtain⟨i,hi,hy⟩:=hy;rw[List.mem_range]at hi;rw[List.mem_map]at hy;obtain⟨z,hz,rfl⟩:=hy;obtain⟨xs,m,_,_,_,hxl,hel⟩:=DataW.trod_array hu ht0;have hx:=hel i hi;rw[List.getElem?_eq_getElem (by omega)]at hx;obtain⟨v,hv,hfl⟩:=zhl d e l hl m _ _ hx z hz;refine⟨v,?_,hfl⟩;rw[List.getElem?_take]at hv;split at hv
     ·rw[List.getElem?_drop]at hv;exact hv
     ·cases hv
    ·cases h
   ·rename_i hns hna;split at h
    ·rename_i c hc;cases hfl:zzp P t c with
     | false=>rw[hfl]at h;cases h
     | true=>
      rw[hfl]at h;cases h;simp only[List.mem_singleton]at hy;subst hy;cases hfc:zrj c with
      | true=>
       have hL:zhk P (d+1) t=some [(0,c)]:=by
        have hx:∀u,P.underlying t=some u→(∀fs,u≠.struct fs)∧∀n e,u≠.array n e:=fun u hu=>⟨fun fs c=>hns fs (by rw[hu,c]),fun n e c=>hna n e (by rw[hu,c])⟩;unfold zhk;cases hu:P.underlying t with
        | none=>dsimp only;rw[hc];dsimp only;rw[hfc];rfl
        | some u=>
         obtain⟨h1,h2⟩:=hx u hu;cases u with
         | struct fs=>exact absurd rfl (h1 fs)
         | array n e=>exact absurd rfl (h2 n e)
         | _=>dsimp only;rw[hc];dsimp only;rw[hfc];rfl
       obtain⟨v,hv,hf⟩:=zjd (d+1) t [(0,c)] hL (fuel+1) cs x ht0 (0,c) (by simp);exact⟨v,hv,.inl ⟨hfc,hf⟩⟩
      | false=>
       cases c with
       | sl e=>
        obtain⟨E,hu,hE⟩:∃E,P.underlying t=some (.slice E)∧P.cellsOf E=e:=by
         unfold cty at hc;split at hc<;>simp at hc
         ·rename_i E hu;exact⟨E,hu,hc⟩
        unfold zzp at hfl;rw[hu]at hfl;simp only[Bool.and_eq_true]at hfl;obtain⟨h1,h2,h3⟩:=hfl;have e1:e=1:=Nat.eq_of_beq_eq_true h1;subst e1;obtain⟨v,r,rfl,hv⟩:=z16g hu hE (by
         split at h3
         ·rename_i c' hl;rw[hl];cases c' with
          | int k=>cases k<;>first | rfl | cases h3
          | _=>cases h3
         ·cases h3) ht0
        exact⟨v,rfl,.inr ⟨rfl,hv⟩⟩
       | bool=>cases hfc
       | int k=>cases hfc
       | str=>cases hfc
       | _=>cases hfl
    ·cases h
def zg6(v:Option Value):Option RB:=match v with
 | some (.slice (some a) _ c)=>bif Nat.beq c 0 then none else some ⟨a.block,a.off,c⟩
 | _=>none
theorem zhm{a:Addr}{l c:Nat}(hc:0<c):zg6 (some (.slice (some a) l c))=some ⟨a.block,a.off,c⟩:=by
 cases c with
 | zero=>omega
 | succ c=>rfl
def zby(rb:RB)(cell:Nat→Option Value):Rho:=fun b=>match b with
 | 0=>some rb
 | j+1=>zg6 (cell j)
def SlOk(H:Array Obj)(cell:Nat→Option Value)(m:MV):Prop:=∀p ln,m=.sl p ln 1→(p=none∧ln=0)∨(p=some ⟨0,0⟩∧ln=0)∨∃(j:Nat)(bs:List UInt8)(v:Value),p=some ⟨j+1,0⟩∧ln=bs.length∧cell j=some v∧zb6 H v bs
theorem zqt{H:Array Obj}{rb:RB}{cell:Nat→Option Value}{c:CTy}{v:Value}{j:Nat}(hj:cell j=some v)(h:zk5 H c v):∃x:c.den,VRel (zby rb cell) (c.enc x) v∧(c.enc x).has∧SlOk H cell (c.enc x):=by
 rcases h with⟨hc,h⟩ | ⟨rfl,h⟩
 ·obtain⟨x,h1,h2⟩:=h.enc (zby rb cell);refine⟨x,h1,h2,fun p ln e=>?_⟩;cases c<;>first | (cases hc;done) | (cases e;done)
 ·rcases h with rfl | ⟨a,rfl⟩ | ⟨bs,hb⟩
  ·exact⟨⟨none,0⟩,.slNil _,trivial,fun p ln e=>by cases e;exact .inl ⟨rfl,rfl⟩⟩
  ·refine⟨⟨some ⟨0,0⟩,0⟩,VRel.sl ⟨0,0⟩ rb 0 1 0 a rfl (Nat.le_refl _) (.inl rfl),trivial,fun p ln e=>by cases e;exact .inr (.inl ⟨rfl,rfl⟩)⟩
  ·have hb':=hb;obtain⟨a,c,cc,el,fz,rfl,h1,h2,h3,h4,h5,h6,h7⟩:=hb;refine⟨⟨some ⟨j+1,0⟩,bs.length⟩,?_,trivial,fun p ln e=>by cases e;exact .inr (.inr ⟨j,bs,_,rfl,rfl,hj,hb'⟩)⟩;refine VRel.sl ⟨j+1,0⟩ ⟨a.block,a.off,c⟩ bs.length 1 c a ?_ h1 (.inr ⟨?_,?_⟩) (Nat.le_trans h3 (by decide))
   ·show zg6 (cell j)=_;rw[hj];exact zhm h2
   ·obtain⟨ab,ao,as⟩:=a;dsimp only at h4;subst h4;rfl
   ·dsimp only;omega
theorem znz{H:Array Obj}{rb:RB}{cell:Nat→Option Value}:∀(cts:List CTy)(vs:List Value)(j0:Nat),vs.length=cts.length→(∀(j:Nat) v,vs[j]? = some v→cell (j0+j)=some v)→(∀(j:Nat) c v,cts[j]? = some c→vs[j]? = some v→zk5 H c v)→∃x:HC cts,VRels (zby rb cell) (HC.enc cts x) vs∧∀m∈HC.enc cts x,m.has∧SlOk H cell m
 | [],[],_,_,_,_=>⟨(),.nil,fun _ h=>by cases h⟩
 | [],_::_,_,h,_,_=>by cases h
 | [c],[v],j0,_,hc,h=>by
  obtain⟨x,h1,h2⟩:=zqt (rb:=rb) (hc 0 v rfl) (h 0 c v rfl rfl);exact⟨x,.cons _ _ _ _ h1 .nil,fun m hm=>by
   have:m=c.enc x:=by simpa[HC.enc]using hm
   rw[this];exact h2⟩
 | [c],[],_,h,_,_=>by cases h
 | [c],_::_::_,_,h,_,_=>by simp at h
 | c::d::cts,[],_,h,_,_=>by cases h
 | c::d::cts,v::vs,j0,hl,hc,h=>by
  obtain⟨x,h1,h2⟩:=zqt (rb:=rb) (hc 0 v rfl) (h 0 c v rfl rfl);obtain⟨y,h3,h4⟩:=znz (rb:=rb) (d::cts) vs (j0+1) (by simpa using hl) (fun j v' hv=>by have:=hc (j+1) v' (by simpa using hv);rwa [show j0+1+j=j0+(j+1) by omega]) (fun j c' v' hc hv=>h (j+1) c' v' (by simpa using hc) (by simpa using hv));refine⟨(x,y),.cons _ _ _ _ h1 h3,fun m hm=>?_⟩;have hm':m∈c.enc x::HC.enc (d::cts) y:=hm;rcases List.mem_cons.1 hm' with rfl | hm'
  ·exact h2
  ·exact h4 m hm'
theorem zo0{H:Array Obj}{rb:RB}{w:World}{b o:Nat}{cts:List CTy}{cap:Nat}
  (z5p:∀i,i<cap→∃cs:List Value,cs.length=cts.length∧(∀(j:Nat) v,cs[j]? = some v→w.cell? ⟨b,o+(i * cts.length+j),none⟩=some v)∧∀(j:Nat) c v,cts[j]? = some c→cs[j]? = some v→zk5 H c v) :
  ∀k,k≤cap→∃xs:List (HC cts),xs.length=k∧(∀(idx:Nat) m,(z4p cts xs)[idx]? = some m→∃v,w.cell? ⟨b,o+idx,none⟩=some v∧VRel (zby rb fun j=>w.cell? ⟨b,o+j,none⟩) m v)∧∀m∈z4p cts xs,m.has∧SlOk H (fun j=>w.cell? ⟨b,o+j,none⟩) m
 | 0,_=>⟨[],rfl,fun idx m h=>by simp[z4p]at h,fun m h=>by cases h⟩
 | k+1,hk=>by
  obtain⟨xs,h1,h2,h3⟩:=zo0 z5p k (by omega);obtain⟨cs,h4,h5,h6⟩:=z5p k (by omega);obtain⟨x,h7,h8⟩:=znz (rb:=rb) (cell:=fun j=>w.cell? ⟨b,o+j,none⟩) cts cs (k * cts.length) h4 h5 h6;have hap:z4p cts (xs++[x])=z4p cts xs++HC.enc cts x:=by simp[z4p,List.flatMap_append]
  refine⟨xs++[x],by simp[h1],fun idx m hm=>?_,fun m hm=>?_⟩
  ·rw[hap,List.getElem?_append]at hm;split at hm
   ·exact h2 idx m hm
   ·rename_i hi;rw[z9q,h1]at hi hm;obtain⟨v,hv,hr⟩:=h7.get _ _ hm;have:=h5 _ v hv
    rw[show k * cts.length+(idx - k * cts.length)=idx by omega]at this;exact⟨v,this,hr⟩
  ·rw[hap]at hm;rcases List.mem_append.1 hm with hm | hm
   ·exact h3 m hm
   ·exact h8 m hm
def hpL(l:List Blk):Hp:=l.foldl Hp.push Hp.empty
theorem zp0:∀(l:List Blk)(h:Hp),(l.foldl Hp.push h).size=h.size+l.length∧∀c,(l.foldl Hp.push h).get c=if h.size≤c∧c<h.size+l.length then l[c - h.size]?.getD .dead else h.get c
 | [],h=>⟨rfl,fun c=>by
  rw[if_neg (by simp)];rfl⟩
 | x::l,h=>by
  obtain⟨h1,h2⟩:=zp0 l (h.push x);refine⟨by rw[List.foldl_cons,h1,Hp.size_push,List.length_cons];omega,fun c=>?_⟩;rw[List.foldl_cons,h2,Hp.size_push,Hp.get_push,List.length_cons];by_cases e:c=h.size
  ·subst e;rw[if_neg (by omega),if_pos rfl,if_pos (by omega),Nat.sub_self];rfl
  ·rw[if_neg e];by_cases h3:h.size+1≤c∧c<h.size+1+l.length
   ·rw[if_pos h3,if_pos (by omega),show c - h.size=(c - (h.size+1))+1 by omega];rfl
   ·rw[if_neg h3,if_neg (by omega)]
theorem zv0(l:List Blk):(hpL l).size=l.length:=by
 unfold hpL;rw[(zp0 l Hp.empty).1];show 0+l.length=_;omega
theorem zk6(l:List Blk)(c:Nat):(hpL l).get c=l[c]?.getD .dead:=by
 unfold hpL;rw[(zp0 l Hp.empty).2];show(if 0≤c∧c<0+l.length then l[c - 0]?.getD .dead else Hp.empty.get c)=_;by_cases h:c<l.length
 ·rw[if_pos (by omega)];rfl
 ·rw[if_neg (by omega),List.getElem?_eq_none (by omega)];rfl
open Classical in
noncomputable def blkAt(H:Array Obj)(v:Option Value):Blk:=if h:∃bs x,v=some x∧zb6 H x bs then .cells (bytesOf (Classical.choose h)) true else .dead
theorem zzq{H:Array Obj}{v:Value}{a b:List UInt8}(ha:zb6 H v a)(hb:zb6 H v b):a=b:=by
 obtain⟨p,c,cc,el,fz,rfl,_,_,_,_,h5,_,h7⟩:=ha;obtain⟨p',c',cc',el',fz',e,_,_,_,_,k5,_,k7⟩:=hb;have e':p=p'∧a.length=b.length:=by
  injection e with e1 e2 e3;exact⟨Option.some.inj e1,e2⟩
 obtain⟨rfl,hl⟩:=e';rw[h5]at k5;cases k5;refine List.ext_getElem hl fun i h1 h2=>?_;have:=(h7 i h1).symm.trans (k7 i h2)
 have h8:(a[i].toNat:Int)=b[i].toNat:=by injection (Option.some.inj this)
 exact UInt8.toNat_inj.1 (by omega)
theorem zo1{H:Array Obj}{v:Value}{bs:List UInt8}(h:zb6 H v bs):blkAt H (some v)=.cells (bytesOf bs) true:=by
 unfold blkAt;have hx:∃bs x,some v=some x∧zb6 H x bs:=⟨bs,v,rfl,h⟩;rw[dif_pos hx];obtain⟨x,h1,h2⟩:=Classical.choose_spec hx;cases h1;rw[zzq h2 h]
theorem z9k(H:Array Obj)(v:Option Value):blkAt H v=.dead∨∃bs x,v=some x∧zb6 H x bs∧blkAt H v=.cells (bytesOf bs) true:=by
 by_cases hx:∃bs x,v=some x∧zb6 H x bs
 ·obtain⟨bs,x,rfl,h⟩:=hx;exact .inr ⟨bs,x,rfl,h,zo1 h⟩
 ·left;unfold blkAt;rw[dif_neg hx]
theorem HRel.outB{rb:RB}{cs:List MV}{H:Array Obj}{cell:Nat→Option Value}{n:Nat}(hn:∀j,n≤j→cell j=.none)(hb:z5i (zby rb cell) rb (.cells cs true) H)(hG:GM=[]:=by rfl):HRel (zby rb cell) (hpL (.cells cs true::(List.range n).map fun j=>blkAt H (cell j))) H:=by
 have get:∀b,(hpL (.cells cs true::(List.range n).map fun j=>blkAt H (cell j))).get b=match b with
   | 0 =>.cells cs true
   | j+1=>if j<n then blkAt H (cell j)else .dead:=by
  intro b;rw[zk6];cases b with
  | zero=>rfl
  | succ j=>
   rw[List.getElem?_cons_succ,List.getElem?_map];by_cases h:j<n
   ·rw[List.getElem?_range h];simp[h]
   ·rw[List.getElem?_eq_none (by simpa using h)];simp[h]
 have noown:∀b,¬Own (hpL (.cells cs true::(List.range n).map fun j=>blkAt H (cell j))) b:=by
  rintro b (⟨c,h⟩ | ⟨c,h⟩)<;>rw[get]at h<;>cases b<;>dsimp only at h<;>try cases h
  ·split at h
   ·rename_i j _;rcases z9k H (cell j)with e | ⟨bs,x,_,_,e⟩<;>rw[e]at h<;>cases h
   ·cases h
  ·split at h
   ·rename_i j _;rcases z9k H (cell j)with e | ⟨bs,x,_,_,e⟩<;>rw[e]at h<;>cases h
   ·cases h
 refine⟨fun b q h=>?_,fun b hd=>?_,fun b b' q q' h h' ho=>absurd ho (noown b),fun b q h=>?_,fun i g h=>by rw[hG]at h;cases h⟩
 ·rw[zv0];cases b with
  | zero=>simp
  | succ j=>
   by_cases hj:n≤j
   ·have h2:zg6 (cell j)=some q:=h;rw[hn j hj]at h2;cases h2
   ·simp;omega
 ·unfold z1o at hd;rw[get]at hd;cases b with
  | zero=>exact⟨rb,rfl⟩
  | succ j=>
   dsimp only at hd;by_cases hj:j<n
   ·rw[if_pos hj]at hd;rcases z9k H (cell j)with e | ⟨bs,x,hx,hb,e⟩
    ·exact absurd e hd
    ·obtain⟨a,c,cc,el,fz,rfl,h1,h2,h3⟩:=hb;refine⟨⟨a.block,a.off,c⟩,?_⟩;show zg6 (cell j)=_;rw[hx];exact zhm h2
   ·rw[if_neg hj]at hd;exact absurd rfl hd
 ·rw[get];cases b with
  | zero=>cases h;exact hb
  | succ j=>
   dsimp only;by_cases hj:j<n
   ·rw[if_pos hj];rcases z9k H (cell j)with e | ⟨bs,x,hx,hb,e⟩
    ·rw[e];trivial
    ·rw[e];obtain⟨a,c,cc,el,fz,rfl,h1,h2,h3,h4,h5,h6,h7⟩:=hb;have hq:zg6 (cell j)=some q:=h;rw[hx,zhm h2]at hq;cases hq;refine⟨cc,el,fz,h5,h6,by rw[z0d];exact h1,fun i m hm=>?_,fun hr=>by cases hr⟩;have hi:i<bs.length:=by
      have:=(List.getElem?_eq_some_iff.1 hm).1
      rw[z0d]at this;exact this
     refine⟨_,h7 i hi,?_⟩;have e2:m=.int .u8 bs[i].toNat:=by
      unfold bytesOf at hm;rw[List.getElem?_map,List.getElem?_eq_getElem hi]at hm;exact(Option.some.inj hm).symm
     rw[e2];exact .int _ _
   ·rw[if_neg hj];trivial
def zk7(h:Hp):PH:=fun b=>if b<h.size then(match h.get b with
 | .dead=>none
 | x=>some x)else none
theorem z18v(h:Hp):Has h (zk7 h):=by
 intro b x hb;unfold zk7 at hb;split at hb
 ·rename_i hlt;refine⟨hlt,?_⟩;cases hg:h.get b with
  | dead=>rw[hg]at hb;cases hb
  | cells c r=>rw[hg]at hb;exact Option.some.inj hb
  | map es=>rw[hg]at hb;exact Option.some.inj hb
 ·cases hb
def InA(h:Hp):HA:=fun q=>q=zk7 h
theorem z16s{h:Hp}{b k e:Nat}{cs:List MV}{ro:Bool}(hb:b<h.size)(hg:h.get b=.cells cs ro)(hl:cs.length=k * e):RdC (InA h) ⟨some ⟨b,0⟩,k⟩ e cs:=by
 refine⟨hl,fun hp q hq hh =>.inr ⟨⟨b,0⟩,cs,ro,rfl,?_,by dsimp only;omega,?_⟩⟩
 ·refine(hh b _ ?_).2;rw[hq];unfold zk7;rw[if_pos hb,hg]
 ·rw[List.drop_zero,List.take_of_length_le (by dsimp only;omega)]
theorem z1aq{h:Hp}{b e:Nat}{cs:List MV}{ro:Bool}(hb:b<h.size)(hg:h.get b=.cells cs ro):RdC (InA h) ⟨some ⟨b,0⟩,0⟩ e []:=by
 refine⟨by simp,fun hp q hq hh =>.inr ⟨⟨b,0⟩,cs,ro,rfl,?_,by dsimp only;omega,by simp⟩⟩;refine(hh b _ ?_).2;rw[hq];unfold zk7;rw[if_pos hb,hg]
theorem zw5{H:Type}{enc:TypeId×Value→H}{W:World}{t E:TypeId}(hu:P.underlying t=some (.slice E)){d:Nat}{cts:List CTy}(hL:zjf P d E=some (cts.zipIdx.map fun x=>(x.2,x.1)))(hn:P.cellsOf E=cts.length)(hn0:0<cts.length)
  {v:Value} {dd:DataW H} {ps:List MemPlace} (h:DataW.Trod enc P W 0 (fun _=>true) true t v dd ps) (hv:∃a l c,v=.slice a l c) (hG:GM=[]:=by rfl) :
  ∃(xs:List (HC cts))(s:Sl)(hp:Hp)(ρ:Rho),s.len=xs.length∧(xs≠[]→RdC (InA hp) s cts.length (z4p cts xs))∧HRel ρ hp W.heap∧(∀b,¬Own hp b) ∧
   VRel ρ (.sl s.p s.len cts.length) v∧(∀m∈z4p cts xs,m.has)∧∀p ln,MV.sl p ln 1∈z4p cts xs→∃bs:List UInt8,RdC (InA hp) ⟨p,ln⟩ 1 (bytesOf bs):=by
 obtain⟨a0,l0,c0,rfl⟩:=hv;obtain⟨fuel,hf⟩:=h;have hdead:∀b,¬Own ((Hp.empty.push .dead).holds 0) b:=z18t (fun _=>by simp) (fun _=>by simp);rcases DataW.trod_slice hu hf with⟨h0,_⟩ | ⟨a,len,cap,elems,rest,n,_,h0,_,_,hl,hm,hlen,hel,hsp,_⟩
 ·simp[Value.cells]at h0;obtain⟨rfl,rfl,rfl⟩:=h0;exact⟨[],⟨none,0⟩,_,zny ⟨0,0,0⟩ fun _=>none,rfl,fun h=>absurd rfl h,HRel.out (x :=.dead) (n:=0) (fun _ _=>rfl) trivial hG,hdead,VRel.slNil _,fun m h=>(by cases h),fun p ln h=>by cases h⟩
 ·simp[Value.cells]at h0;obtain⟨rfl,rfl,rfl⟩:=h0;obtain⟨hrl,hr⟩:=hsp rfl;have each0:∀i,i<c0→∃y,(W.cells? 0 (a.add (i * cts.length)) cts.length).bind (DataW.trod enc P W 0 (fun _=>true) true n E)=some y:=by
   intro i hi;by_cases hil:i<l0
   ·have h1:=hel i hil;rw[hn]at h1;rw[h1,List.getElem?_eq_getElem (by omega)];exact⟨_,rfl⟩
   ·have h1:=hr (i - l0) (by omega);rw[hn,show l0+(i - l0)=i by omega]at h1;rw[h1,List.getElem?_eq_getElem (by omega)];exact⟨_,rfl⟩
  by_cases hc0:c0=0
  ·subst hc0;have hl0:l0=0:=by omega
   subst hl0;exact⟨[],⟨some ⟨0,0⟩,0⟩,_,zny ⟨0,0,0⟩ fun _=>none,rfl,fun h=>absurd rfl h,HRel.out (x :=.dead) (n:=0) (fun _ _=>rfl) trivial hG,hdead,VRel.sl ⟨0,0⟩ ⟨0,0,0⟩ 0 _ 0 a rfl (Nat.le_refl _) (.inl rfl),fun m h=>(by cases h),fun p ln h=>by cases h⟩
  ·have cellsAt:∀i,i<c0→∃cs:List Value,cs.length=cts.length∧(∀(j:Nat) v,cs[j]? = some v→W.cell? ((a.add (i * cts.length)).add j)=some v)∧∀(j:Nat) c v,cts[j]? = some c→cs[j]? = some v→zk5 W.heap c v:=by
    intro i hi;obtain⟨y,hy⟩:=each0 i hi;rw[Option.bind_eq_some_iff]at hy;obtain⟨cs,h1,h2⟩:=hy;unfold World.cells? at h1;rw[if_pos (Nat.zero_le _)]at h1;obtain⟨h3,h4⟩:=zls h1;refine⟨cs,by simpa using h3,fun j v hj=>?_,fun j c v hc hj=>?_⟩
    ·obtain⟨k,hk,h5⟩:=h4 j v hj;have hj2:j<(List.range cts.length).length:=(List.getElem?_eq_some_iff.1 hk).1;rw[List.getElem?_range (by simpa using hj2)]at hk;cases hk;exact h5
    ·have hmem:(j,c)∈cts.zipIdx.map (fun x=>(x.2,x.1)):=by
      refine List.mem_map.2 ⟨(c,j),?_,rfl⟩;exact List.mem_zipIdx_iff_getElem?.2 hc
     obtain⟨v',hv',hfl⟩:=zhl d E _ hL n cs y h2 (j,c) hmem;rw[hj]at hv';cases hv';exact hfl
   have hrow:∃cc el fz,W.heap[a.block]? = some (.cells cc el fz)∧a.spot=none:=by
    obtain⟨cs,h1,h2,_⟩:=cellsAt 0 (by omega);have h3:=h2 0 cs[0] (List.getElem?_eq_getElem (by omega));rw[Nat.zero_mul,zd0,zd0]at h3;unfold World.cell? at h3;split at h3
    ·rename_i cc el fz hh;refine⟨cc,el,fz,hh,?_⟩;cases hs:a.spot with
     | none=>rfl
     | some z=>rw[hs]at h3;cases h3
    ·cases h3
   obtain⟨cc,el,fz,hh,hspot⟩:=hrow;have z5p:∀i,i<c0→∃cs:List Value,cs.length=cts.length∧(∀(j:Nat) v,cs[j]? = some v→W.cell? ⟨a.block,a.off+(i * cts.length+j),none⟩=some v)∧∀(j:Nat) c v,cts[j]? = some c→cs[j]? = some v→zk5 W.heap c v:=by
    intro i hi;obtain⟨cs,h1,h2,h3⟩:=cellsAt i hi;refine⟨cs,h1,fun j v hj=>?_,h3⟩;have:=h2 j v hj
    rwa [zqs hspot]at this
   obtain⟨xs,h1,h2,h3⟩:=zo0 (rb:=⟨a.block,a.off,c0 * cts.length⟩) z5p l0 hl;have hsz:a.off+c0 * cts.length≤cc.size:=by
    obtain⟨cs,h4,h5,_⟩:=z5p (c0 - 1) (by omega);have h6:=h5 (cts.length - 1) cs[cts.length - 1] (List.getElem?_eq_getElem (by omega));unfold World.cell? at h6;rw[hh]at h6;dsimp only[Option.isSome]at h6;have h7:=(Array.getElem?_eq_some_iff.1 (show cc[a.off+((c0 - 1) * cts.length+(cts.length - 1))]? = some _ from h6)).1;have h8:(c0 - 1) * cts.length+cts.length=c0 * cts.length:=by
     rw[←Nat.succ_mul];congr 1;omega
    omega
   have hle:l0 * cts.length≤c0 * cts.length:=Nat.mul_le_mul_right _ hl;let cell:Nat→Option Value:=fun j=>W.cell? ⟨a.block,a.off+j,none⟩
   have hnone:∀j,cc.size≤j→cell j=none:=by
    intro j hj;show W.cell? ⟨a.block,a.off+j,none⟩=none;unfold World.cell?;rw[hh];dsimp only[Option.isSome];exact Array.getElem?_eq_none (by omega)
   let hp:=hpL (.cells (z4p cts xs) true::(List.range cc.size).map fun j=>blkAt W.heap (cell j))
   have hp0:hp.get 0=.cells (z4p cts xs) true:=by rw[zk6];rfl
   have hps:hp.size=cc.size+1:=by rw[zv0];simp
   refine⟨xs,⟨some ⟨0,0⟩,l0⟩,hp,zby ⟨a.block,a.off,c0 * cts.length⟩ cell,h1.symm,fun _=>z16s (by omega) hp0 (by rw[z9q,h1]),HRel.outB hnone ?_ hG,?_,?_,fun m hm=>(h3 m hm).1,fun p ln hm=>?_⟩
   ·refine⟨cc,el,fz,hh,hsz,?_,fun i m hm=>?_,fun hr=>by cases hr⟩
    ·rw[z9q,h1];exact hle
    ·obtain⟨v,hv,hr⟩:=h2 i m hm;refine⟨v,?_,hr⟩;unfold World.cell? at hv;rw[hh]at hv;exact hv
   ·rintro b (⟨c,hb⟩ | ⟨c,hb⟩)<;>rw[show hp=hpL _ from rfl,zk6]at hb<;>cases b with
    | zero=>cases hb
    | succ j=>
     rw[List.getElem?_cons_succ,List.getElem?_map]at hb;by_cases hj:j<cc.size
     ·rw[List.getElem?_range hj]at hb;rcases z9k W.heap (cell j)with e | ⟨bs,x,_,_,e⟩<;>rw[show((some j).map fun j=>blkAt W.heap (cell j)).getD .dead=blkAt W.heap (cell j)from rfl,e]at hb<;>cases hb
     ·rw[List.getElem?_eq_none (by simpa using hj)]at hb;cases hb
   ·refine VRel.sl ⟨0,0⟩ ⟨a.block,a.off,c0 * cts.length⟩ l0 _ c0 a rfl hl (.inr ⟨?_,?_⟩) (Nat.le_trans hm (by decide:maxLen≤9223372036854775807))
    ·obtain⟨ab,ao,as⟩:=a;dsimp only at hspot;subst hspot;rfl
    ·dsimp only;omega
   ·rcases(h3 _ hm).2 p ln rfl with⟨rfl,rfl⟩ | ⟨rfl,rfl⟩ | ⟨j,bs,x,rfl,rfl,hx,hb⟩
    ·exact⟨[],z1ae⟩
    ·exact⟨[],z1aq (by omega) hp0⟩
    ·have hj:j<cc.size:=by
      by_cases hj:j<cc.size
      ·exact hj
      ·have:=hnone j (by omega)
       have hx':cell j=some x:=hx;rw[this]at hx';cases hx'
     refine⟨bs,z16s (ro:=true) (by omega) ?_ (by rw[z0d,Nat.mul_one])⟩;rw[show hp=hpL _ from rfl,zk6,List.getElem?_cons_succ,List.getElem?_map,List.getElem?_range hj];show blkAt W.heap (cell j)=_;rw[show cell j=some x from hx,zo1 hb]
end
end Go.Mini
