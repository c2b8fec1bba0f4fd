/- Places, slices, append, copy, texts. -/
import Derived.Test.YtfieiaijdalkbaaGreatME
import Derived.Laws.BytesString
import Derived.Laws.Strings
namespace Go.Mini
section
variable{P:Program}{ρ:Rho}{h:Hp}{w:World}
theorem z10g(k:HRel ρ h w.heap){T:TypeId}{fs:Array Field}(hu:P.underlying T=some (.struct fs)){i:Nat}{f:Field}(hf:fs[i]? = some f){d:TypeDesc}(hfu:P.underlying f.type=some d)(h0:P.cellsOf f.type≠0)
  {q:Option MA} {x:Value} (hx:VRel ρ (.ptr q) x) {p:Option MA} {h':Hp} (e:fld q f.offset h=some (p,h')):Out ρ h w ((Instr.fieldAt T x i).run P w) (.ptr p) h':=by
 cases hx with
 | nil=>simp[fld,z0h]at e
 | ptr a rb hb=>
  cases e;refine Out.same k (rv :=.pointer (some ⟨rb.r,rb.o+(a.off+f.offset),none⟩)) ?_ (.ptr ⟨a.blk,a.off+f.offset⟩ rb hb);simp[Instr.fieldAt,z0o hu,hf,Instr.sureAddr,fieldPlace,z1j hfu,h0,z3m,Nat.add_assoc]
theorem z10h(k:HRel ρ h w.heap){T E:TypeId}(hu:P.underlying T=some (.slice E)){d:TypeDesc}(hE:P.underlying E=some d){s:Sl}{x:Value}(hx:VRel ρ (.sl s.p s.len (P.cellsOf E)) x){kd:IntKind}{n:Int}
  {p:Option MA} {h':Hp} (e:idx (P.cellsOf E) s n h=some (p,h')):Out ρ h w ((Instr.indexAt T x (.int kd n)).run P w) (.ptr p) h':=by
 obtain⟨sp,sl⟩:=s;unfold idx at e;cases sp with
 | none=>cases e
 | some a=>
  dsimp only at e hx;split at e
  ·rename_i hn;cases e;cases hx with
   | sl a rb len ez cap ra hb hl hc=>
    rcases hc with hc | ⟨rfl,hc⟩
    ·omega
    ·refine Out.same k (rv :=.pointer (some ⟨rb.r,rb.o+(a.off+n.toNat * P.cellsOf E),none⟩)) ?_ (.ptr ⟨a.blk,a.off+n.toNat * P.cellsOf E⟩ rb hb);simp[Instr.indexAt,asIntOf,z0o hu,z1j hE,hn.1,hn.2,z3m,Nat.add_assoc]
  ·cases e
theorem zxv(k:HRel ρ h w.heap){T E:TypeId}{m:Nat}(hu:P.underlying T=some (.array m E)){d:TypeDesc}(hE:P.underlying E=some d){q:Option MA}{x:Value}(hx:VRel ρ (.ptr q) x){kd:IntKind}{n:Int}
  {p:Option MA} {h':Hp} (e:idxA m (P.cellsOf E) q n h=some (p,h')):Out ρ h w ((Instr.indexAt T x (.int kd n)).run P w) (.ptr p) h':=by
 unfold idxA at e;split at e
 ·rename_i a;split at e
  ·rename_i hn;cases e;cases hx with
   | ptr a rb hb=>
    refine Out.same k (rv :=.pointer (some ⟨rb.r,rb.o+(a.off+n.toNat * P.cellsOf E),none⟩)) ?_ (.ptr ⟨a.blk,a.off+n.toNat * P.cellsOf E⟩ rb hb);simp[Instr.indexAt,asIntOf,z0o hu,Instr.sureAddr,z1j hE,hn.1,hn.2,z3m,Nat.add_assoc]
  ·cases e
 ·cases e
def zge(o:Option Value)(els n:Int):Prop:=(o=none∧n=els)∨∃kd,o=some (.int kd n)
theorem zd8{len cap:Nat}{isS:Bool}{lo hi:Option Value}{a b:Int}(ha:zge lo 0 a)(hb:zge hi len b)(h0:0≤a)(h1:a≤b)(h2:b≤len)(hlc:len≤cap) :
  (Instr.sliceBounds isS len cap lo hi none).run P w=.ok (a.toNat,b.toNat,cap) w:=by
 have hbc:b≤cap:=by omega
 rcases ha with⟨rfl,rfl⟩ | ⟨ka,rfl⟩
 ·rcases hb with⟨rfl,rfl⟩ | ⟨kb,rfl⟩
  ·simp[Instr.sliceBounds]
  ·simp[Instr.sliceBounds,Instr.sliceBound,asIntOf,h1,hbc]
 ·rcases hb with⟨rfl,rfl⟩ | ⟨kb,rfl⟩
  ·have:a≤(len:Int):=h1
   simp[Instr.sliceBounds,Instr.sliceBound,asIntOf,h0,this]
  ·have hb0:0≤b:=by omega
   have hab:a≤max b 0:=by omega
   simp[Instr.sliceBounds,Instr.sliceBound,asIntOf,h0,hb0,hbc,hab]
theorem z10i(k:HRel ρ h w.heap){T E:TypeId}(hu:P.underlying T=some (.slice E)){d:TypeDesc}(hE:P.underlying E=some d){s:Sl}{x:Value}(hx:VRel ρ (.sl s.p s.len (P.cellsOf E)) x){lo hi:Option Value}{a b:Int}
  (ha:zge lo 0 a) (hb:zge hi s.len b) {r:Sl} {h':Hp} (e:slc (P.cellsOf E) s a b h=some (r,h')):Out ρ h w ((Instr.sliceAt T x lo hi none).run P w) (.sl r.p r.len (P.cellsOf E)) h':=by
 unfold slc at e;split at e
 ·rename_i hc;obtain⟨h0,h1,h2⟩:=hc;cases e;obtain⟨sp,sl⟩:=s;dsimp only at h2 hb hx;cases hx with
  | slNil ez=>
   have hz:a=0∧b=0:=by omega
   obtain⟨rfl,rfl⟩:=hz;refine Out.same k (rv :=.slice none 0 0) ?_ (.slNil _);have:=zd8 (P:=P) (w:=w) (isS:=true) (len:=0) (cap:=0) ha hb (by omega) (by omega) (by simp) (Nat.le_refl _)
   simp[Instr.sliceAt,z0o hu,Instr.slice,this,z1j hE]
  | sl q rb len ez cap ra hb' hl hcap=>
   have hbd:=zd8 (P:=P) (w:=w) (isS:=true) (len:=sl) (cap:=cap) ha hb h0 h1 h2 hl;have hbl:b.toNat≤cap:=by omega
   by_cases hm:cap=a.toNat
   ·refine Out.same k (rv :=.slice (some ra) (b.toNat - a.toNat) (cap - a.toNat)) ?_ ?_
    ·rw[←hm];simp[Instr.sliceAt,z0o hu,Instr.slice,hbd,z1j hE,←hm]
    ·dsimp only;have:(b - a).toNat=b.toNat - a.toNat:=by omega
     simp only[Option.map_some,this];exact .sl _ rb _ _ _ _ hb' (by omega) (.inl (by omega))
   ·rcases hcap with hcap | ⟨rfl,hcap⟩
    ·omega
    ·refine Out.same k (rv :=.slice (some ⟨rb.r,rb.o+(q.off+a.toNat * P.cellsOf E),none⟩) (b.toNat - a.toNat) (cap - a.toNat)) ?_ ?_
     ·simp[Instr.sliceAt,z0o hu,Instr.slice,hbd,z1j hE,hm,z3m,Nat.add_assoc]
     ·dsimp only;have:(b - a).toNat=b.toNat - a.toNat:=by omega
      simp only[Option.map_some,this];refine .sl (q.add (a.toNat * P.cellsOf E)) rb _ _ _ _ hb' (by omega) (.inr ⟨rfl,?_⟩);simp only[MA.add];have:(cap - a.toNat) * P.cellsOf E=cap * P.cellsOf E - a.toNat * P.cellsOf E:=Nat.sub_mul _ _ _
      have h3:a.toNat * P.cellsOf E≤cap * P.cellsOf E:=Nat.mul_le_mul_right _ (by omega);omega
 ·cases e
theorem z5i.size{ρ:Rho}{rb:RB}{cs:List MV}{ro:Bool}{H:Array Obj}(b:z5i ρ rb (.cells cs ro) H):cs.length≤rb.e:=by
 obtain⟨c,el,fz,h1,h2,h3,_⟩:=b;exact h3
theorem zxw(k:HRel ρ h w.heap){T E:TypeId}{m:Nat}(hu:P.underlying T=some (.array m E)){d:TypeDesc}(hE:P.underlying E=some d){q:Option MA}{x:Value}(hx:VRel ρ (.ptr q) x){lo hi:Option Value}{a b:Int}
  (ha:zge lo 0 a) (hb:zge hi m b) {r:Sl} {h':Hp} (e:slcA m (P.cellsOf E) q a b h=some (r,h')):Out ρ h w ((Instr.sliceAt T x lo hi none).run P w) (.sl r.p r.len (P.cellsOf E)) h':=by
 unfold slcA at e;split at e
 ·rename_i q;split at e
  ·rename_i cs ro hg;split at e
   ·rename_i hc;obtain⟨h0,h1,h2,h3,h4⟩:=hc;have hmost:most=70368744177664:=rfl;cases e;cases hx with
    | ptr q rb hb'=>
     have hbd:=zd8 (P:=P) (w:=w) (isS:=false) (len:=m) (cap:=m) ha hb h0 h1 h2 (Nat.le_refl _);have hk:=k.blk _ _ hb';rw[hg]at hk;have hsz:=hk.size;have hab:(b - a).toNat=b.toNat - a.toNat:=by omega
     by_cases hm:m=a.toNat
     ·refine Out.same k (rv :=.slice (some ⟨rb.r,rb.o+q.off,none⟩) (b.toNat - a.toNat) (m - a.toNat)) ?_ ?_
      ·simp[Instr.sliceAt,z0o hu,Instr.sureAddr,hbd,z1j hE,←hm]
      ·dsimp only;rw[hab];refine .sl (q.add (a.toNat * P.cellsOf E)) rb _ _ _ _ hb' (show b.toNat - a.toNat≤m - a.toNat by omega) (.inl (by omega))
     ·refine Out.same k (rv :=.slice (some ⟨rb.r,rb.o+(q.off+a.toNat * P.cellsOf E),none⟩) (b.toNat - a.toNat) (m - a.toNat)) ?_ ?_
      ·simp[Instr.sliceAt,z0o hu,Instr.sureAddr,hbd,z1j hE,hm,z3m,Nat.add_assoc]
      ·dsimp only;rw[hab];refine .sl (q.add (a.toNat * P.cellsOf E)) rb _ _ _ _ hb' (show b.toNat - a.toNat≤m - a.toNat by omega) (.inr ⟨rfl,?_⟩);simp only[MA.add];have:(m - a.toNat) * P.cellsOf E=m * P.cellsOf E - a.toNat * P.cellsOf E:=Nat.sub_mul _ _ _
       have h3:a.toNat * P.cellsOf E≤m * P.cellsOf E:=Nat.mul_le_mul_right _ (by omega);omega
   ·cases e
  ·cases e
 ·cases e
theorem zd2(k:HRel ρ h w.heap){e:Nat}{s:Sl}{x:Value}(hx:VRel ρ (.sl s.p s.len e) x){cs:List MV}{h':Hp}(he:cellsOf e s h=some (cs,h')) :
  h'=h∧cs.length=s.len * e∧∃b cap xs,x=.slice b s.len cap∧s.len≤cap∧(Builtin.firstCells e s.len x).run P w=.ok xs w∧VRels ρ cs xs.toList:=by
 obtain⟨sp,sl⟩:=s;unfold cellsOf at he;dsimp only at he hx ⊢;cases hx with
 | slNil ez=>
  simp only[if_true]at he;cases he;refine⟨rfl,by simp,none,0, #[],rfl,Nat.le_refl _,?_,.nil⟩;simp[Builtin.firstCells]
 | sl a rb len ez cap ra hb hl hc=>
  simp only at he;rcases hc with hc | ⟨rfl,hc⟩
  ·obtain rfl:sl=0:=by omega
   subst hc;obtain⟨r,o,xs,hp,hlen,hcell,hv,rfl⟩:=zhv k he (.ptr a rb hb);obtain rfl:xs=[]:=List.length_eq_zero_iff.1 (by simpa using hlen);obtain rfl:cs=[]:=by cases hv;rfl
   refine⟨rfl,by simp,some ra,0, #[],rfl,Nat.le_refl _,?_,.nil⟩;simp[Builtin.firstCells,loadCells,loadCellsFrom]
  ·obtain⟨r,o,xs,hp,hlen,hcell,hv,rfl⟩:=zhv k he (.ptr a rb hb);cases hp;refine⟨rfl,by rw[hv.length,hlen],_,cap,xs.toArray,rfl,hl,?_,by simpa using hv⟩;have:=run_loadCells_list (P:=P) w ⟨rb.r,rb.o+a.off,none⟩ xs hcell
   rw[hlen]at this;simp[Builtin.firstCells,this]
end
end Go.Mini

/- append, copy, texts, maps. -/
namespace Go.Mini
theorem zpd(need:Nat):∀(r c:Nat),256≤c→c≤2 * need→Builtin.growBy need r c≤2 * need
 | 0,c,_,h=>h
 | r+1,c,hc,h=>by
  simp only[Builtin.growBy];split
  ·exact h
  ·exact zpd need r _ (by omega) (by omega)
theorem zy3{need cap:Nat}(h:cap<need):Builtin.nextslicecap need cap≤2 * need:=by
 unfold Builtin.nextslicecap;split
 ·omega
 ·split
  ·omega
  ·exact zpd _ _ _ (by omega) (by omega)
section
variable{P:Program}{ρ:Rho}{h:Hp}{w:World}
theorem zbf{T U E R:TypeId}{dE dU:TypeDesc}(hu:P.underlying T=some (.slice E))(hE:P.underlying E=some dE)(hU:P.underlying U=some dU)(hi:∀k,dU≠.int k)
  {base:Option Addr} {len cap n:Nat} {x:Value} {xs:Array Value} (hl:(Builtin.lenOf x).run P w=.ok n w) (hf:(Builtin.firstCells (P.cellsOf E) n x).run P w=.ok xs w) (hfit:len+n≤cap) :
  (Builtin.append_ #[T,U] R #[.slice base len cap,x]).run P w=match base with
   | none =>.ok (.slice none (len+n) cap) w
   | some a=>((storeCells (a.add (len * P.cellsOf E)) xs.toList).run P w).andThen fun _ w' =>.ok (.slice base (len+n) cap) w':=by
 have hz:(match dU with | .int _=>true | _=>false)=false:=by cases dU<;>first | rfl | exact absurd rfl (hi _)
 cases base with
 | none=>simp[Builtin.append_,z0o hu,z1j hE,z0o hU,hz,hl,hfit,hf]
 | some a=>simp[Builtin.append_,z0o hu,z1j hE,z0o hU,hz,hl,hfit,hf]
theorem zmh{T U E R:TypeId}{dE dU:TypeDesc}(hu:P.underlying T=some (.slice E))(hE:P.underlying E=some dE)(hU:P.underlying U=some dU)(hi:∀k,dU≠.int k)
  {i:TypeInfo} {z:Value} (hinfo:P.info? E=some i) (hzero:i.zero=some z) (hb0:0<P.bytesOf E)
  {base:Option Addr} {len cap n:Nat} {x:Value} {xs old:Array Value} (hl:(Builtin.lenOf x).run P w=.ok n w)
  (hf:∀w':World,w'.heap=w.heap→(Builtin.firstCells (P.cellsOf E) n x).run P w' = .ok xs w') (ho:∀w':World,w'.heap=w.heap→(Builtin.firstCells (P.cellsOf E) len (.slice base len cap)).run P w' = .ok old w')
  (hfit:cap<len+n) (hmost:(len+n) * P.bytesOf E≤most) :
  ∃nc rest,len+n≤nc∧nc≤9223372036854775807∧rest.size=(nc - (len+n)) * z.cells.size∧(Builtin.append_ #[T,U] R #[.slice base len cap,x]).run P w =
   ((newRow E (old++xs++rest)).run P {w with drawn:=w.drawn+1}).andThen (fun a w' =>.ok (.slice (some a) (len+n) nc) w'):=by
 have hz:(match dU with | .int _=>true | _=>false)=false:=by cases dU<;>first | rfl | exact absurd rfl (hi _)
 have hbi:i.bytes=P.bytesOf E:=by simp[Program.bytesOf,hinfo]
 have hcap:=zy3 hfit;have hm:most=70368744177664:=rfl;have hle:Builtin.nextslicecap (len+n) cap * P.bytesOf E≤2 * ((len+n) * P.bytesOf E):=by
  have:=Nat.mul_le_mul_right (P.bytesOf E) hcap
  rw[Nat.mul_assoc]at this;exact this
 have h48:(2:Nat)^48=281474976710656:=by decide
 have c1:¬(281474976710656<Builtin.nextslicecap (len+n) cap * P.bytesOf E):=by omega
 have hfit':¬(len+n≤cap):=by omega
 have z4y:=ho w.drew rfl;have hnew:=hf w.drew rfl;have hbne:¬(P.bytesOf E=0):=by omega
 refine⟨len+n+w.tape w.drawn (.appendCap (len+n) cap E)%(2^63 - (len+n)),Builtin.zeroCells z.cells (len+n+w.tape w.drawn (.appendCap (len+n) cap E)%(2^63 - (len+n)) - (len+n)),Nat.le_add_right _ _,?_,by simp[Builtin.zeroCells],?_⟩
 ·have hq:=Nat.mod_lt (w.tape w.drawn (.appendCap (len+n) cap E)) (show 0<2^63 - (len+n) by have:=Nat.le_mul_of_pos_right (len+n) hb0;have hm:most=70368744177664:=rfl;omega);omega
 simp[Builtin.append_,z0o hu,z1j hE,z0o hU,hz,hl,hfit',typeInfo,hinfo,hbi,c1,hbne,Question.forced,Question.cut,z4y,hnew,z38 hinfo hzero]
theorem zmi(k:HRel ρ h w.heap){T U E R:TypeId}{dE dU:TypeDesc}(hu:P.underlying T=some (.slice E))(hE:P.underlying E=some dE)(hU:P.underlying U=some dU)(hi:∀k,dU≠.int k)
  {z:List MV} (hz:z56 P E=some z) (hzl:z.length=P.cellsOf E) (hb0:0<P.bytesOf E) (he0:0<P.cellsOf E) {s:Sl} {x y:Value} (hx:VRel ρ (.sl s.p s.len (P.cellsOf E)) x) {n:Nat} {xs:Array Value} {new:List MV}
  (hl:(Builtin.lenOf y).run P w=.ok n w) (hf:∀w':World,w'.heap=w.heap→(Builtin.firstCells (P.cellsOf E) n y).run P w' = .ok xs w') (hv:VRels ρ new xs.toList) (hn:new.length=n * P.cellsOf E) (hcells:new.all z10=true)
  {r:Sl} {h':Hp} (e:zdy (P.cellsOf E) (P.bytesOf E) s new h=some (r,h')) :
  Out ρ h w ((Builtin.append_ #[T,U] R #[x,y]).run P w) (.sl r.p r.len (P.cellsOf E)) h':=by
 obtain⟨sp,sl⟩:=s;dsimp only at hx;obtain⟨i,zv,hinfo,hzero,hzr⟩:=zeroOf_spec hz;have hzs:zv.cells.size=P.cellsOf E:=by have:=(hzr ρ).length;simp at this;omega
 unfold zdy at e;by_cases h0:new=[]
 ·rw[if_pos h0]at e;cases e;subst h0;have hn0:n=0:=by
   rcases Nat.mul_eq_zero.1 hn.symm with hn | hn
   ·exact hn
   ·omega
  subst hn0;have hxs:xs = #[]:=by have:=hv.length;simp at this;exact Array.eq_empty_of_size_eq_zero this.symm
  cases hx with
  | slNil ez=>
   have:=zbf (P:=P) (R:=R) hu hE hU hi (base:=none) (len:=0) (cap:=0) hl (hf w rfl) (Nat.le_refl _)
   exact Out.same k this (.slNil _)
  | sl a rb len ez cap ra hb hl' hc=>
   have:=zbf (P:=P) (R:=R) hu hE hU hi (base:=some ra) (len:=sl) (cap:=cap) hl (hf w rfl) hl'
   refine Out.same k (rv :=.slice (some ra) sl cap) ?_ (.sl a rb sl _ cap ra hb hl' hc);rw[this,hxs];simp[storeCells]
 ·rw[if_neg h0]at e;split at e
  ·rename_i hcond;have hdiv:new.length / P.cellsOf E=n:=by rw[hn];exact Nat.mul_div_cancel _ he0
   have hnp:0<n:=by
    rcases Nat.eq_zero_or_pos n with hz0 | hz0
    ·subst hz0;simp at hn;exact absurd hn h0
    ·exact hz0
   rw[hdiv]at hcond e;have hxs:xs.size=n * P.cellsOf E:=by have:=hv.length;simp at this;omega
   -- what is appended to a full slice
   have grow:∀(base:Option Addr)(cap:Nat)(old:List MV)(olds:Array Value)(h1:Hp),HRel ρ h1 w.heap→HStp ρ h w ρ h1 w→VRels ρ old olds.toList→old.length=sl * P.cellsOf E→h1.size=h.size →
     (∀w':World,w'.heap=w.heap→(Builtin.firstCells (P.cellsOf E) sl (.slice base sl cap)).run P w' = .ok olds w')→cap<sl+n →
     Out ρ h w ((Builtin.append_ #[T,U] R #[.slice base sl cap,y]).run P w) (.sl (some ⟨h.size,0⟩) (sl+n) (P.cellsOf E)) (h1.push (.cells (old++new) false)):=by
    intro base cap old olds h1 k1 st1 z4y hol hs1 hfo hfull;obtain⟨nc,rest,hnc,hnc2,hrs,hrun⟩:=zmh (P:=P) (R:=R) hu hE hU hi hinfo hzero hb0 hl hf hfo hfull hcond.2;have k2:HRel ρ h1 ({w with drawn:=w.drawn+1}:World).heap:=k1;have holds:=z4y.length;simp at holds;have hlen:(old++new).length≤(olds++xs++rest).size:=by simp;omega
    obtain⟨ρ',g1,g2,g3,g4⟩:=zkb (P:=P) k2 E (cs:=old++new) (xs:=olds++xs++rest) hlen (by
     have:((olds++xs++rest).toList.take (old++new).length)=olds.toList++xs.toList:=by
      rw[Array.toList_append,Array.toList_append,List.take_left' (by simp;omega)]
     rw[this];exact z4y.append hv)
    refine⟨.slice (some ⟨w.heap.size,0,none⟩) (sl+n) nc,ρ',_,?_,?_,g3,(st1.trans (HStp.drew ρ h1 w)).trans g4⟩
    ·rw[hrun,g1];rfl
    ·rw[hs1]at g2;refine zi6 g2 _ hnc ?_;rw[show(olds++xs++rest).size=sl * P.cellsOf E+n * P.cellsOf E+(nc - (sl+n)) * P.cellsOf E by simp[hrs,hzs];omega];rw[←Nat.add_mul,←Nat.add_mul];exact Nat.mul_le_mul_right _ (by omega)
   cases hx with
   | slNil ez=>
    dsimp only at e;simp only[if_true]at e;cases e;have:=grow none 0 [] #[] h k (HStp.refl _ _ _) .nil (by simp) rfl (fun w' _=>by simp[Builtin.firstCells]) (by omega)
    simpa using this
   | sl a rb len ez cap ra hb hl' hc=>
    dsimp only at e;split at e
    ·rename_i cs hg;split at e
     ·rename_i hle;cases e;have hk:=k.blk _ _ hb;rw[hg]at hk;obtain⟨c,el,fz,b1,b2,b3,b4,b5⟩:=hk;have hownb:Own h a.blk :=.inl ⟨cs,hg⟩
      -- the old cells
      have holdv:VRels ρ ((cs.drop a.off).take (sl * P.cellsOf E)) ((c.toList.drop (rb.o+a.off)).take (sl * P.cellsOf E)):=by
       apply VRels.of_get
       ·simp;omega
       ·intro j v y' hv1 hy1;rw[List.getElem?_take]at hv1 hy1;split at hv1
        ·rename_i hj;rw[if_pos hj]at hy1;simp at hv1 hy1;obtain⟨v',hv',hr⟩:=b4 _ _ hv1;rw[←Nat.add_assoc,hy1]at hv';cases hv';exact hr
        ·cases hv1
      by_cases hfit:sl+n≤cap
      ·-- in place
       rcases hc with hc | ⟨rfl,hc⟩
       ·omega
       ·have hrun:=zbf (P:=P) (R:=R) hu hE hU hi (base:=some ⟨rb.r,rb.o+a.off,none⟩) (len:=sl) (cap:=cap) hl (hf w rfl) hfit;have hmul:(sl+n) * P.cellsOf E≤cap * P.cellsOf E:=Nat.mul_le_mul_right _ hfit;rw[Nat.add_mul]at hmul;have hst:=z8u (P:=P) rb.r (rb.o+a.off+sl * P.cellsOf E) el fz xs.toList 0 c w b1
         (fun j _ hj=>by
          have hj:=hj;simp at hj;rcases b5 rfl with h | ⟨_,h⟩<;>omega) (by simp;omega) (hv.oneCell hcells)
        simp only[Nat.add_zero]at hst;have had:=k.adopt (w':=w.setRow rb.r (c.toList.take (rb.o+a.off+sl * P.cellsOf E)++xs.toList++c.toList.drop (rb.o+a.off+sl * P.cellsOf E+xs.toList.length)).toArray) hb hownb (rb.o+a.off) (rb.e - a.off)
         (.cells ((cs.drop a.off).take (sl * P.cellsOf E)++new) false) (by simp) (fun i hi=>setRow_other w rb.r i _ hi) rfl rfl rfl (by
          intro ρ' hext;refine⟨_,el,fz,setRow_heap w _ c _ el fz b1,?_,?_,?_,?_⟩
          ·dsimp only;simp;omega
          ·dsimp only;simp;omega
          ·intro j v hj;dsimp only;rw[List.getElem?_append]at hj;have hl1:((cs.drop a.off).take (sl * P.cellsOf E)).length=sl * P.cellsOf E:=by simp;omega
           rw[hl1]at hj;split at hj
           ·rename_i hjl;obtain⟨y',hy',hr⟩:=holdv.get _ _ hj;refine⟨y',?_,hr.mono hext⟩;rw[List.getElem?_take,if_pos hjl,List.getElem?_drop]at hy';rw[List.getElem?_toArray,List.getElem?_append_left (by simp;omega),List.getElem?_append_left (by simp;omega),List.getElem?_take,if_pos (by omega)];exact hy'
           ·rename_i hjl;obtain⟨y',hy',hr⟩:=hv.get _ _ hj;refine⟨y',?_,hr.mono hext⟩;have hjn:j - sl * P.cellsOf E<new.length:=(List.getElem?_eq_some_iff.1 hj).1;rw[List.getElem?_toArray,List.getElem?_append_left (by simp;omega),List.getElem?_append_right (by simp;omega)];rw[←hy'];congr 1;simp;omega
          ·intro _;have hae:a.off≤rb.e:=by omega
           dsimp only;rcases b5 rfl with h | ⟨hp,h⟩
           ·exact .inl h
           ·exact .inr ⟨hp,by omega⟩)
        refine⟨.slice (some ⟨rb.r,rb.o+a.off,none⟩) (sl+n) cap,_,_,?_,?_,had.1,had.2⟩
        ·rw[hrun];simp only[z3m];rw[hst];rfl
        ·refine zi6 (Rho.put_same _ _ _) _ hfit ?_;omega
      ·-- a new row
       refine grow (some ra) cap _ ((c.toList.drop (rb.o+a.off)).take (sl * P.cellsOf E)).toArray (h.set a.blk .dead) (k.kill _) (HStp.kill _ _ _ _) (by simpa using holdv) (by simp;omega) rfl ?_ (by omega);intro w' hw';rcases hc with hc | ⟨rfl,hc⟩
       ·obtain rfl:sl=0:=by omega
        simp[Builtin.firstCells,loadCells,loadCellsFrom]
       ·have hll:((c.toList.drop (rb.o+a.off)).take (sl * P.cellsOf E)).length=sl * P.cellsOf E:=by simp;omega
        have:=run_loadCells_list (P:=P) w' ⟨rb.r,rb.o+a.off,none⟩ ((c.toList.drop (rb.o+a.off)).take (sl * P.cellsOf E)) (by
         intro j v hj;rw[z3m,zfg (by rw[hw'];exact b1)];rw[List.getElem?_take]at hj;split at hj
         ·simpa using hj
         ·cases hj)
        rw[hll]at this;simp[Builtin.firstCells,this]
     ·cases e
    ·cases e
  ·cases e
end
end Go.Mini

/- append of slices and texts, copy, conversions, maps. -/
namespace Go.Mini
theorem zqw(s:List UInt8):(bytesOf s).all z10=true:=by
 simp[bytesOf,z10]
theorem zkc(ρ:Rho)(s:List UInt8):VRels ρ (bytesOf s) (s.map fun b=>Value.int .u8 b.toNat):=by
 induction s with
 | nil=>exact .nil
 | cons b s ih=>exact .cons _ _ _ _ (.int _ _) ih
section
variable{P:Program}{ρ:Rho}{h:Hp}{w:World}
theorem zso(b:Option Addr)(n c:Nat):(Builtin.lenOf (.slice b n c)).run P w=.ok n w:=rfl
theorem zi7(s:ByteArray):(Builtin.lenOf (.string s)).run P w=.ok s.size w:=rfl
theorem zpe(e n:Nat)(s:List UInt8)(hn:n≤s.length):(Builtin.firstCells e n (.string ⟨s.toArray⟩)).run P w=.ok ((s.take n).map fun b=>Value.int .u8 b.toNat).toArray w:=by
 simp only[Builtin.firstCells,Sem.run_pure];congr 1;apply Array.ext';simp[ByteArray.data_extract]
theorem zi8{e:Nat}{s:Sl}{x:Value}(k:HRel ρ h w.heap)(hx:VRel ρ (.sl s.p s.len e) x){cs:List MV}{h':Hp}(he:cellsOf e s h=some (cs,h')) :
  ∃xs,VRels ρ cs xs.toList∧cs.length=s.len * e∧h'=h∧(Builtin.lenOf x).run P w=.ok s.len w∧∀w':World,w'.heap=w.heap→(Builtin.firstCells e s.len x).run P w' = .ok xs w':=by
 obtain⟨rfl,hl,b,cap,xs,rfl,hle,hrun,hv⟩:=zd2 (P:=P) k hx he;refine⟨xs,hv,hl,rfl,rfl,fun w' hw'=>?_⟩;have k':HRel ρ h' w'.heap:=by rw[hw'];exact k
 obtain⟨_,_,b',cap',xs',heq,_,hrun',_⟩:=zd2 (P:=P) k' hx he;cases heq
 -- both runs read the same cells
 have:(Builtin.firstCells e s.len (.slice b s.len cap)).run P w' = .ok xs w':=by
  cases b with
  | none=>simpa[Builtin.firstCells]using hrun
  | some a=>
   simp only[Builtin.firstCells]at hrun hrun' ⊢;have key:∀(n i:Nat)(acc:Array Value)(ys:Array Value),(loadCellsFrom a i n acc).run P w=.ok ys w→(loadCellsFrom a i n acc).run P w' = .ok xs' w'→ys=xs':=by
    intro n;induction n with
    | zero=>intro i acc ys h1 h2;simp[loadCellsFrom]at h1 h2;rw[←h1,←h2]
    | succ n ih=>
     intro i acc ys h1 h2;simp only[loadCellsFrom,Sem.run_bind,run_load]at h1 h2;have hc:w'.cell? (a.add i)=w.cell? (a.add i):=by simp[World.cell?,hw']
     rw[hc]at h2;cases hcell:w.cell? (a.add i)with
     | some v=>
      simp only[hcell,Result.andThen_ok]at h1 h2;exact ih _ _ _ h1 h2
     | none=>
      have hf:w'.farLoad P (a.add i) (Mode.plain == .atomic)=w.farLoad P (a.add i) (Mode.plain == .atomic):=by
       unfold World.farLoad World.viewLoad World.seen World.noCell;rw[hw']
      simp only[hcell]at h1 h2;rw[hf]at h2;cases hfl:w.farLoad P (a.add i) (Mode.plain == .atomic)with
      | ok r=>
       simp only[hfl,Result.andThen_ok]at h1 h2;exact ih _ _ _ h1 h2
      | error e=>simp[hfl]at h1
   have:=key _ _ _ _ hrun hrun'
   rw[this];exact hrun'
 exact this
theorem z10p(k:HRel ρ h w.heap){T U E F R:TypeId}{dE:TypeDesc}(hu:P.underlying T=some (.slice E))(hE:P.underlying E=some dE)(hU:P.underlying U=some (.slice F))
  {z:List MV} (hz:z56 P E=some z) (hzl:z.length=P.cellsOf E) (hb0:0<P.bytesOf E) (he0:0<P.cellsOf E) {s t:Sl} {x y:Value} (hx:VRel ρ (.sl s.p s.len (P.cellsOf E)) x) (hy:VRel ρ (.sl t.p t.len (P.cellsOf E)) y)
  {r:Sl} {h':Hp} (e:app (P.cellsOf E) (P.bytesOf E) s t h=some (r,h')):Out ρ h w ((Builtin.append_ #[T,U] R #[x,y]).run P w) (.sl r.p r.len (P.cellsOf E)) h':=by
 obtain⟨cs,h1,e1,e2⟩:=z0f e;obtain⟨xs,hv,hl,rfl,hlen,hf⟩:=zi8 (P:=P) k hy e1;split at e2
 ·rename_i hc;exact zmi k hu hE hU (fun _ h=>by cases h) hz hzl hb0 he0 hx hlen hf hv hl hc e2
 ·cases e2
theorem zy4(k:HRel ρ h w.heap){T U E R:TypeId}{kd:IntKind}(hu:P.underlying T=some (.slice E))(hE:P.underlying E=some (.int kd))(hU:P.underlying U=some .string)(he1:P.cellsOf E=1)(hb1:P.bytesOf E=1)
  {z:List MV} (hz:z56 P E=some z) (hzl:z.length=P.cellsOf E) {s:Sl} {t:List UInt8} {x y:Value} (hx:VRel ρ (.sl s.p s.len 1) x) (hy:VRel ρ (.str t) y)
  {r:Sl} {h':Hp} (e:appS s t h=some (r,h')):Out ρ h w ((Builtin.append_ #[T,U] R #[x,y]).run P w) (.sl r.p r.len 1) h':=by
 cases hy;have hb:=zkc ρ t;have:=zmi (P:=P) (R:=R) k hu hE hU (fun _ h=>by cases h) hz hzl (by omega) (by omega) (s:=s) (x:=x) (y :=.string ⟨t.toArray⟩) (n:=t.length) (xs:=(t.map fun b=>Value.int .u8 b.toNat).toArray) (new:=bytesOf t)
  (by rw[he1];exact hx) (by simp[zi7,ByteArray.size]) (fun w' _=>by have:=zpe (P:=P) (w:=w') (P.cellsOf E) t.length t (Nat.le_refl _);rw[List.take_length]at this;exact this) (by simpa using hb) (by simp[bytesOf,he1]) (zqw t) (r:=r) (h':=h') (by rw[he1,hb1];exact e)
 rw[he1]at this;exact this
theorem zwn{q:Option MA}{vs:List MV}{h':Hp}{n:Nat}(k:HRel ρ h w.heap)(e:stn n q vs h=some ((),h')){ra:Addr}(hx:VRel ρ (.ptr q) (.pointer (some ra))){xs:List Value}(hv:VRels ρ vs xs) :
  ∃w',(storeCells ra xs).run P w=.ok () w'∧HRel ρ h' w'.heap∧HStp ρ h w ρ h' w':=by
 cases hx with
 | ptr a rb hb=>
  simp only[stn]at e;split at e
  ·rename_i cs hg;split at e
   ·rename_i hc;cases e;exact zem (P:=P) k hb hg a.off hv hc.2.2 hc.1
   ·cases e
  ·cases e
theorem zy5(k:HRel ρ h w.heap){T U E R:TypeId}{dE:TypeDesc}(hu:P.underlying T=some (.slice E))(hE:P.underlying E=some dE)(he0:0<P.cellsOf E){s t:Sl}{x y:Value}(hx:VRel ρ (.sl s.p s.len (P.cellsOf E)) x)(hy:VRel ρ (.sl t.p t.len (P.cellsOf E)) y)
  {n:Int} {h':Hp} (e:copy (P.cellsOf E) s t h=some (n,h')):Out ρ h w ((Builtin.copy_ #[T,U] R #[x,y]).run P w) (.int .i64 n) h':=by
 unfold copy at e;obtain⟨sp,sl⟩:=s;obtain⟨tp,tl⟩:=t;dsimp only at e hx hy
 -- the source's first cells,as a slice of their own
 have hlt:∃tb tc,y=.slice tb tl tc∧tl≤tc:=by
  cases hy with
  | slNil ez=>exact⟨none,0,rfl,Nat.le_refl _⟩
  | sl a rb len ez cap ra hb hl hc=>exact⟨_,_,rfl,hl⟩
 obtain⟨tb,tc,rfl,htc⟩:=hlt;have hls:∃sb sc,x=.slice sb sl sc:=by
  cases hx with
  | slNil ez=>exact⟨none,0,rfl⟩
  | sl a rb len ez cap ra hb hl hc=>exact⟨_,_,rfl⟩
 obtain⟨sb,sc,rfl⟩:=hls;split at e
 ·rename_i h0;cases e;have hm:min tl sl=0:=by
   rcases Nat.mul_eq_zero.1 h0 with h | h
   ·exact h
   ·omega
  refine Out.same k (rv :=.int .i64 0) ?_ (by rw[hm];exact .int _ _);have hf:(Builtin.firstCells (P.cellsOf E) 0 (.slice tb tl tc)).run P w=.ok #[] w:=by
   cases tb<;>simp[Builtin.firstCells,loadCells,loadCellsFrom]
  have hmm:Nat.min tl sl=0:=hm;cases sb<;>simp[Builtin.copy_,z0o hu,z1j hE,zso,hmm,hf,storeCells,goInt]
 ·rename_i h0;obtain⟨cs,h1,e1,e2⟩:=z0f e;obtain⟨u,h2,e3,e4⟩:=z0f e2;cases e4;have hy':VRel ρ (.sl tp (min tl sl) (P.cellsOf E)) (.slice tb (min tl sl) tc):=by
   cases hy with
   | slNil ez=>simp at h0
   | sl a rb len ez cap ra hb hl hc=>exact .sl a rb _ _ _ _ hb (by omega) hc
  obtain⟨xs,hv,hl,rfl,_,hf⟩:=zi8 (P:=P) (s:=⟨tp,min tl sl⟩) k hy' e1;have hfirst:(Builtin.firstCells (P.cellsOf E) (min tl sl) (.slice tb tl tc)).run P w=.ok xs w:=by
   have:=hf w rfl
   cases tb<;>exact this
  have hsx:∃ra,sb=some ra∧VRel ρ (.ptr sp) (.pointer (some ra)):=by
   cases hx with
   | slNil ez=>simp at h0
   | sl a rb len ez cap ra hb hl' hc=>
    rcases hc with hc | ⟨rfl,_⟩
    ·exfalso;apply h0;rw[show min tl sl=0 by omega];simp
    ·exact⟨_,rfl,.ptr a rb hb⟩
  obtain⟨ra,rfl,hp⟩:=hsx;obtain⟨w',hst,k',st⟩:=zwn (P:=P) k e3 hp hv;have hmm:Nat.min tl sl=min tl sl:=rfl;refine⟨.int .i64 (min tl sl:Nat),ρ,w',?_,.int _ _,k',st⟩;simp[Builtin.copy_,z0o hu,z1j hE,zso,hmm,hfirst,hst,goInt]
theorem zvd(k:HRel ρ h w.heap){T U E R:TypeId}{dE:TypeDesc}(hu:P.underlying T=some (.slice E))(hE:P.underlying E=some dE)(he1:P.cellsOf E=1){s:Sl}{t:List UInt8}{x y:Value}(hx:VRel ρ (.sl s.p s.len 1) x)(hy:VRel ρ (.str t) y)
  {n:Int} {h':Hp} (e:copyS s t h=some (n,h')):Out ρ h w ((Builtin.copy_ #[T,U] R #[x,y]).run P w) (.int .i64 n) h':=by
 unfold copyS at e;obtain⟨sp,sl⟩:=s;dsimp only at e hx;cases hy;have hls:∃sb sc,x=.slice sb sl sc:=by
  cases hx with
  | slNil ez=>exact⟨none,0,rfl⟩
  | sl a rb len ez cap ra hb hl hc=>exact⟨_,_,rfl⟩
 obtain⟨sb,sc,rfl⟩:=hls;have hsz:(⟨t.toArray⟩:ByteArray).size=t.length:=by simp[ByteArray.size]
 have hmm:Nat.min t.length sl=min t.length sl:=rfl;have hfirst:=zpe (P:=P) (w:=w) (P.cellsOf E) (min t.length sl) t (by omega);split at e
 ·rename_i h0;cases e;refine Out.same k (rv :=.int .i64 0) ?_ (by rw[h0];exact .int _ _);rw[h0]at hfirst;cases sb<;>simp[Builtin.copy_,z0o hu,z1j hE,zi7,hsz,hmm,h0,hfirst,storeCells,goInt]
 ·rename_i h0;obtain⟨u,h2,e3,e4⟩:=z0f e;cases e4;have hsx:∃ra,sb=some ra∧VRel ρ (.ptr sp) (.pointer (some ra)):=by
   cases hx with
   | slNil ez=>simp at h0
   | sl a rb len ez cap ra hb hl' hc=>
    rcases hc with hc | ⟨rfl,_⟩
    ·omega
    ·exact⟨_,rfl,.ptr a rb hb⟩
  obtain⟨ra,rfl,hp⟩:=hsx;obtain⟨w',hst,k',st⟩:=zwn (P:=P) k e3 hp (zkc ρ (t.take (min t.length sl)));rw[List.map_take]at hst;refine⟨.int .i64 (min t.length sl:Nat),ρ,w',?_,.int _ _,k',st⟩;simp[Builtin.copy_,z0o hu,z1j hE,zi7,hsz,hmm,hfirst,hst,goInt]
theorem zmj:∀{cs:List MV}{s:List UInt8},z4d cs=some s→∃ns:List Int,cs=ns.map (.int .u8)∧s=ns.map fun n=>UInt8.ofNat n.toNat
 | [],s,h=>by cases h;exact⟨[],rfl,rfl⟩
 | .int .u8 n::r,s,h=>by
  simp only[z4d]at h;split at h
  ·rename_i l hl;cases h;obtain⟨ns,rfl,rfl⟩:=zmj hl;exact⟨n::ns,rfl,rfl⟩
  ·cases h
 | .int .u16 _::_,s,h=>by simp[z4d]at h
 | .int .u32 _::_,s,h=>by simp[z4d]at h
 | .int .u64 _::_,s,h=>by simp[z4d]at h
 | .int .i8 _::_,s,h=>by simp[z4d]at h
 | .int .i16 _::_,s,h=>by simp[z4d]at h
 | .int .i32 _::_,s,h=>by simp[z4d]at h
 | .int .i64 _::_,s,h=>by simp[z4d]at h
 | .bool _::_,s,h=>by simp[z4d]at h
 | .str _::_,s,h=>by simp[z4d]at h
 | .ptr _::_,s,h=>by simp[z4d]at h
 | .sl _ _ _::_,s,h=>by simp[z4d]at h
 | .map _::_,s,h=>by simp[z4d]at h
 | .fn _ _::_,s,h=>by simp[z4d]at h
 | .nilFn::_,s,h=>by simp[z4d]at h
 | .iface _ _::_,s,h=>by simp[z4d]at h
 | .nilIface::_,s,h=>by simp[z4d]at h
 | .agg _::_,s,h=>by simp[z4d]at h
 | .tup _::_,s,h=>by simp[z4d]at h
theorem zsp{ρ:Rho}{k:IntKind}:∀{ns:List Int}{xs:List Value},VRels ρ (ns.map (.int k)) xs→xs=ns.map (.int k)
 | [],xs,h=>by cases h;rfl
 | n::ns,xs,h=>by
  cases h with
  | cons _ x _ xs h hs=>cases h;rw[zsp hs];rfl
theorem z10q(ns:List Int):∀(s:ByteArray),ns.foldl (fun r n=>r.push (UInt8.ofNat n.toNat)) s=⟨(s.data.toList++ns.map fun n=>UInt8.ofNat n.toNat).toArray⟩:=by
 induction ns with
 | nil=>intro s;simp
 | cons n ns ih=>
  intro s;simp only[List.foldl_cons,ih,List.map_cons];congr 1;simp[ByteArray.push]
theorem zve(k:HRel ρ h w.heap){s:Sl}{x:Value}(hx:VRel ρ (.sl s.p s.len 1) x){r:List UInt8}{h':Hp}(e:toStr s h=some (r,h')):Out ρ h w ((Conv.bytesToString x).run P w) (.str r) h':=by
 obtain⟨cs,h1,e1,e2⟩:=z0f e;obtain⟨e3,rfl⟩:=z2z e2;obtain⟨rfl,hl,b,cap,xs,rfl,hle,hrun,hv⟩:=zd2 (P:=P) k hx e1;obtain⟨ns,rfl,rfl⟩:=zmj e3;have hxs:=zsp hv;cases b with
 | none=>
  have:ns=[]:=by
   simp[Builtin.firstCells]at hrun;subst hrun;cases ns with
   | nil=>rfl
   | cons a b=>simp at hxs
  subst this;refine Out.same k (rv :=.string .empty) ?_ (.str []);simp[Conv.bytesToString]
 | some a=>
  have hload:(loadCells a s.len).run P w=.ok (ns.map (Value.int .u8)).toArray w:=by
   simp only[Builtin.firstCells,Nat.mul_one]at hrun;rw[hrun,←hxs]
  refine Out.same k (run_bytesToString w a s.len cap ns hload) ?_;rw[z10q];exact .str _
theorem zqx(k:HRel ρ h w.heap){E:TypeId}{s:List UInt8}{r:Sl}{h':Hp}(e:toBytes s h=some (r,h')):Out ρ h w ((Conv.stringToBytes E ⟨s.toArray⟩).run P w) (.sl r.p r.len 1) h':=by
 unfold toBytes at e;split at e
 ·rename_i hm;cases e;have hsz:(⟨s.toArray⟩:ByteArray).size=s.length:=by simp[ByteArray.size]
  generalize hnc:s.length+w.tape w.drawn (.appendCap s.length 0 E)%(2^63 - s.length)=nc;have hge:s.length≤nc:=by omega
  have hmost:most=70368744177664:=rfl;have hnc2:nc≤9223372036854775807:=by
   have:=Nat.mod_lt (w.tape w.drawn (.appendCap s.length 0 E)) (show 0<2^63 - s.length by omega)
   omega
  let row:Array Value:=(s.map fun b=>Value.int .u8 b.toNat).toArray++Array.replicate (nc - s.length) (.int .u8 0)
  have hrow:row.size=nc:=by simp[row];omega
  let w1:World:=({w with drawn:=w.drawn+1}:World).alloc (.cells row E)
  let w2:World:=w1.freeze ⟨w.heap.size,nc,none⟩ 1
  have hw2:w2.heap=w.heap.push (.cells row E (nc,nc+1)):=by
   simp only[w2,w1,World.freeze,World.alloc,Nat.one_ne_zero,if_false];apply Array.ext_getElem?;intro i;rw[Array.getElem?_modify,Array.getElem?_push,Array.getElem?_push];by_cases e:i=w.heap.size
   ·subst e;simp
   ·simp[e,Ne.symm e]
  have hal:=k.alloc (w':=w2) (.cells (bytesOf s) false) (by simp) nc _ hw2 rfl rfl rfl (by
   intro ρ' hx;refine⟨row,E,(nc,nc+1),by rw[hw2];simp,by simp[hrow],by simp[bytesOf];omega,?_,fun _ =>.inr ⟨hm.2,by dsimp only;omega⟩⟩;intro i v hi;simp only[bytesOf,List.getElem?_map,Option.map_eq_some_iff]at hi;obtain⟨b,hb,rfl⟩:=hi;refine⟨.int .u8 b.toNat,?_,.int _ _⟩;have hil:i<s.length:=(List.getElem?_eq_some_iff.1 hb).1;simp only[Nat.zero_add,row];rw[Array.getElem?_append_left (by simpa using hil)];simp[hb])
  refine⟨.slice (some ⟨w.heap.size,0,none⟩) s.length nc,_,w2,?_,?_,hal.1,hal.2⟩
  ·have hsh:w1.shape? w.heap.size=some (E,nc):=by
    simp only[World.shape?];have:w1.heap[w.heap.size]? = some (.cells row E):=heap_alloc_new _ _
    rw[this];simp[hrow]
   have hfs:(⟨s.toArray⟩:ByteArray).data.map (fun b=>Value.int .u8 b.toNat)=(s.map fun b=>Value.int .u8 b.toNat).toArray:=by simp
   have e1:(newRow E row).run P ({w with drawn:=w.drawn+1}:World)=.ok ⟨w.heap.size,0,none⟩ w1:=by simp only[newRow,Sem.run_bind,run_newObj];rfl
   have e2:(markStringish ⟨w.heap.size,0,none⟩).run P w1=.ok () w2:=by simp[markStringish,hsh,w2]
   have e3:((choose (.appendCap s.length 0 E)).run P w)=.ok nc ({w with drawn:=w.drawn+1}:World):=by
    rw[run_choose,if_neg (by simp[Question.forced])];simp only[Question.cut,hnc]
   unfold Conv.stringToBytes;rw[hsz,hfs,Sem.run_bind,e3,Result.andThen_ok,Sem.run_bind,e1,Result.andThen_ok,Sem.run_bind,e2];rfl
  ·exact zi6 (Rho.put_same _ _ _) nc hge (by omega)
 ·cases e
theorem zy6(k:HRel ρ h w.heap){T E:TypeId}(hu:P.underlying T=some (.slice E))(hE:P.underlying E=some (.int .u8)){s:Sl}{x:Value}(hx:VRel ρ (.sl s.p s.len 1) x){r:Sl}{h':Hp}(e:markB s h=some (r,h')) :
  Out ρ h w ((convert T T x).run P w) (.sl r.p r.len 1) h':=by
 obtain⟨p,l⟩:=s;unfold markB at e;cases p with
 | none=>cases e
 | some a=>
  dsimp only at e hx;split at e
  ·rename_i cs hg;split at e
   ·rename_i hl0;cases e;cases hx with
    | sl _ rb _ _ cap ra hb hl hc=>
     have hk:=k.blk _ _ hb;rw[hg]at hk;obtain⟨c,el,fz,h1,h2,h3,h4,h5⟩:=hk;rcases hc with hc | ⟨rfl,hc⟩
     ·omega
     ·obtain⟨lo,hi⟩:=fz;have hsh:w.shape? rb.r=some (el,c.size):=by simp only[World.shape?,h1]
      let w2:World:=w.freeze ⟨rb.r,c.size,none⟩ 1
      have hw2:w2.heap=w.heap.modify rb.r fun
        | .cells c' elem (lo,hi) =>.cells c' elem (if lo==hi then(c.size,c.size+1)else(min lo c.size,max hi (c.size+1)))
        | o=>o:=by
       simp only[w2,World.freeze,Nat.one_ne_zero,if_false];rfl
      have hnew:w2.heap[rb.r]? = some (.cells c el (if lo==hi then(c.size,c.size+1)else(min lo c.size,max hi (c.size+1)))):=by
       rw[hw2,Array.getElem?_modify,if_pos rfl,h1];rfl
      have hwr:=k.write (w':=w2) (.cells cs false) hb (.inl ⟨cs,hg⟩) (by simp) (by simp) (by rw[hw2];simp) (fun i hi=>by rw[hw2,Array.getElem?_modify,if_neg (Ne.symm hi)]) (by simp only[w2,World.freeze,Nat.one_ne_zero,if_false]) (by simp only[w2,World.freeze,Nat.one_ne_zero,if_false]) (by simp only[w2,World.freeze,Nat.one_ne_zero,if_false])
       ⟨c,el,_,hnew,h2,h3,h4,fun _=>by
        have:=(h5 rfl).imp id And.right
        dsimp only at this;by_cases he:lo=hi
        ·refine .inr ⟨hl0.2,?_⟩;simp[he];omega
        ·refine .inr ⟨hl0.2,?_⟩;simp[he];omega⟩
      refine⟨.slice (some ⟨rb.r,rb.o+a.off,none⟩) l cap,ρ,w2,?_,.sl a rb l 1 cap _ hb hl (.inr ⟨rfl,hc⟩),hwr.1,hwr.2⟩;simp[convert,z0o hu,z0o hE,markStringish,hsh,w2]
   ·cases e
  ·cases e
theorem zsq{s t:List UInt8}:((⟨s.toArray⟩:ByteArray).toList==(⟨t.toArray⟩:ByteArray).toList)=decide (s=t):=by
 rw[ByteArray.toList_mk,ByteArray.toList_mk];by_cases e:s=t
 ·simp[e]
 ·simp[e]
end
end Go.Mini
