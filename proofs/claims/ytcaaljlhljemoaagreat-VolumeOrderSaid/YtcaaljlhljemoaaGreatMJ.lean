/- Single operations: what the small machine does, the kit's does. First part: values. -/
import Derived.Laws.StructEq
import Derived.Test.YtcaaljlhljemoaaGreatMI
namespace Go.Mini
section
variable {P:Program} {β:Type} {ρ:Rho} {h:Hp} {w:World} {res:β×Hp}
theorem ztf (a b:Int):(a==b)=decide (a=b):=by by_cases e:a=b<;>simp [e]
theorem ztg (a b:Int):(a != b) = !decide (a=b):=by by_cases e:a=b<;>simp [e]
theorem z7q (op:BinOp) (t:TypeId) (x y:Operand) (k k':IntKind) (a b:Int):(eqGuard op t x y (.int k a) (.int k' b)).run P w=.ok () w:=by
 cases op<;>rfl
theorem z9u (op:BinOp) (t:TypeId) (x y:Operand) (a b:Bool):(eqGuard op t x y (.bool a) (.bool b)).run P w=.ok () w:=by
 cases op<;>rfl
theorem z68 (op:BinOp) (t:TypeId) (x y:Operand) (a b:ByteArray):(eqGuard op t x y (.string a) (.string b)).run P w=.ok () w:=by
 cases op<;>rfl
theorem zb4 (op:BinOp) (t:TypeId) (x y:Operand) (a b:Option Addr):(eqGuard op t x y (.pointer a) (.pointer b)).run P w=.ok () w:=by
 cases op<;>rfl
theorem zd1 (op:BinOp) (t:TypeId) (x y:Operand) (a b:Option Addr) (c d e f:Nat):(eqGuard op t x y (.slice a c d) (.slice b e f)).run P w=.ok () w:=by
 cases op<;>rfl
theorem zb5 (op:BinOp) (t:TypeId) (x y:Operand) (a b:Option Nat):(eqGuard op t x y (.map a) (.map b)).run P w=.ok () w:=by
 cases op<;>rfl
theorem zth {t:TypeId} {op:BinOp} {k1:IntKind} {a b:Int} {k:MV→M β} (x y:Operand)
  (e:(if k1=k1 then (match op with
   | .add=>k (.int k1 (wr k1 (a+b)))
   | .sub=>k (.int k1 (wr k1 (a - b)))
   | .mul=>k (.int k1 (wr k1 (a * b)))
   | .quo=>if b=0 then fail else k (.int k1 (wr k1 (a.tdiv b)))
   | .rem=>if b=0 then fail else k (.int k1 (a.tmod b))
   | .eql=>k (.bool (decide (a=b)))
   | .neq=>k (.bool (!decide (a=b)))
   | .lss=>k (.bool (decide (a<b)))
   | .leq=>k (.bool (decide (a≤b)))
   | .gtr=>k (.bool (decide (b<a)))
   | .geq=>k (.bool (decide (b≤a)))
   | op=>k (.int k1 (bitI op k1 a b))) else fail) h=some res) (h1:op≠.shl) (h2:op≠.shr) :
  ∃r rv,k r h=some res∧(do eqGuard op t x y (.int k1 a) (.int k1 b);binOp op t (.int k1 a) (.int k1 b)).run P w=.ok rv w∧VRel ρ r rv:=by
 rw [if_pos rfl] at e
 simp only [Sem.run_bind,z7q,Result.andThen_ok]
 cases op with
 | shl=>exact absurd rfl h1
 | shr=>exact absurd rfl h2
 | add=>exact ⟨_,_,e,by simp [binOp,Op.intArith,wr],.int _ _⟩
 | sub=>exact ⟨_,_,e,by simp [binOp,Op.intArith,wr],.int _ _⟩
 | mul=>exact ⟨_,_,e,by simp [binOp,Op.intArith,wr],.int _ _⟩
 | quo=>
  dsimp only at e
  split at e
  ·cases e
  ·rename_i hb
   exact ⟨_,_,e,by simp [binOp,Op.intDiv,hb,wr],.int _ _⟩
 | rem=>
  dsimp only at e
  split at e
  ·cases e
  ·rename_i hb
   exact ⟨_,_,e,by simp [binOp,Op.intDiv,hb],.int _ _⟩
 | eql=>exact ⟨_,_,e,by simp only [binOp,Op.intCmp,ztf];simp,.bool _⟩
 | neq=>exact ⟨_,_,e,by simp only [binOp,Op.intCmp,ztg];simp,.bool _⟩
 | lss=>exact ⟨_,_,e,by simp [binOp,Op.intCmp],.bool _⟩
 | leq=>exact ⟨_,_,e,by simp [binOp,Op.intCmp],.bool _⟩
 | gtr=>exact ⟨_,_,e,by simp [binOp,Op.intCmp],.bool _⟩
 | geq=>exact ⟨_,_,e,by simp [binOp,Op.intCmp],.bool _⟩
 | and=>exact ⟨_,_,e,by simp [binOp,Op.intBits,bitI],.int _ _⟩
 | or=>exact ⟨_,_,e,by simp [binOp,Op.intBits,bitI],.int _ _⟩
 | xor=>exact ⟨_,_,e,by simp [binOp,Op.intBits,bitI],.int _ _⟩
 | andNot=>exact ⟨_,_,e,by simp [binOp,Op.intBits,bitI],.int _ _⟩
theorem zhc {t:TypeId} (d:Nat) (hu:P.underlying t=some .bool) (a b:Bool):(Op.equalIn (d+1) t (.bool a) (.bool b)).run P w=.ok (a==b) w:=by
 simp [Op.equalIn,z0h hu]
theorem zd2 {t:TypeId} (hu:P.underlying t=some .bool) (a b:Bool):(Op.equal t (.bool a) (.bool b)).run P w=.ok (a==b) w:=zhc 9999 hu a b
theorem zle {ρ:Rho} {q:Option MA} {x:Value} (hx:VRel ρ (.ptr q) x):∃a,x=.pointer a∧a.isNone=q.isNone:=by
 cases hx with
 | nil=>exact ⟨none,rfl,rfl⟩
 | ptr a rb hb=>exact ⟨_,rfl,rfl⟩
theorem zd3 {t E:TypeId} (d:Nat) (hu:P.underlying t=some (.pointer E)) (a:Option Addr):(Op.equalIn (d+1) t (.pointer a) (.pointer none)).run P w=.ok a.isNone w:=by
 cases a<;>simp [Op.equalIn,z0h hu]
theorem zg7 {t E:TypeId} (hu:P.underlying t=some (.pointer E)) (a:Option Addr):(Op.equal t (.pointer a) (.pointer none)).run P w=.ok a.isNone w:=zd3 9999 hu a
theorem zd4 {t E:TypeId} (d:Nat) (hu:P.underlying t=some (.pointer E)) (a:Option Addr):(Op.equalIn (d+1) t (.pointer none) (.pointer a)).run P w=.ok a.isNone w:=by
 simp [Op.equalIn,z0h hu]
theorem zg8 {t E:TypeId} (hu:P.underlying t=some (.pointer E)) (a:Option Addr):(Op.equal t (.pointer none) (.pointer a)).run P w=.ok a.isNone w:=zd4 9999 hu a
theorem zf7 {ρ:Rho} {q:Option MA} {l z:Nat} {x:Value} (hx:VRel ρ (.sl q l z) x):∃a n c,x=.slice a n c∧a.isNone=q.isNone:=by
 cases hx with
 | slNil e=>exact ⟨none,0,0,rfl,rfl⟩
 | sl a rb len e cap ra hb hl hc=>exact ⟨_,_,_,rfl,rfl⟩
theorem zeh {t E:TypeId} (d:Nat) (hu:P.underlying t=some (.slice E)) (a:Option Addr) (n c:Nat):(Op.equalIn (d+1) t (.slice a n c) (.slice none 0 0)).run P w=.ok a.isNone w:=by
 cases a<;>simp [Op.equalIn,z0h hu]
theorem z9v {t E:TypeId} (hu:P.underlying t=some (.slice E)) (a:Option Addr) (n c:Nat):(Op.equal t (.slice a n c) (.slice none 0 0)).run P w=.ok a.isNone w:=zeh 9999 hu a n c
theorem zd5 {ρ:Rho} {q:Option Nat} {x:Value} (hx:VRel ρ (.map q) x):∃a,x=.map a∧a.isNone=q.isNone:=by
 cases hx with
 | mapNil=>exact ⟨none,rfl,rfl⟩
 | map b rb hb=>exact ⟨_,rfl,rfl⟩
theorem zd6 {t K E:TypeId} (d:Nat) (hu:P.underlying t=some (.map K E)) (a:Option Nat):(Op.equalIn (d+1) t (.map a) (.map none)).run P w=.ok a.isNone w:=by
 cases a<;>simp [Op.equalIn,z0h hu]
theorem z9m {t K E:TypeId} (hu:P.underlying t=some (.map K E)) (a:Option Nat):(Op.equal t (.map a) (.map none)).run P w=.ok a.isNone w:=zd6 9999 hu a
def eqKind (P:Program) (d:TypeDesc):MV→Bool
 | .bool _=>match d with | .bool=>true | _=>false
 | .ptr _=>match d with | .pointer e => !(Nat.beq (P.cellsOf e) 0) | _=>false
 | .sl _ _ _=>match d with | .slice _=>true | _=>false
 | .map _=>match d with | .map _ _=>true | _=>false
 | _=>true
theorem zei {t:TypeId} {k:IntKind} (h:cty P t=some (.int k)):P.underlying t=some (.int k):=by
 unfold cty at h
 split at h<;>first | (cases h;done) | (cases h;assumption)
theorem zej {t:TypeId} (h:cty P t=some .str):P.underlying t=some .string:=by
 unfold cty at h
 split at h<;>first | (cases h;done) | (cases h;assumption)
theorem zbz {t:TypeId} (h:cty P t=some .bool):P.underlying t=some .bool:=by
 unfold cty at h
 split at h<;>first | (cases h;done) | (cases h;assumption)
theorem z9w {s t:List UInt8}:((⟨s.toArray⟩:ByteArray)==(⟨t.toArray⟩:ByteArray))=decide (s=t):=by
 have h:((⟨s.toArray⟩:ByteArray)==(⟨t.toArray⟩:ByteArray))=(s.toArray==t.toArray):=rfl
 rw [h]
 by_cases e:s=t
 ·simp [e]
 ·simp [e]
theorem zf8 {t:TypeId} {c:CTy} (hc:cty P t=some c) {x y:MV} {rx ry:Value} (hx:VRel ρ x rx) (hy:VRel ρ y ry) {p:Bool} (e:eqC c x y=some p) (n:Nat):(Op.equalIn (n+1) t rx ry).run P w=.ok p w:=by
 unfold eqC at e
 split at e
 ·split at e
  ·rename_i hk
   obtain ⟨rfl,rfl⟩:=hk
   cases e;cases hx;cases hy
   simp [Op.equalIn,z0h (zei hc)]
   rfl
  ·cases e
 ·cases e;cases hx;cases hy
  simp [Op.equalIn,z0h (zej hc),z9w]
 ·cases e;cases hx;cases hy
  simp [Op.equalIn,z0h (zbz hc)]
 ·cases e
theorem zek {t:TypeId} {c:CTy} (h:cty P t=some c):∃d,P.underlying t=some d∧aggD d=false:=by
 unfold cty at h
 split at h<;>first | (cases h;done) | exact ⟨_,by assumption,rfl⟩
theorem zd7 {p q:Option MA} {k:Bool→M β} {h:Hp} {res:β×Hp} (e:evPtr p q k h=some res):∃b,ptrEq p q h=some (b,h)∧k b h=some res:=by
 unfold evPtr at e
 split at e
 ·refine ⟨_,?_,e⟩
  cases p<;>rfl
 ·obtain ⟨b,h1,e1,e2⟩:=z0d e
  have:h1=h:=by
   cases p with
   | none=>simp only [ptrEq,Option.some.injEq,Prod.mk.injEq] at e1;exact e1.2.symm
   | some a=>
    simp only [ptrEq] at e1
    split at e1
    ·simp only [Option.some.injEq,Prod.mk.injEq] at e1;exact e1.2.symm
    ·cases e1
  subst this
  exact ⟨b,e1,e2⟩
theorem zb6 {t E:TypeId} (kh:HRel ρ h w.heap) (hu:P.underlying t=some (.pointer E)) (hE:P.cellsOf E≠0) {p q:Option MA} {b:Bool} {h':Hp} {rx ry:Value} (hx:VRel ρ (.ptr p) rx) (hy:VRel ρ (.ptr q) ry)
  (e:ptrEq p q h=some (b,h')):h'=h∧∃ax ay,rx=.pointer ax∧ry=.pointer ay∧(Op.equal t (.pointer ax) (.pointer ay)).run P w=.ok b w:=by
 have hinfo:∃j,P.info? E=some j∧j.size≠0:=by
  unfold Program.cellsOf at hE
  cases hj:P.info? E with
  | none=>rw [hj] at hE;exact absurd rfl hE
  | some j=>rw [hj] at hE;exact ⟨j,rfl,hE⟩
 obtain ⟨j,hj,hsz⟩:=hinfo
 cases hx with
 | nil=>
  obtain ⟨y,rfl,hy1⟩:=zle hy
  simp only [ptrEq,Option.some.injEq,Prod.mk.injEq] at e
  refine ⟨e.2.symm,_,_,rfl,rfl,?_⟩
  rw [zg8 hu,hy1,e.1]
 | ptr a rb ha=>
  cases hy with
  | nil=>
   simp only [ptrEq,Option.some.injEq,Prod.mk.injEq] at e
   refine ⟨e.2.symm,_,_,rfl,rfl,?_⟩
   rw [zg7 hu,←e.1]
   rfl
  | ptr c rc hc=>
   have key:∀r:Bool,(sameAddr ⟨rb.r,rb.o+a.off,none⟩ ⟨rc.r,rc.o+c.off,none⟩).run P w=.ok r w→(Op.equal t (.pointer (some ⟨rb.r,rb.o+a.off,none⟩)) (.pointer (some ⟨rc.r,rc.o+c.off,none⟩))).run P w=.ok r w:=by
    intro r hr
    have h9:∀d:Nat,(Op.equalIn (d+1) t (.pointer (some ⟨rb.r,rb.o+a.off,none⟩)) (.pointer (some ⟨rc.r,rc.o+c.off,none⟩))).run P w=.ok r w:=fun d=>by
     simp [Op.equalIn,z0h hu,sizeOf,typeInfo,hj,hsz,hr]
    exact h9 9999
   simp only [ptrEq] at e
   split at e
   ·rename_i hbl
    simp only [Option.some.injEq,Prod.mk.injEq] at e
    refine ⟨e.2.symm,_,_,rfl,rfl,key _ ?_⟩
    rw [hbl] at ha
    rw [ha] at hc
    cases hc
    rw [←e.1]
    simp [sameAddr]
    by_cases ho:a.off=c.off<;>simp [ho]
   ·cases e
theorem znq {t:TypeId} {d:TypeDesc} (hu:P.underlying t=some d) {op:BinOp} {v u:MV} {rx ry:Value} (x y:Operand) {k:MV→M β} (hx:VRel ρ v rx) (hy:VRel ρ u ry)
  (kh:HRel ρ h w.heap) (hk:eqKind P d v=true) (e:evBin op v u k h=some res) :
  ∃r rv,k r h=some res∧(do eqGuard op t x y rx ry;binOp op t rx ry).run P w=.ok rv w∧VRel ρ r rv:=by
 unfold evBin at e
 split at e
 ·cases hx;cases hy
  split at e
  ·cases e
  ·rename_i hb
   exact ⟨_,_,e,by simp only [Sem.run_bind,z7q,Result.andThen_ok];simp [binOp,Op.shift,hb,shlI],.int _ _⟩
 ·cases hx;cases hy
  split at e
  ·cases e
  ·rename_i hb
   exact ⟨_,_,e,by simp only [Sem.run_bind,z7q,Result.andThen_ok];simp [binOp,Op.shift,hb,shrI],.int _ _⟩
 ·rename_i k1 a k2 b h1 h2
  cases hx;cases hy
  by_cases hk12:k1=k2
  ·subst hk12
   exact zth x y e (fun c=>by subst c;simp at h1) (fun c=>by subst c;simp at h2)
  ·rw [if_neg hk12] at e;cases e
 ·cases hx;cases hy
  cases d<;>simp [eqKind] at hk
  exact ⟨_,_,e,by simp only [Sem.run_bind,z9u,Result.andThen_ok,binOp,zd2 hu,Sem.run_pure],.bool _⟩
 ·cases hx;cases hy
  cases d<;>simp [eqKind] at hk
  exact ⟨_,_,e,by simp only [Sem.run_bind,z9u,Result.andThen_ok,binOp,zd2 hu,Sem.run_pure],.bool _⟩
 ·cases hx;cases hy
  exact ⟨_,_,e,by simp only [Sem.run_bind,z68,Result.andThen_ok,binOp,Op.stringOp,zhm,Sem.run_pure],.bool _⟩
 ·cases hx;cases hy
  exact ⟨_,_,e,by simp only [Sem.run_bind,z68,Result.andThen_ok,binOp,Op.stringOp,zhm,Sem.run_pure],.bool _⟩
 ·cases hx;cases hy
  exact ⟨_,_,e,by simp only [Sem.run_bind,z68,Result.andThen_ok,binOp,Op.stringOp,ByteArray.toList_mk,Sem.run_pure],.bool _⟩
 ·cases d<;>simp [eqKind] at hk
  rename_i E
  have hE:P.cellsOf E≠0:=fun hh=>by rw [hh] at hk;simp at hk
  obtain ⟨bb,ev,e2⟩:=zd7 e
  obtain ⟨_,ax,ay,rfl,rfl,hrun⟩:=zb6 kh hu hE hx hy ev
  exact ⟨_,_,e2,by simp only [Sem.run_bind,zb4,Result.andThen_ok,binOp,hrun,Sem.run_pure],.bool _⟩
 ·cases d<;>simp [eqKind] at hk
  rename_i E
  have hE:P.cellsOf E≠0:=fun hh=>by rw [hh] at hk;simp at hk
  obtain ⟨bb,ev,e2⟩:=zd7 e
  obtain ⟨_,ax,ay,rfl,rfl,hrun⟩:=zb6 kh hu hE hx hy ev
  exact ⟨_,_,e2,by simp only [Sem.run_bind,zb4,Result.andThen_ok,binOp,hrun,Sem.run_pure],.bool _⟩
 ·cases hy
  cases d<;>simp [eqKind] at hk
  obtain ⟨a,n,c,rfl,ha⟩:=zf7 hx
  exact ⟨_,_,e,by simp only [Sem.run_bind,zd1,Result.andThen_ok,binOp,z9v hu,Sem.run_pure,ha],.bool _⟩
 ·cases hy
  cases d<;>simp [eqKind] at hk
  obtain ⟨a,n,c,rfl,ha⟩:=zf7 hx
  exact ⟨_,_,e,by simp only [Sem.run_bind,zd1,Result.andThen_ok,binOp,z9v hu,Sem.run_pure,ha],.bool _⟩
 ·cases hy
  cases d<;>simp [eqKind] at hk
  obtain ⟨a,rfl,ha⟩:=zd5 hx
  exact ⟨_,_,e,by simp only [Sem.run_bind,zb5,Result.andThen_ok,binOp,z9m hu,Sem.run_pure,ha],.bool _⟩
 ·cases hy
  cases d<;>simp [eqKind] at hk
  obtain ⟨a,rfl,ha⟩:=zd5 hx
  exact ⟨_,_,e,by simp only [Sem.run_bind,zb5,Result.andThen_ok,binOp,z9m hu,Sem.run_pure,ha],.bool _⟩
 ·cases e
theorem zqz {op:UnOp} {v:MV} {rx:Value} {k:MV→M β} (hx:VRel ρ v rx) (e:evUn op v k h=some res):∃r rv,k r h=some res∧(Op.unary op rx).run P w=.ok rv w∧VRel ρ r rv:=by
 unfold evUn at e
 split at e
 ·cases hx;exact ⟨_,_,e,by simp [Op.unary],.bool _⟩
 ·cases hx;exact ⟨_,_,e,by simp [Op.unary,Op.intArith,wr],.int _ _⟩
 ·cases hx;exact ⟨_,_,e,by simp [Op.unary,Op.intBits,bitI],.int _ _⟩
 ·cases e
end
end Go.Mini
