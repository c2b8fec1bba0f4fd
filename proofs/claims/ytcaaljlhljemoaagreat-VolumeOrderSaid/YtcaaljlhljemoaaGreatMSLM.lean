/- The laws' own toolkit: maps whose keys are numbers, that are one's own. -/
import Derived.Test.YtcaaljlhljemoaaGreatMSL
import Derived.Test.YtcaaljlhljemoaaGreatMINS
namespace Go.Mini
def kvC (kd:IntKind) (kvs:List (Int×MV)):List (MV×MV):=kvs.map fun e=>(.int kd e.1,e.2)
def getK:List (Int×MV)→Int→Option MV
 | [],_=>none
 | e::r,k=>if k=e.1 then some e.2 else getK r k
def putK:List (Int×MV)→Int→MV→List (Int×MV)
 | [],k,v=>[(k,v)]
 | e::r,k,v=>if k=e.1 then (k,v)::r else e::putK r k v
def atK:List (Int×MV)→Int→Option (Nat×MV)
 | [],_=>none
 | e::r,k=>if k=e.1 then some (0,e.2) else (atK r k).map fun x=>(x.1+1,x.2)
theorem zep:∀(kvs:List (Int×MV)) (k:Int),(atK kvs k).map (·.2)=getK kvs k
 | [],_=>rfl
 | e::r,k=>by
  unfold atK getK
  split
  ·rfl
  ·rw [←zep r k]
   cases atK r k<;>rfl
theorem z90 (kd:IntKind):∀(kvs:List (Int×MV)) (k:Int),findK (.int kd k) (kvC kd kvs)=some (atK kvs k)
 | [],_=>rfl
 | e::r,k=>by
  have ih:=z90 kd r k
  unfold kvC at ih ⊢
  simp only [List.map_cons,findK,keyEq,if_true,atK]
  by_cases h:k=e.1
  ·simp [h]
  ·simp only [decide_eq_false h,ih,if_neg h]
   cases atK r k<;>rfl
theorem zks (kd:IntKind) (v:MV):∀(kvs:List (Int×MV)) (k:Int),(match atK kvs k with
  | some (i,_)=>(kvC kd kvs).set i (.int kd k,v)
  | none=>kvC kd kvs++[(.int kd k,v)])=kvC kd (putK kvs k v)
 | [],_=>rfl
 | e::r,k=>by
  have ih:=zks kd v r k
  unfold atK putK
  by_cases h:k=e.1
  ·simp [h,kvC]
  ·rw [if_neg h,if_neg h]
   cases hx:atK r k with
   | none=>
    rw [hx] at ih
    dsimp only [Option.map_none] at ih ⊢
    unfold kvC at ih ⊢
    simp only [List.map_cons,List.cons_append,ih]
   | some x=>
    obtain ⟨i,w⟩:=x
    rw [hx] at ih
    dsimp only [Option.map_some] at ih ⊢
    unfold kvC at ih ⊢
    simp only [List.map_cons,List.set_cons_succ,ih]
theorem zc9 (v:MV):∀(kvs:List (Int×MV)) (k k':Int),getK (putK kvs k v) k'=if k'=k then some v else getK kvs k'
 | [],k,k'=>by simp [putK,getK]
 | e::r,k,k'=>by
  have ih:=zc9 v r k k'
  unfold putK
  by_cases h:k=e.1
  ·rw [if_pos h]
   simp only [getK,←h]
   split<;>rfl
  ·rw [if_neg h]
   simp only [getK,ih]
   by_cases h2:k'=e.1
   ·rw [if_pos h2,if_pos h2,if_neg (fun c:k'=k=>h (c.symm.trans h2))]
   ·rw [if_neg h2,if_neg h2]
theorem zid {v:MV}:∀ {kvs:List (Int×MV)} {k k':Int},k'∈(putK kvs k v).map (·.1)↔k'=k∨k'∈kvs.map (·.1)
 | [],k,k'=>by simp [putK]
 | e::r,k,k'=>by
  have ih:=zid (v:=v) (kvs:=r) (k:=k) (k':=k')
  unfold putK
  by_cases h:k=e.1
  ·rw [if_pos h]
   simp [h]
  ·rw [if_neg h,List.map_cons,List.mem_cons,ih,List.map_cons,List.mem_cons]
   constructor
   ·rintro (h | h | h)
    ·exact .inr (.inl h)
    ·exact .inl h
    ·exact .inr (.inr h)
   ·rintro (h | h | h)
    ·exact .inr (.inl h)
    ·exact .inl h
    ·exact .inr (.inr h)
theorem zdo (v:MV):∀(kvs:List (Int×MV)) (k:Int),(kvs.map (·.1)).Nodup→((putK kvs k v).map (·.1)).Nodup
 | [],k,_=>by simp [putK]
 | e::r,k,h=>by
  rw [List.map_cons,List.nodup_cons] at h
  have ih:=zdo v r k h.2
  unfold putK
  by_cases hk:k=e.1
  ·rw [if_pos hk,List.map_cons,List.nodup_cons]
   exact ⟨by simpa [hk] using h.1,h.2⟩
  ·rw [if_neg hk,List.map_cons,List.nodup_cons,zid]
   exact ⟨fun c=>c.elim (fun c=>hk c.symm) h.1,ih⟩
def MapK (kd:IntKind) (b:Nat) (kvs:List (Int×MV)):HA:=pu (kvs.map (·.1)).Nodup (pts b (.map (kvC kd kvs)))
section
variable {β:Type} {l:List HA} {S:β→HA} {kd:IntKind} {b:Nat} {kvs:List (Int×MV)}
theorem z86 (n:Nat) {m:M β} (hl:l[n]? = some (MapK kd b kvs)) (k:(kvs.map (·.1)).Nodup→Tri (stars (upd l n (pts b (.map (kvC kd kvs))))) m S):Tri (stars l) m S:=by
 rintro h q hq hh
 rw [z1y n l hl] at hq
 obtain ⟨q1,q2,⟨hn,h1⟩,h2,d,rfl⟩:=hq
 exact k hn h _ (by rw [z87,z5v n l hl];exact ⟨q1,q2,h1,h2,d,rfl⟩) hh
theorem z1v:∀(l:List HA) (n:Nat) {A:HA} (B:HA),l[n]? = some A→(upd l n B)[n]? = some B
 | [],_,_,_,h=>by cases h
 | _::_,0,_,_,_=>rfl
 | _::l,n+1,_,B,h=>z1v l n B h
theorem upd_upd:∀(l:List HA) (n:Nat) (A B:HA),upd (upd l n A) n B=upd l n B
 | [],_,_,_=>rfl
 | _::_,0,_,_=>rfl
 | C::l,n+1,A,B=>congrArg (C :: ·) (upd_upd l n A B)
theorem z91:∀(l:List HA) (n:Nat) {A:HA},l[n]? = some A→upd l n A=l
 | [],_,_,h=>by cases h
 | _::_,0,_,h=>by cases h;rfl
 | C::l,n+1,A,h=>congrArg (C :: ·) (z91 l n h)
theorem zca (n:Nat) (hl:l[n]? = some (MapK kd b kvs)) (k:Int) {f:Option MV→M β} (kk:Tri (stars l) (f (getK kvs k)) S):Tri (stars l) (bd (mapLook (some b) (.int kd k)) f) S:=by
 refine z86 n hl fun hn=>?_
 refine z1z n (z1v l n _ hl) (a:=getK kvs k) (fun h hg=>?_) ?_
 ·unfold mapLook
  simp only [bd,mapGet,hg,z90]
  rw [←zep]
  cases atK kvs k<;>rfl
 ·refine kk.pre fun q hq=>?_
  have:=z1s n (l:=upd l n (pts b (.map (kvC kd kvs)))) (B:=MapK kd b kvs) (z1v l n _ hl) (fun q h=>⟨hn,h⟩) q hq
  rwa [upd_upd,z91 l n hl] at this
theorem zeq (n:Nat) (hl:l[n]? = some (MapK kd b kvs)) (k:Int) (v:MV) {f:Unit→M β} (kk:Tri (stars (upd l n (MapK kd b (putK kvs k v)))) (f ()) S):Tri (stars l) (bd (mapPut (some b) (.int kd k) v) f) S:=by
 refine z86 n hl fun hn=>?_
 refine z58 n (z1v l n _ hl) (a:=()) (y :=.map (kvC kd (putK kvs k v))) (fun h hg=>?_) ?_
 ·unfold mapPut
  have:=zks kd v kvs k
  simp only [hg,z90]
  cases hx:atK kvs k with
  | none=>rw [hx] at this;dsimp only at this ⊢;rw [this]
  | some x=>rw [hx] at this;dsimp only at this ⊢;rw [this]
 ·rw [upd_upd]
  refine kk.pre fun q hq=>?_
  have:=z1s n (l:=upd l n (pts b (.map (kvC kd (putK kvs k v))))) (B:=MapK kd b (putK kvs k v)) (z1v l n _ hl) (fun q h=>⟨zdo v kvs k hn,h⟩) q hq
  rwa [upd_upd] at this
theorem zrh (n:Nat) (hl:l[n]? = some (MapK kd b kvs)) {f:Int→M β} (kk:Tri (stars l) (f kvs.length) S):Tri (stars l) (bd (mapLen (some b)) f) S:=by
 refine z86 n hl fun hn=>?_
 refine z1z n (z1v l n _ hl) (a:=(kvs.length:Int)) (fun h hg=>?_) ?_
 ·unfold mapLen
  simp only [bd,mapGet,hg,ret]
  simp [kvC]
 ·refine kk.pre fun q hq=>?_
  have:=z1s n (l:=upd l n (pts b (.map (kvC kd kvs)))) (B:=MapK kd b kvs) (z1v l n _ hl) (fun q h=>⟨hn,h⟩) q hq
  rwa [upd_upd,z91 l n hl] at this
theorem zie (kd:IntKind) {f:Option Nat→M β} (kk:∀b,Tri (stars (MapK kd b []::l)) (f (some b)) S):Tri (stars l) (bd mkMap f) S:=by
 refine z4k (g:=fun b=>some b) (x :=.map []) (fun _=>rfl) fun b=>?_
 exact (kk b).pre fun q hq=>z2b (fun q h=>⟨List.nodup_nil,h⟩) hq
end
end Go.Mini

/- The laws' own toolkit: slices of ints that are one's own: Index, Delete, Insert. -/
namespace Go.Mini
section
variable {β:Type} {l:List HA} {S:β→HA}
end
end Go.Mini
