/- Frames behind a piece of code; regions. -/
import Derived.Test.YtfieiaijdalkbaaGreatMM
namespace Go.Mini
universe u
theorem z51{keep:List Nat}:∀{l:List (Nat×PV×Bool)}{n:Nat}{x:PV×Bool},z0g (zrd keep l) n=some x→∃b,z0g l n=some (x.1,b)∧x.2=(b&&mem n keep)
 | [],n,x,h=>by cases h
 | (m,pv,b)::r,n,x,h=>by
  simp only[zrd,z1i]at h ⊢;by_cases e:m=n
  ·subst e;rw[if_pos rfl]at h;cases h;exact⟨b,by rw[if_pos rfl],rfl⟩
  ·rw[if_neg e]at h;rw[if_neg e];exact z51 h
theorem z52{ds:List Nat}:∀{l:List (Nat×PV×Bool)}{n:Nat}{x:PV×Bool},z0g (zmd ds l) n=some x→n ∉ ds∧z0g l n=some x
 | [],n,x,h=>by cases h
 | (m,y)::r,n,x,h=>by
  simp only[zmd]at h;cases hm:mem m ds with
  | true=>
   rw[hm]at h;obtain⟨h0,h1⟩:=z52 h;refine⟨h0,?_⟩;rw[z1i,if_neg (fun c=>h0 (by rw[←c];exact(mem_iff _ _).1 hm))];exact h1
  | false=>
   rw[hm]at h;simp only[cond_false,z1i]at h;rw[z1i];by_cases e:m=n
   ·subst e;rw[if_pos rfl]at h ⊢;exact⟨fun c=>(by rw[(mem_iff _ _).2 c]at hm;cases hm),h⟩
   ·rw[if_neg e]at h ⊢;exact z52 h
theorem Ok.lock{s:S}(ok:Ok s)(keep:List Nat):Ok {s with fr:=s.fr.lock keep}:=by
 refine⟨ok.heap,ok.slots,?_,?_⟩
 ·intro n pv b h;obtain⟨b',h1,_⟩:=z51 h;exact ok.priv n pv b' h1
 ·intro n m x y hx hy hne;obtain⟨b1,h1,_⟩:=z51 hx;obtain⟨b2,h2,_⟩:=z51 hy;exact ok.pinj n m _ _ h1 h2 hne
theorem Wr.lock{s:S}{keep:List Nat}{r:Nat}(h:Wr {s with fr:=s.fr.lock keep} r):∃n pv,n∈keep∧z0g s.fr.p n=some (pv,true)∧s.π n=r:=by
 obtain⟨n,pv,h1,h2⟩:=h;obtain⟨b,h3,h4⟩:=z51 h1;cases b with
 | false=>cases h4
 | true=>exact⟨n,pv,(mem_iff _ _).1 h4.symm,h3,h2⟩
theorem Stp.unlock{s s':S}{keep ds:List Nat}(st:Stp {s with fr:=s.fr.lock keep} s' ds):Stp s s' ds:=by
 have hw:∀r,Wr {s with fr:=s.fr.lock keep} r→Wr s r:=by
  intro r h;obtain⟨n,pv,_,h2,h3⟩:=Wr.lock h;exact⟨n,pv,h2,h3⟩
 exact⟨st.ext,st.os,st.tape,st.output,st.size,st.grw,fun r hr hf hn=>st.old r hr hf fun c=>hn (hw r c),st.foot,st.liv,fun r h=>(st.wr r h).imp (hw r) id,st.pi,st.pi2,st.tsz,st.tmp⟩
structure FOk(s s1:S)(ds keep:List Nat)(lk:Bool)(F:Fr):Prop where
 slots:∀i x,z0g F.v i=some x→i<s1.t.size∧zb9 s1.ρ s1.π x (s1.t.getD i undef)
 priv:∀n pv b,z0g F.p n=some (pv,b)→(∃c el,s1.w.heap[s1.π n]? = some (.cells c el (0,0))∧VRels s1.ρ pv.cells c.toList)
 from_:∀n pv b,z0g F.p n=some (pv,b)→(n ∉ ds∧n ∉ keep∧∃b',z0g s.fr.p n=some (pv,b')∧(b=true→b'=true))∨∃pv',z0g s1.fr.p n=some (pv',true)
 fl:lk=true→∀n pv,z0g F.p n=some (pv,true)→∃pv',z0g s1.fr.p n=some (pv',true)
section
variable{s s1:S}{ds keep:List Nat}{lk:Bool}
theorem z8t(ok:Ok s)(st:Stp {s with fr:=s.fr.lock keep} s1 ds){n:Nat}{pv:PV}{b:Bool}(hn:n ∉ ds)(hk:n ∉ keep)(h:z0g s.fr.p n=some (pv,b)) :
  s1.π n=s.π n∧s.π n<s.w.heap.size∧(∃c el,s1.w.heap[s1.π n]? = some (.cells c el (0,0))∧VRels s1.ρ pv.cells c.toList)∧¬Liv s1.ρ s1.h (s1.π n):=by
 obtain⟨⟨c,el,h1,h2⟩,h3⟩:=ok.priv n pv b h;have hlt:s.π n<s.w.heap.size:=(Array.getElem?_eq_some_iff.1 h1).1;have hpi:s1.π n=s.π n:=st.pi n hn;refine⟨hpi,hlt,⟨c,el,?_,h2.mono st.ext⟩,?_⟩
 ·rw[hpi,st.old _ hlt (fun f=>h3 f.liv)]
  ·exact h1
  ·intro hw;obtain⟨m,pv',hm,h4,h5⟩:=Wr.lock hw;exact ok.pinj m n _ _ h4 h (fun c=>hk (by rw[←c];exact hm)) h5
 ·rw[hpi];intro f;rcases st.liv _ f with f | f
  ·exact h3 f
  ·have:s.w.heap.size≤s.π n:=f
   omega
theorem FOk.ok(ok:Ok s)(ok1:Ok s1)(st:Stp {s with fr:=s.fr.lock keep} s1 ds){F:Fr}(f:FOk s s1 ds keep lk F) :
  Ok {s1 with fr:=F}:=by
 have hsz:=st.size;refine⟨ok1.heap,f.slots,?_,?_⟩
 ·intro n pv b h;refine⟨f.priv n pv b h,?_⟩;rcases f.from_ n pv b h with⟨h1,h2,b',h3,_⟩ | ⟨pv',h1⟩
  ·exact(z8t ok st h1 h2 h3).2.2.2
  ·exact(ok1.priv n pv' true h1).2
 ·have key:∀n m pv pv' b',(n ∉ ds∧n ∉ keep∧z0g s.fr.p n=some (pv,b'))→z0g s1.fr.p m=some (pv',true)→s1.π n≠s1.π m:=by
   rintro n m pv pv' b' ⟨h1,h2,h3⟩ hm
   obtain⟨a1,a2,_,_⟩:=z8t ok st h1 h2 h3;rw[a1];intro c;rcases st.wr (s1.π m) ⟨m,pv',hm,rfl⟩with hw | hw
   ·obtain⟨g,pg,hg,h4,h5⟩:=Wr.lock hw;exact ok.pinj n g _ _ h3 h4 (fun e=>h2 (by rw[e];exact hg)) (c.trans h5.symm)
   ·have:s.w.heap.size≤s1.π m:=hw
    omega
  intro n m x y hx hy hne;rcases f.from_ n x.1 x.2 hx with⟨h1,h2,b',h3,_⟩ | ⟨pv1,h1⟩
  ·rcases f.from_ m y.1 y.2 hy with⟨g1,g2,c',g3,_⟩ | ⟨pv2,g1⟩
   ·show s1.π n≠s1.π m;rw[(z8t ok st h1 h2 h3).1,(z8t ok st g1 g2 g3).1];exact ok.pinj n m _ _ h3 g3 hne
   ·exact key n m _ _ _ ⟨h1,h2,h3⟩ g1
  ·rcases f.from_ m y.1 y.2 hy with⟨g1,g2,c',g3,_⟩ | ⟨pv2,g1⟩
   ·exact(key m n _ _ _ ⟨g1,g2,g3⟩ h1).symm
   ·exact ok1.pinj n m _ _ h1 g1 hne
theorem FOk.stp(ok:Ok s)(st:Stp {s with fr:=s.fr.lock keep} s1 ds){F:Fr}(f:FOk s s1 ds keep lk F):Stp s {s1 with fr:=F} ds:=by
 have st':=st.unlock;refine⟨st'.ext,st'.os,st'.tape,st'.output,st'.size,st'.grw,st'.old,st'.foot,st'.liv,?_,st'.pi,st'.pi2,st'.tsz,st'.tmp⟩;rintro r ⟨n,pv,hn,rfl⟩
 rcases f.from_ n pv true hn with⟨h1,h2,b',h3,h4⟩ | ⟨pv',h1⟩
 ·refine .inl ⟨n,pv,by rw[h3,h4 rfl],?_⟩;exact(z8t ok st h1 h2 h3).1.symm
 ·exact st'.wr _ ⟨n,pv',h1,rfl⟩
theorem FOk.stpL(ok:Ok s)(st:Stp {s with fr:=s.fr.lock keep} s1 ds){F:Fr}(f:FOk s s1 ds keep true F) :
  Stp {s with fr:=s.fr.lock keep} {s1 with fr:=F} ds:=by
 refine⟨st.ext,st.os,st.tape,st.output,st.size,st.grw,st.old,st.foot,st.liv,?_,st.pi,st.pi2,st.tsz,st.tmp⟩;rintro r ⟨n,pv,hn,rfl⟩
 obtain⟨pv',h⟩:=f.fl rfl n pv hn;exact st.wr _ ⟨n,pv',h,rfl⟩
theorem FOk.base(ok:Ok s)(st:Stp {s with fr:=s.fr.lock keep} s1 ds):FOk s s1 ds keep false (s.fr.del (ds++keep)):=by
 refine⟨?_,?_,?_,fun c=>by cases c⟩
 ·intro i x h;obtain⟨h1,h2⟩:=zak (l:=s.fr.v) h;have hi:i ∉ ds:=fun c=>h1 (List.mem_append_left _ c);obtain⟨y,hy⟩:=z72 (l:=s.fr.v) h;have hsz:=(ok.slots i y hy).1;refine⟨by rw[st.tsz];exact hsz,?_⟩;rcases h2 with rfl | ⟨h2,h3⟩
  ·trivial
  ·rw[st.tmp i hi];have hr:=(ok.slots i x h2).2.mono st.ext;cases x with
   | v x=>exact hr
   | gone=>trivial
   | loc g o=>
    have hg:g ∉ ds:=fun c=>h3 g o rfl (List.mem_append_left _ c);have:s1.π g=s.π g:=st.pi g hg
    show _=Value.pointer (some ⟨s1.π g,o,none⟩);rw[this];exact hr
 ·intro n pv b h;obtain⟨h1,h2⟩:=z52 (l:=s.fr.p) h;exact(z8t ok st (fun c=>h1 (List.mem_append_left _ c)) (fun c=>h1 (List.mem_append_right _ c)) h2).2.2.1
 ·intro n pv b h;obtain⟨h1,h2⟩:=z52 (l:=s.fr.p) h;exact .inl ⟨fun c=>h1 (List.mem_append_left _ c),fun c=>h1 (List.mem_append_right _ c),b,h2,id⟩
theorem FOk.baseL(ok:Ok s)(st:Stp {s with fr:=s.fr.lock keep} s1 ds):FOk s s1 ds keep true ((s.fr.del (ds++keep)).lock keep):=by
 have f:=FOk.base ok st;refine⟨f.slots,?_,?_,?_⟩
 ·intro n pv b h;obtain⟨b',h1,_⟩:=z51 h;exact f.priv n pv b' h1
 ·intro n pv b h;obtain⟨b',h1,h2⟩:=z51 h;rcases f.from_ n pv b' h1 with⟨g1,g2,c,g3,g4⟩ | g
  ·refine .inl ⟨g1,g2,c,g3,fun hb=>g4 ?_⟩;have h2':b=(b'&&mem n keep):=h2;rw[hb]at h2';cases b' with
   | true=>rfl
   | false=>cases h2'
  ·exact .inr g
 ·intro _ n pv h;obtain⟨b',h1,h2⟩:=z51 h;obtain⟨h3,_⟩:=z52 (l:=s.fr.p) h1;exfalso;have h2':true=(b'&&mem n keep):=h2;cases b' with
  | false=>cases h2'
  | true=>exact h3 (List.mem_append_right _ ((mem_iff _ _).1 h2'.symm))
theorem PV.enc_dec{t:Ty}{pv:PV}{x:t.den}(h:pv.dec t=some x):(PV.enc t x).cells=pv.cells:=by
 cases t with
 | c t=>cases pv<;>exact nomatch h
 | st ts=>
  cases pv with
  | st cs=>
   have h2:HC.dec ts cs=some x:=h;exact HC.enc_dec ts cs x h2
  | _=>exact nomatch h
 | agg n=>
  cases pv with
  | raw cs=>
   have h2:some cs=some x:=h;cases h2;rfl
  | _=>exact nomatch h
 | arr k=>
  cases pv with
  | arr k' xs=>
   have h2:(if k=k' then some xs else none)=some x:=h;split at h2
   ·rename_i e;subst e;cases h2;rfl
   ·cases h2
  | _=>exact nomatch h
 | fnc f cp=>cases pv<;>exact nomatch h
theorem FOk.put(ok1:Ok s1){F:Fr}(f:FOk s s1 ds keep lk F){l:LV}{x:l.ty.den}(hx:l.get s1.fr=some x):FOk s s1 ds keep lk (l.put F x):=by
 cases l with
 | s n t=>
  have hx2:(match z0g s1.fr.v n with
   | some (.v v)=>t.dec v
   | _=>none)=some x:=hx
  cases hv:z0g s1.fr.v n with
  | none=>rw[hv]at hx2;cases hx2
  | some fv=>
  rw[hv]at hx2;cases fv with
  | loc g o=>cases hx2
  | gone=>cases hx2
  | v v=>
   have he:t.enc x=v:=Ty.enc_dec hx2;refine⟨?_,f.priv,f.from_,f.fl⟩;intro i y hy;have hy2:z0g ((n,FV.v (t.enc x))::F.v) i=some y:=hy;rw[z1i]at hy2;by_cases e:n=i
   ·subst e;rw[if_pos rfl]at hy2;cases hy2;rw[he];exact ok1.slots n _ hv
   ·rw[if_neg e]at hy2;exact f.slots i y hy2
 | p n t=>
  have hx2:(match z0g s1.fr.p n with
   | some (pv,true)=>pv.dec t
   | _=>none)=some x:=hx
  cases hp:z0g s1.fr.p n with
  | none=>rw[hp]at hx2;cases hx2
  | some pb=>
  rw[hp]at hx2;obtain⟨pv,pb⟩:=pb;cases pb with
  | false=>cases hx2
  | true=>
   have he:=PV.enc_dec hx2;have hlk:∀i y,z0g (LV.put F (.p n t) x).p i=some y→(n=i∧y=(PV.enc t x,true))∨(n≠i∧z0g F.p i=some y):=by
    intro i y hy;have hy2:z0g ((n,PV.enc t x,true)::F.p) i=some y:=hy;rw[z1i]at hy2;by_cases e:n=i
    ·rw[if_pos e]at hy2;cases hy2;exact .inl ⟨e,rfl⟩
    ·rw[if_neg e]at hy2;exact .inr ⟨e,hy2⟩
   refine⟨f.slots,?_,?_,?_⟩;rotate_left
   rotate_left
   ·intro hl i q hy;rcases hlk i (q,true) hy with⟨rfl,h⟩ | ⟨_,h⟩
    ·exact⟨pv,hp⟩
    ·exact f.fl hl i q h
   ·intro i q b hy;rcases hlk i (q,b) hy with⟨rfl,h⟩ | ⟨_,h⟩
    ·cases h;rw[he];exact(ok1.priv n pv true hp).1
    ·exact f.priv i q b h
   ·intro i q b hy;rcases hlk i (q,b) hy with⟨rfl,h⟩ | ⟨_,h⟩
    ·exact .inr ⟨pv,hp⟩
    ·exact f.from_ i q b h
theorem FOk.setL(ok1:Ok s1){F:Fr}(f:FOk s s1 ds keep lk F){d g o:Nat}(h:z0g s1.fr.v d=some (.loc g o)):FOk s s1 ds keep lk (F.setL d g o):=by
 refine⟨?_,f.priv,f.from_,f.fl⟩;intro i y hy;have hy2:z0g ((d,FV.loc g o)::F.v) i=some y:=hy;rw[z1i]at hy2;by_cases e:d=i
 ·subst e;rw[if_pos rfl]at hy2;cases hy2;exact ok1.slots d _ h
 ·rw[if_neg e]at hy2;exact f.slots i y hy2
theorem FOk.putLocs(ok1:Ok s1):∀{ls:List (Nat×Nat×Nat)}{F:Fr},FOk s s1 ds keep lk F→zi1 s1.fr ls=true→FOk s s1 ds keep lk (putLocs F ls)
 | [],F,f,_=>f
 | (d,g,o)::r,F,f,h=>by
  simp only[zi1,Bool.and_eq_true]at h;obtain⟨h1,h2⟩:=h;split at h1
  ·rename_i g' o' hl;simp only[Bool.and_eq_true]at h1;have e1:=Nat.eq_of_beq_eq_true h1.1;have e2:=Nat.eq_of_beq_eq_true h1.2;subst e1;subst e2;show FOk s s1 ds keep lk (Go.Mini.putLocs (F.setL d g o) r);exact FOk.putLocs ok1 (f.setL ok1 hl) h2
  ·cases h1
theorem zm6{β:Type}{fr:Fr}{res:β×Hp}{h:Hp}:∀{ls:List LV}{k:HL ls→M β},zre fr ls k h=some res→∃x:HL ls,k x h=some res∧∀(s s1:S)(ds keep:List Nat)(lk:Bool)(F:Fr),s1.fr=fr→Ok s1→FOk s s1 ds keep lk F→FOk s s1 ds keep lk (zsj ls x F)
 | [],k,e=>⟨(),e,fun _ _ _ _ _ _ _ _ f=>f⟩
 | [l],k,e=>by
  have e2:(match l.get fr with
   | some x=>k x
   | none=>z0h) h=some res:=e
  cases hg:l.get fr with
  | none=>rw[hg]at e2;cases e2
  | some x=>
   rw[hg]at e2;exact⟨x,e2,fun s s1 ds keep lk F hfr ok1 f=>f.put ok1 (by rw[hfr];exact hg)⟩
 | l::m::r,k,e=>by
  have e2:(match l.get fr with
   | some x=>zre fr (m::r) fun y=>k (x,y)
   | none=>z0h) h=some res:=e
  cases hg:l.get fr with
  | none=>rw[hg]at e2;cases e2
  | some x=>
   rw[hg]at e2;obtain⟨y,h1,h2⟩:=zm6 e2;exact⟨(x,y),h1,fun s s1 ds keep lk F hfr ok1 f=>h2 s s1 ds keep lk _ hfr ok1 (f.put ok1 (by rw[hfr];exact hg))⟩
theorem Live.proj_some{β:Type}{fr:Fr}{res:β×Hp}{h:Hp}{l:Live}{k:HL l.vs→M β}(e:l.proj fr k h=some res):∃x:HL l.vs,k x h=some res∧∀(s s1:S)(ds keep:List Nat)(lk:Bool)(F:Fr),s1.fr=fr→Ok s1→FOk s s1 ds keep lk F→FOk s s1 ds keep lk (l.un x F):=by
 unfold Live.proj at e;cases hl:zi1 fr l.locs with
 | false=>rw[hl]at e;cases e
 | true=>
  rw[hl]at e;obtain⟨x,h1,h2⟩:=zm6 e;exact⟨x,h1,fun s s1 ds keep lk F hfr ok1 f=>FOk.putLocs ok1 (h2 s s1 ds keep lk F hfr ok1 f) (by rw[hfr];exact hl)⟩
end
end Go.Mini

/- Regions and code: what the small machine does, the kit's does. -/
namespace Go.Mini
universe u

section
variable{β:Type}{C:List (Nat×Entry)}

theorem z10u{ins:Ins}{fr fr1:Fr}(h:evPure ins fr=some fr1)(k:Fr→M β):z08 C ins fr k=k fr1:=by
  cases ins with
  | mv d x=>
    simp only[evPure]at h;cases hv:x.val fr with
    | none=>rw[hv]at h;cases h
    | some v=>rw[hv]at h;cases h;simp only[z08,hv,z19]
  | un d op x=>
    cases op<;>simp only[evPure]at h<;>try cases h
    cases hv:x.mv fr with
    | none=>rw[hv]at h;cases h
    | some v=>
      rw[hv]at h;cases v<;>first | (cases h;simp only[z08,hv,z19,zdx];done) | cases h
  | bin d op tk x y=>
    cases hx:x.mv fr with
    | none=>simp only[evPure,hx]at h;cases op<;>cases h
    | some v=>
      cases hy:y.mv fr with
      | none=>simp only[evPure,hx,hy]at h;cases op<;>cases v<;>cases h
      | some u=>
        simp only[evPure,hx,hy]at h;simp only[z08,hx,hy,z19];cases v with
        | int k1 a=>
          cases u with
          | int k2 b=>
            simp only[zgj,wIf];cases op<;>simp only at h<;>first
              | cases h
              | (split at h
                 · rename_i e
                   subst e;first
                     | (cases h;simp[z7n])
                     | (split at h
                        · cases h
                        · rename_i hb
                          cases h;simp[z7n,hb])
                 · cases h)
          | _=>cases op<;>cases h
        | bool a=>
          cases u with
          | bool b=>
            cases op<;>simp only at h<;>first
              | cases h
              | (cases ht:Nat.beq tk 1 with
                 | false=>rw[ht]at h;cases h
                 | true=>rw[ht]at h;cases h;simp only[zgj,ht,wIf,z7n])
          | _=>cases op<;>cases h
        | str a=>
          cases u with
          | str b=>
            simp only[zgj,wIf];cases op<;>simp only at h<;>first
              | (cases h;simp only[z7n];done)
              | cases h
          | _=>cases op<;>cases h
        | ptr p=>
          cases u with
          | ptr q=>
            cases q with
            | none=>
              cases op<;>simp only at h<;>first
                | cases h
                | (cases ht:Nat.beq tk 2 with
                   | false=>rw[ht]at h;cases h
                   | true=>rw[ht]at h;cases h;simp only[zgj,ht,wIf,z7n];rfl)
            | some q=>cases op<;>cases h
          | _=>cases op<;>cases h
        | _=>cases op<;>cases u<;>cases h
  | mvz d x=>
    simp only[evPure]at h;cases hv:x.val fr with
    | none=>rw[hv]at h;cases h
    | some v=>
      rw[hv]at h;cases v with
      | v v=>cases h;simp only[z08,hv,z9l]
      | loc a b=>cases h;simp only[z08,hv,z9l]
      | gone=>cases h
  | conv d kd x=>
    simp only[evPure]at h;cases hv:x.mv fr with
    | none=>rw[hv]at h;cases h
    | some v=>
      rw[hv]at h;cases v<;>first | (cases h;simp only[z08,hv,z3o];done) | cases h
  | ext d i x=>
    simp only[evPure]at h;cases hv:x.mv fr with
    | none=>rw[hv]at h;cases h
    | some v=>
      rw[hv]at h;cases v with
      | tup vs=>
        dsimp only at h;cases hi:vs[i]? with
        | none=>rw[hi]at h;cases h
        | some w=>rw[hi]at h;cases h;simp only[z08,hv,zbd,hi,z19]
      | _=>cases h
  | fldA d off p=>
    simp only[evPure]at h;cases hv:p.val fr with
    | none=>rw[hv]at h;cases h
    | some v=>
      rw[hv]at h;cases v with
      | loc g o=>cases h;simp only[z08,hv,z3e]
      | _=>cases h
  | fldV d off t x=>
    cases t with
    | c c=>
      simp only[evPure]at h;cases hv:x.mv fr with
      | none=>rw[hv]at h;cases h
      | some v=>
        rw[hv]at h;cases v with
        | agg vs=>
          dsimp only at h;cases hi:vs[off]? with
          | none=>rw[hi]at h;cases h
          | some w=>rw[hi]at h;cases h;simp only[z08,hv,z4s,hi,z19]
        | _=>cases h
    | _=>cases h
  | load d t p=>
    cases t with
    | c c=>
      simp only[evPure]at h;cases hv:p.val fr with
      | none=>rw[hv]at h;cases h
      | some v=>
        rw[hv]at h;cases v with
        | loc g o=>
          dsimp only at h;cases hp:z0g fr.p g with
          | none=>rw[hp]at h;cases h
          | some pb=>
            rw[hp]at h;obtain⟨pv,b⟩:=pb;cases pv with
            | st cs=>
              dsimp only at h;cases hi:cs[o]? with
              | none=>rw[hi]at h;cases h
              | some w=>rw[hi]at h;cases h;simp only[z08,hv,z3e,hp,z19,z6l,hi]
            | _=>cases h
        | _=>cases h
    | _=>cases h
  | len d x=>
    simp only[evPure]at h;cases hv:x.mv fr with
    | none=>rw[hv]at h;cases h
    | some v=>
      rw[hv]at h;cases v<;>first | (cases h;simp only[z08,hv,wSl];done) | cases h
  | lenS d x=>
    simp only[evPure]at h;cases hv:x.mv fr with
    | none=>rw[hv]at h;cases h
    | some v=>
      rw[hv]at h;cases v<;>first | (cases h;simp only[z08,hv,z58];done) | cases h
  | _=>cases h

mutual
theorem zya{pu:List Nat}:∀(x:Item)(fr fr1:Fr)(k:Fr→M β),z6q pu x=true→zfl x fr=some fr1→zan C x fr k=k fr1
  | .i x,fr,fr1,k,hp,h=>by
    simp only[zfl]at h;simp only[zan];exact z10u h k
  | .sc p isAnd g body b d,fr,fr1,k,hp,h=>by
    cases p with
    | false=>cases hp
    | true=>simp only[zan,h]
theorem zkg{pu:List Nat}:∀(l:List Item)(fr fr1:Fr)(k:Fr→M β),z5t pu l=true→zbe l fr=some fr1→z3p C l fr k=k fr1
  | [],fr,fr1,k,hp,h=>by
    simp only[zbe]at h;cases h;simp only[z3p]
  | x::r,fr,fr1,k,hp,h=>by
    simp only[z5t,Bool.and_eq_true]at hp;simp only[zbe]at h;split at h
    · rename_i fr2 h2
      simp only[z3p];rw[zya x fr fr2 _ hp.1 h2];exact zkg r fr2 fr1 k hp.2 h
    · cases h
end

end

theorem z9s{a b:Option (Nat×Bool)}(h:z8v a b=true):a=b:=by
  cases a with
  | none=>cases b with
    | none=>rfl
    | some y=>cases h
  | some x=>
    cases b with
    | none=>cases h
    | some y=>
      obtain⟨i,p⟩:=x;obtain⟨j,q⟩:=y;simp only[z8v,Bool.and_eq_true,beq_iff_eq]at h;have:=Nat.eq_of_beq_eq_true h.1
      rw[this,h.2]

theorem z5u{o:Oper}{w:Bool}{gs n d:Nat}(h:zhx o w gs=some (n,d)):o.dst=some d∧((w=true∧o.op=.pick (.tmp gs) (.tmp n) (.const (.bool false)))∨(w=false∧o.op=.pick (.tmp gs) (.const (.bool true)) (.tmp n))):=by
  unfold zhx at h;split at h
  · rename_i c m d' ho hd
    cases hb:Nat.beq c gs&&w with
    | false=>rw[hb]at h;cases h
    | true=>
      rw[hb]at h;cases h;simp only[Bool.and_eq_true]at hb;have:=Nat.eq_of_beq_eq_true hb.1
      subst this;exact⟨hd,.inl ⟨hb.2,ho⟩⟩
  · rename_i c m d' ho hd
    cases hb:Nat.beq c gs && !w with
    | false=>rw[hb]at h;cases h
    | true=>
      rw[hb]at h;cases h;simp only[Bool.and_eq_true,Bool.not_eq_true']at hb;have:=Nat.eq_of_beq_eq_true hb.1
      subst this;exact⟨hd,.inr ⟨hb.2,ho⟩⟩
  · cases h

section
variable{P:Program}{ops:Array Oper}{Q:Exit→Act→World→Prop}{ntmps:Nat}{priv pu:List Nat}

theorem zms{t:Array Value}{j:Nat}{o:Oper}{d:Nat}(ho:ops[j]? = some o)(hd:o.dst=some d){b:Bool}(h:t[d]? = some (.bool b)):yielded ops t j=some b:=by
  simp[yielded,ho,hd,h]

theorem za2{t:Array Value}{d:Nat}(h:d<t.size):t[d]? = some (t.getD d undef):=by
  simp[Array.getD,h]

theorem zmt{i:Nat}{r:List Nat}{o:Oper}{t:Array Value}{w:World}(ho:ops[i]? = some o)(hw:Region.wanted o (yielded ops t)=false)(h:wpOps P ops Q r (Act.put ⟨t,[]⟩ o.dst undef) w):wpOps P ops Q (i::r) ⟨t,[]⟩ w:=by
  simp only[wpOps,ho,hw];exact h

theorem zl3{i:Nat}{r:List Nat}{o:Oper}{t:Array Value}{w:World}(ho:ops[i]? = some o)(hw:Region.wanted o (yielded ops t)=true)(h:o.wp P ⟨t,[]⟩ w (wpOps P ops Q r) Q):wpOps P ops Q (i::r) ⟨t,[]⟩ w:=by
  simp only[wpOps,ho,hw,if_true];exact .inl h

def Und(t t':Array Value):Prop:=t'.size=t.size∧∀i:Nat,t'[i]? = t[i]? ∨ t'[i]? = some undef

theorem Und.refl(t:Array Value):Und t t:=⟨rfl,fun _ =>.inl rfl⟩
theorem Und.trans{a b c:Array Value}(h:Und a b)(k:Und b c):Und a c:=
  ⟨k.1.trans h.1,fun i=>by
    rcases k.2 i with e | e
    · rw[e];exact h.2 i
    · exact .inr e⟩

theorem Und.none{t t':Array Value}(h:Und t t'){j:Nat}(hy:yielded ops t j=none):yielded ops t' j=none:=by
  unfold yielded at hy ⊢;cases hx:(ops[j]?).bind (·.dst)with
  | none=>rfl
  | some e=>
    rw[hx]at hy;simp only[Option.bind_some]at hy ⊢;rcases h.2 e with h2 | h2
    · rw[h2];exact hy
    · rw[h2];rfl

theorem Und.ne{t t':Array Value}(h:Und t t'){j:Nat}{w:Bool}(hy:yielded ops t j≠some w):yielded ops t' j≠some w:=by
  unfold yielded at hy ⊢;cases hx:(ops[j]?).bind (·.dst)with
  | none=>simp
  | some e=>
    rw[hx]at hy;simp only[Option.bind_some]at hy ⊢;rcases h.2 e with h2 | h2
    · rw[h2];exact hy
    · rw[h2];simp[undef]

theorem zic(t:Array Value)(dst:Option Tmp):∃t',Act.put ⟨t,[]⟩ dst undef=⟨t',[]⟩∧Und t t'∧(∀i,dst≠some i→t'.getD i undef=t.getD i undef)∧∀o i,ops[i]? = some o→o.dst=dst→yielded ops t' i=none:=by
  cases dst with
  | none=>exact⟨t,rfl,Und.refl t,fun _ _=>rfl,fun o i h1 h2=>by simp[yielded,h1,h2]⟩
  | some d=>
    refine⟨t.setIfInBounds d undef,rfl,⟨by simp,fun i=>?_⟩,?_,?_⟩
    · rw[Array.getElem?_setIfInBounds]
      by_cases e:d=i
      · subst e
        rw[if_pos rfl];by_cases hd:d<t.size
        · rw[if_pos hd];exact .inr rfl
        · rw[if_neg hd];exact .inl (by simp at hd;simp[hd])
      · rw[if_neg e];exact .inl rfl
    · intro i hi
      by_cases hd:d<t.size
      · rw[getD_set hd,if_neg (fun c=>hi (by rw[c]))]
      · simp[Array.setIfInBounds,hd]
    · intro o i h1 h2
      simp only[yielded,h1,Option.bind_some,h2,Array.getElem?_setIfInBounds,if_true];split
      · rename_i b h'
        split at h'
        · simp[undef]at h'
        · cases h'
      · rfl

theorem zmu{o:Oper}{j:Nat}{wt:Bool}{t:Array Value}(hg:o.guard=some (j,wt))(hne:yielded ops t j≠some wt):Region.wanted o (yielded ops t)=false:=by
  simp only[Region.wanted,hg];cases hy:yielded ops t j with
  | none=>rfl
  | some b=>
    cases hbw:(b==wt)with
    | false=>simpa using hbw
    | true=>exact absurd (by rw[hy];simpa using hbw) hne

theorem zyb(f:Nat):∀(is:List Nat)(j:Nat)(wt:Bool)(lev:List Nat)(l:List Item)(rest:List Nat),z4e P ntmps priv pu ops f is (some (j,wt)) lev=some (l,rest) →
    ∀(t:Array Value)(w:World),yielded ops t j≠some wt→(∀j'∈lev,yielded ops t j'=none) →
      (∀t':Array Value,Und t t'→(∀i,i ∉ z0m l→t'.getD i undef=t.getD i undef)→wpOps P ops Q rest ⟨t',[]⟩ w)→wpOps P ops Q is ⟨t,[]⟩ w:=by
  induction f with
  | zero=>intro is j wt lev l rest h;cases h
  | succ f ih=>
    intro is j wt lev l rest h t w hne hlev hk;cases is with
    | nil=>
      simp only[z4e]at h;cases h;exact hk t (Und.refl t) (fun _ _=>rfl)
    | cons i r=>
      simp only[z4e]at h;cases ho:ops[i]? with
      | none=>rw[ho]at h;cases h
      | some o=>
        rw[ho]at h;dsimp only at h;cases hg:z8v o.guard (some (j,wt))with
        | true=>
          rw[hg]at h;simp only[cond_true]at h;have hgd:=z9s hg;split at h
          · rename_i x hx
            cases hc:insOk ntmps x&&zdb o x with
            | false=>rw[hc]at h;cases h
            | true=>
              rw[hc]at h;simp only[cond_true]at h;simp only[Bool.and_eq_true]at hc;split at h
              · rename_i l' q hl'
                cases h;obtain⟨t',h1,h2,h3,h4⟩:=zic (ops:=ops) t o.dst;refine zmt ho (zmu hgd hne) ?_;rw[h1];refine ih r j wt (i::lev) l' rest hl' t' w (h2.ne hne) ?_ ?_
                · intro j' hj'
                  rcases List.mem_cons.1 hj' with rfl | hj'
                  · exact h4 o _ ho rfl
                  · exact h2.none (hlev j' hj')
                · intro t2 hs2 hd2
                  refine hk t2 (h2.trans hs2) ?_;intro n hn;have hn1:n ∉ z0m l':=fun c=>hn (by simp only[z0m,List.mem_append];exact .inr c);rw[hd2 n hn1];refine h3 n ?_;intro hd;apply hn;simp only[z0m,Item.dsts,List.mem_append];left;have:=hc.2
                  unfold zdb at this;rw[hd]at this;exact(mem_iff _ _).1 this
              · cases h
          · cases h
        | false=>
          rw[hg]at h;simp only[cond_false]at h;split at h
          · cases h
            exact hk t (Und.refl t) (fun _ _=>rfl)
          · rename_i j2 w2 hgo
            cases hm:mem j2 lev with
            | false=>
              rw[hm]at h;cases h;exact hk t (Und.refl t) (fun _ _=>rfl)
            | true=>
              rw[hm]at h;simp only[cond_true]at h;split at h
              · cases h
              · rename_i oj hoj
                split at h
                · cases h
                · rename_i gs hgs
                  split at h
                  · rename_i body kk q hbody
                    split at h
                    · cases h
                    · rename_i okk hokk
                      split at h
                      · cases h
                      · rename_i n d hpick
                        obtain⟨hdst,_⟩:=z5u hpick;cases hcc:z8v okk.guard (some (j,wt))&&Nat.blt d ntmps && !(mem gs (z0m body))with
                        | false=>rw[hcc]at h;cases h
                        | true=>
                          rw[hcc]at h;simp only[cond_true]at h;simp only[Bool.and_eq_true]at hcc;have hgk:=z9s hcc.1.1;split at h
                          · rename_i l' q' hl'
                            cases h;have hj2:yielded ops t j2=none:=hlev j2 ((mem_iff _ _).1 hm)
                            -- the inner piece
                            refine ih (i::r) j2 w2 [] body (kk::q) hbody t w (by rw[hj2];simp) (by intro j' hj';cases hj') ?_;intro t1 hs1 hd1;obtain⟨t2,h1,h2,h3,h4⟩:=zic (ops:=ops) t1 okk.dst;refine zmt hokk (zmu hgk (hs1.ne hne)) ?_;rw[h1];refine ih q j wt (kk::lev) l' rest hl' t2 w ((hs1.trans h2).ne hne) ?_ ?_
                            · intro j' hj'
                              rcases List.mem_cons.1 hj' with rfl | hj'
                              · exact h4 okk _ hokk rfl
                              · exact(hs1.trans h2).none (hlev j' hj')
                            · intro t3 hs3 hd3
                              refine hk t3 ((hs1.trans h2).trans hs3) ?_;intro m hm';simp only[z0m,Item.dsts,List.mem_append,not_or]at hm';rw[hd3 m hm'.2,h3 m (by rw[hdst];intro c;cases c;exact hm'.1.2 (by simp)),hd1 m hm'.1.1]
                          · cases h
                  · cases h

end
end Go.Mini

/- Regions, whole; code. -/
namespace Go.Mini
universe u
section
variable{P:Program}{ops:Array Oper}{Q:Exit→Act→World→Prop}{ntmps:Nat}{priv pu:List Nat}{C:List (Nat×Entry)}
theorem z10v{β:Type}{p w:Bool}{gs n d:Nat}{body:List Item}{fr:Fr}{k:Fr→M β}{h:Hp}{res:β×Hp}(hp:p=z5t pu body)(e:zan C (.sc p w gs body (.t n) d) fr k h=some res) :
  ∃t,z0g fr.v gs=some (.v (.bool t))∧(t=w→∃x h1,z3p C body (fr.lock []) (β:=Bool) (fun fr'=>match(Opd.t n).mv fr' with
    | some (.bool x)=>ret x
    | _=>z0h) h=some (x,h1)∧k ((fr.del (z0m body)).set d (.bool x)) h1=some res) ∧
   (t≠w→k ((fr.del (z0m body)).set d (.bool (!w))) h=some res):=by
 cases p with
 | true=>
  simp only[zan,zfl]at e;cases hl:z0g fr.v gs with
  | none=>rw[hl]at e;cases e
  | some fv=>
   rw[hl]at e;cases fv with
   | loc a b=>cases e
   | gone=>cases e
   | v v=>
    cases v with
    | bool t=>
     cases hb:zbe body (fr.lock [])with
     | none=>rw[hb]at e;cases e
     | some fr'=>
      rw[hb]at e;dsimp only at e;cases hm:(Opd.t n).mv fr' with
      | none=>rw[hm]at e;cases e
      | some m=>
       rw[hm]at e;cases m with
       | bool x=>
        refine⟨t,rfl,?_,?_⟩
        ·rintro rfl
         refine⟨x,h,?_,?_⟩
         ·rw[zkg (pu:=pu) body _ _ _ hp.symm hb];rw[hm];rfl
         ·cases t with
          | true=>simpa using e
          | false=>simpa using e
        ·intro hne;cases t<;>cases w<;>first | exact absurd rfl hne | simpa using e
       | _=>cases e
    | _=>cases e
 | false=>
  simp only[zan]at e;cases hl:z0g fr.v gs with
  | none=>rw[hl]at e;cases e
  | some fv=>
   rw[hl]at e;cases fv with
   | loc a b=>cases e
   | gone=>cases e
   | v v=>
    cases v with
    | bool t=>
     dsimp only at e;obtain⟨x,h1,e1,e2⟩:=z0f e;refine⟨t,rfl,?_,?_⟩
     ·rintro rfl
      rw[if_pos rfl]at e1;exact⟨x,h1,e1,e2⟩
     ·intro hne;rw[if_neg hne]at e1;cases e1;exact e2
    | _=>cases e
def GOk(ops:Array Oper)(g:Option (Nat×Bool))(t:Array Value)(l:List Item):Prop:=match g with
 | none=>True
 | some (j,w)=>∃oj gs,ops[j]? = some oj∧oj.dst=some gs∧t[gs]? = some (.bool w)∧gs ∉ z0m l
theorem GOk.wanted{g:Option (Nat×Bool)}{t:Array Value}{l:List Item}(h:GOk ops g t l){o:Oper}(hg:o.guard=g):Region.wanted o (yielded ops t)=true:=by
 cases g with
 | none=>simp[Region.wanted,hg]
 | some x=>
  obtain⟨j,w⟩:=x;obtain⟨oj,gs,h1,h2,h3,_⟩:=h;simp[Region.wanted,hg,zms h1 h2 h3]
theorem GOk.next{g:Option (Nat×Bool)}{t t':Array Value}{x:Item}{l:List Item}(h:GOk ops g t (x::l))(hsz:t'.size=t.size)(ht:∀i,i ∉ x.dsts→t'.getD i undef=t.getD i undef):GOk ops g t' l:=by
 cases g with
 | none=>trivial
 | some y=>
  obtain⟨j,w⟩:=y;obtain⟨oj,gs,h1,h2,h3,h4⟩:=h;simp only[z0m,List.mem_append,not_or]at h4;refine⟨oj,gs,h1,h2,?_,h4.2⟩;have hlt:gs<t.size:=(Array.getElem?_eq_some_iff.1 h3).1;have h5:gs<t'.size:=by rw[hsz];exact hlt
  rw[za2 h5,ht gs h4.1,←za2 hlt];exact h3
theorem zbg{o:Oper}{c:Nat}{a b:Operand}(ho:o.op=.pick (.tmp c) a b){d:Nat}(hd:o.dst=some d){t:Array Value}{w:World}{tt:Bool}(hc:t[c]? = some (.bool tt)){K:Act→World→Prop}
  (h:K ⟨t.setIfInBounds d (Act.eval ⟨t,[]⟩ (if tt then a else b)),[]⟩ w):o.wp P ⟨t,[]⟩ w K Q:=by
 have hcc:Act.eval ⟨t,[]⟩ (.tmp c)=.bool tt:=by simp[Act.eval,Array.getD_eq_getD_getElem?,hc]
 unfold Oper.wp;have hrun:(execOp (Act.eval ⟨t,[]⟩) o).run P w=.ok (.value (Act.eval ⟨t,[]⟩ (if tt then a else b))) w:=by
  unfold execOp;rw[ho];dsimp only;rw[hcc];cases tt<;>simp[asBool]
 rw[hrun,Oper.upon_value];simpa[Act.put,hd]using h
theorem zvh(hC:∀f en,z0g C f=some en→Sound P f en)(f:Nat):∀(is:List Nat)(g:Option (Nat×Bool))(lev:List Nat)(l:List Item)(rest:List Nat),z4e P ntmps priv pu ops f is g lev=some (l,rest) →
  ∀{β:Type}(k:Fr→M β)(s:S)(res:β×Hp),Ok s→s.t.size=ntmps→GOk ops g s.t l→z3p C l s.fr k s.h=some res →
   (∀s',Ok s'→Stp s s' (z0m l)→k s'.fr s'.h=some res→wpOps P ops Q rest ⟨s'.t,[]⟩ s'.w)→wpOps P ops Q is ⟨s.t,[]⟩ s.w:=by
 induction f with
 | zero=>intro is g lev l rest h;cases h
 | succ f ih=>
  intro is g lev l rest h β k s res ok hsz hG e hk;have done:some (l,rest)=some ([],is)→wpOps P ops Q is ⟨s.t,[]⟩ s.w:=by
   intro h2;cases h2;exact hk s ok (Stp.refl s _) (by simpa only[z3p]using e)
  cases is with
  | nil=>
   simp only[z4e]at h;exact done h.symm
  | cons i r=>
   have h0:=h;simp only[z4e]at h;cases ho:ops[i]? with
   | none=>rw[ho]at h;cases h
   | some o=>
    rw[ho]at h;dsimp only at h;cases hg:z8v o.guard g with
    | true=>
     rw[hg]at h;simp only[cond_true]at h;have hgd:=z9s hg;split at h
     ·rename_i x hx;cases hc:insOk ntmps x&&zdb o x with
      | false=>rw[hc]at h;cases h
      | true=>
       rw[hc]at h;simp only[cond_true]at h;simp only[Bool.and_eq_true]at hc;split at h
       ·rename_i l' q hl';cases h;simp only[z3p,zan]at e;refine zl3 ho (hG.wanted hgd) ?_;refine zcl hC ok hx (by rw[hsz];exact hc.1) e ?_;intro s1 ok1 st1 e1;refine ih r g (i::lev) l' rest hl' k s1 res ok1 (by rw[st1.tsz];exact hsz) (hG.next st1.tsz st1.tmp) e1 ?_;intro s2 ok2 st2 e2;exact hk s2 ok2 (by simp only[z0m,Item.dsts];exact st1.trans st2) e2
       ·cases h
     ·cases h
    | false=>
     rw[hg]at h;simp only[cond_false]at h;split at h
     ·exact done h.symm
     ·rename_i j w hgo;cases hm:mem j lev with
      | false=>
       rw[hm]at h;exact done h.symm
      | true=>
       rw[hm]at h;simp only[cond_true]at h;split at h
       ·cases h
       ·rename_i oj hoj;split at h
        ·cases h
        ·rename_i gs hgs;split at h
         ·rename_i body kk q hbody;split at h
          ·cases h
          ·rename_i okk hokk;split at h
           ·cases h
           ·rename_i n d hpick;obtain⟨hdst,hop⟩:=z5u hpick;cases hcc:z8v okk.guard g&&Nat.blt d ntmps && !(mem gs (z0m body))with
            | false=>rw[hcc]at h;cases h
            | true=>
             rw[hcc]at h;simp only[cond_true]at h;simp only[Bool.and_eq_true,Bool.not_eq_true']at hcc;have hgk:=z9s hcc.1.1;have hdlt:d<s.t.size:=by rw[hsz];simpa using hcc.1.2
             have hgsb:gs ∉ z0m body:=fun c=>by rw[(mem_iff _ _).2 c]at hcc;cases hcc.2
             split at h
             ·rename_i l' q' hl';cases h;simp only[z3p]at e;obtain⟨t,hlk,hyes,hno⟩:=z10v (pu:=pu) rfl e;obtain⟨hgl,hgr⟩:=ok.slots gs _ hlk;have hgt:s.t[gs]? = some (.bool t):=by
               rw[za2 hgl];congr 1;have hgr2:VRel s.ρ (.bool t) (s.t.getD gs undef):=hgr;generalize s.t.getD gs undef=z at hgr2;cases hgr2;rfl
              -- what stands behind the pick
              have behind:∀(s1:S)(x:Bool),Ok {s1 with fr:=s.fr.del (z0m body)}→Stp s {s1 with fr:=s.fr.del (z0m body)} (z0m body) →
                z3p C l' ((s.fr.del (z0m body)).set d (.bool x)) k s1.h=some res →
                wpOps P ops Q q ⟨s1.t.setIfInBounds d (.bool x),[]⟩ s1.w:=by
               intro s1 x ok1 st1 e1;have hd1:d<s1.t.size:=by have:=st1.tsz;dsimp only at this;omega
               obtain⟨ok2,st2⟩:=ok1.set (d:=d) hd1 (VRel.bool x);refine ih q g (kk::lev) l' rest hl' k _ res ok2 ?_ ?_ e1 ?_
               ·have:=(st1.trans st2).tsz
                rw[this];exact hsz
               ·exact hG.next (st1.trans st2).tsz (by
                 intro i hi;refine(st1.trans st2).tmp i ?_;simpa only[Item.dsts]using hi)
               ·intro s3 ok3 st3 e3;exact hk s3 ok3 (by simp only[z0m,Item.dsts];exact(st1.trans st2).trans st3) e3
              -- is the pick's guard still met?
              have wantk:∀t':Array Value,t'.size=s.t.size→(∀i,i ∉ z0m body→t'.getD i undef=s.t.getD i undef)→Region.wanted okk (yielded ops t')=true:=by
               intro t' h1 h2;refine GOk.wanted (l:=l') (hG.next h1 ?_) hgk;intro i hi;exact h2 i (fun c=>hi (by simp only[Item.dsts,List.mem_append];exact .inl c))
              have hgs':∀t':Array Value,t'.size=s.t.size→(∀i,i ∉ z0m body→t'.getD i undef=s.t.getD i undef)→t'[gs]? = some (.bool t):=by
               intro t' h1 h2;have h5:gs<t'.size:=by rw[h1];exact hgl
               rw[za2 h5,h2 gs hgsb,←za2 hgl];exact hgt
              by_cases htw:t=w
              ·obtain⟨x,h1,e1,e2⟩:=hyes htw;refine ih (i::r) (some (j,w)) [] body (kk::q) hbody _ {s with fr:=s.fr.lock []} (x,h1) (ok.lock []) hsz ⟨oj,gs,hoj,hgs,by rw[←htw];exact hgt,hgsb⟩ e1 ?_;intro s1 ok1 st1 e3
               -- what the piece found
               cases hmv:(Opd.t n).mv s1.fr with
               | none=>rw[hmv]at e3;cases e3
               | some m=>
                rw[hmv]at e3;cases m with
                | bool y=>
                 have hxy:y=x∧s1.h=h1:=by
                  have:some (y,s1.h)=some (x,h1):=e3
                  cases this;exact⟨rfl,rfl⟩
                 obtain⟨rfl,hh1⟩:=hxy;have hfok:=FOk.base ok st1;have hok1:Ok {s1 with fr:=s.fr.del (z0m body)}:=by
                  have:=hfok.ok ok ok1 st1
                  rwa [List.append_nil]at this
                 have hst1:Stp s {s1 with fr:=s.fr.del (z0m body)} (z0m body):=by
                  have:=hfok.stp ok st1
                  rwa [List.append_nil]at this
                 have hyv:Act.eval ⟨s1.t,[]⟩ (.tmp n)=.bool y:=by
                  have:=z71 ok1 hmv
                  generalize Act.eval ⟨s1.t,[]⟩ (.tmp n)=z at this;cases this;rfl
                 have hsz1:s1.t.size=s.t.size:=st1.tsz;refine zl3 hokk (wantk s1.t hsz1 st1.tmp) ?_;have hc1:=hgs' s1.t hsz1 st1.tmp;have hbh:=behind s1 y hok1 hst1 (by rw[hh1];exact e2);rcases hop with⟨rfl,hop⟩ | ⟨rfl,hop⟩
                 ·subst htw;refine zbg hop hdst hc1 ?_;rw[if_pos rfl,hyv];exact hbh
                 ·subst htw;refine zbg hop hdst hc1 ?_;rw[if_neg (by simp),hyv];exact hbh
                | _=>cases e3
              ·have e2:=hno htw;have hyj:yielded ops s.t j≠some w:=by
                rw[zms hoj hgs hgt];intro c;cases c;exact htw rfl
               refine zyb f (i::r) j w [] body (kk::q) hbody s.t s.w hyj (by intro j' hj';cases hj') ?_;intro t' hund hd';refine zl3 hokk (wantk t' hund.1 hd') ?_;have hc1:=hgs' t' hund.1 hd'
               -- nothing was done: the slots of the piece are gone
               have st0:Stp {s with fr:=s.fr.lock []} {s with fr:=s.fr.lock [],t:=t'} (z0m body):=
                ⟨Ext.refl _,rfl,rfl,rfl,Nat.le_refl _,⟨Nat.le_refl _,fun _ _ e =>.inl e⟩,fun _ _ _ _=>rfl,fun _ h =>.inl h,fun _ h =>.inl h,fun _ h =>.inl h,fun _ _=>rfl,fun _ =>.inl rfl,hund.1,hd'⟩
               have hfok:FOk s {s with fr:=s.fr.lock [],t:=t'} (z0m body) [] false (s.fr.del (z0m body++[])):=FOk.base ok st0;have hok1:Ok {s with fr:=s.fr.del (z0m body),t:=t'}:=by
                have hh:=hfok;rw[List.append_nil]at hh;refine⟨ok.heap,hh.slots,?_,?_⟩
                ·intro n' pv b hn';obtain⟨_,h2⟩:=z52 (l:=s.fr.p) hn';exact ok.priv n' pv b h2
                ·intro n' m' x y hx hy hne;obtain⟨_,h2⟩:=z52 (l:=s.fr.p) hx;obtain⟨_,h3⟩:=z52 (l:=s.fr.p) hy;exact ok.pinj n' m' x y h2 h3 hne
               have hst1:Stp s {s with fr:=s.fr.del (z0m body),t:=t'} (z0m body):=by
                have:=hfok.stp ok st0
                rwa [List.append_nil]at this
               have hbh:=behind {s with t:=t'} (!w) hok1 hst1 e2;rcases hop with⟨rfl,hop⟩ | ⟨rfl,hop⟩
               ·have:t=false:=by cases t<;>simp_all
                subst this;refine zbg hop hdst hc1 ?_;rw[if_neg (by simp)];exact hbh
               ·have:t=true:=by cases t<;>simp_all
                subst this;refine zbg hop hdst hc1 ?_;rw[if_pos rfl];exact hbh
             ·cases h
         ·cases h
end
end Go.Mini
