/- Code and functions: what the small machine does, the kit's does. -/
import Derived.Test.YtfieiaijdalkbaaGreatMX5
import Derived.ScopeJumps
namespace Go.Mini
universe u
theorem Tag.is_eq{a b:Tag}(h:a.is b=true):a=b:=by
 cases a<;>cases b<;>first
  | rfl
  | cases h
  | (have:=Nat.eq_of_beq_eq_true h;rw[this])
theorem zrl{γ:Type}{t:Tag}{fr:Fr}{h:Hp}{r:γ×Hp}:∀{outs:List (Tag×Live)}{kk:JT outs→M γ},inj t fr outs kk h=some r →
  ∃x:JT outs,kk x h=some r∧∃(l:Live)(y:HL l.vs),(∀{β:Type}(F:Fr)(k2:Tag→Fr→M β),outK F k2 outs x=k2 t (l.un y F)) ∧
   ∀(s s1:S)(ds keep:List Nat)(lk:Bool)(F:Fr),s1.fr=fr→Ok s1→FOk s s1 ds keep lk F→FOk s s1 ds keep lk (l.un y F)
 | [],kk,e=>by cases e
 | [o],kk,e=>by
  simp only[inj]at e;cases hi:o.1.is t with
  | false=>rw[hi]at e;cases e
  | true=>
   rw[hi]at e;obtain⟨y,h1,h2⟩:=Live.proj_some e;refine⟨y,h1,o.2,y,?_,h2⟩;intro β F k2;rw[←Tag.is_eq hi];rfl
 | o::q::rr,kk,e=>by
  simp only[inj]at e;cases hi:o.1.is t with
  | false=>
   rw[hi]at e;simp only[cond_false]at e;obtain⟨x,h1,l,y,h2,h3⟩:=zrl e;exact⟨.inr x,h1,l,y,fun F k2=>h2 F k2,h3⟩
  | true=>
   rw[hi]at e;obtain⟨y,h1,h2⟩:=Live.proj_some e;refine⟨.inl y,h1,o.2,y,?_,h2⟩;intro β F k2;rw[←Tag.is_eq hi];rfl
section
variable{P:Program}{C:List (Nat×Entry)}{N ntmps:Nat}{priv pu:List Nat}
theorem zrm{Q:Exit→Act→World→Prop}{c:Code}(J:Nat→Act→World→Prop)(round:∀n a w,J n a w→∃m,n=m+1∧c.wp P (Exit.then (fun a' w'=>J m a' w') Q) a w) :
  ∀n a w,J n a w→(Code.loop c).wp P Q a w:=by
 intro n a w h b k cs;have key:∀n a w,J n a w→∃e a' w',Q e a' w'∧Arrives P (lone (b.at a (.code c :: .inLoop c::k)) cs w) b k cs e a' w':=by
  intro n;induction n with
  | zero=>intro a w hJ;obtain⟨m,hm,_⟩:=round 0 a w hJ;omega
  | succ n ih=>
   intro a w hJ;obtain⟨m,hm,hr⟩:=round _ a w hJ;obtain rfl:n=m:=by omega
   obtain⟨e,a₁,w₁,hq,harr⟩:=hr b (.inLoop c::k) cs;cases e with
   | normal=>
    obtain⟨e₂,a₂,w₂,hq₂,harr₂⟩:=ih a₁ w₁ hq;exact⟨e₂,a₂,w₂,hq₂,.of_steps (Steps.trans harr (.one step_inLoop)) harr₂⟩
   | exit id=>exact⟨_,a₁,w₁,hq,.pass (x :=.inLoop c) rfl (fun _ _ =>.inl (by simp)) harr⟩
   | goto l=>exact⟨_,a₁,w₁,hq,.pass (x :=.inLoop c) rfl (fun _ _ =>.inl (by simp)) harr⟩
   | ret=>exact⟨_,a₁,w₁,hq,.pass (x :=.inLoop c) rfl (fun _ _ =>.inl (by simp)) harr⟩
   | panic ch=>exact⟨_,a₁,w₁,hq,.pass (x :=.inLoop c) rfl (fun _ _ =>.inl (by simp)) harr⟩
   | outgrown=>exact⟨_,a₁,w₁,hq,.pass (x :=.inLoop c) rfl (fun _ _ =>.inl (by simp)) harr⟩
 obtain⟨e,a',w',hq,harr⟩:=key n a w h;exact⟨e,a',w',hq,.of_steps (.one step_loop) harr⟩
def z16i:Tag→Exit
 | .normal =>.normal
 | .ret =>.ret
 | .exit n =>.exit n
 | .goto n =>.goto n
def EQ{β:Type}(s:S)(ds:List Nat)(k:Tag→Fr→M β)(res:β×Hp):Exit→Act→World→Prop:=fun e a w=>∃t s',e=z16i t∧Ok s'∧Stp s s' ds∧k t s'.fr s'.h=some res∧a=⟨s'.t,[]⟩∧w=s'.w
def CS(P:Program)(C:List (Nat×Entry))(N ntmps:Nat)(c:Code)(mc:MC):Prop:=∀(β:Type)(k:Tag→Fr→M β)(s:S)(res:β×Hp),Ok s→s.t.size=ntmps→ev C N mc s.fr k s.h=some res→c.wp P (EQ s mc.dsts k res) ⟨s.t,[]⟩ s.w
theorem CS.join{c:Code}{mc:MC}(h:CS P C N ntmps c mc)(outs:List (Tag×Live)):CS P C N ntmps c (.join outs mc):=by
 intro β k s res ok hsz e;simp only[ev]at e;obtain⟨x,h1,e1,e2⟩:=z0f e;refine wp_mono (h _ _ {s with fr:=s.fr.lock (zfm outs)} (x,h1) (ok.lock _) hsz e1) ?_;rintro ex a w ⟨t,s1,rfl,ok1,st1,e3,rfl,rfl⟩
 obtain⟨x',h2,l,y,h3,h4⟩:=zrl e3;have h5:some (x',s1.h)=some (x,h1):=h2;cases h5;have fb:=h4 s s1 mc.dsts (zfm outs) false _ rfl ok1 (FOk.base ok st1);refine⟨t,{s1 with fr:=l.un y (s.fr.del (mc.dsts++zfm outs))},rfl,fb.ok ok ok1 st1,fb.stp ok st1,?_,rfl,rfl⟩;have:=h3 (s.fr.del (mc.dsts++zfm outs)) k
 rw[this]at e2;exact e2
theorem EQ.mono{β:Type}{s s1:S}{d1 d2 ds:List Nat}{k:Tag→Fr→M β}{res:β×Hp}(st:Stp s s1 d1)(h1:∀x∈d1,x∈ds)(h2:∀x∈d2,x∈ds){e:Exit}{a:Act}{w:World}(h:EQ s1 d2 k res e a w):EQ s ds k res e a w:=by
 obtain⟨t,s',rfl,ok,st2,e,rfl,rfl⟩:=h;exact⟨t,s',rfl,ok,(st.trans st2).mono (fun x hx=>by
  rcases List.mem_append.1 hx with h | h
  ·exact h1 x h
  ·exact h2 x h),e,rfl,rfl⟩
theorem CS.seq{a b:Code}{x y:MC}(ha:CS P C N ntmps a x)(hb:CS P C N ntmps b y):CS P C N ntmps (.seq a b) (.seq x y):=by
 intro β k s res ok hsz e;simp only[ev]at e;refine wp_seq (wp_mono (ha _ _ s res ok hsz e) ?_);rintro ex ac w ⟨t,s1,rfl,ok1,st1,e1,rfl,rfl⟩
 have hin:∀q∈x.dsts,q∈(MC.seq x y).dsts:=by intro q hq;simp only[MC.dsts,List.mem_append];exact .inl hq
 cases t with
 | normal=>
  refine wp_mono (hb _ _ s1 res ok1 (st1.tsz.trans hsz) e1) ?_;intro ex ac w hq;exact EQ.mono st1 hin (by intro x hx;simp only[MC.dsts,List.mem_append];exact .inr hx) hq
 | ret=>exact⟨.ret,s1,rfl,ok1,st1.mono hin,e1,rfl,rfl⟩
 | exit i=>exact⟨.exit i,s1,rfl,ok1,st1.mono hin,e1,rfl,rfl⟩
 | goto i=>exact⟨.goto i,s1,rfl,ok1,st1.mono hin,e1,rfl,rfl⟩
theorem zqu{Q:Exit→Act→World→Prop}{c rest:Code}(l:Nat)(J:Nat→Act→World→Prop)(hf:findLabel c l=some rest){a:Act}{w:World}
  (first:c.wp P (Exit.jump l (fun a w=>∃n,J n a w) Q) a w)
  (pass:∀n a w,J n a w→∃m,n=m+1∧rest.wp P (Exit.jump l (fun a' w'=>J m a' w') Q) a w):(Code.scope c).wp P Q a w:=by
 intro b k cs;have hg:gotoIn l (.inScope c::k)=some (.code rest :: .inScope c::k):=by simp[gotoIn,hf]
 have key:∀n a w,J n a w→∃e a' w',Q e a' w'∧Arrives P (lone (b.at a (.code rest :: .inScope c::k)) cs w) b k cs e a' w':=by
  intro n;induction n with
  | zero=>intro a w hJ;obtain⟨m,hm,_⟩:=pass 0 a w hJ;omega
  | succ n ih=>
   intro a w hJ;obtain⟨m,hm,hr⟩:=pass _ a w hJ;obtain rfl:n=m:=by omega
   obtain⟨e,a₁,w₁,hq,harr⟩:=hr b (.inScope c::k) cs;cases e with
   | normal=>exact⟨.normal,a₁,w₁,hq,Steps.trans harr (.one step_inScope)⟩
   | exit id=>exact⟨.exit id,a₁,w₁,hq,fun k' hk=>harr k' (by simp[exitTo,hk])⟩
   | goto l'=>
    obtain⟨rfl,hJ'⟩:=hq;obtain⟨e₂,a₂,w₂,hq₂,harr₂⟩:=ih a₁ w₁ hJ';exact⟨e₂,a₂,w₂,hq₂,.of_steps (harr _ hg) harr₂⟩
   | ret=>exact⟨_,a₁,w₁,hq,harr⟩
   | panic ch=>exact⟨_,a₁,w₁,hq,harr⟩
   | outgrown=>exact⟨_,a₁,w₁,hq,harr⟩
 obtain⟨e,a₁,w₁,hq,harr⟩:=first b (.inScope c::k) cs
 cases e with
 | normal=>exact⟨.normal,a₁,w₁,hq,.head step_scope (Steps.trans harr (.one step_inScope))⟩
 | exit id=>exact⟨.exit id,a₁,w₁,hq,fun k' hk =>.head step_scope (harr k' (by simp[exitTo,hk]))⟩
 | goto l'=>
  obtain⟨rfl,n,hJ'⟩:=hq;obtain⟨e₂,a₂,w₂,hq₂,harr₂⟩:=key n a₁ w₁ hJ';exact⟨e₂,a₂,w₂,hq₂,.of_steps (.head step_scope (harr _ hg)) harr₂⟩
 | ret=>exact⟨_,a₁,w₁,hq,.of_steps (.one step_scope) harr⟩
 | panic ch=>exact⟨_,a₁,w₁,hq,.of_steps (.one step_scope) harr⟩
 | outgrown=>exact⟨_,a₁,w₁,hq,.of_steps (.one step_scope) harr⟩
theorem CS.jump{c rest:Code}{l:Nat}(hf:findLabel c l=some rest){x y:MC}(ha:CS P C N ntmps c x)(hb:CS P C N ntmps rest y){live:Live}:CS P C N ntmps (.scope c) (.jump l live x y):=by
 intro β k s res ok hsz e;simp only[ev]at e;have inx:∀q∈x.dsts,q∈(MC.jump l live x y).dsts:=by intro q hq;simp only[MC.dsts,List.mem_append];exact .inl hq
 have iny:∀q∈y.dsts,q∈(MC.jump l live x y).dsts:=by intro q hq;simp only[MC.dsts,List.mem_append];exact .inr hq
 let G:Fr:=(s.fr.del ((x.dsts++y.dsts)++z4u live)).lock (z4u live)
 let F:(HL live.vs→M β)→HL live.vs→M β:=fun rec v=>ev C N y (live.un v G) fun t fr'=>match t with
  | .normal=>k .normal fr'
  | .ret=>k .ret fr'
  | .exit i=>k (.exit i) fr'
  | .goto i=>bif Nat.beq i l then live.proj fr' rec else z0h
 let J:Nat→Act→World→Prop:=fun n a w=>∃(v:HL live.vs)(s1:S),Ok s1∧s1.fr=live.un v G∧Stp {s with fr:=s.fr.lock (z4u live)} s1 (x.dsts++y.dsts)∧z0e n F v s1.h=some res∧a=⟨s1.t,[]⟩∧w=s1.w
 refine zqu l J hf ?_ ?_
 ·refine wp_mono (ha _ _ {s with fr:=s.fr.lock (z4u live)} res (ok.lock _) hsz e) ?_;rintro ex ac w ⟨t,s1,rfl,ok1,st1,e1,rfl,rfl⟩
  have st1':=st1.mono inx;cases t with
  | normal=>exact⟨.normal,s1,rfl,ok1,st1'.unlock,e1,rfl,rfl⟩
  | ret=>exact⟨.ret,s1,rfl,ok1,st1'.unlock,e1,rfl,rfl⟩
  | exit i=>exact⟨.exit i,s1,rfl,ok1,st1'.unlock,e1,rfl,rfl⟩
  | goto i=>
   dsimp only at e1;cases hi:Nat.beq i l with
   | false=>rw[hi]at e1;cases e1
   | true=>
    rw[hi]at e1;simp only[cond_true]at e1;obtain⟨v,e2,hun⟩:=Live.proj_some e1;have fb:=hun s s1 (x.dsts++y.dsts) (z4u live) true G rfl ok1 (FOk.baseL ok st1');exact⟨Nat.eq_of_beq_eq_true hi,N,v,{s1 with fr:=live.un v G},fb.ok ok ok1 st1',rfl,fb.stpL ok st1',e2,rfl,rfl⟩
 ·rintro n ac w ⟨v,s1,ok1,hfr,st1,e2,rfl,rfl⟩
  cases n with
  | zero=>cases e2
  | succ m=>
   refine⟨m,rfl,?_⟩;have e3:ev C N y s1.fr (fun t fr'=>match t with
    | .normal=>k .normal fr'
    | .ret=>k .ret fr'
    | .exit i=>k (.exit i) fr'
    | .goto i=>bif Nat.beq i l then live.proj fr' (z0e m F)else z0h) s1.h=some res:=by rw[hfr];exact e2
   refine wp_mono (hb _ _ s1 res ok1 (st1.tsz.trans hsz) e3) ?_;rintro ex ac w ⟨t,s2,rfl,ok2,st2,e4,rfl,rfl⟩
   have st12:Stp {s with fr:=s.fr.lock (z4u live)} s2 (x.dsts++y.dsts):=(st1.trans (st2.mono iny)).mono (by intro y hy;rcases List.mem_append.1 hy with h | h<;>exact h);cases t with
   | normal=>exact⟨.normal,s2,rfl,ok2,st12.unlock,e4,rfl,rfl⟩
   | ret=>exact⟨.ret,s2,rfl,ok2,st12.unlock,e4,rfl,rfl⟩
   | exit i=>exact⟨.exit i,s2,rfl,ok2,st12.unlock,e4,rfl,rfl⟩
   | goto i=>
    dsimp only at e4;cases hi:Nat.beq i l with
    | false=>rw[hi]at e4;cases e4
    | true=>
     rw[hi]at e4;simp only[cond_true]at e4;obtain⟨v',e5,hun'⟩:=Live.proj_some e4;have fb:=hun' s s2 (x.dsts++y.dsts) (z4u live) true G rfl ok2 (FOk.baseL ok st12);exact⟨Nat.eq_of_beq_eq_true hi,v',{s2 with fr:=live.un v' G},fb.ok ok ok2 st12,rfl,fb.stpL ok st12,e5,rfl,rfl⟩
theorem zzr(hC:∀f en,z0g C f=some en→Sound P f en):∀(c:Code),(∀(hs hs':List Hint)(mc:MC),comp P ntmps priv pu c none hs=some (mc,hs')→CS P C N ntmps c mc) ∧
  ∀(l:Nat)(hs hs':List Hint)(mc:MC),comp P ntmps priv pu c (some l) hs=some (mc,hs')→∃rest,findLabel c l=some rest∧CS P C N ntmps rest mc:=by
 intro c;induction c with
 | skip=>
  refine⟨?_,fun l hs hs' mc h=>by simp only[comp]at h;cases h⟩;intro hs hs' mc h β k s res ok hsz e;simp only[comp]at h;cases h;exact wp_skip ⟨.normal,s,rfl,ok,Stp.refl _ _,e,rfl,rfl⟩
 | region id ops draw=>
  refine⟨?_,fun l hs hs' mc h=>by simp only[comp]at h;cases h⟩;intro hs hs' mc h β k s res ok hsz e;cases draw with
  | true=>
   cases hs with
   | nil=>simp only[comp]at h;cases h
   | cons hint hs1=>
    cases hint with
    | cut=>simp only[comp]at h;cases h;cases e
    | draw wr rs=>
     simp only[comp]at h;split at h
     ·rename_i l hl;cases hd:zck P ⟨wr,rs,0⟩ priv ops l with
      | false=>rw[hd]at h;cases h
      | true=>
       rw[hd]at h;simp only[cond_true]at h;cases hn:(zmc rs&&zmc (z69 P ⟨wr,rs,0⟩ priv ops))with
       | true=>
        rw[hn]at h;cases h;simp only[Bool.and_eq_true]at hn;have h1:rs=[]:=by cases rs with
         | nil=>rfl
         | cons=>cases hn.1
        subst h1;have h2:z69 P ⟨wr,[],0⟩ priv ops=[]:=by
         cases ha:z69 P ⟨wr,[],0⟩ priv ops with
         | nil=>rfl
         | cons=>rw[ha]at hn;cases hn.2
        refine zlv hC hl hd (k .normal) s res ok hsz ?_ ?_ id
        ·rw[h2,zg7 wr s.h.size 0];exact e
        ·intro s' ok' st' e';exact⟨.normal,s',rfl,ok',by simpa only[cond_true,MC.dsts,zc6]using st',e',rfl,rfl⟩
       | false=>
        rw[hn]at h;cases h;refine zlv hC hl hd (k .normal) s res ok hsz e ?_ id;intro s' ok' st' e';exact⟨.normal,s',rfl,ok',by simpa only[cond_false,MC.dsts]using st',e',rfl,rfl⟩
     ·cases h
    | _=>simp only[comp]at h;cases h
  | false=>
   simp only[comp]at h;cases hcut:zwk id hs with
   | true=>rw[hcut]at h;cases h;cases e
   | false=>
   rw[hcut]at h;simp only[cond_false]at h;split at h
   ·rename_i l hl;cases h;simp only[ev]at e;refine wp_region (zvh hC _ _ none [] l [] hl (k .normal) s res ok hsz trivial e ?_);intro s' ok' st' e';exact⟨.normal,s',rfl,ok',by simpa only[MC.dsts]using st',e',rfl,rfl⟩
   ·cases h
 | seq a b iha ihb=>
  refine⟨?_,?_⟩
  ·intro hs hs' mc h;simp only[comp]at h;split at h
   ·rename_i x hs1 h1;split at h
    ·rename_i y hs2 h2;cases h;exact CS.seq (iha.1 _ _ _ h1) (ihb.1 _ _ _ h2)
    ·cases h
   ·cases h
  ·-- from behind a label on
   intro l hs hs' mc h;simp only[comp]at h;cases hf:findLabel a l with
   | some r=>
    have hl:zi0 a l=true:=by unfold zi0;rw[hf];rfl
    rw[hl]at h;simp only[cond_true]at h;split at h
    ·rename_i x hs1 h1;split at h
     ·rename_i y hs2 h2;cases h;obtain⟨r',e1,e2⟩:=iha.2 _ _ _ _ h1;rw[hf]at e1;cases e1;refine⟨.seq r b,by unfold findLabel;rw[hf],CS.seq e2 (ihb.1 _ _ _ h2)⟩
     ·cases h
    ·cases h
   | none=>
    have hl:zi0 a l=false:=by unfold zi0;rw[hf];rfl
    rw[hl]at h;simp only[cond_false]at h;obtain⟨r,e1,e2⟩:=ihb.2 _ _ _ _ h;exact⟨r,by unfold findLabel;rw[hf];exact e1,e2⟩
 | cond c a b iha ihb=>
  refine⟨?_,fun l hs hs' mc h=>by simp only[comp]at h;cases h⟩;intro hs hs' mc h;cases hs with
  | nil=>simp only[comp]at h;cases h
  | cons hh hs=>
   simp only[comp]at h;cases hcut:zrb (hh::hs)with
   | true=>rw[hcut]at h;cases h;intro β k s res ok hsz e;cases e
   | false=>
   rw[hcut]at h;simp only[cond_false]at h;split at h
   ·rename_i o x hs1 ho h1;split at h
    ·rename_i y hs2 h2;have core:CS P C N ntmps (.cond c a b) (.cond o x y):=by
      intro β k s res ok hsz e;simp only[ev]at e;cases hv:o.mv s.fr with
      | none=>rw[hv]at e;cases e
      | some v=>
       rw[hv]at e;cases v with
       | bool t=>
        dsimp only at e;have hc:Act.eval ⟨s.t,[]⟩ c=.bool t:=by
         have hr:=z17 ok ho hv;generalize Act.eval ⟨s.t,[]⟩ c=z at hr;cases hr;rfl
        refine wp_cond hc ?_;cases t with
        | true=>
         rw[if_pos rfl]at e ⊢;refine wp_mono (iha.1 _ _ _ h1 _ _ s res ok hsz e) ?_;intro ex ac w hq;exact EQ.mono (Stp.refl s []) (by intro x hx;cases hx) (by intro x hx;simp only[MC.dsts,List.mem_append];exact .inl hx) hq
        | false=>
         rw[if_neg (by simp)]at e ⊢;refine wp_mono (ihb.1 _ _ _ h2 _ _ s res ok hsz e) ?_;intro ex ac w hq;exact EQ.mono (Stp.refl s []) (by intro x hx;cases hx) (by intro x hx;simp only[MC.dsts,List.mem_append];exact .inr hx) hq
       | _=>cases e
     cases hh with
     | no=>cases h;exact core
     | join outs=>cases h;exact core.join outs
     | loop l=>cases h
     | draw w rs=>cases h
     | cut=>cases h
     | jump l live=>cases h
    ·cases h
   ·cases h
 | block id a iha=>
  refine⟨?_,fun l hs hs' mc h=>by simp only[comp]at h;cases h⟩;intro hs hs' mc h;cases hs with
  | nil=>simp only[comp]at h;cases h
  | cons hh hs=>
   simp only[comp]at h;cases hcut:zrb (hh::hs)with
   | true=>rw[hcut]at h;cases h;intro β k s res ok hsz e;cases e
   | false=>
   rw[hcut]at h;simp only[cond_false]at h;split at h
   ·rename_i x hs1 h1;have core:CS P C N ntmps (.block id a) (.block id x):=by
     intro β k s res ok hsz e;simp only[ev]at e;refine wp_block (wp_mono (iha.1 _ _ _ h1 _ _ s res ok hsz e) ?_);rintro ex ac w ⟨t,s1,rfl,ok1,st1,e1,rfl,rfl⟩
     cases t with
     | normal=>exact⟨.normal,s1,rfl,ok1,st1,e1,rfl,rfl⟩
     | ret=>exact⟨.ret,s1,rfl,ok1,st1,e1,rfl,rfl⟩
     | goto i=>exact⟨.goto i,s1,rfl,ok1,st1,e1,rfl,rfl⟩
     | exit i=>
      dsimp only at e1;simp only[z16i,Exit.inBlock];by_cases hi:i=id
      ·subst hi;rw[if_pos rfl];have:Nat.beq i i=true:=by simp
       rw[this]at e1;exact⟨.normal,s1,rfl,ok1,st1,e1,rfl,rfl⟩
      ·rw[if_neg hi];have:Nat.beq i id=false:=by
        cases hb:Nat.beq i id with
        | false=>rfl
        | true=>exact absurd (Nat.eq_of_beq_eq_true hb) hi
       rw[this]at e1;exact⟨.exit i,s1,rfl,ok1,st1,e1,rfl,rfl⟩
    cases hh with
    | no=>cases h;exact core
    | join outs=>cases h;exact core.join outs
    | loop l=>cases h
    | draw w rs=>cases h
    | cut=>cases h
    | jump l live=>cases h
   ·cases h
 | loop a iha=>
  refine⟨?_,fun l hs hs' mc h=>by simp only[comp]at h;cases h⟩;intro hs hs' mc h;cases hs with
  | nil=>simp only[comp]at h;cases h
  | cons hh hs=>
   cases hh with
   | no=>simp only[comp]at h;cases h
   | join outs=>simp only[comp]at h;cases h
   | draw w rs=>simp only[comp]at h;cases h
   | jump l live=>simp only[comp]at h;cases h
   | cut=>simp only[comp]at h;cases h;intro β k s res ok hsz e;cases e
   | loop live=>
    simp only[comp]at h;split at h
    ·rename_i x hs1 h1;cases h;intro β k s res ok hsz e;simp only[ev]at e;obtain⟨v,e1,hun⟩:=Live.proj_some e
     -- the state at a round's head
     let G:Fr:=(s.fr.del (x.dsts++z4u live)).lock (z4u live)
     let F:(HL live.vs→M β)→HL live.vs→M β:=fun rec v=>ev C N x (live.un v G) fun t fr'=>match t with
      | .normal=>live.proj fr' rec
      | .ret=>k .ret fr'
      | .exit i=>k (.exit i) fr'
      | .goto i=>k (.goto i) fr'
     let J:Nat→Act→World→Prop:=fun n a w=>∃(v:HL live.vs)(s1:S),Ok s1∧s1.fr=live.un v G∧Stp {s with fr:=s.fr.lock (z4u live)} s1 x.dsts∧z0e n F v s1.h=some res∧a=⟨s1.t,[]⟩∧w=s1.w
     refine zrm J ?_ N _ _ ?_
     ·rintro n ac w ⟨v,s1,ok1,hfr,st1,e2,rfl,rfl⟩
      cases n with
      | zero=>cases e2
      | succ m=>
       refine⟨m,rfl,?_⟩;have e3:ev C N x s1.fr (fun t fr'=>match t with
        | .normal=>live.proj fr' (z0e m F)
        | .ret=>k .ret fr'
        | .exit i=>k (.exit i) fr'
        | .goto i=>k (.goto i) fr') s1.h=some res:=by rw[hfr];exact e2
       refine wp_mono (iha.1 _ _ _ h1 _ _ s1 res ok1 (st1.tsz.trans hsz) e3) ?_;rintro ex ac w ⟨t,s2,rfl,ok2,st2,e4,rfl,rfl⟩
       have st12:Stp {s with fr:=s.fr.lock (z4u live)} s2 x.dsts:=(st1.trans st2).mono (by intro y hy;rcases List.mem_append.1 hy with h | h<;>exact h);cases t with
       | normal=>
        obtain⟨v',e5,hun'⟩:=Live.proj_some e4;have fb:=hun' s s2 x.dsts (z4u live) true G rfl ok2 (FOk.baseL ok st12);exact⟨v',{s2 with fr:=live.un v' G},fb.ok ok ok2 st12,rfl,fb.stpL ok st12,e5,rfl,rfl⟩
       | ret=>exact⟨.ret,s2,rfl,ok2,st12.unlock,e4,rfl,rfl⟩
       | exit i=>exact⟨.exit i,s2,rfl,ok2,st12.unlock,e4,rfl,rfl⟩
       | goto i=>exact⟨.goto i,s2,rfl,ok2,st12.unlock,e4,rfl,rfl⟩
     ·have ok0:=ok.lock (z4u live);have st0:=Stp.refl {s with fr:=s.fr.lock (z4u live)} x.dsts;have fb:=hun s {s with fr:=s.fr.lock (z4u live)} x.dsts (z4u live) true G rfl ok0 (FOk.baseL ok st0);exact⟨v,{s with fr:=live.un v G},fb.ok ok ok0 st0,rfl,fb.stpL ok st0,e1,rfl,rfl⟩
    ·cases h
 | exit id=>
  refine⟨?_,fun l hs hs' mc h=>by simp only[comp]at h;cases h⟩;intro hs hs' mc h β k s res ok hsz e;simp only[comp]at h;cases h;exact wp_exit ⟨.exit id,s,rfl,ok,Stp.refl _ _,e,rfl,rfl⟩
 | ret=>
  refine⟨?_,fun l hs hs' mc h=>by simp only[comp]at h;cases h⟩;intro hs hs' mc h β k s res ok hsz e;simp only[comp]at h;cases h;exact wp_ret ⟨.ret,s,rfl,ok,Stp.refl _ _,e,rfl,rfl⟩
 | rangeFunc f ps x y=>
  refine⟨?_,fun l hs hs' mc h=>by simp only[comp]at h;cases h⟩;intro hs hs' mc h;cases hs with
  | nil=>simp only[comp]at h;cases h
  | cons hh hs=>
   cases hh with
   | cut=>simp only[comp]at h;cases h;intro β k s res ok hsz e;cases e
   | _=>simp only[comp]at h;cases h
 | scope a iha=>
  refine⟨?_,fun l' hs hs' mc h=>by simp only[comp]at h;cases h⟩;intro hs hs' mc h;cases hs with
  | nil=>simp only[comp]at h;cases h
  | cons hh hs=>
   cases hh with
   | cut=>simp only[comp]at h;cases h;intro β k s res ok hsz e;cases e
   | jump l live=>
    simp only[comp]at h;split at h
    ·rename_i x hs1 h1;split at h
     ·rename_i y hs2 h2;cases h;obtain⟨rest,hfl,hrest⟩:=iha.2 _ _ _ _ h2;exact CS.jump hfl (iha.1 _ _ _ h1) hrest
     ·cases h
    ·cases h
   | _=>simp only[comp]at h;cases h
 | label l=>
  refine⟨?_,?_⟩
  ·intro hs hs' mc h;have key:CS P C N ntmps (.label l) .skip:=fun β k s res ok hsz e=>wp_label ⟨.normal,s,rfl,ok,Stp.refl _ _,e,rfl,rfl⟩;simp only[comp]at h;cases h;exact key
  ·intro l' hs hs' mc h;simp only[comp]at h;cases hb:Nat.beq l l' with
   | false=>rw[hb]at h;cases h
   | true=>
    rw[hb]at h;cases h;obtain rfl:=Nat.eq_of_beq_eq_true hb;exact⟨.skip,by unfold findLabel;simp,fun β k s res ok hsz e=>wp_skip ⟨.normal,s,rfl,ok,Stp.refl _ _,e,rfl,rfl⟩⟩
 | goto l=>
  refine⟨?_,fun l' hs hs' mc h=>by simp only[comp]at h;cases h⟩;intro hs hs' mc h;have key:CS P C N ntmps (.goto l) (.goto l):=fun β k s res ok hsz e=>wp_goto ⟨.goto l,s,rfl,ok,Stp.refl _ _,e,rfl,rfl⟩;simp only[comp]at h;cases h;exact key
 | refuse w=>
  refine⟨?_,fun l hs hs' mc h=>by simp only[comp]at h;cases h⟩;intro hs hs' mc h;simp only[comp]at h;cases h
theorem zxk(hC:∀f en,z0g C f=some en→Sound P f en)(c:Code)(hs hs':List Hint)(mc:MC)(h:comp P ntmps priv pu c none hs=some (mc,hs')):CS P C N ntmps c mc:=(zzr (N:=N) hC c).1 hs hs' mc h
theorem zxl{β:Type}{s:S}(ok:Ok s){res:β×Hp}{n:Nat}{T:TypeId}{t:Ty}(ht:vty P T=some t){k:t.den→M β}(e:zrc s.fr n t k s.h=some res) :
  ∃(x:t.den)(v:Value),k x s.h=some res∧VRel s.ρ (t.enc x) v∧(do loadVar T (←asAddr (s.t.getD n undef))).run P s.w=.ok v s.w:=by
 unfold zrc at e;cases hl:z0g s.fr.v n with
 | none=>rw[hl]at e;cases e
 | some fv=>
  rw[hl]at e;obtain⟨_,hr⟩:=ok.slots n fv hl;have addr:∀a:Addr,s.t.getD n undef=.pointer (some a)→(do loadVar T (←asAddr (s.t.getD n undef))).run P s.w=(Instr.loadAt T (.pointer (some a))).run P s.w:=by
   intro a ha;rw[ha];simp[Instr.loadAt,Instr.sureAddr,asAddr]
  cases fv with
  | gone=>cases e
  | loc g o=>
   obtain⟨pv,hp,e1⟩:=z0i e;obtain⟨⟨c,el,h1,h2⟩,h3⟩:=ok.priv g pv.1 pv.2 hp;obtain⟨v,rv,e2,hv,hrun⟩:=zka (P:=P) ht h1 h2 e1;obtain⟨x,hx,e3⟩:=z0i e2;refine⟨x,rv,e3,by rw[Ty.enc_dec hx];exact hv,?_⟩;rw[addr _ hr];exact hrun
  | v v=>
   cases v with
   | ptr p=>
    obtain⟨x,h1,e1,e2⟩:=z0f e;have hr2:VRel s.ρ (.ptr p) (s.t.getD n undef):=hr;obtain⟨rfl,rv,hrun,hv⟩:=zd9 (P:=P) ok.heap ht hr2 e1;refine⟨x,rv,e2,hv,?_⟩;generalize hq:s.t.getD n undef=q at hr2 hrun;cases hr2 with
    | nil=>cases t<;>first | cases e1 | (rename_i c;cases c<;>cases e1)
    | ptr a rb hb=>
     have:=addr _ hq
     rw[hq]at this;rw[this];exact hrun
   | _=>cases e
def zlt(s:S):ResultVar→Sem Value
 | .tmp t=>pure (s.t.getD t undef)
 | .cell a t=>do loadVar t (←asAddr (s.t.getD a undef))
theorem zzs{β:Type}{s:S}(ok:Ok s){res:β×Hp}:∀(rs:List RV){rvs:List ResultVar}(_:zam P rs rvs=true){k:HR rs→M β},zgh s.fr rs k s.h=some res →
  ∃(x:HR rs)(vs:List Value),k x s.h=some res∧VRels s.ρ (HR.encs rs x) vs∧(rvs.mapM (zlt s)).run P s.w=.ok vs s.w:=by
 have one:∀(r:RV)(rv:ResultVar),zam P [r] [rv]=true→∀{γ:Type}{res:γ×Hp}{k:r.ty.den→M γ},zgh s.fr [r] k s.h=some res→∃(x:r.ty.den)(v:Value),k x s.h=some res∧VRel s.ρ (r.ty.enc x) v∧(zlt s rv).run P s.w=.ok v s.w:=by
  intro r rv ho γ res k e;cases r with
  | s n t=>
   cases rv with
   | cell a T=>cases ho
   | tmp m=>
    simp only[zam,Bool.and_true]at ho;have:=Nat.eq_of_beq_eq_true ho
    subst this;have e2:(match z0g s.fr.v n with
     | some (.v v)=>(match t.dec v with
      | some x=>k x
      | none=>z0h)
     | _=>z0h) s.h=some res:=e
    cases hl:z0g s.fr.v n with
    | none=>rw[hl]at e2;cases e2
    | some fv=>
     rw[hl]at e2;cases fv with
     | loc a b=>cases e2
     | gone=>cases e2
     | v v=>
      dsimp only at e2;cases hd:t.dec v with
      | none=>rw[hd]at e2;cases e2
      | some x=>
       rw[hd]at e2;refine⟨x,s.t.getD n undef,e2,?_,rfl⟩;show VRel s.ρ (t.enc x) _;rw[Ty.enc_dec hd];exact(ok.slots n _ hl).2
  | m n t=>
   cases rv with
   | tmp m=>cases ho
   | cell a T=>
    simp only[zam,Bool.and_true,Bool.and_eq_true,decide_eq_true_eq]at ho;have:=Nat.eq_of_beq_eq_true ho.1
    subst this;exact zxl ok ho.2 e
 intro rs;induction rs with
 | nil=>
  intro rvs ho k e;cases rvs with
  | nil=>exact⟨(),[],e,.nil,by simp⟩
  | cons a b=>cases ho
 | cons r l ih=>
  intro rvs ho k e;cases rvs with
  | nil=>cases r<;>cases ho
  | cons rv rvs=>
   have ho1:zam P [r] [rv]=true∧zam P l rvs=true:=by
    cases r<;>cases rv<;>simp only[zam,Bool.and_true,Bool.and_eq_true]at ho ⊢ <;> first | exact ho | cases ho
   cases l with
   | nil=>
    cases rvs with
    | cons a b=>cases ho1.2
    | nil=>
     obtain⟨x,v,h1,h2,h3⟩:=one r rv ho1.1 e;exact⟨x,[v],h1,.cons _ _ _ _ h2 .nil,by simp[h3]⟩
   | cons q l=>
    have e1:zgh s.fr [r] (fun x=>zgh s.fr (q::l) fun y=>k (x,y)) s.h=some res:=by
     cases r with
     | s n t=>exact e
     | m n t=>exact e
    obtain⟨x,v,h1,h2,h3⟩:=one r rv ho1.1 e1;obtain⟨y,vs,h4,h5,h6⟩:=ih ho1.2 h1;refine⟨(x,y),v::vs,h4,.cons _ _ _ _ h2 h5,?_⟩;simp[h3,h6]
theorem zlu:∀(n:Nat)(ps:List Ty)(a:HT ps)(i:Nat)(x:FV),z0g (zgi n ps a) i=some x→∃j v,i=n+j∧x=.v v∧(HT.enc ps a)[j]? = some v
 | n,[],a,i,x,h=>by cases h
 | n,[t],a,i,x,h=>by
  simp only[zgi,z1i]at h;by_cases e:n=i
  ·subst e;rw[if_pos rfl]at h;cases h;exact⟨0,_,rfl,rfl,rfl⟩
  ·rw[if_neg e]at h;cases h
 | n,t::u::r,a,i,x,h=>by
  simp only[zgi,z1i]at h;by_cases e:n=i
  ·subst e;rw[if_pos rfl]at h;cases h;exact⟨0,_,rfl,rfl,rfl⟩
  ·rw[if_neg e]at h;obtain⟨j,v,h1,h2,h3⟩:=zlu (n+1) (u::r) a.2 i x h;exact⟨j+1,v,by omega,h2,by simpa[HT.enc]using h3⟩
theorem HT.enc_length:∀(ps:List Ty)(a:HT ps),(HT.enc ps a).length=ps.length
 | [],_=>rfl
 | [_],_=>rfl
 | t::u::r,a=>by
  simp only[HT.enc,List.length_cons];rw[HT.enc_length (u::r) a.2];rfl
theorem z13x (hC : ∀ f en, z0g C f = some en → Sound P f en) {f : FuncId} {fn : Func} {c : Code} {mc : MC} {ps : List Ty} {rs : List RV} (hf : P.funcs[f]? = some fn) (hb : fn.body = some c) (hname : (fn.name == "runtime.NumGoroutine") = false)
  (hn:fn.ntmps=ntmps) (hps:ps.length≤ntmps) {hs:List Hint} (hc:comp P ntmps priv pu c none hs=some (mc,[])) (hr:zam P rs fn.results.toList=true) {g:HT ps→M (HR rs)} (hg:∀a,body C N mc ps rs a=g a):Sound P f (z5o ps rs g):=by
 refine⟨?_,?_⟩
 ·intro args w;unfold callFunc;simp only[Sem.run_bind,run_program,Result.andThen_ok,hf];simp[hname,hb]
 ·intro args v h h' e ρ w rargs kh hrel;simp only[Entry.run,z5o]at e;cases hd:HT.dec ps args with
  | none=>rw[hd]at e;cases e
  | some a=>
   rw[hd]at e;obtain⟨r,h1,e1,e2⟩:=z0f e;cases e2;have henc:=HT.enc_dec ps args a hd;rw[←hg a]at e1;have hal:rargs.length=ps.length:=by
    have h1:=hrel.length;have h2:(HT.enc ps a).length=ps.length:=HT.enc_length ps a;rw[henc]at h2;omega
   let t0:Array Value:=rargs.toArray++Array.replicate (ntmps - rargs.toArray.size) undef
   have hts:t0.size=ntmps:=by simp[t0];omega
   have ok0:Ok ⟨ρ,fun _=>0,h,⟨zgi 0 ps a,[]⟩,t0,w⟩:=by
    refine⟨kh,?_,(fun n pv b hh=>by cases hh),(fun n m x y hh=>by cases hh)⟩;intro i x hx;obtain⟨j,v,h2,h3,h4⟩:=zlu 0 ps a i x hx;rw[henc]at h4;obtain⟨y,hy,hyr⟩:=hrel.get _ _ h4;have hji:j=i:=by omega
    subst hji;have hlt:j<rargs.length:=(List.getElem?_eq_some_iff.1 hy).1;refine⟨by show j<t0.size;omega,?_⟩;rw[h3];show VRel ρ v (t0.getD j undef);have:t0.getD j undef=y:=by
     simp only[t0,Array.getD_eq_getD_getElem?];rw[Array.getElem?_append_left (by simpa using hlt)];simp[hy]
    rw[this];exact hyr
   refine calls_of_wp hf hb ?_;rw[hn];refine wp_mono (zxk (N:=N) hC c hs [] mc hc _ _ ⟨ρ,fun _=>0,h,⟨zgi 0 ps a,[]⟩,t0,w⟩ (r,h') ok0 hts e1) ?_;rintro ex ac w1 ⟨tg,s1,rfl,ok1,st1,e3,rfl,rfl⟩
   have fin:∀(e4:zgh s1.fr rs ret s1.h=some (r,h')),∃v,(results fn s1.t).run P s1.w=.ok v s1.w∧(∃rv ρ',Ending.returned v=.returned rv∧VRel ρ' (HR.enc rs r) rv∧HRel ρ' h' s1.w.heap∧HStp ρ h w ρ' h' s1.w):=by
    intro e4;obtain⟨x,vs,h5,h6,h7⟩:=zzs (P:=P) ok1 rs hr e4;cases h5;have hmap:(fn.results.mapM (zlt s1)).run P s1.w=.ok vs.toArray s1.w:=by
     rw[Array.mapM_eq_mapM_toList,Sem.run_map,h7];rfl
    have hst:HStp ρ h w s1.ρ s1.h s1.w:=⟨st1.ext,st1.os,st1.tape,st1.output,st1.size,st1.grw,fun q hq hf=>st1.old q hq hf (by rintro⟨n,pv,hh,_⟩;cases hh),st1.foot,st1.liv⟩;have hvl:=h6.length;have hres:(results fn s1.t).run P s1.w=.ok (if h:vs.toArray.size=1 then vs.toArray[0]else .tuple vs.toArray) s1.w:=by
     have key:∀F:ResultVar→Sem Value,(∀q,F q=zlt s1 q)→(fn.results.mapM F).run P s1.w=.ok vs.toArray s1.w:=by
      intro F hF;rw[show F=zlt s1 from funext hF];exact hmap
     unfold results;rw[Sem.run_bind,key _ (by intro q;cases q<;>rfl)];rfl
    refine⟨_,hres,_,s1.ρ,rfl,?_,ok1.heap,hst⟩;unfold HR.enc;cases h8:HR.encs rs r with
    | nil=>
     rw[h8]at h6;cases h6;exact .tup _ _ .nil
    | cons v0 l0=>
     rw[h8]at h6;cases h6 with
     | cons _ y0 _ ys hv0 hvs=>
      cases hvs with
      | nil=>exact hv0
      | cons v1 y1 l1 ys1 hv1 hvs1=>
       have:¬((y0::y1::ys1).toArray.size=1):=by simp
       rw[dif_neg this];exact .tup _ _ (.cons _ _ _ _ hv0 (.cons _ _ _ _ hv1 hvs1))
   cases tg with
   | normal=>exact⟨rfl,fin e3⟩
   | ret=>exact⟨rfl,fin e3⟩
   | exit i=>cases e3
   | goto i=>cases e3
def zxm(P:Program):List (Nat×Entry)→Prop
 | []=>True
 | x::r=>Sound P x.1 x.2∧zxm P r
theorem zrn:∀{C:List (Nat×Entry)},zxm P C→∀f en,z0g C f=some en→Sound P f en
 | [],_,f,en,h=>by cases h
 | (n,e)::r,hs,f,en,h=>by
  rw[z1i]at h;by_cases hn:n=f
  ·subst hn;rw[if_pos rfl]at h;cases h;exact hs.1
  ·rw[if_neg hn]at h;exact zrn hs.2 f en h
end
def zxn(x:Option (MC×List Hint)):MC:=match x with
 | some (m,[])=>m
 | _ =>.exit 0
def zf8(f:Func):Code:=f.body.getD .skip
structure PS(P:Program) where
 k:Nat
 e:Entry
 h:Sound P k e
def PS.c{P:Program}(x:PS P):Nat×Entry:=(x.k,x.e)
theorem zo3{P:Program}:∀L:List (PS P),zxm P (L.map PS.c)
 | []=>trivial
 | x::r=>⟨x.h,zo3 r⟩
def okM(x:Option (MC×List Hint)):Bool:=match x with
 | some (_,[])=>true
 | _=>false
theorem z198{x:Option (MC×List Hint)}(h:okM x=true):x=some (zxn x,[]):=by
 match x,h with
 | some (m,[]),_=>rfl
def okF(P:Program)(n:Nat)(pr pu:List Nat)(hs:List Hint)(fn:Func)(k:Nat)(rs:List RV):Bool:=
 fn.body.isSome && (!(fn.name == "runtime.NumGoroutine") && (Nat.beq fn.ntmps n && (Nat.ble k n && (okM (comp P n pr pu (zf8 fn) none hs) && zam P rs fn.results.toList))))
theorem zw6{f:Func}(h:f.body.isSome=true):f.body=some (zf8 f):=by
 unfold zf8;cases e:f.body with
 | none=>rw[e]at h;cases h
 | some c=>rfl
theorem zp1{P:Program}{C:List (Nat×Entry)}{N n:Nat}{pr pu:List Nat}{hs:List Hint}{fn:Func}{k:Nat}(hC:zxm P C){ps:List Ty}{rs:List RV}(hf:P.funcs[k]? = some fn)(h1:okF P n pr pu hs fn ps.length rs=true){g:HT ps→M (HR rs)}(h2:∀a,body C N (zxn (comp P n pr pu (zf8 fn) none hs)) ps rs a=g a):Sound P k (z5o ps rs g):=by
 unfold okF at h1;simp only[Bool.and_eq_true]at h1;obtain⟨a1,a2,a3,a4,a5,a6⟩:=h1;exact z13x (zrn hC) hf (zw6 a1) (by simpa using a2) (Nat.eq_of_beq_eq_true a3) (Nat.le_of_ble_eq_true a4) (z198 a5) a6 h2
def so{P:Program}(N k:Nat)(ps:List Ty)(rs:List RV)(g:HT ps→M (HR rs))(L:List (PS P))(n:Nat)(pr pu:List Nat)(hs:List Hint){fn:Func}(hf:P.funcs[k]? = some fn)(h1:okF P n pr pu hs fn ps.length rs=true)(h2:(fun a=>body (L.map PS.c) N (zxn (comp P n pr pu (zf8 fn) none hs)) ps rs a)=g):PS P:=
 ⟨k,z5o ps rs g,zp1 (zo3 L) hf h1 fun a=>congrFun h2 a⟩
end Go.Mini
