import Derived.RangeFuncLeaves
import Derived.Test.YtfljmihdeimahaaGreatDoorZLPRec3
import Derived.Test.YtfljmihdeimahaaGreatDoorChecked
import Derived.KernelRfl
import Derived.ProofKit
import Derived.Test.YtfljmihdeimahaaGreatDoorRows
import Derived.LaidMore
import Derived.OpenShut
import Derived.Stop.Joined
import Derived.Lib.AppendZerosOnto
import Derived.Lib.Walk
import Derived.Lib.SliceRun
namespace Go.Proofs.YtfljmihdeimahaaGreatDoor
set_option linter.all false
open Go.RowKit
def packAO (τ:Sg) (os:List Ob) (q:Prop):AO where
 own:=owns τ os
 holds:=fun w A=>q∧(∀ o∈os,o.2.holds w A τ o.1)∧Disj τ os
 plain:=False
 lt:=fun h hb=>by
   obtain ⟨o,ho,hb⟩:=(owns_iff os _).1 hb;exact SO.own_lt (h.2.1 o ho) _ hb
 later:=fun h hl hb=>⟨h.1,fun o ho=>(h.2.1 o ho).later hl fun b hob=>hb b (owns_mem ho hob),h.2.2⟩
 any:=fun h=>h.elim
def frAO (τ:Sg) (env:Env) (tmps:Array Value) (os:List Ob) (l:Nat) (r:Loop) (q:Prop):AO where
 own:=fun b=>owns τ os b∨b=l
 holds:=fun w A=>q∧(∀ o∈os,o.2.holds w A τ o.1)∧Disj τ os∧(∀ b,owns τ os b→b≠l)∧w.heap[l]?=some (.loop r)∧∀ t s,lk env t=some s→s.hv w A τ (tmps.getD t undef)
 plain:=False
 lt:=fun h hb=>by
   rcases hb with hb|rfl
   · obtain ⟨o,ho,hb⟩:=(owns_iff os _).1 hb
     exact SO.own_lt (h.2.1 o ho) _ hb
   · exact (Array.getElem?_eq_some_iff.1 h.2.2.2.2.1).1
 later:=fun h hl hb=>⟨h.1,fun o ho=>(h.2.1 o ho).later hl fun b hob=>hb b (.inl (owns_mem ho hob)),h.2.2.1,h.2.2.2.1,(hb _ (.inr rfl)).trans h.2.2.2.2.1,fun t s ht=>(h.2.2.2.2.2 t s ht).later hl⟩
 any:=fun h=>h.elim
abbrev recS (fn:FuncId) (tmps:Array Value) (ps:Array Tmp) (ra rb:Code) (D:Nat) (st:LoopState):Loop:={ state:=st,pending:=none,fn,tmps,params:=ps,assign:=ra,body:=rb,defers:=D }
def cloQ (f m:Nat) (τ:Sg) (v:Value):Prop:=∃ lb:List Value,lb.length=m∧(∀ i,i<m→τ i=lb[i]?)∧(∀ u∈lb,∃ b,u=.pointer (some ⟨b,0,none⟩))∧v=.func (.func f) #[] lb.toArray∧∀ k,m≤k→τ k=none
def ptrsF:Nat→Nat→List SV
 | _,0=>[]
 | k,n+1=>.ptr k 0::ptrsF (k+1) n
def yCtr {I X:Type} (xargs:X→List SV) (xpre:I→X→Prop) (nxt:I→X→I) (J:I×Sg→AO):Ctr where
 D:=(I×Sg)×X
 pre:=fun (s,x)=>xpre s.1 x
 args:=fun (_,x)=>xargs x
 objs:=fun (s,_)=>[(0,.ab (J s))]
 nn:=1
 E:=I×Sg
 post:=fun (s,x) s'=>s'.1=nxt s.1 x
 res:=fun _ _=>.bool true
 out:=fun _ s'=>[(0,.ab (J s'))]
def nmlP:SV→Bool
 | .fs _ _ _=>true
 | .fpt _=>true
 | s=>flatS s
def nmlPs:List SV→Bool
 | []=>true
 | s::r=>match nmlP s with
   | true=>nmlPs r
   | false=>false
def nmlS (M:Nat):SV→Bool
 | .agg ps=>nmlPs ps
 | .ptr k _=>Nat.blt k M
 | .fs _ _ _=>true
 | .fpt _=>true
 | s=>flatS s
def nmlE (M:Nat):Env→Bool
 | []=>true
 | (_,s)::r=>match nmlS M s with
   | true=>nmlE M r
   | false=>false
def nmlL:List SV→Bool
 | []=>true
 | s::r=>match nmlS 0 s with
   | true=>nmlL r
   | false=>false
def psEnv:List Nat→List SV→Env→Env
 | p::ps,s::ss,E=>psEnv ps ss ((p,s)::E)
 | _,_,E=>E
def psBl (n:Nat):List Nat→Bool
 | []=>true
 | p::r=>match Nat.blt p n with
   | true=>psBl n r
   | false=>false
def boxIn:List Ob→Nat→Bool
 | [],_=>false
 | (j,.box _ _)::r,k=>match Nat.beq j k with
   | true=>true
   | false=>boxIn r k
 | _::r,k=>boxIn r k
def boxesE (os:List Ob):Env→Bool
 | []=>true
 | (_,.ptr k _)::r=>match boxIn os k with
   | true=>boxesE os r
   | false=>false
 | _::r=>boxesE os r
def roundK (M:Nat) (O:List Ob) (N:Nat):KW:=fun way env objs nx=>match way with
 | .normal=>Into0 M objs nx O N
 | _=>False
structure CloLaw (P:Program) [TabC P] {I X:Type} (xargs:X→List SV) (xpre:I→X→Prop) (nxt:I→X→I) (m:Nat) (cos:List Ob) (C:(I×Sg→AO)→Value→Ctr) (d:∀ J y,Sg→(C J y).D) (i0:I) (fin:I→Prop):Prop where
 args:∀ J y τ,(C J y).args (d J y τ)=.val y::ptrsF 0 m
 objs:∀ J y τ,(C J y).objs (d J y τ)=cos++[(m,.ab (J (i0,τ)))]
 nn:∀ J y,(C J y).nn=m+1
 pre:∀ J y τ,(yCtr xargs xpre nxt J).OkBy P (CallsV P y)→(C J y).pre (d J y τ)
 out:∀ J y τ e,(C J y).post (d J y τ) e→∃ i τ',fin i∧(C J y).out (d J y τ) e=[(m,.ab (J (i,τ')))]
section
variable {P:Program} [TabC P] {S:Sig} {σ τ:Sg} {env:Env} {objs os rest:List Ob} {nx k j:Nat} {a:Act} {w w':World} {A0:Own}
theorem nmlP_hc {s:SV} {A:Own} {τ':Sg} {cs:List Value} (h:nmlP s=true) (hv:s.hc w A τ cs):s.hc w A τ' cs:=by
 cases s<;>first
   | (simp [nmlP,flatS] at h;done)
   | exact hv
theorem nmlPs_hL {A:Own} {τ':Sg}:∀ {l:List SV} {cs:List Value},nmlPs l=true→hL w A l τ cs→hL w A l τ' cs
 | [],cs,_,hv=>hv
 | s::r,cs,h,⟨x,y,h1,h2,h3⟩=>by
   unfold nmlPs at h
   split at h
   · rename_i hs
     exact ⟨x,y,h1,nmlP_hc hs h2,nmlPs_hL h h3⟩
   · cases h
theorem nmlS_mv {M:Nat} {s:SV} {A:Own} {τ':Sg} {v:Value} (h:nmlS M s=true) (hv:s.hv w A τ v) (hp:∀ k off,s=.ptr k off→k<M→τ' k=τ k):s.hv w A τ' v:=by
 cases s<;>first
   | (simp [nmlS,flatS] at h;done)
   | exact hv
   | (obtain ⟨cs,h1,h2⟩:=hv;exact ⟨cs,h1,nmlPs_hL h h2⟩)
   | skip
 rename_i o off;simp only [SV.hv,SV.h1,SV.hc] at hv ⊢;rw [hp o off rfl (by simpa [nmlS,Nat.blt_eq] using h)]
 exact hv
theorem nmlE_mem {M:Nat}:∀ {E:Env},nmlE M E=true→∀ t s,lk E t=some s→nmlS M s=true
 | [],_,t,s,h=>by simp [lk] at h
 | (j,u)::r,h,t,s,hl=>by
   unfold nmlE at h
   split at h
   · rename_i hu
     unfold lk at hl
     split at hl
     · cases hl;exact hu
     · exact nmlE_mem h t s hl
   · cases h
theorem boxIn_mem:∀ {os:List Ob} {k:Nat},boxIn os k=true→∃ T ps,(k,SO.box T ps)∈os
 | [],k,h=>by simp [boxIn] at h
 | (j,so)::r,k,h=>by
   unfold boxIn at h
   split at h
   · rename_i e;cases e
   · rename_i e
     cases e
     split at h
     · rename_i hb
       obtain rfl:=Nat.eq_of_beq_eq_true hb;exact ⟨_,_,.head _⟩
     · obtain ⟨T,ps,hm⟩:=boxIn_mem h;exact ⟨T,ps,.tail _ hm⟩
   · rename_i e
     cases e
     obtain ⟨T,ps,hm⟩:=boxIn_mem h;exact ⟨T,ps,.tail _ hm⟩
theorem boxesE_mem {os:List Ob}:∀ {E:Env},boxesE os E=true→∀ t k off,lk E t=some (.ptr k off)→∃ T ps,(k,SO.box T ps)∈os
 | [],_,t,k,off,hl=>by simp [lk] at hl
 | (j,u)::r,h,t,k,off,hl=>by
   unfold lk at hl;unfold boxesE at h
   split at h
   · rename_i e;cases e
   · rename_i e
     cases e
     split at h
     · rename_i hb
       split at hl
       · cases hl;exact boxIn_mem hb
       · exact boxesE_mem h t k off hl
     · cases h
   · rename_i hne e
     cases e
     split at hl
     · cases hl;exact (hne _ _ _ rfl).elim
     · exact boxesE_mem h t k off hl
theorem nmlL_mem:∀ {l:List SV},nmlL l=true→∀ s∈l,nmlS 0 s=true
 | [],_,s,h=>by cases h
 | u::r,h,s,hm=>by
   unfold nmlL at h
   split at h
   · rename_i hu
     rcases List.mem_cons.1 hm with rfl|hm
     · exact hu
     · exact nmlL_mem h s hm
   · cases h
theorem psB_mem {n:Nat}:∀ {l:List Nat},psBl n l=true→∀ p∈l,p<n
 | [],_,p,h=>by cases h
 | q::r,h,p,hm=>by
   unfold psBl at h
   split at h
   · rename_i hu
     rcases List.mem_cons.1 hm with rfl|hm
     · simpa [Nat.blt_eq] using hu
     · exact psB_mem h p hm
   · cases h
theorem psE_slots {A:Own} {n:Nat}:∀ {ps:List Nat} {ss:List SV} {vs:List Value} {E:Env} {tmps:Array Value},psBl n ps=true→tmps.size=n→ps.length=ss.length→(∀ s∈ss,nmlS 0 s=true)→(∃ σ,hvs w A σ ss vs)→(∀ t s,lk E t=some s→s.hv w A τ (tmps.getD t undef)) →
   (∀ t s,lk (psEnv ps ss E) t=some s→s.hv w A τ (((ps.zip vs).foldl (fun t p=>t.setIfInBounds p.1 p.2) tmps).getD t undef))∧((ps.zip vs).foldl (fun t p=>t.setIfInBounds p.1 p.2) tmps).size=n
 | [],[],vs,E,tmps,_,hz,_,_,_,h=>⟨h,hz⟩
 | p::ps,s::ss,vs,E,tmps,hb,hz,hl,hok,⟨σ,v,m,h1,h2,h3⟩,h=>by
   subst h1;have hp:=psB_mem hb p (by simp)
   simp only [psEnv,List.zip_cons_cons,List.foldl_cons];refine psE_slots (ps:=ps) (ss:=ss) (by unfold psBl at hb;split at hb<;>first|exact hb|cases hb) (by simpa using hz) (by simpa using hl) (fun u hu=>hok u (List.mem_cons_of_mem _ hu)) ⟨σ,h3⟩ fun t u hu=>?_
   unfold lk at hu
   split at hu
   · rename_i he
     obtain rfl:=Nat.eq_of_beq_eq_true he
     cases hu
     rw [show (tmps.setIfInBounds p v).getD p undef=v by simp [Array.getD_eq_getD_getElem?,hz,hp]]
     have hs:=hok s (by simp)
     refine nmlS_mv (τ:=σ) hs ?_ fun k off e hk=>absurd hk (Nat.not_lt_zero k)
     cases s<;>first|exact h2|(simp [nmlS,flatS] at hs;done)
   · rename_i he
     have hne:p≠t:=fun e=>by rw [e,Nat.beq_refl] at he;cases he
     have:=h t u hu
     simp only [Array.getD_eq_getD_getElem?] at this ⊢;rw [Array.getElem?_setIfInBounds_ne hne];exact this
 | [],_::_,_,_,_,_,_,hl,_,_,_=>by simp at hl
 | _::_,[],_,_,_,_,_,hl,_,_,_=>by simp at hl
theorem Mod.putObj (w:World) (l:Nat) (o:Obj):Mod (fun b=>b=l) w (w.putObj l o) :=
 ⟨rfl,rfl,rfl,by simp,fun k _ hk=>World.putObj_heap_other hk⟩
theorem St.putA {l:Nat} {o:Obj} (h:St P S σ env objs nx a w) (hl:S.A0 l) (hds:l∉S.ds):St P { S with w0:=w.putObj l o,M0:=owns σ objs } σ env objs nx a (w.putObj l o):=by
 have hno:∀ b,owns σ objs b→b≠l:=fun b hb e=>(h.obs.lt b hb).2 (e▸hl)
 have hlat:Later w (S.A σ objs) (w.putObj l o) (S.A σ objs):=(Mod.putObj w l o).later (fun b hb=>.inl (hb▸hl)) (fun b _ hb=>hb)
 exact { slots := fun t s hs => (h.slots t s hs).later hlat, dom := h.dom, size := h.size, defers := h.defers
         obs:=⟨fun r hr=>(h.obs.holds r hr).later hlat fun b hb=>World.putObj_heap_other (hno b (owns_mem hr hb)),h.obs.disj,fun b hb=>by have:=h.obs.lt b hb;exact ⟨by rw [(show (w.putObj l o).heap.size=w.heap.size by simp)];exact this.1,this.2⟩⟩
         hist:=Mod.refl _ _,own0:=fun b hb=>.inl hb,a0:=fun b hb=>by rw [(show (w.putObj l o).heap.size=w.heap.size by simp)];exact h.a0 b hb
         mks:=fun D hD=>⟨(h.mks D hD).1,(World.putObj_heap_other (fun e=>hds (by first|(rw [e];exact hD)|(rw [← e];exact hD)))).trans (h.mks D hD).2⟩
         glob:=h.glob.later hlat,base:=h.base,nnx:=h.nnx }
theorem yield_of {l D:Nat} {fn:FuncId} {tmps:Array Value} {ps:Array Tmp} {ra rb:Code} {args:Array Value} {R:Ending→World→Prop} (hl:w.heap[l]?=some (.loop (recS fn tmps ps ra rb D .ready))) (hs:args.size=ps.size)
   (h:ra.wpIn (Fence.wide.inRound l) 0 P (Exit.then (fun a1 w1=>w1.heap[l]?=some (.loop (recS fn tmps ps ra rb D .ready))∧rb.wpIn (Fence.wide.inRound l) 0 P (fun e _ w3=>e=.normal∧w3.heap[l]?=some (.loop (recS fn tmps ps ra rb D .busy))∧R (.returned (.bool true)) (w3.putObj l (.loop (recS fn tmps ps ra rb D .ready)))) a1 (w1.putObj l (.loop (recS fn tmps ps ra rb D .busy)))) (fun _ _ _=>False))
     { tmps:=(ps.zip args).foldl (fun t (p,v)=>t.setIfInBounds p v) tmps,defers:=[] } w):YieldAt Fence.wide 0 P l args w R:=by
 refine ⟨fn,_,ra,rb,run_yield hl hs,roundIn_of_wpIn trivial (wpIn_mono h ?_)⟩;intro e a1 w1 hq
 cases e with
 | normal =>
   obtain ⟨h1,h2⟩:=hq;refine ⟨_,run_beginRound h1 rfl,wpIn_mono h2 ?_⟩;rintro e a3 w3 ⟨rfl,h3,h4⟩;exact ⟨_,_,run_endRound none h3,h4⟩
 | _=>exact hq.elim
theorem range_enter {n:Nat} {g:Operand} {ps:Array Tmp} {ra rb:Code} {Q:Exit→Act→World→Prop} {lb:Array Value} {f:Nat} (hg:a.eval g=.func (.func f) #[] lb) (ef:∀ args w,(callFunc f args).run P w=.ok (.enter f args) w)
   (hcall:∀ (fn:FuncId),Calls P f (#[.func (.yield (w.heap.size+1)) #[] #[]]++lb) ((w.alloc (.deferred (some []))).alloc (.loop (recS fn a.tmps ps ra rb w.heap.size .ready))) fun e w2=>(∃ v,e=.returned v)∧w2.heap[w.heap.size+1]?=some (.loop (recS fn a.tmps ps ra rb w.heap.size .ready)) ∧
     Q .normal { a with defers:=mkD w.heap.size::a.defers } (w2.putObj (w.heap.size+1) (.loop (recS fn a.tmps ps ra rb w.heap.size .exhausted)))) :
   (Code.rangeFunc g ps ra rb).wpIn Fence.wide n P Q a w:=by
 refine wpIn_rangeFunc ?_;intro fn hfn;obtain ⟨W1,hW1⟩:∃ W1,(w.alloc (.deferred (some []))).alloc (.loop (recS fn a.tmps ps ra rb w.heap.size .ready))=W1:=⟨_,rfl⟩;refine ⟨w.heap.size+1,[{ target:=.collected w.heap.size,args:=#[] }],W1,{ target:=.fn (.func f) lb,args:=#[.func (.yield (w.heap.size+1)) #[] #[]] },W1,f,#[.func (.yield (w.heap.size+1)) #[] #[]]++lb,W1,hW1▸run_enterLoop_outer _ _ _ _ _,?_,?_,?_,?_,?_⟩
 · simp only [resolve,hg]
   simp [go_sem]
 · intro f' hf';trivial
 · simp [invoke,go_sem,ef]
 · intro h;cases h
 · refine callsIn_wide.2 ((hW1▸hcall fn).mono ?_)
   rintro e w2 ⟨⟨v,rfl⟩,hl,hq⟩;exact ⟨none,_,run_endLoop hl (by simp),hq⟩
theorem fr_owns {env0:Env} {tmps:Array Value} {l:Nat} {r:Loop} {q:Prop} (b:Nat):owns σ [(k,.ab (frAO τ env0 tmps os l r q))] b↔owns τ os b∨b=l:=by simp [owns,SO.own,frAO]
theorem pack_owns {q:Prop} (b:Nat):owns σ [(k,.ab (packAO τ os q))] b↔owns τ os b:=by simp [owns,SO.own,packAO]
theorem Obs.unpack {q:Prop} (h:Obs σ A0 [(k,.ab (packAO τ os q))] w):q∧Obs τ A0 os w:=by
 obtain ⟨h1,h2,h3⟩:=h.holds _ (List.mem_singleton.2 rfl);have hl:Later w (fun b=>A0 b∨owns σ [(k,.ab (packAO τ os q))] b) w (fun b=>A0 b∨owns τ os b):=Later.own fun b hb=>hb.imp id (pack_owns b).2
 exact ⟨h1,fun o ho=>(h2 o ho).later hl (fun _ _=>rfl),h3,fun b hb=>h.lt b ((pack_owns b).2 hb)⟩
theorem Obs.pack {q:Prop} (h:Obs τ A0 os w) (hq:q):Obs σ A0 [(k,.ab (packAO τ os q))] w:=by
 have hl:Later w (fun b=>A0 b∨owns τ os b) w (fun b=>A0 b∨owns σ [(k,.ab (packAO τ os q))] b):=Later.own fun b hb=>hb.imp id (pack_owns b).1
 refine ⟨fun o ho=>?_,⟨fun b _ hb=>hb,trivial⟩,fun b hb=>h.lt b ((pack_owns b).1 hb)⟩
 obtain rfl:=List.mem_singleton.1 ho;exact ⟨hq,fun o ho=>(h.holds o ho).later hl (fun _ _=>rfl),h.disj⟩
abbrev frJ {I:Type} (E:Env) (tmps:Array Value) (O:I→List Ob) (M N l:Nat) (r:Loop) (τ0:Sg) (s:I×Sg):AO:=frAO s.2 E tmps (O s.1) l r ((∀ k,N≤k→s.2 k=none)∧∀ k,k<M→∀ v,s.2 k=some v→τ0 k=some v)
theorem yield_ok {H:Cfg} {I X:Type} {xargs:X→List SV} {xpre:I→X→Prop} {nxt:I→X→I} {O:I→List Ob} {E:Env} {M N D l:Nat} {tmps:Array Value} {fn:FuncId} {ps:Array Tmp} {ra rb:Code} {τ0:Sg} (hcs:CsOk P H.cs) (hps:psBl H.n ps.toList=true) (hE:nmlE M E=true) (hMN:M≤N) (hra:rdOk ra=true) (hrb:rdOk rb=true) (hd1:drawsOk H.dr ra=true) (hd2:drawsOk H.dr rb=true)
   (hx:∀ x,nmlL (xargs x)=true∧(xargs x).length=ps.toList.length) (hb:∀ i,boxesE (O i) E=true) (hsz:tmps.size=H.n)
   (round:∀ i x,xpre i x→Vc P { H with nn:=M } ra (psEnv ps.toList (xargs x) E) (O i) N (seqK (Vc P { H with nn:=M } rb) (roundK M (O (nxt i x)) N))) :
   (yCtr xargs xpre nxt (frJ E tmps O M N l (recS fn tmps ps ra rb D .ready) τ0)).OkBy P (CallsV P (.func (.yield l) #[] #[])):=by
 rintro ⟨⟨i,τ⟩,x⟩ hpre A0 w σ vs hA hobs hargs hdom hgl;have hpre:xpre i x:=hpre;have hargs:hvs w (Av A0 σ [(0,.ab (frJ E tmps O M N l (recS fn tmps ps ra rb D .ready) τ0 (i,τ)))]) σ (xargs x) vs:=hargs;have hobs:Obs σ A0 [(0,.ab (frJ E tmps O M N l (recS fn tmps ps ra rb D .ready) τ0 (i,τ)))] w:=hobs;obtain ⟨⟨hq1,hq2⟩,hho,hdj,hlo,hl,hsl⟩:=hobs.holds _ (List.mem_singleton.2 rfl);have hAe:∀ b,Av A0 σ [(0,.ab (frJ E tmps O M N l (recS fn tmps ps ra rb D .ready) τ0 (i,τ)))] b↔(A0 b∨owns τ (O i) b∨b=l):=fun b=>or_congr_right (fr_owns b)
 have hlt:l<w.heap.size:=(Array.getElem?_eq_some_iff.1 hl).1;have hlA:¬ A0 l:=(hobs.lt l ((fr_owns l).2 (.inr rfl))).2
 let Sa:Sig:=⟨fun b=>A0 b∨b=l,owns τ (O i),w,H.n,τ,M,[]⟩
 have hlat:Later w (Av A0 σ [(0,.ab (frJ E tmps O M N l (recS fn tmps ps ra rb D .ready) τ0 (i,τ)))]) w (Sa.A τ (O i)):=Later.own fun b hb=>(hAe b).2 (by
   rcases hb with (hb|hb)|hb
   · exact .inl hb
   · exact .inr (.inr hb)
   · exact .inr (.inl hb))
 obtain ⟨hsl2,hsz2⟩:=psE_slots (τ:=τ) hps hsz (hx x).2.symm (nmlL_mem (hx x).1) ⟨σ,hargs⟩ hsl;have hlen:vs.length=ps.size:=by
   have hlen0:∀ {A:Own} {l:List SV} {vs:List Value},hvs w A σ l vs→vs.length=l.length:=by
     intro A l
     induction l with
     | nil=>intro vs h;simp only [hvs] at h;simp [h]
     | cons s r ih=>rintro vs ⟨v,m,rfl,_,h⟩;simp [ih h]
   rw [hlen0 hargs,(hx x).2];simp
 refine ⟨l,rfl,yield_of hl (by simpa using hlen) ?_⟩
 have et:(ps.zip vs.toArray).foldl (fun t (p,v)=>t.setIfInBounds p v) tmps=(ps.toList.zip vs).foldl (fun t p=>t.setIfInBounds p.1 p.2) tmps:=by
   rw [← Array.foldl_toList,Array.toList_zip]
 rw [et];have ha:St P Sa τ (psEnv ps.toList (xargs x) E) (O i) N { tmps:=(ps.toList.zip vs).foldl (fun t p=>t.setIfInBounds p.1 p.2) tmps,defers:=[] } w :=
   { slots:=fun t s ht=>(hsl2 t s ht).later hlat,dom:=hq1,size:=hsz2,defers:=rfl
     obs:=⟨fun o ho=>(hho o ho).later hlat (fun _ _=>rfl),hdj,fun b hb=>⟨(hobs.lt b ((fr_owns b).2 (.inl hb))).1,fun h=>h.elim (hobs.lt b ((fr_owns b).2 (.inl hb))).2 (hlo b hb)⟩⟩
     hist:=Mod.refl _ _,own0:=fun b hb=>.inl hb,a0:=fun b hb=>hb.elim (hA b) (fun e=>e▸hlt),mks:=fun D hD=>(by cases hD)
     glob:=hgl.later hlat,base:=fun k _ v hv=>hv,nnx:=hMN }
 refine (round i x hpre).h (some l) hcs rfl rfl hd1 (fun _=>hra) (fun c d v a w h=>h) ?_ τ _ w ha
 intro S1 hS1 way env1 objs1 nx1 hk σ1 a1 w1 h1
 cases way with
 | ret=>unfold seqK at hk;exact hk.elim
 | exit j=>unfold seqK at hk;exact hk.elim
 | normal =>
   unfold seqK at hk;have e1:=hS1.w0;have e2:=hS1.M0;have e3:=hS1.n;have e4:=hS1.s0;have e5:=hS1.nn;have hh1:Mod (owns τ (O i)) w w1:=by have:=h1.hist;rw [e1,e2] at this;exact this
   have ho1:∀ b,owns σ1 objs1 b→owns τ (O i) b∨w.heap.size≤b:=fun b hb=>by have:=h1.own0 b hb;rw [e1,e2] at this;exact this
   have hl1:w1.heap[l]?=some (.loop (recS fn tmps ps ra rb D .ready)):=(hh1.block l hlt fun h=>hlo l h rfl).trans hl
   refine ⟨hl1,?_⟩;have hlS:S1.A0 l:=hS1.a0 l (.inr rfl);have hlt1:l<w1.heap.size:=Nat.lt_of_lt_of_le hlt hh1.size;have hb1:=h1.putA (l:=l) (o:=.loop (recS fn tmps ps ra rb D .busy)) hlS (fun hD=>(hS1.ds l hD).elim (fun h=>(by cases h)) (fun h=>absurd (show w.heap.size≤l from h) (by omega)))
   refine hk.h (S:={ S1 with w0:=w1.putObj l (.loop (recS fn tmps ps ra rb D .busy)),M0:=owns σ1 objs1 }) (some l) hcs e3.symm e5.symm hd2 (fun _=>hrb) (fun c d v a w h=>by cases h.1) ?_ σ1 a1 _ hb1
   intro S2 hS2 way env2 objs2 nx2 hk2 σ2 a2 w2 h2
   cases way with
   | ret=>exact hk2.elim
   | exit j=>exact hk2.elim
   | normal =>
     have f1:=hS2.w0;have f2:=hS2.M0;have f4:=hS2.s0;have f5:=hS2.nn;have hk2:Into0 M objs2 nx2 (O (nxt i x)) N:=hk2;rw [show M=S2.nn from (f5.trans e5).symm] at hk2;obtain ⟨σ3,h3⟩:=hk2.sound h2;have hh2:Mod (owns σ1 objs1) (w1.putObj l (.loop (recS fn tmps ps ra rb D .busy))) w2:=by have:=h3.hist;rw [f1,f2] at this;exact this
     have ho3:∀ b,owns σ3 (O (nxt i x)) b→owns τ (O i) b∨w.heap.size≤b:=fun b hb=>by
       have:=h3.own0 b hb
       rw [f1,f2] at this;rcases this with h|h
       · exact ho1 b h
       · have h:(w1.putObj l (.loop (recS fn tmps ps ra rb D .busy))).heap.size≤b:=h
         rw [show (w1.putObj l (.loop (recS fn tmps ps ra rb D .busy))).heap.size=w1.heap.size by simp] at h
         exact .inr (Nat.le_trans hh1.size h)
     have hl2:w2.heap[l]?=some (.loop (recS fn tmps ps ra rb D .busy)):=(hh2.block l (by simpa using hlt1) fun h=>(h1.obs.lt l h).2 hlS).trans (World.putObj_heap_same hlt1)
     have hlt2:l<w2.heap.size:=(Array.getElem?_eq_some_iff.1 hl2).1;have hlS2:S2.A0 l:=hS2.a0 l hlS;have hl3:(w2.putObj l (.loop (recS fn tmps ps ra rb D .ready))).heap[l]?=some (.loop (recS fn tmps ps ra rb D .ready)):=World.putObj_heap_same hlt2;have hmod:Mod (fun b=>owns τ (O i) b∨b=l) w (w2.putObj l (.loop (recS fn tmps ps ra rb D .ready))) :=
       (((hh1.mono fun b hb=>.inl hb).step (Mod.putObj w1 l _) (fun b hb=>.inl (.inr hb))).step hh2 (fun b hb=>(ho1 b hb).imp .inl id)).step (Mod.putObj w2 l _) (fun b hb=>.inl (.inr hb))
     have hA3:∀ b,Av A0 (fun _=>none) [(0,.ab (frJ E tmps O M N l (recS fn tmps ps ra rb D .ready) τ0 (nxt i x,σ3)))] b↔(A0 b∨owns σ3 (O (nxt i x)) b∨b=l):=fun b=>or_congr_right (fr_owns b)
     have hA02:∀ b,A0 b→S2.A0 b:=fun b hb=>hS2.a0 b (hS1.a0 b (.inl hb))
     have lat3:Later w2 (S2.A σ3 (O (nxt i x))) (w2.putObj l (.loop (recS fn tmps ps ra rb D .ready))) (Av A0 (fun _=>none) [(0,.ab (frJ E tmps O M N l (recS fn tmps ps ra rb D .ready) τ0 (nxt i x,σ3)))]) :=
       (Mod.putObj w2 l _).later (fun b hb=>.inl (hb▸hlS2)) (fun b _ hb=>by
         rcases (hA3 b).1 hb with h|h|h
         · exact .inl (hA02 b h)
         · exact .inr h
         · exact .inl (h▸hlS2))
     have latw:Later w (Av A0 σ [(0,.ab (frJ E tmps O M N l (recS fn tmps ps ra rb D .ready) τ0 (i,τ)))]) (w2.putObj l (.loop (recS fn tmps ps ra rb D .ready))) (Av A0 (fun _=>none) [(0,.ab (frJ E tmps O M N l (recS fn tmps ps ra rb D .ready) τ0 (nxt i x,σ3)))]) :=
       hmod.later (fun b hb=>(hAe b).2 (.inr hb)) (fun b hbl hb=>(hAe b).2 (by
         rcases (hA3 b).1 hb with h|h|h
         · exact .inl h
         · exact .inr (.inl ((ho3 b h).resolve_right (by omega)))
         · exact .inr (.inr h)))
     have hbase:∀ k,k<M→∀ v,σ3 k=some v→τ k=some v:=fun k hk v hv=>by
       have:=h3.base k (by rw [f5];show k<S1.nn;rw [e5];exact hk) v hv
       rw [f4] at this
       have:S1.s0 k=some v:=this
       rw [e4] at this;exact this
     refine ⟨rfl,hl2,(nxt i x,σ3),.bool true,fun _=>none,rfl,rfl,(fun k hk v hv=>by cases hv),(fun k _=>rfl),rfl,hmod.mono (fun b hb=>⟨rfl,(fr_owns b).2 hb⟩),⟨fun o ho=>?_,⟨fun b _ hb=>hb,trivial⟩,fun b hb=>?_⟩,fun b hb=>?_⟩
     · obtain rfl:=List.mem_singleton.1 ho
       refine ⟨⟨h3.dom,fun k hk v hv=>hq2 k hk v (hbase k hk v hv)⟩,fun o ho=>(h3.obs.holds o ho).later lat3 fun b hb=>World.putObj_heap_other fun e=>(h3.obs.lt b (owns_mem ho hb)).2 (e▸hlS2),h3.obs.disj,fun b hb e=>(h3.obs.lt b hb).2 (e▸hlS2),hl3,fun t s ht=>?_⟩
       refine nmlS_mv (τ:=τ) (nmlE_mem hE t s ht) ((hsl t s ht).later latw) fun k off e hk=>?_
       subst e;obtain ⟨T,qs,hm⟩:=boxesE_mem (hb (nxt i x)) t k off ht;obtain ⟨b,cs,hσ,_⟩:=h3.obs.holds _ hm;have hσ:σ3 k=_:=hσ;show σ3 k=τ k;rw [hσ,hbase k hk _ hσ]
     · rcases (fr_owns b).1 hb with hb|rfl
       · have:=h3.obs.lt b hb
         exact ⟨by rw [show (w2.putObj l (.loop (recS fn tmps ps ra rb D .ready))).heap.size=w2.heap.size by simp];exact this.1,fun h=>this.2 (hA02 b h)⟩
       · exact ⟨by rw [show (w2.putObj b (.loop (recS fn tmps ps ra rb D .ready))).heap.size=w2.heap.size by simp];exact hlt2,hlA⟩
     · rcases (fr_owns b).1 hb with hb|rfl
       · exact (ho3 b hb).imp (fun h=>(fr_owns b).2 (.inl h)) id
       · exact .inl ((fr_owns b).2 (.inr rfl))
variable (P) in
inductive RangeS (H:Cfg) (v:Value) (ps:List Nat) (ra rb:Code) (env:Env) (objs:List Ob) (nx:Nat) (K:KW):Prop
 | mk {I X:Type} {xargs:X→List SV} {xpre:I→X→Prop} {nxt:I→X→I} {m:Nat} {cos:List Ob} {C:(I×Sg→AO)→Value→Ctr} {d:∀ J y,Sg→(C J y).D} {i0:I} {fin:I→Prop}
     (law:CloLaw P xargs xpre nxt m cos C d i0 fin) (f:Nat) (hC:∀ J y,(C J y).Ok P f) (τc:Sg) (k:Nat) (rest:List Ob) (hrm:rmO objs k=some (.ab (packAO τc cos (cloQ f m τc v)),rest))
     (E:Env) (O:I→List Ob) (M N:Nat) (hcl:nth (TabC.cl P) f=some true) (chk:(psBl H.n ps&&nmlE M E&&Nat.ble H.nn M&&Nat.ble M N&&rdOk ra&&rdOk rb)=true)
     (hx:∀ x,nmlL (xargs x)=true∧(xargs x).length=ps.length) (hb:∀ i,boxesE (O i) E=true)
     (hin:Into H.nn env rest nx E (O i0) N)
     (round:∀ i x,xpre i x→Vc P { H with nn:=M } ra (psEnv ps (xargs x) E) (O i) N (seqK (Vc P { H with nn:=M } rb) (roundK M (O (nxt i x)) N)))
     (last:∀ i,fin i→K .normal E (O i) N)
theorem ptrs_hvs {A:Own}:∀ {l:List Value} {k:Nat},(∀ i,i<l.length→σ (k+i)=l[i]?)→(∀ u∈l,∃ b,u=.pointer (some ⟨b,0,none⟩))→hvs w A σ (ptrsF k l.length) l
 | [],k,_,_=>rfl
 | u::r,k,h,hp=>by
   obtain ⟨b,rfl⟩:=hp u (by simp)
   refine ⟨_,r,rfl,⟨b,0,by simpa using h 0 (by simp),rfl⟩,ptrs_hvs (fun i hi=>?_) fun u hu=>hp u (List.mem_cons_of_mem _ hu)⟩
   have:=h (i+1) (by simp only [List.length_cons];omega)
   rw [show k+1+i=k+(i+1) by omega,this];simp
theorem RangeS.sound {H:Cfg} {v:Value} {ps:Array Tmp} {ra rb:Code} {K:KW} {g:Operand} {Q:Exit→Act→World→Prop} (h:RangeS P H v ps.toList ra rb env objs nx K) (hcs:CsOk P H.cs) (hn:H.n=S.n) (hnn:H.nn=S.nn) (hd1:drawsOk H.dr ra=true) (hd2:drawsOk H.dr rb=true)
   (hK:∀ S',S.Le S'→∀ way env objs nx,K way env objs nx→Pr P S' env objs nx (Q (exW way))) (hst:St P S σ env objs nx a w) (hg:a.eval g=v):(Code.rangeFunc g ps ra rb).wpIn Fence.wide 0 P Q a w:=by
 obtain @⟨I,X,xargs,xpre,nxt,m,cos,C,d,i0,fin,law,f,hC,τc,k,rest,hrm,E,O,M,N,hcl,chk,hx,hb,hin,round,last⟩:=h;simp only [Bool.and_eq_true,Nat.ble_eq] at chk;obtain ⟨⟨⟨⟨⟨hps,hE⟩,hnM⟩,hMN⟩,hra⟩,hrb⟩:=chk;have hp:=hst.perm (rmO_perm hrm);obtain ⟨⟨lb,hlen,hlb,hptr,hv,hdomc⟩,hch,hcd⟩:=(show (packAO τc cos (cloQ f m τc v)).holds w (S.A σ ((k,SO.ab (packAO τc cos (cloQ f m τc v)))::rest)) from hp.obs.holds _ (List.mem_cons_self ..));have hloc:=St.local (tk:=[(k,SO.ab (packAO τc cos (cloQ f m τc v)))]) hp;rw [hnn] at hin
 let Sl:Sig:=⟨fun b=>S.A0 b∨owns σ [(k,SO.ab (packAO τc cos (cloQ f m τc v)))] b,owns σ rest,w,S.n,S.s0,S.nn,S.ds⟩
 obtain ⟨τ0,h0⟩:=Into.sound (S:=Sl) hin hloc;have ef:∀ args w,(callFunc f args).run P w=.ok (.enter f args) w:=by
   obtain ⟨fn,h1,h2,h3⟩:=call_spec (P:=P) hcl;have h4:¬ fn.body=none:=by intro e;rw [e] at h3;cases h3
   have h5 : ¬ fn.name = "runtime.NumGoroutine" := by simpa using h2
   intro args w
   simp [callFunc,h1,h5,h4]
 refine range_enter (hg.trans hv) ef fun fn=>?_
 let W0:=w.alloc (.deferred (some []))
 let rc:LoopState→Loop:=recS fn a.tmps ps ra rb w.heap.size
 let W1:=W0.alloc (.loop (rc .ready))
 let l:=w.heap.size+1
 have hz0:W0.heap.size=w.heap.size+1:=World.size_alloc _ _;have hz1:W1.heap.size=w.heap.size+2:=by show (W0.alloc _).heap.size=_;rw [World.size_alloc,hz0]
 have hD1:W1.heap[w.heap.size]?=some (.deferred (some [])):=(Below.heap_alloc _ _ _ (by omega)).trans (World.alloc_heap_new _ _)
 have hl1:W1.heap[l]?=some (.loop (rc .ready)):=by
   have:=World.alloc_heap_new W0 (.loop (rc .ready))
   rw [hz0] at this;exact this
 have hk1:Kept w W1:=(Mod.alloc _ w _).trans (Mod.alloc _ W0 _)
 let J:I×Sg→AO:=frJ E a.tmps O M N l (rc .ready) τ0
 have hJo:∀ s b,(J s).own b↔owns s.2 (O s.1) b∨b=l:=fun s b=>Iff.rfl
 have hoc:∀ (s:I×Sg) b,owns τc (cos++[(m,SO.ab (J s))]) b↔owns τc cos b∨owns s.2 (O s.1) b∨b=l:=fun s b=>by
   rw [owns_append];exact or_congr_right (fr_owns b)
 have hown0:∀ b,owns σ ((k,SO.ab (packAO τc cos (cloQ f m τc v)))::rest) b↔owns τc cos b∨owns σ rest b:=fun b=>Iff.rfl
 have hOr:∀ b,owns τ0 (O i0) b→owns σ rest b:=fun b hb=>(h0.own0 b hb).resolve_right fun h=>by have:=(h0.obs.lt b hb).1;exact absurd h (by simpa using this)
 have hcoslt:∀ b,owns τc cos b→b<w.heap.size∧¬ S.A0 b:=fun b hb=>hp.obs.lt b ((hown0 b).2 (.inl hb))
 have hOlt:∀ b,owns τ0 (O i0) b→b<w.heap.size∧¬ S.A0 b:=fun b hb=>hp.obs.lt b ((hown0 b).2 (.inr (hOr b hb)))
 have hcO:∀ b,owns τc cos b→¬ owns τ0 (O i0) b:=fun b hb h=>hp.obs.disj.1 b hb (hOr b h)
 let A1:Own:=fun b=>S.A0 b∨b=w.heap.size
 have hlatO:Later w (fun b=>(S.A0 b∨owns σ [(k,SO.ab (packAO τc cos (cloQ f m τc v)))] b)∨owns τ0 (O i0) b) W1 (Av A1 τc (cos++[(m,SO.ab (J (i0,τ0)))])) :=
   hk1.later _ fun b hbl hb=>by
     rcases hb with (hb|hb)|hb
     · exact .inl (.inl hb)
     · omega
     · rcases (hoc _ b).1 hb with h|h|h
       · exact .inl (.inr ((pack_owns b).2 h))
       · exact .inr h
       · omega
 have hlatc:Later w (S.A σ ((k,SO.ab (packAO τc cos (cloQ f m τc v)))::rest)) W1 (Av A1 τc (cos++[(m,SO.ab (J (i0,τ0)))])) :=
   hk1.later _ fun b hbl hb=>by
     rcases hb with (hb|hb)|hb
     · exact .inl hb
     · omega
     · rcases (hoc _ b).1 hb with h|h|h
       · exact .inr ((hown0 b).2 (.inl h))
       · exact .inr ((hown0 b).2 (.inr (hOr b h)))
       · omega
 have hobs1:Obs τc A1 (cos++[(m,SO.ab (J (i0,τ0)))]) W1:=by
   refine ⟨fun o ho=>?_,Disj_append.2 ⟨hcd,⟨fun b _ hb=>hb,trivial⟩,fun b hb hb'=>?_⟩,fun b hb=>?_⟩
   · rcases List.mem_append.1 ho with ho|ho
     · exact (hch o ho).later hlatc fun b hb=>hk1.block b (hcoslt b (owns_mem ho hb)).1 id
     · obtain rfl:=List.mem_singleton.1 ho
       exact ⟨⟨h0.dom,fun _ _ _ hv=>hv⟩,fun o ho=>(h0.obs.holds o ho).later hlatO fun b hb=>hk1.block b (hOlt b (owns_mem ho hb)).1 id,h0.obs.disj,fun b hb e=>by have:=(hOlt b hb).1;omega,hl1,fun t s ht=>(h0.slots t s ht).later hlatO⟩
   · rcases (fr_owns b).1 hb' with h|h
     · exact hcO b hb h
     · have:=(hcoslt b hb).1;omega
   · rcases (hoc _ b).1 hb with h|h|h
     · have:=hcoslt b h;exact ⟨by omega,fun hx=>hx.elim this.2 (fun e=>by omega)⟩
     · have:=hOlt b h;exact ⟨by omega,fun hx=>hx.elim this.2 (fun e=>by omega)⟩
     · exact ⟨by omega,fun hx=>hx.elim (fun hx=>by have:=hst.a0lt b hx;omega) (fun e=>by omega)⟩
 have hy:(yCtr xargs xpre nxt J).OkBy P (CallsV P (.func (.yield l) #[] #[])):=yield_ok hcs hps hE hMN hra hrb hd1 hd2 hx hb (by rw [hst.size];exact hn.symm) round
 have call:=hC J (.func (.yield l) #[] #[]) (d J (.func (.yield l) #[] #[]) τ0) (law.pre J _ τ0 hy) A1 W1 τc (.func (.yield l) #[] #[]::lb);rw [law.objs,law.args,law.nn] at call;have call:=call (fun b hb=>hb.elim (fun h=>by have:=hst.a0lt b h;omega) (fun e=>by omega)) hobs1
   ⟨_,lb,rfl,⟨rfl,rfl⟩,hlen▸ptrs_hvs (fun i hi=>by rw [Nat.zero_add];exact hlb i (hlen▸hi)) hptr⟩ (fun k hk=>hdomc k (by omega)) (hp.glob.later hlatc)
 have ea:(Value.func (Fn.yield l) #[] #[]::lb).toArray=#[Value.func (Fn.yield (w.heap.size+1)) #[] #[]]++lb.toArray:=by simp;rfl
 rw [ea] at call;refine call.mono ?_;rintro e w2 ⟨e',vr,σ',rfl,hpost,_,_,_,hmod,hobs2,hnew⟩;obtain ⟨i,τ',hfin,hout⟩:=law.out J _ τ0 e' hpost;rw [hout] at hobs2 hnew;obtain ⟨⟨hq1,hq2⟩,hho,hdj,hlo,hl2,hsl⟩:=(show (J (i,τ')).holds w2 (Av A1 σ' [(m,SO.ab (J (i,τ')))]) from hobs2.holds _ (List.mem_singleton.2 rfl));refine ⟨⟨vr,rfl⟩,hl2,?_⟩;have hlt2:l<w2.heap.size:=(Array.getElem?_eq_some_iff.1 hl2).1;have hA2:∀ b,Av A1 σ' [(m,SO.ab (J (i,τ')))] b↔(A1 b∨owns τ' (O i) b∨b=l):=fun b=>or_congr_right (fr_owns b)
 have hmod1:Mod (owns τc (cos++[(m,SO.ab (J (i0,τ0)))])) W1 w2:=hmod.mono fun b hb=>hb.2
 have hnew1:∀ b,owns τ' (O i) b→owns τc cos b∨owns τ0 (O i0) b∨w.heap.size≤b:=fun b hb=>by
   rcases hnew b ((fr_owns b).2 (.inl hb)) with h|h
   · rcases (hoc _ b).1 h with h|h|h
     · exact .inl h
     · exact .inr (.inl h)
     · exact .inr (.inr (by omega))
   · exact .inr (.inr (by omega))
 let w3:=w2.putObj l (.loop (rc .exhausted))
 have hz3:w3.heap.size=w2.heap.size:=by show (w2.putObj l _).heap.size=_;simp
 have hmodw:Mod (fun b=>owns τc cos b∨owns τ0 (O i0) b) w w3 :=
   ((hk1.mod _).step hmod1 (fun b hb=>by
     rcases (hoc _ b).1 hb with h|h|h
     · exact .inl (.inl h)
     · exact .inl (.inr h)
     · exact .inr (by omega))).step (Mod.putObj w2 l _) (fun b hb=>.inr (by omega))
 let S3:Sig:={ S with A0:=A1,ds:=w.heap.size::S.ds }
 have lat23:Later w2 (Av A1 σ' [(m,SO.ab (J (i,τ')))]) w3 (S3.A τ' (O i)):=(Mod.putObj w2 l _).later (fun b hb=>(hA2 b).2 (.inr (.inr hb))) fun b _ hb=>(hA2 b).2 (hb.imp id .inl)
 have lat03:Later w (S.A σ ((k,SO.ab (packAO τc cos (cloQ f m τc v)))::rest)) w3 (S3.A τ' (O i)) :=
   hmodw.later (fun b hb=>.inr ((hown0 b).2 (hb.imp id (hOr b)))) fun b hbl hb=>by
     rcases hb with (hb|hb)|hb
     · exact .inl hb
     · omega
     · rcases hnew1 b hb with h|h|h
       · exact .inr ((hown0 b).2 (.inl h))
       · exact .inr ((hown0 b).2 (.inr (hOr b h)))
       · omega
 have hkeepD:∀ D',A1 D'→D'<w2.heap.size→D'≠l→D'<W1.heap.size→w3.heap[D']?=W1.heap[D']?:=fun D' hA' _ hne hlt=>(World.putObj_heap_other hne).trans (hmod1.block D' hlt fun ho=>(hobs1.lt D' ho).2 hA')
 have hsize12:W1.heap.size≤w2.heap.size:=hmod1.size;refine hK S3 ⟨rfl,rfl,rfl,rfl,rfl,fun b hb=>.inl hb,fun b hb=>hb.imp id (fun e=>by rw [e];exact hst.hist.size),fun D' hD=>?_,fun hnd=>?_⟩ .normal E (O i) N (last i hfin) τ' _ w3 ?_
 · rcases List.mem_cons.1 hD with rfl|hD
   · exact .inr hst.hist.size
   · exact .inl hD
 · refine List.nodup_cons.2 ⟨fun hD=>?_,hnd⟩
   have:=hst.a0lt _ (hst.mks _ hD).1;omega
 · exact
     { slots:=fun t s ht=>(hsl t s ht).later lat23
       dom:=hq1,size:=hst.size,defers:=by show mkD w.heap.size::a.defers=_;rw [hst.defers];rfl
       obs:=⟨fun o ho=>(hho o ho).later lat23 fun b hb=>World.putObj_heap_other fun e=>hlo b (owns_mem ho hb) e,hdj,fun b hb=>by
         have:=hobs2.lt b ((fr_owns b).2 (.inl hb))
         exact ⟨by rw [hz3];exact this.1,this.2⟩⟩
       hist:=hst.hist.step hmodw fun b hb=>hp.own0 b ((hown0 b).2 (hb.imp id (hOr b)))
       own0:=fun b hb=>by
         rcases hnew1 b hb with h|h|h
         · exact hp.own0 b ((hown0 b).2 (.inl h))
         · exact hp.own0 b ((hown0 b).2 (.inr (hOr b h)))
         · exact .inr (Nat.le_trans hst.hist.size h)
       a0:=fun b hb=>by
         rw [hz3];rcases hb with hb|hb
         · have:=hst.a0lt b hb;omega
         · omega
       mks:=fun D' hD=>by
         rcases List.mem_cons.1 hD with rfl|hD
         · exact ⟨.inr rfl,(hkeepD _ (.inr rfl) (by omega) (by omega) (by omega)).trans hD1⟩
         · have h1:=hst.mks D' hD
           have h2:=hst.a0lt _ h1.1;exact ⟨.inl h1.1,(hkeepD _ (.inl h1.1) (by omega) (by omega) (by omega)).trans ((hk1.block D' h2 id).trans h1.2)⟩
       glob:=hp.glob.later lat03
       base:=fun k hk v hv=>h0.base k hk v (hq2 k (Nat.lt_of_lt_of_le (hnn▸hk) hnM) v hv)
       nnx:=by rw [← hnn];exact Nat.le_trans hnM hMN }
end
def jcode:Way→Option Code
 | .normal=>none
 | .ret=>some .ret
 | .exit i=>some (.exit i)
def isN:Way→Bool
 | .normal=>true
 | _=>false
theorem isN_code (w:Way):(jcode w).isNone=isN w:=by cases w<;>rfl
abbrev recJ (fn:FuncId) (tmps:Array Value) (ps:Array Tmp) (ra rb:Code) (D:Nat) (j:Way):Loop:={ state:=if (jcode j).isNone then .ready else .done,pending:=jcode j,fn,tmps,params:=ps,assign:=ra,body:=rb,defers:=D }
def yCtrJ {I X:Type} (xargs:X→List SV) (xpre:I→X→Prop) (nxt:I→X→I→Prop) (jmp:I→Way) (J:I×Sg→AO):Ctr where
 D:=(I×Sg)×X
 pre:=fun (s,x)=>xpre s.1 x
 args:=fun (_,x)=>xargs x
 objs:=fun (s,_)=>[(0,.ab (J s))]
 nn:=1
 E:=I×Sg
 post:=fun (s,x) s'=>nxt s.1 x s'.1
 res:=fun _ s'=>.dec (isN (jmp s'.1)=true) inferInstance
 out:=fun _ s'=>[(0,.ab (J s'))]
def roundKJ {I:Type} (R:I→Prop) (M:Nat) (O:I→List Ob) (N:Nat) (jmp:I→Way):KW:=fun way env objs nx=>∃ j,R j∧Into0 M objs nx (O j) N∧jmp j=way
def asgK (B:Env→List Ob→Nat→KW→Prop) (K:KW):KW:=fun way env objs nx=>match way with
 | .normal=>B env objs nx K
 | _=>False
structure CloLawJ (P:Program) [TabC P] {I X:Type} (xargs:X→List SV) (xpre:I→X→Prop) (nxt:I→X→I→Prop) (jmp:I→Way) (m:Nat) (cos:List Ob) (C:(I×Sg→AO)→Value→Ctr) (d:∀ J y,Sg→(C J y).D) (i0:I) (fin:I→Prop):Prop where
 args:∀ J y τ,(C J y).args (d J y τ)=.val y::ptrsF 0 m
 objs:∀ J y τ,(C J y).objs (d J y τ)=cos++[(m,.ab (J (i0,τ)))]
 nn:∀ J y,(C J y).nn=m+1
 pre:∀ J y τ,(yCtrJ xargs xpre nxt jmp J).OkBy P (CallsV P y)→(C J y).pre (d J y τ)
 out:∀ J y τ e,(C J y).post (d J y τ) e→∃ i τ',fin i∧(C J y).out (d J y τ) e=[(m,.ab (J (i,τ')))]
def exJ:Exit→Option Way
 | .normal=>some .normal
 | .ret=>some .ret
 | .exit i=>some (.exit i)
 | _=>none
theorem exJ_W (w:Way):exJ (exW w)=some w:=by cases w<;>rfl
abbrev frJJ {I:Type} (E:Env) (tmps:Array Value) (O:I→List Ob) (M N l:Nat) (r:I→Loop) (τ0:Sg) (s:I×Sg):AO:=frAO s.2 E tmps (O s.1) l (r s.1) ((∀ k,N≤k→s.2 k=none)∧∀ k,k<M→∀ v,s.2 k=some v→τ0 k=some v)
section
variable {P:Program} [TabC P] {S:Sig} {σ τ:Sg} {env:Env} {objs os rest:List Ob} {nx k j:Nat} {a:Act} {w w':World} {A0:Own}
theorem yield_ofJ {l D:Nat} {fn:FuncId} {tmps:Array Value} {ps:Array Tmp} {ra rb:Code} {args:Array Value} {R:Ending→World→Prop} (hl:w.heap[l]?=some (.loop (recS fn tmps ps ra rb D .ready))) (hs:args.size=ps.size)
   (h:ra.wpIn (Fence.wide.inRound l) 0 P (Exit.then (fun a1 w1=>w1.heap[l]?=some (.loop (recS fn tmps ps ra rb D .ready))∧rb.wpIn (Fence.wide.inRound l) 0 P (fun e _ w3=>∃ j,exJ e=some j∧w3.heap[l]?=some (.loop (recS fn tmps ps ra rb D .busy))∧R (.returned (.bool (jcode j).isNone)) (w3.putObj l (.loop (recJ fn tmps ps ra rb D j)))) a1 (w1.putObj l (.loop (recS fn tmps ps ra rb D .busy)))) (fun _ _ _=>False))
     { tmps:=(ps.zip args).foldl (fun t (p,v)=>t.setIfInBounds p v) tmps,defers:=[] } w):YieldAt Fence.wide 0 P l args w R:=by
 refine ⟨fn,_,ra,rb,run_yield hl hs,roundIn_of_wpIn trivial (wpIn_mono h ?_)⟩;intro e a1 w1 hq
 cases e with
 | normal =>
   obtain ⟨h1,h2⟩:=hq;refine ⟨_,run_beginRound h1 rfl,wpIn_mono h2 ?_⟩;rintro e a3 w3 ⟨j,he,h3,h4⟩
   cases e with
   | normal=>cases he;exact ⟨_,_,run_endRound none h3,h4⟩
   | ret=>cases he;exact ⟨_,_,run_endRound (some .ret) h3,h4⟩
   | exit i=>cases he;exact ⟨_,_,run_endRound (some (.exit i)) h3,h4⟩
   | _=>cases he
 | _=>exact hq.elim
theorem range_enterJ {n:Nat} {g:Operand} {ps:Array Tmp} {ra rb:Code} {Q:Exit→Act→World→Prop} {lb:Array Value} {f:Nat} (hg:a.eval g=.func (.func f) #[] lb) (ef:∀ args w,(callFunc f args).run P w=.ok (.enter f args) w)
   (hcall:∀ (fn:FuncId),Calls P f (#[.func (.yield (w.heap.size+1)) #[] #[]]++lb) ((w.alloc (.deferred (some []))).alloc (.loop (recS fn a.tmps ps ra rb w.heap.size .ready))) fun e w2=>(∃ v,e=.returned v)∧∃ j,w2.heap[w.heap.size+1]?=some (.loop (recJ fn a.tmps ps ra rb w.heap.size j)) ∧
     Q (exW j) { a with defers:=mkD w.heap.size::a.defers } (w2.putObj (w.heap.size+1) (.loop { recJ fn a.tmps ps ra rb w.heap.size j with state:=.exhausted }))) :
   (Code.rangeFunc g ps ra rb).wpIn Fence.wide n P Q a w:=by
 refine wpIn_rangeFunc ?_;intro fn hfn;obtain ⟨W1,hW1⟩:∃ W1,(w.alloc (.deferred (some []))).alloc (.loop (recS fn a.tmps ps ra rb w.heap.size .ready))=W1:=⟨_,rfl⟩;refine ⟨w.heap.size+1,[{ target:=.collected w.heap.size,args:=#[] }],W1,{ target:=.fn (.func f) lb,args:=#[.func (.yield (w.heap.size+1)) #[] #[]] },W1,f,#[.func (.yield (w.heap.size+1)) #[] #[]]++lb,W1,hW1▸run_enterLoop_outer _ _ _ _ _,?_,?_,?_,?_,?_⟩
 · simp only [resolve,hg]
   simp [go_sem]
 · intro f' hf';trivial
 · simp [invoke,go_sem,ef]
 · intro h;cases h
 · refine callsIn_wide.2 ((hW1▸hcall fn).mono ?_)
   rintro e w2 ⟨⟨v,rfl⟩,j,hl,hq⟩;refine ⟨jcode j,_,run_endLoop hl (by cases j<;>simp [jcode]),?_⟩
   cases j with
   | normal=>exact hq
   | ret=>exact wpIn_ret hq
   | exit i=>exact wpIn_exit hq
theorem yield_okJ {H:Cfg} {I X:Type} {xargs:X→List SV} {xpre:I→X→Prop} {nxt:I→X→I→Prop} {jmp:I→Way} {O:I→List Ob} {E:Env} {M N D l:Nat} {tmps:Array Value} {fn:FuncId} {ps:Array Tmp} {ra rb:Code} {τ0:Sg} (hcs:CsOk P H.cs) (hps:psBl H.n ps.toList=true) (hE:nmlE M E=true) (hMN:M≤N) (hra:rdOk ra=true) (hrb:rdOk rb=true) (hd1:drawsOk H.dr ra=true) (hd2:drawsOk H.dr rb=true)
   (hx:∀ x,nmlL (xargs x)=true∧(xargs x).length=ps.toList.length) (hb:∀ i,boxesE (O i) E=true) (hsz:tmps.size=H.n) (hx0:∀ i x,xpre i x→jmp i=.normal)
   (round:∀ i x,xpre i x→Vc P { H with nn:=M } ra (psEnv ps.toList (xargs x) E) (O i) N (asgK (Vc P { H with nn:=M } rb) (roundKJ (nxt i x) M O N jmp))) :
   (yCtrJ xargs xpre nxt jmp (frJJ E tmps O M N l (fun i=>recJ fn tmps ps ra rb D (jmp i)) τ0)).OkBy P (CallsV P (.func (.yield l) #[] #[])):=by
 rintro ⟨⟨i,τ⟩,x⟩ hpre A0 w σ vs hA hobs hargs hdom hgl;have hpre:xpre i x:=hpre;have hargs:hvs w (Av A0 σ [(0,.ab (frJJ E tmps O M N l (fun i=>recJ fn tmps ps ra rb D (jmp i)) τ0 (i,τ)))]) σ (xargs x) vs:=hargs
 have hobs:Obs σ A0 [(0,.ab (frJJ E tmps O M N l (fun i=>recJ fn tmps ps ra rb D (jmp i)) τ0 (i,τ)))] w:=hobs
 obtain ⟨⟨hq1,hq2⟩,hho,hdj,hlo,hl,hsl⟩:=hobs.holds _ (List.mem_singleton.2 rfl);have hl:w.heap[l]?=some (.loop (recS fn tmps ps ra rb D .ready)):=by
   have h:=hl;dsimp only at h;rw [hx0 i x hpre] at h;exact h
 have hAe:∀ b,Av A0 σ [(0,.ab (frJJ E tmps O M N l (fun i=>recJ fn tmps ps ra rb D (jmp i)) τ0 (i,τ)))] b↔(A0 b∨owns τ (O i) b∨b=l):=fun b=>or_congr_right (fr_owns b)
 have hlt:l<w.heap.size:=(Array.getElem?_eq_some_iff.1 hl).1;have hlA:¬ A0 l:=(hobs.lt l ((fr_owns l).2 (.inr rfl))).2
 let Sa:Sig:=⟨fun b=>A0 b∨b=l,owns τ (O i),w,H.n,τ,M,[]⟩
 have hlat:Later w (Av A0 σ [(0,.ab (frJJ E tmps O M N l (fun i=>recJ fn tmps ps ra rb D (jmp i)) τ0 (i,τ)))]) w (Sa.A τ (O i)):=Later.own fun b hb=>(hAe b).2 (by
   rcases hb with (hb|hb)|hb
   · exact .inl hb
   · exact .inr (.inr hb)
   · exact .inr (.inl hb))
 obtain ⟨hsl2,hsz2⟩:=psE_slots (τ:=τ) hps hsz (hx x).2.symm (nmlL_mem (hx x).1) ⟨σ,hargs⟩ hsl;have hlen:vs.length=ps.size:=by
   have hlen0:∀ {A:Own} {l:List SV} {vs:List Value},hvs w A σ l vs→vs.length=l.length:=by
     intro A l
     induction l with
     | nil=>intro vs h;simp only [hvs] at h;simp [h]
     | cons s r ih=>rintro vs ⟨v,m,rfl,_,h⟩;simp [ih h]
   rw [hlen0 hargs,(hx x).2];simp
 refine ⟨l,rfl,yield_ofJ hl (by simpa using hlen) ?_⟩
 have et:(ps.zip vs.toArray).foldl (fun t (p,v)=>t.setIfInBounds p v) tmps=(ps.toList.zip vs).foldl (fun t p=>t.setIfInBounds p.1 p.2) tmps:=by
   rw [← Array.foldl_toList,Array.toList_zip]
 rw [et];have ha:St P Sa τ (psEnv ps.toList (xargs x) E) (O i) N { tmps:=(ps.toList.zip vs).foldl (fun t p=>t.setIfInBounds p.1 p.2) tmps,defers:=[] } w :=
   { slots:=fun t s ht=>(hsl2 t s ht).later hlat,dom:=hq1,size:=hsz2,defers:=rfl
     obs:=⟨fun o ho=>(hho o ho).later hlat (fun _ _=>rfl),hdj,fun b hb=>⟨(hobs.lt b ((fr_owns b).2 (.inl hb))).1,fun h=>h.elim (hobs.lt b ((fr_owns b).2 (.inl hb))).2 (hlo b hb)⟩⟩
     hist:=Mod.refl _ _,own0:=fun b hb=>.inl hb,a0:=fun b hb=>hb.elim (hA b) (fun e=>e▸hlt),mks:=fun D hD=>(by cases hD)
     glob:=hgl.later hlat,base:=fun k _ v hv=>hv,nnx:=hMN }
 refine (round i x hpre).h (some l) hcs rfl rfl hd1 (fun _=>hra) (fun c d v a w h=>h) ?_ τ _ w ha
 intro S1 hS1 way env1 objs1 nx1 hk σ1 a1 w1 h1
 cases way with
 | ret=>exact hk.elim
 | exit j=>exact hk.elim
 | normal =>
   have hk:Vc P { H with nn:=M } rb env1 objs1 nx1 (roundKJ (nxt i x) M O N jmp):=hk;have e1:=hS1.w0;have e2:=hS1.M0;have e3:=hS1.n;have e4:=hS1.s0;have e5:=hS1.nn;have hh1:Mod (owns τ (O i)) w w1:=by have:=h1.hist;rw [e1,e2] at this;exact this
   have ho1:∀ b,owns σ1 objs1 b→owns τ (O i) b∨w.heap.size≤b:=fun b hb=>by have:=h1.own0 b hb;rw [e1,e2] at this;exact this
   have hl1:w1.heap[l]?=some (.loop (recS fn tmps ps ra rb D .ready)):=(hh1.block l hlt fun h=>hlo l h rfl).trans hl
   refine ⟨hl1,?_⟩;have hlS:S1.A0 l:=hS1.a0 l (.inr rfl);have hlt1:l<w1.heap.size:=Nat.lt_of_lt_of_le hlt hh1.size;have hb1:=h1.putA (l:=l) (o:=.loop (recS fn tmps ps ra rb D .busy)) hlS (fun hD=>(hS1.ds l hD).elim (fun h=>(by cases h)) (fun h=>absurd (show w.heap.size≤l from h) (by omega)))
   refine hk.h (S:={ S1 with w0:=w1.putObj l (.loop (recS fn tmps ps ra rb D .busy)),M0:=owns σ1 objs1 }) (some l) hcs e3.symm e5.symm hd2 (fun _=>hrb) (fun c d v a w h=>by obtain ⟨j,hj,_⟩:=h;cases hj) ?_ σ1 a1 _ hb1
   intro S2 hS2 way env2 objs2 nx2 hk2 σ2 a2 w2 h2;have hk2:∃ j,nxt i x j∧Into0 M objs2 nx2 (O j) N∧jmp j=way:=hk2;obtain ⟨jj,hjn,hk3,hjw⟩:=hk2;subst hjw;have f1:=hS2.w0;have f2:=hS2.M0;have f4:=hS2.s0;have f5:=hS2.nn;rw [show M=S2.nn from (f5.trans e5).symm] at hk3;obtain ⟨σ3,h3⟩:=hk3.sound h2;have hh2:Mod (owns σ1 objs1) (w1.putObj l (.loop (recS fn tmps ps ra rb D .busy))) w2:=by have:=h3.hist;rw [f1,f2] at this;exact this
   have ho3:∀ b,owns σ3 (O jj) b→owns τ (O i) b∨w.heap.size≤b:=fun b hb=>by
     have:=h3.own0 b hb
     rw [f1,f2] at this;rcases this with h|h
     · exact ho1 b h
     · have h:(w1.putObj l (.loop (recS fn tmps ps ra rb D .busy))).heap.size≤b:=h
       rw [show (w1.putObj l (.loop (recS fn tmps ps ra rb D .busy))).heap.size=w1.heap.size by simp] at h
       exact .inr (Nat.le_trans hh1.size h)
   have hl2:w2.heap[l]?=some (.loop (recS fn tmps ps ra rb D .busy)):=(hh2.block l (by simpa using hlt1) fun h=>(h1.obs.lt l h).2 hlS).trans (World.putObj_heap_same hlt1)
   have hlt2:l<w2.heap.size:=(Array.getElem?_eq_some_iff.1 hl2).1;have hlS2:S2.A0 l:=hS2.a0 l hlS;have hl3:(w2.putObj l (.loop (recJ fn tmps ps ra rb D (jmp jj)))).heap[l]?=some (.loop (recJ fn tmps ps ra rb D (jmp jj))):=World.putObj_heap_same hlt2;have hmod:Mod (fun b=>owns τ (O i) b∨b=l) w (w2.putObj l (.loop (recJ fn tmps ps ra rb D (jmp jj)))) :=
     (((hh1.mono fun b hb=>.inl hb).step (Mod.putObj w1 l _) (fun b hb=>.inl (.inr hb))).step hh2 (fun b hb=>(ho1 b hb).imp .inl id)).step (Mod.putObj w2 l _) (fun b hb=>.inl (.inr hb))
   have hA3:∀ b,Av A0 (fun _=>none) [(0,.ab (frJJ E tmps O M N l (fun i=>recJ fn tmps ps ra rb D (jmp i)) τ0 (jj,σ3)))] b↔(A0 b∨owns σ3 (O jj) b∨b=l):=fun b=>or_congr_right (fr_owns b)
   have hA02:∀ b,A0 b→S2.A0 b:=fun b hb=>hS2.a0 b (hS1.a0 b (.inl hb))
   have lat3:Later w2 (S2.A σ3 (O jj)) (w2.putObj l (.loop (recJ fn tmps ps ra rb D (jmp jj)))) (Av A0 (fun _=>none) [(0,.ab (frJJ E tmps O M N l (fun i=>recJ fn tmps ps ra rb D (jmp i)) τ0 (jj,σ3)))]) :=
     (Mod.putObj w2 l _).later (fun b hb=>.inl (hb▸hlS2)) (fun b _ hb=>by
       rcases (hA3 b).1 hb with h|h|h
       · exact .inl (hA02 b h)
       · exact .inr h
       · exact .inl (h▸hlS2))
   have latw:Later w (Av A0 σ [(0,.ab (frJJ E tmps O M N l (fun i=>recJ fn tmps ps ra rb D (jmp i)) τ0 (i,τ)))]) (w2.putObj l (.loop (recJ fn tmps ps ra rb D (jmp jj)))) (Av A0 (fun _=>none) [(0,.ab (frJJ E tmps O M N l (fun i=>recJ fn tmps ps ra rb D (jmp i)) τ0 (jj,σ3)))]) :=
     hmod.later (fun b hb=>(hAe b).2 (.inr hb)) (fun b hbl hb=>(hAe b).2 (by
       rcases (hA3 b).1 hb with h|h|h
       · exact .inl h
       · exact .inr (.inl ((ho3 b h).resolve_right (by omega)))
       · exact .inr (.inr h)))
   have hbase:∀ k,k<M→∀ v,σ3 k=some v→τ k=some v:=fun k hk v hv=>by
     have:=h3.base k (by rw [f5];show k<S1.nn;rw [e5];exact hk) v hv
     rw [f4] at this
     have:S1.s0 k=some v:=this
     rw [e4] at this;exact this
   refine ⟨jmp jj,exJ_W _,hl2,(jj,σ3),.bool (jcode (jmp jj)).isNone,fun _=>none,rfl,hjn,(fun k hk v hv=>by cases hv),(fun k _=>rfl),hvD.2 (by rw [isN_code];simp),hmod.mono (fun b hb=>⟨rfl,(fr_owns b).2 hb⟩),⟨fun o ho=>?_,⟨fun b _ hb=>hb,trivial⟩,fun b hb=>?_⟩,fun b hb=>?_⟩
   · obtain rfl:=List.mem_singleton.1 ho
     refine ⟨⟨h3.dom,fun k hk v hv=>hq2 k hk v (hbase k hk v hv)⟩,fun o ho=>(h3.obs.holds o ho).later lat3 fun b hb=>World.putObj_heap_other fun e=>(h3.obs.lt b (owns_mem ho hb)).2 (e▸hlS2),h3.obs.disj,fun b hb e=>(h3.obs.lt b hb).2 (e▸hlS2),hl3,fun t s ht=>?_⟩
     refine nmlS_mv (τ:=τ) (nmlE_mem hE t s ht) ((hsl t s ht).later latw) fun k off e hk=>?_
     subst e;obtain ⟨T,qs,hm⟩:=boxesE_mem (hb jj) t k off ht;obtain ⟨b,cs,hσ,_⟩:=h3.obs.holds _ hm;have hσ:σ3 k=_:=hσ;show σ3 k=τ k;rw [hσ,hbase k hk _ hσ]
   · rcases (fr_owns b).1 hb with hb|rfl
     · have:=h3.obs.lt b hb
       exact ⟨by rw [show (w2.putObj l (.loop (recJ fn tmps ps ra rb D (jmp jj)))).heap.size=w2.heap.size by simp];exact this.1,fun h=>this.2 (hA02 b h)⟩
     · exact ⟨by rw [show (w2.putObj b (.loop (recJ fn tmps ps ra rb D (jmp jj)))).heap.size=w2.heap.size by simp];exact hlt2,hlA⟩
   · rcases (fr_owns b).1 hb with hb|rfl
     · exact (ho3 b hb).imp (fun h=>(fr_owns b).2 (.inl h)) id
     · exact .inl ((fr_owns b).2 (.inr rfl))
variable (P) in
inductive RangeJ (H:Cfg) (v:Value) (ps:List Nat) (ra rb:Code) (env:Env) (objs:List Ob) (nx:Nat) (K:KW):Prop
 | mk {I X:Type} {xargs:X→List SV} {xpre:I→X→Prop} {nxt:I→X→I→Prop} {jmp:I→Way} {m:Nat} {cos:List Ob} {C:(I×Sg→AO)→Value→Ctr} {d:∀ J y,Sg→(C J y).D} {i0:I} {fin:I→Prop}
     (law:CloLawJ P xargs xpre nxt jmp m cos C d i0 fin) (f:Nat) (hC:∀ J y,(C J y).Ok P f) (τc:Sg) (k:Nat) (rest:List Ob) (hrm:rmO objs k=some (.ab (packAO τc cos (cloQ f m τc v)),rest))
     (E:Env) (O:I→List Ob) (M N:Nat) (hcl:nth (TabC.cl P) f=some true) (chk:(psBl H.n ps&&nmlE M E&&Nat.ble H.nn M&&Nat.ble M N&&rdOk ra&&rdOk rb)=true)
     (hx:∀ x,nmlL (xargs x)=true∧(xargs x).length=ps.length) (hb:∀ i,boxesE (O i) E=true)
     (hin:Into H.nn env rest nx E (O i0) N)
     (round:∀ i x,xpre i x→Vc P { H with nn:=M } ra (psEnv ps (xargs x) E) (O i) N (asgK (Vc P { H with nn:=M } rb) (roundKJ (nxt i x) M O N jmp)))
     (hx0:∀ i x,xpre i x→jmp i=.normal) (h00:jmp i0=.normal) (last:∀ i,fin i→K (jmp i) E (O i) N)
theorem RangeJ.sound {H:Cfg} {v:Value} {ps:Array Tmp} {ra rb:Code} {K:KW} {g:Operand} {Q:Exit→Act→World→Prop} (h:RangeJ P H v ps.toList ra rb env objs nx K) (hcs:CsOk P H.cs) (hn:H.n=S.n) (hnn:H.nn=S.nn) (hd1:drawsOk H.dr ra=true) (hd2:drawsOk H.dr rb=true)
   (hK:∀ S',S.Le S'→∀ way env objs nx,K way env objs nx→Pr P S' env objs nx (Q (exW way))) (hst:St P S σ env objs nx a w) (hg:a.eval g=v):(Code.rangeFunc g ps ra rb).wpIn Fence.wide 0 P Q a w:=by
 obtain @⟨I,X,xargs,xpre,nxt,jmp,m,cos,C,d,i0,fin,law,f,hC,τc,k,rest,hrm,E,O,M,N,hcl,chk,hx,hb,hin,round,hx0,h00,last⟩:=h;simp only [Bool.and_eq_true,Nat.ble_eq] at chk;obtain ⟨⟨⟨⟨⟨hps,hE⟩,hnM⟩,hMN⟩,hra⟩,hrb⟩:=chk;have hp:=hst.perm (rmO_perm hrm);obtain ⟨⟨lb,hlen,hlb,hptr,hv,hdomc⟩,hch,hcd⟩:=(show (packAO τc cos (cloQ f m τc v)).holds w (S.A σ ((k,SO.ab (packAO τc cos (cloQ f m τc v)))::rest)) from hp.obs.holds _ (List.mem_cons_self ..));have hloc:=St.local (tk:=[(k,SO.ab (packAO τc cos (cloQ f m τc v)))]) hp;rw [hnn] at hin
 let Sl:Sig:=⟨fun b=>S.A0 b∨owns σ [(k,SO.ab (packAO τc cos (cloQ f m τc v)))] b,owns σ rest,w,S.n,S.s0,S.nn,S.ds⟩
 obtain ⟨τ0,h0⟩:=Into.sound (S:=Sl) hin hloc;have ef:∀ args w,(callFunc f args).run P w=.ok (.enter f args) w:=by
   obtain ⟨fn,h1,h2,h3⟩:=call_spec (P:=P) hcl;have h4:¬ fn.body=none:=by intro e;rw [e] at h3;cases h3
   have h5 : ¬ fn.name = "runtime.NumGoroutine" := by simpa using h2
   intro args w
   simp [callFunc,h1,h5,h4]
 refine range_enterJ (hg.trans hv) ef fun fn=>?_
 let W0:=w.alloc (.deferred (some []))
 let rc:LoopState→Loop:=recS fn a.tmps ps ra rb w.heap.size
 let W1:=W0.alloc (.loop (rc .ready))
 let l:=w.heap.size+1
 have hz0:W0.heap.size=w.heap.size+1:=World.size_alloc _ _;have hz1:W1.heap.size=w.heap.size+2:=by show (W0.alloc _).heap.size=_;rw [World.size_alloc,hz0]
 have hD1:W1.heap[w.heap.size]?=some (.deferred (some [])):=(Below.heap_alloc _ _ _ (by omega)).trans (World.alloc_heap_new _ _)
 have hl1:W1.heap[l]?=some (.loop (rc .ready)):=by
   have:=World.alloc_heap_new W0 (.loop (rc .ready))
   rw [hz0] at this;exact this
 have hk1:Kept w W1:=(Mod.alloc _ w _).trans (Mod.alloc _ W0 _)
 let J:I×Sg→AO:=frJJ E a.tmps O M N l (fun i=>recJ fn a.tmps ps ra rb w.heap.size (jmp i)) τ0
 have hJo:∀ s b,(J s).own b↔owns s.2 (O s.1) b∨b=l:=fun s b=>Iff.rfl
 have hoc:∀ (s:I×Sg) b,owns τc (cos++[(m,SO.ab (J s))]) b↔owns τc cos b∨owns s.2 (O s.1) b∨b=l:=fun s b=>by
   rw [owns_append];exact or_congr_right (fr_owns b)
 have hown0:∀ b,owns σ ((k,SO.ab (packAO τc cos (cloQ f m τc v)))::rest) b↔owns τc cos b∨owns σ rest b:=fun b=>Iff.rfl
 have hOr:∀ b,owns τ0 (O i0) b→owns σ rest b:=fun b hb=>(h0.own0 b hb).resolve_right fun h=>by have:=(h0.obs.lt b hb).1;exact absurd h (by simpa using this)
 have hcoslt:∀ b,owns τc cos b→b<w.heap.size∧¬ S.A0 b:=fun b hb=>hp.obs.lt b ((hown0 b).2 (.inl hb))
 have hOlt:∀ b,owns τ0 (O i0) b→b<w.heap.size∧¬ S.A0 b:=fun b hb=>hp.obs.lt b ((hown0 b).2 (.inr (hOr b hb)))
 have hcO:∀ b,owns τc cos b→¬ owns τ0 (O i0) b:=fun b hb h=>hp.obs.disj.1 b hb (hOr b h)
 let A1:Own:=fun b=>S.A0 b∨b=w.heap.size
 have hlatO:Later w (fun b=>(S.A0 b∨owns σ [(k,SO.ab (packAO τc cos (cloQ f m τc v)))] b)∨owns τ0 (O i0) b) W1 (Av A1 τc (cos++[(m,SO.ab (J (i0,τ0)))])) :=
   hk1.later _ fun b hbl hb=>by
     rcases hb with (hb|hb)|hb
     · exact .inl (.inl hb)
     · omega
     · rcases (hoc _ b).1 hb with h|h|h
       · exact .inl (.inr ((pack_owns b).2 h))
       · exact .inr h
       · omega
 have hlatc:Later w (S.A σ ((k,SO.ab (packAO τc cos (cloQ f m τc v)))::rest)) W1 (Av A1 τc (cos++[(m,SO.ab (J (i0,τ0)))])) :=
   hk1.later _ fun b hbl hb=>by
     rcases hb with (hb|hb)|hb
     · exact .inl hb
     · omega
     · rcases (hoc _ b).1 hb with h|h|h
       · exact .inr ((hown0 b).2 (.inl h))
       · exact .inr ((hown0 b).2 (.inr (hOr b h)))
       · omega
 have hobs1:Obs τc A1 (cos++[(m,SO.ab (J (i0,τ0)))]) W1:=by
   refine ⟨fun o ho=>?_,Disj_append.2 ⟨hcd,⟨fun b _ hb=>hb,trivial⟩,fun b hb hb'=>?_⟩,fun b hb=>?_⟩
   · rcases List.mem_append.1 ho with ho|ho
     · exact (hch o ho).later hlatc fun b hb=>hk1.block b (hcoslt b (owns_mem ho hb)).1 id
     · obtain rfl:=List.mem_singleton.1 ho
       exact ⟨⟨h0.dom,fun _ _ _ hv=>hv⟩,fun o ho=>(h0.obs.holds o ho).later hlatO fun b hb=>hk1.block b (hOlt b (owns_mem ho hb)).1 id,h0.obs.disj,fun b hb e=>by have:=(hOlt b hb).1;omega,(by rw [hl1];show some (Obj.loop (rc .ready))=some (.loop (recJ fn a.tmps ps ra rb w.heap.size (jmp i0)));rw [h00];rfl),fun t s ht=>(h0.slots t s ht).later hlatO⟩
   · rcases (fr_owns b).1 hb' with h|h
     · exact hcO b hb h
     · have:=(hcoslt b hb).1;omega
   · rcases (hoc _ b).1 hb with h|h|h
     · have:=hcoslt b h;exact ⟨by omega,fun hx=>hx.elim this.2 (fun e=>by omega)⟩
     · have:=hOlt b h;exact ⟨by omega,fun hx=>hx.elim this.2 (fun e=>by omega)⟩
     · exact ⟨by omega,fun hx=>hx.elim (fun hx=>by have:=hst.a0lt b hx;omega) (fun e=>by omega)⟩
 have hy:(yCtrJ xargs xpre nxt jmp J).OkBy P (CallsV P (.func (.yield l) #[] #[])):=yield_okJ hcs hps hE hMN hra hrb hd1 hd2 hx hb (by rw [hst.size];exact hn.symm) hx0 round
 have call:=hC J (.func (.yield l) #[] #[]) (d J (.func (.yield l) #[] #[]) τ0) (law.pre J _ τ0 hy) A1 W1 τc (.func (.yield l) #[] #[]::lb);rw [law.objs,law.args,law.nn] at call;have call:=call (fun b hb=>hb.elim (fun h=>by have:=hst.a0lt b h;omega) (fun e=>by omega)) hobs1
   ⟨_,lb,rfl,⟨rfl,rfl⟩,hlen▸ptrs_hvs (fun i hi=>by rw [Nat.zero_add];exact hlb i (hlen▸hi)) hptr⟩ (fun k hk=>hdomc k (by omega)) (hp.glob.later hlatc)
 have ea:(Value.func (Fn.yield l) #[] #[]::lb).toArray=#[Value.func (Fn.yield (w.heap.size+1)) #[] #[]]++lb.toArray:=by simp;rfl
 rw [ea] at call;refine call.mono ?_;rintro e w2 ⟨e',vr,σ',rfl,hpost,_,_,_,hmod,hobs2,hnew⟩;obtain ⟨i,τ',hfin,hout⟩:=law.out J _ τ0 e' hpost;rw [hout] at hobs2 hnew;obtain ⟨⟨hq1,hq2⟩,hho,hdj,hlo,hl2,hsl⟩:=(show (J (i,τ')).holds w2 (Av A1 σ' [(m,SO.ab (J (i,τ')))]) from hobs2.holds _ (List.mem_singleton.2 rfl));refine ⟨⟨vr,rfl⟩,jmp i,hl2,?_⟩;have hlt2:l<w2.heap.size:=(Array.getElem?_eq_some_iff.1 hl2).1;have hA2:∀ b,Av A1 σ' [(m,SO.ab (J (i,τ')))] b↔(A1 b∨owns τ' (O i) b∨b=l):=fun b=>or_congr_right (fr_owns b)
 have hmod1:Mod (owns τc (cos++[(m,SO.ab (J (i0,τ0)))])) W1 w2:=hmod.mono fun b hb=>hb.2
 have hnew1:∀ b,owns τ' (O i) b→owns τc cos b∨owns τ0 (O i0) b∨w.heap.size≤b:=fun b hb=>by
   rcases hnew b ((fr_owns b).2 (.inl hb)) with h|h
   · rcases (hoc _ b).1 h with h|h|h
     · exact .inl h
     · exact .inr (.inl h)
     · exact .inr (.inr (by omega))
   · exact .inr (.inr (by omega))
 let w3:=w2.putObj l (.loop { recJ fn a.tmps ps ra rb w.heap.size (jmp i) with state:=.exhausted })
 have hz3:w3.heap.size=w2.heap.size:=by show (w2.putObj l _).heap.size=_;simp
 have hmodw:Mod (fun b=>owns τc cos b∨owns τ0 (O i0) b) w w3 :=
   ((hk1.mod _).step hmod1 (fun b hb=>by
     rcases (hoc _ b).1 hb with h|h|h
     · exact .inl (.inl h)
     · exact .inl (.inr h)
     · exact .inr (by omega))).step (Mod.putObj w2 l _) (fun b hb=>.inr (by omega))
 let S3:Sig:={ S with A0:=A1,ds:=w.heap.size::S.ds }
 have lat23:Later w2 (Av A1 σ' [(m,SO.ab (J (i,τ')))]) w3 (S3.A τ' (O i)):=(Mod.putObj w2 l _).later (fun b hb=>(hA2 b).2 (.inr (.inr hb))) fun b _ hb=>(hA2 b).2 (hb.imp id .inl)
 have lat03:Later w (S.A σ ((k,SO.ab (packAO τc cos (cloQ f m τc v)))::rest)) w3 (S3.A τ' (O i)) :=
   hmodw.later (fun b hb=>.inr ((hown0 b).2 (hb.imp id (hOr b)))) fun b hbl hb=>by
     rcases hb with (hb|hb)|hb
     · exact .inl hb
     · omega
     · rcases hnew1 b hb with h|h|h
       · exact .inr ((hown0 b).2 (.inl h))
       · exact .inr ((hown0 b).2 (.inr (hOr b h)))
       · omega
 have hkeepD:∀ D',A1 D'→D'<w2.heap.size→D'≠l→D'<W1.heap.size→w3.heap[D']?=W1.heap[D']?:=fun D' hA' _ hne hlt=>(World.putObj_heap_other hne).trans (hmod1.block D' hlt fun ho=>(hobs1.lt D' ho).2 hA')
 have hsize12:W1.heap.size≤w2.heap.size:=hmod1.size;refine hK S3 ⟨rfl,rfl,rfl,rfl,rfl,fun b hb=>.inl hb,fun b hb=>hb.imp id (fun e=>by rw [e];exact hst.hist.size),fun D' hD=>?_,fun hnd=>?_⟩ (jmp i) E (O i) N (last i hfin) τ' _ w3 ?_
 · rcases List.mem_cons.1 hD with rfl|hD
   · exact .inr hst.hist.size
   · exact .inl hD
 · refine List.nodup_cons.2 ⟨fun hD=>?_,hnd⟩
   have:=hst.a0lt _ (hst.mks _ hD).1;omega
 · exact
     { slots:=fun t s ht=>(hsl t s ht).later lat23
       dom:=hq1,size:=hst.size,defers:=by show mkD w.heap.size::a.defers=_;rw [hst.defers];rfl
       obs:=⟨fun o ho=>(hho o ho).later lat23 fun b hb=>World.putObj_heap_other fun e=>hlo b (owns_mem ho hb) e,hdj,fun b hb=>by
         have:=hobs2.lt b ((fr_owns b).2 (.inl hb))
         exact ⟨by rw [hz3];exact this.1,this.2⟩⟩
       hist:=hst.hist.step hmodw fun b hb=>hp.own0 b ((hown0 b).2 (hb.imp id (hOr b)))
       own0:=fun b hb=>by
         rcases hnew1 b hb with h|h|h
         · exact hp.own0 b ((hown0 b).2 (.inl h))
         · exact hp.own0 b ((hown0 b).2 (.inr (hOr b h)))
         · exact .inr (Nat.le_trans hst.hist.size h)
       a0:=fun b hb=>by
         rw [hz3];rcases hb with hb|hb
         · have:=hst.a0lt b hb;omega
         · omega
       mks:=fun D' hD=>by
         rcases List.mem_cons.1 hD with rfl|hD
         · exact ⟨.inr rfl,(hkeepD _ (.inr rfl) (by omega) (by omega) (by omega)).trans hD1⟩
         · have h1:=hst.mks D' hD
           have h2:=hst.a0lt _ h1.1;exact ⟨.inl h1.1,(hkeepD _ (.inl h1.1) (by omega) (by omega) (by omega)).trans ((hk1.block D' h2 id).trans h1.2)⟩
       glob:=hp.glob.later lat03
       base:=fun k hk v hv=>h0.base k hk v (hq2 k (Nat.lt_of_lt_of_le (hnn▸hk) hnM) v hv)
       nnx:=by rw [← hnn];exact Nat.le_trans hnM hMN }
end
section
variable {P:Program} [TabC P] {S:Sig} {σ:Sg} {env:Env} {objs:List Ob} {nx:Nat} {o:Oper} {a:Act} {w:World}
theorem wpListIn_round {l n:Nat} {ops:Array Oper} {Q:Exit→Act→World→Prop}:∀ {r:List Oper},noDefer r=true→wpListIn (Fence.wide.inRound l) n P ops Q r=wpListIn Fence.wide n P ops Q r
 | [],_=>rfl
 | o::r,h=>by
   have h':(∀ c,o.op≠.defer c)∧noDefer r=true:=by
     unfold noDefer at h
     split at h
     · cases h
     · rename_i hne;exact ⟨hne,h⟩
   funext a w
   unfold wpListIn;rw [wpListIn_round h'.2];have he:∀ X,o.wpIn (Fence.wide.inRound l) n P a w X Q=o.wpIn Fence.wide n P a w X Q:=fun X=>by
     unfold Oper.wpIn;rw [show (Fence.wide.inRound l).round=some l from rfl,show Fence.wide.round=none from rfl,Oper.semAt_some l _ _ h'.1,Oper.semAt_none];generalize (execOp a.eval o).run P w=x
     cases x with
     | ok v w'=>cases v<;>rfl
     | _=>rfl
   rw [he]
   rfl
variable (P) in
def condS (x y:Code) (s:SV) (H:Cfg) (env:Env) (objs:List Ob) (nx:Nat) (K:KW):Prop:=match s with
 | .bool true=>Vc P H x env objs nx K
 | .bool false=>Vc P H y env objs nx K
 | .dec p _=>Fork p (Vc P H x env objs nx K) (Vc P H y env objs nx K)
 | _=>False
variable (P) in
def vcS (H:Cfg) (c:Code) (env:Env) (objs:List Ob) (nx:Nat) (K:KW):Prop:=match c with
 | .skip=>K .normal env objs nx
 | .region id ops draw=>match ops with
   | ⟨l⟩=>match draw with
     | false=>OpsK P H l l (K .normal) env objs nx
     | true=>match lkD H.dr id with
       | some (_,_,ord,sl)=>match nmE2 env objs sl with
         | some N=>match nOk objs N with
           | true=>OrdK P H l objs N ord true true (K .normal) env objs nx
           | false=>False
         | none=>False
       | none=>False
 | .seq x y=>match cutQ H x with
   | true=>stillK x env fun L=>CutS H.nn (Vc P H x) (Vc P H y) L env objs nx K
   | false=>Vc P H x env objs nx (seqK (Vc P H y) K)
 | .cond c x y=>ev1 P env c fun s=>condS P x y s H env objs nx K
 | .ret=>K .ret env objs nx
 | .exit i=>K (.exit i) env objs nx
 | .block id c=>Vc P H c env objs nx (blockK id K)
 | .scope c=>Vc P H c env objs nx K
 | .label _=>K .normal env objs nx
 | .loop c=>stillK c env fun L=>LoopS H.nn (Vc P H c) L env objs nx K
 | .rangeFunc g ps ra rb=>ev1 P env g fun s=>match s with
   | .val v=>Or2 (RangeS P H v ps.toList ra rb env objs nx K) (RangeJ P H v ps.toList ra rb env objs nx K)
   | _=>False
 | _=>False
theorem Vc.unf {H:Cfg} {c:Code} {K:KW} (h:vcS P H c env objs nx K):Vc P H c env objs nx K:=⟨fun {S Q} rd hcs hn hnn hd hrd hp hK=>by
 have hK0:∀ way env objs nx,K way env objs nx→Pr P S env objs nx (Q (exW way)):=fun way e o n hk=>hK S (.refl S) way e o n hk
 match c,hd,hrd,h with
 | .skip,hd,hrd,h=>exact fun σ a w hst=>wpIn_skip (hK0 .normal _ _ _ h σ a w hst)
 | .region id ops false,hd,hrd,h =>
   intro σ a w hst;obtain ⟨l⟩:=ops;simp only [vcS] at h;have key:=h.h (ops:=⟨l⟩) hcs hn rfl (fun e o n hk=>hK0 .normal e o n hk) σ a w hst
   cases rd with
   | none=>exact wpIn_region_lit (n:=0) key
   | some r =>
     refine wpIn_region_lit (F:=Fence.wide.inRound r) (n:=0) ?_;rw [wpListIn_round (hrd rfl)];exact key
 | .region id ops true,hd,hrd,h =>
   cases rd with
   | some r=>exact absurd (hrd rfl) (by simp [rdOk])
   | none =>
   intro σ a w hst;refine wpIn_wide.2 ?_;obtain ⟨l⟩:=ops;simp only [vcS] at h
   split at h
   · rename_i t ll ord sl hl
     unfold drawsOk at hd;rw [hl] at hd;simp only [Bool.and_eq_true,beq_iff_eq] at hd;obtain ⟨⟨h1,h2⟩,h3⟩:=hd
     split at h
     · rename_i N hNe
       split at h
       · rename_i hN
         have hst2:=hst.drewW
         let S':Sig:={ S with s0:=σ,nn:=nx,w0:=w.drew,M0:=fun b=>owns σ objs b }
         have hst3:St P S' σ env objs nx a w.drew:={ slots:=hst2.slots,dom:=hst2.dom,size:=hst2.size,defers:=hst2.defers,obs:=hst2.obs,hist:=Mod.refl _ _,own0:=fun b hb=>.inl hb,a0:=hst2.a0,mks:=hst2.mks,glob:=hst2.glob,base:=fun k _ v hv=>hv,nnx:=Nat.le_refl _ }
         have:=h.h (S:=S') (ops:=⟨l⟩) (Q:=Q) hcs hn rfl hN (fun e o n hk=>fun σ' a' w' hst'=>hK0 .normal e o n hk σ' a' w' { slots:=hst'.slots,dom:=hst'.dom,size:=hst'.size,defers:=hst'.defers,obs:=hst'.obs,hist:=hst2.hist.step hst'.hist hst2.own0,own0:=fun b hb=>(hst'.own0 b hb).elim (hst2.own0 b) (fun h=>.inr (Nat.le_trans hst2.hist.size h)),a0:=hst'.a0,mks:=hst'.mks,glob:=hst'.glob,base:=fun k hk v hv=>hst2.base k hk v (hst'.base k (Nat.lt_of_lt_of_le hk hst2.nnx) v hv),nnx:=Nat.le_trans hst2.nnx hst'.nnx }) σ a w.drew w.drew env a hst3 ⟨rfl,fun _ h=>h⟩ hst3 (fun _=>rfl) (fun _=>Mod.refl _ _)
         exact wp_region_tree (fun w'=>Mod (MN σ N) w.drew w') t ll ord (TabC.mix (P:=P)) h1 h2 h3 hp (Mod.refl _ _) this
       · exact h.elim
     · exact h.elim
   · exact h.elim
 | .seq x y,hd,hrd,h =>
   intro σ a w hst;simp only [drawsOk,Bool.and_eq_true] at hd;have hrx:rd.isSome=true→rdOk x=true:=fun e=>by have:=hrd e;simp only [rdOk,Bool.and_eq_true] at this;exact this.1
   have hry:rd.isSome=true→rdOk y=true:=fun e=>by have:=hrd e;simp only [rdOk,Bool.and_eq_true] at this;exact this.2
   have hpt:PanicQ (Exit.then (y.wpIn (fenceOf rd) 0 P Q) Q):=fun c d v a w h=>hp c d v a w h
   simp only [vcS] at h
   split at h
   · obtain ⟨L,h⟩:=stillK_k h
     obtain ⟨Φ,E,O,N,first,rest⟩:=h;refine wpIn_seq (first.h rd hcs hn hnn hd.1 hrx hpt (fun S' hS way e o n hk=>?_) σ a w hst)
     cases way with
     | normal =>
       unfold cutK at hk;obtain ⟨j,hj,hin⟩:=hk;intro σ2 a2 w2 hst2;obtain ⟨σ3,hst3⟩:=((hnn.trans hS.nn.symm)▸hin).sound hst2;exact (rest j hj).h rd hcs (hn.trans hS.n.symm) (hnn.trans hS.nn.symm) hd.2 hry hp (fun S2 h2=>hK S2 (hS.trans h2)) σ3 a2 w2 hst3
     | ret=>unfold cutK at hk;exact fun σ a w hst=>hK S' hS .ret e o n hk σ a w hst
     | exit i=>unfold cutK at hk;exact fun σ a w hst=>hK S' hS (.exit i) e o n hk σ a w hst
   · refine wpIn_seq (h.h rd hcs hn hnn hd.1 hrx hpt (fun S' hS way e o n hk=>?_) σ a w hst)
     cases way with
     | normal =>
       unfold seqK at hk;exact fun σ a w hst=>(show Vc P H y e o n K from hk).h rd hcs (hn.trans hS.n.symm) (hnn.trans hS.nn.symm) hd.2 hry hp (fun S2 h2=>hK S2 (hS.trans h2)) σ a w hst
     | ret=>unfold seqK at hk;exact fun σ a w hst=>hK S' hS .ret e o n hk σ a w hst
     | exit i=>unfold seqK at hk;exact fun σ a w hst=>hK S' hS (.exit i) e o n hk σ a w hst
 | .cond c x y,hd,hrd,h =>
   intro σ a w hst;simp only [drawsOk,Bool.and_eq_true] at hd;have hrx:rd.isSome=true→rdOk x=true:=fun e=>by have:=hrd e;simp only [rdOk,Bool.and_eq_true] at this;exact this.1
   have hry:rd.isSome=true→rdOk y=true:=fun e=>by have:=hrd e;simp only [rdOk,Bool.and_eq_true] at this;exact this.2
   obtain ⟨s,hs,h⟩:=ev1_spec h;unfold condS at h
   split at h
   · exact wpIn_cond_true (hvB.1 (hst.ev hs)) (h.h rd hcs hn hnn hd.1 hrx hp hK σ a w hst)
   · exact wpIn_cond_false (hvB.1 (hst.ev hs)) (h.h rd hcs hn hnn hd.2 hry hp hK σ a w hst)
   · rename_i p i
     have he:=hvD.1 (hst.ev hs)
     by_cases hpp:p
     · exact wpIn_cond_true (by rw [he];simp [hpp]) ((h.t hpp).h rd hcs hn hnn hd.1 hrx hp hK σ a w hst)
     · exact wpIn_cond_false (by rw [he];simp [hpp]) ((h.f hpp).h rd hcs hn hnn hd.2 hry hp hK σ a w hst)
   · exact h.elim
 | .ret,hd,hrd,h=>exact fun σ a w hst=>wpIn_ret (hK0 .ret _ _ _ h σ a w hst)
 | .exit i,hd,hrd,h=>exact fun σ a w hst=>wpIn_exit (hK0 (.exit i) _ _ _ h σ a w hst)
 | .block id c,hd,hrd,h =>
   intro σ a w hst;have hpt:PanicQ (Exit.inBlock id Q):=fun c d v a w h=>hp c d v a w h
   simp only [vcS] at h;refine wpIn_block (h.h rd hcs hn hnn hd hrd hpt (fun S' hS way e o n hk=>?_) σ a w hst)
   cases way with
   | normal=>unfold blockK at hk;exact fun σ a w hst=>hK S' hS .normal e o n hk σ a w hst
   | ret=>unfold blockK at hk;exact fun σ a w hst=>hK S' hS .ret e o n hk σ a w hst
   | exit i =>
     intro σ a w hst;show if i=id then _ else _
     unfold blockK at hk
     simp only at hk
     split at hk
     · rename_i hb
       rw [if_pos (Nat.eq_of_beq_eq_true hb)];exact hK S' hS .normal e o n hk σ a w hst
     · rename_i hb
       rw [if_neg (fun e=>by rw [e,Nat.beq_refl] at hb;cases hb)];exact hK S' hS (.exit i) e o n hk σ a w hst
 | .scope c,hd,hrd,h =>
   cases rd with
   | some r=>exact absurd (hrd rfl) (by simp [rdOk])
   | none =>
   intro σ a w hst;have hpt:PanicQ (Exit.noGoto Q):=fun c d v a w h=>hp c d v a w h
   simp only [vcS] at h;refine wpIn_wide.2 (wp_scope_straight (wpIn_wide.1 (h.h none hcs hn hnn hd (fun e=>by cases e) hpt (fun S' hS way e o n hk=>?_) σ a w hst)))
   cases way with
   | normal=>exact fun σ a w hst=>hK S' hS .normal e o n hk σ a w hst
   | ret=>exact fun σ a w hst=>hK S' hS .ret e o n hk σ a w hst
   | exit i=>exact fun σ a w hst=>hK S' hS (.exit i) e o n hk σ a w hst
 | .label l,hd,hrd,h =>
   intro σ a w hst;simp only [vcS] at h;exact wpIn_label (hK0 .normal _ _ _ h σ a w hst)
 | .loop c,hd,hrd,h =>
   cases rd with
   | some r=>exact absurd (hrd rfl) (by simp [rdOk])
   | none =>
   intro σ a w hst;obtain ⟨L,h⟩:=stillK_k h;obtain ⟨Φ,E,O,N,m,i0,h0,hin,round⟩:=h;refine wpIn_wide.2 (wp_loop_ghost (fun n a w=>∃ i,m i=n∧Φ i∧∃ S1,S.Le S1∧∃ σ,St P S1 σ (E i) (O i) N a w) (m i0) ⟨i0,rfl,h0,S,.refl S,(hnn▸hin).sound hst⟩ ?_)
   rintro n a w ⟨i,rfl,hi,S1,hS1,σ2,hst2⟩;have hq:PanicQ (Exit.then (fun a w=>∃ j,m j<m i∧Φ j∧∃ S1,S.Le S1∧∃ σ,St P S1 σ (E j) (O j) N a w) Q):=fun c d v a w h=>hp c d v a w h
   refine wp_mono (wpIn_wide.1 ((round i hi).h none hcs (hn.trans hS1.n.symm) (hnn.trans hS1.nn.symm) hd (fun e=>by cases e) hq (fun S' hS way e o n hk=>?_) σ2 a w hst2)) ?_
   · cases way with
     | normal =>
       unfold loopK at hk;obtain ⟨j,⟨h1,h2⟩,h3⟩:=hk;exact fun σ a w hst=>⟨j,h1,h2,S',hS1.trans hS,((hnn.trans (hS1.trans hS).nn.symm)▸h3).sound hst⟩
     | ret=>unfold loopK at hk;exact fun σ a w hst=>hK S' (hS1.trans hS) .ret e o n hk σ a w hst
     | exit i=>unfold loopK at hk;exact fun σ a w hst=>hK S' (hS1.trans hS) (.exit i) e o n hk σ a w hst
   · intro e a' w' hq
     cases e with
     | normal=>obtain ⟨j,h1,h2,h3⟩:=hq;exact ⟨m j,h1,j,rfl,h2,h3⟩
     | exit id=>exact hq
     | goto l=>exact hq
     | ret=>exact hq
     | panic ch=>exact hq
     | outgrown=>exact hq
 | .rangeFunc g ps ra rb,hd,hrd,h =>
   cases rd with
   | some r=>exact absurd (hrd rfl) (by simp [rdOk])
   | none =>
   intro σ a w hst;simp only [drawsOk,Bool.and_eq_true] at hd;obtain ⟨s,hs,h⟩:=ev1_spec h
   split at h
   · rename_i v
     have hv:a.eval g=v:=by
       have:=hst.ev hs
       simp only [SV.hv,SV.h1,SV.hc,List.cons.injEq,and_true] at this;exact this.1
     rcases h with h|h
     · exact RangeS.sound h hcs hn hnn hd.1 hd.2 hK hst hv
     · exact RangeJ.sound h hcs hn hnn hd.1 hd.2 hK hst hv
   · exact h.elim⟩
end
section
variable {P:Program} [TabC P] {S:Sig} {σ:Sg} {env:Env} {objs:List Ob} {nx:Nat} {a:Act} {w:World}
variable (P) in
def resK (env:Env) (objs:List Ob):List ResultVar→(List SV→Prop)→Prop
 | [],K=>K []
 | .tmp t::r,K=>match lk env t with
   | some s=>match noTup s with
     | true=>resK env objs r fun ss=>K (s::ss)
     | false=>False
   | none=>False
 | .cell x T::r,K=>match ty P T with
   | some j=>match rowB j with
     | true=>match lk env x with
       | some (.ptr k off)=>match lk objs k with
         | some (.box _ ps)=>ldParts j ps off fun s=>match noTup s with
           | true=>resK env objs r fun ss=>K (s::ss)
           | false=>False
         | some (.fbox _ ps)=>ldParts j ps off fun s=>match noTup s with
           | true=>resK env objs r fun ss=>K (s::ss)
           | false=>False
         | _=>False
       | _=>False
     | false=>False
   | none=>False
def resF (tmps:Array Value):ResultVar→Sem Value
 | .tmp t=>pure (tmps.getD t undef)
 | .cell x t=>do loadVar t (← asAddr (tmps.getD x undef))
theorem hv_h1 {A:Own} {s:SV} {v:Value} (h:s.hv w A σ v) (hn:noTup s=true):s.h1 w A σ v:=by
 cases s<;>first|exact h|(simp [noTup] at hn)
theorem resK_sound:∀ {rs:List ResultVar} {K:List SV→Prop},resK P env objs rs K→∃ ss,K ss∧∀ {S σ nx a w},St P S σ env objs nx a w→∃ vs,(rs.mapM (resF a.tmps)).run P w=.ok vs w∧hvs w (S.A σ objs) σ ss vs
 | [],K,h=>⟨[],h,fun hst=>⟨[],by simp,rfl⟩⟩
 | .tmp t::r,K,h=>by
   unfold resK at h
   split at h
   · rename_i s hs
     split at h
     · rename_i hn
       obtain ⟨ss,hK,hr⟩:=resK_sound (rs:=r) h;refine ⟨_,hK,fun {S σ nx a w} hst=>?_⟩
       obtain ⟨vs,h1,h2⟩:=hr hst;refine ⟨a.tmps.getD t undef::vs,?_,_,_,rfl,hv_h1 (hst.slots t s hs) hn,h2⟩;rw [List.mapM_cons];simp only [resF,Sem.run_bind,Sem.run_pure,Result.andThen_ok,h1]
     · exact h.elim
   · exact h.elim
 | .cell x T::r,K,h=>by
   unfold resK at h
   split at h
   · rename_i j ht
     split at h
     · rename_i hrow
       have go:∀ {k off:Nat} {so:SO} {TT:Nat} {ps:List SV},lk env x=some (.ptr k off)→lk objs k=some so→(so=.box TT ps∨so=.fbox TT ps)→(ldParts j ps off fun s=>match noTup s with
           | true=>resK P env objs r fun ss=>K (s::ss)
           | false=>False)→∃ ss,K ss∧∀ {S σ nx a w},St P S σ env objs nx a w→∃ vs,((ResultVar.cell x T::r).mapM (resF a.tmps)).run P w=.ok vs w∧hvs w (S.A σ objs) σ ss vs:=by
         intro k off so TT ps hx hk hso hl;unfold ldParts at hl
         split at hl
         · rename_i pa m z hp
           obtain ⟨s,hl,hs⟩:=svK_sound hl (by rw [(partP_spec hp).2.2];exact rowB_spec hrow)
           split at hl
           · rename_i hn
             obtain ⟨ss,hK,hr⟩:=resK_sound (rs:=r) hl;refine ⟨_,hK,fun {S σ nx a w} hst=>?_⟩
             obtain ⟨vs,h1,h2⟩:=hr hst;obtain ⟨b,C,t,fr,σ',e1,e2,e3,e4⟩:=box_cells hso hk hst;have hsl:=hst.slots x _ hx;simp only [SV.hv,SV.h1,SV.hc,List.cons.injEq,and_true] at hsl;obtain ⟨b',c',e1',e5⟩:=hsl;rw [e1] at e1';cases e1';obtain ⟨f1,f2,f3,f4⟩:=e3.part hp;rw [List.drop_take,List.take_take,Nat.min_eq_left (by omega)] at f1
             have hload:=run_loadVar_at (P:=P) ht (rowB_spec hrow) (w:=w) e2 (off:=off) rfl (by rw [f1.len,f2])
             have hF:(resF a.tmps (.cell x T)).run P w=.ok (vOf j.row ((C.toList.drop off).take j.size)) w:=by
               rw [Nat.zero_add] at e5;simp only [resF,Sem.run_bind,e5];rw [show asAddr (Value.pointer (some ⟨b,off,none⟩))=(pure ⟨b,off,none⟩:Sem Addr) from rfl];simp only [Sem.run_pure,Result.andThen_ok,hload]
             refine ⟨_,?_,_,_,rfl,hv_h1 (hs (e4 m _ f1)) hn,h2⟩;rw [List.mapM_cons];simp only [Sem.run_bind,hF,Result.andThen_ok,h1,Sem.run_pure]
           · exact hl.elim
         · exact hl.elim
       split at h
       · rename_i hx
         split at h
         · rename_i hk;exact go hx hk (.inl rfl) h
         · rename_i hk;exact go hx hk (.inr rfl) h
         · exact h.elim
       · exact h.elim
     · exact h.elim
   · exact h.elim
def resS:List SV→SV
 | [s]=>s
 | l=>.tup l
def resVal:List Value→Value
 | [v]=>v
 | l=>.tuple l.toArray
inductive RetE (c:Ctr) (d:c.D) (s:SV) (objs:List Ob) (nx:Nat):Prop
 | mk (e:c.E) (h:c.post d e) (hf:fitV (idRn c.nn) objs nx (c.res d e) s fun ρ objs nx=>FitOs ρ [] objs nx (c.out d e) fun ρ tk rest nx=>rnB (c.nn+c.mm) ρ=true)
variable (P) in
def RetS (c:Ctr) (d:c.D) (rs:List ResultVar) (env:Env) (objs:List Ob) (nx:Nat):Prop:=resK P env objs rs fun ss=>RetE c d (resS ss) objs nx
theorem Fork.mkn {p:Prop} {K1 K2:Prop} (h1:¬ p→K1) (h2:p→K2):Fork (¬ p) K1 K2:=⟨h1,fun h=>h2 (Classical.not_not.1 h)⟩
theorem EF.of_len {α:Type} {enc:α→List SV} {xs:List α}:(EF.of enc xs).els.length=xs.length:=by simp [EF.els]
theorem boolK {p:Prop} {K:Bool→Prop} (ht:p→K true) (hf:K false):∀ b,(b=true→p)→K b:=fun b h=>by
 cases b
 · exact hf
 · exact ht (h rfl)
def argE:List SV→Nat→Env
 | [],_=>[]
 | s::r,k=>(k,s)::argE r (k+1)
theorem argE_look {A:Own}:∀ {l:List SV} {vs:List Value} {k t:Nat} {s:SV},hvs w A σ l vs→lk (argE l k) t=some s→∃ v,k≤t∧vs[t - k]?=some v∧s.h1 w A σ v
 | [],vs,k,t,s,h,hk=>by simp [argE,lk] at hk
 | u::r,vs,k,t,s,⟨v,m,h1,h2,h3⟩,hk=>by
   simp only [argE,lk] at hk
   split at hk
   · rename_i hb
     obtain rfl:=Nat.eq_of_beq_eq_true hb
     cases hk;subst h1
     exact ⟨v,Nat.le_refl _,by simp,h2⟩
   · obtain ⟨v',e1,e2,e3⟩:=argE_look h3 hk
     subst h1;refine ⟨v',by omega,?_,e3⟩
     rw [show t - k=(t - (k+1))+1 by omega];simpa using e2
theorem h1_hv {A:Own} {s:SV} {v:Value} (h:s.h1 w A σ v) (hn:∀ vs,s≠.tup vs):s.hv w A σ v:=by
 cases s<;>first|exact h|exact absurd rfl (hn _)
def RngL:List SV→Prop
 | []=>True
 | .int .i64 n::r=>inR n∧RngL r
 | .fs _ _ xs::r=>xs.length≤9223372036854775807∧RngL r
 | _::r=>RngL r
def Rng:List SV→Prop
 | []=>True
 | .agg ps::r=>RngL ps∧Rng r
 | .int .i64 n::r=>inR n∧Rng r
 | .fs _ _ xs::r=>xs.length≤9223372036854775807∧Rng r
 | _::r=>Rng r
theorem fs_rng {A:Own} {z:Nat} {α:Type} {enc:α→List SV} {xs:List α} {cs:List Value} (h:(SV.fs z enc xs).hc w A σ cs):xs.length≤9223372036854775807:=by
 simp only [SV.hc] at h;obtain ⟨ad,c,_,h1,h2,_⟩:=h
 have:maxLen≤9223372036854775807:=by decide
 omega
theorem hL.rng {A:Own}:∀ {l:List SV} {cs:List Value},hL w A l σ cs→RngL l
 | [],cs,h=>trivial
 | s::r,cs,h=>by
   simp only [hL] at h;obtain ⟨a,b,_,h1,h2⟩:=h;have ih:=hL.rng h2;unfold RngL
   split
   · trivial
   · rename_i e;cases e;simp only [SV.hc] at h1;exact ⟨h1.2 trivial,ih⟩
   · rename_i e;cases e;exact ⟨fs_rng h1,ih⟩
   · rename_i e;cases e;exact ih
theorem hvs.rng {A:Own}:∀ {l:List SV} {vs:List Value},hvs w A σ l vs→Rng l
 | [],vs,h=>trivial
 | s::r,vs,⟨v,m,h1,h2,h3⟩=>by
   have ih:=hvs.rng h3;unfold Rng
   split
   · trivial
   · rename_i e;cases e;obtain ⟨cs,_,hc⟩:=h2;exact ⟨hL.rng hc,ih⟩
   · rename_i e;cases e;simp only [SV.h1,SV.hc] at h2;exact ⟨h2.2 trivial,ih⟩
   · rename_i e;cases e;exact ⟨fs_rng (σ:=σ) h2,ih⟩
   · rename_i e;cases e;exact ih
variable (P) in
def bodyPostR (fn:Func) (R:Ending→World→Prop):Exit→Act→World→Prop
 | .normal,a,w=>LeavesInM Fence.wide 0 P fn a.tmps R a.defers .returning w
 | .ret,a,w=>LeavesInM Fence.wide 0 P fn a.tmps R a.defers .returning w
 | _,_,_=>False
theorem panicQ_body {fn:Func} {Post:Ending→World→Prop}:PanicQ (bodyPostR P fn Post):=fun c d v a w h=>h
theorem calls_of_body {f:Nat} {fn:Func} {code:Code} {args:Array Value} {R:Ending→World→Prop} (hf:P.funcs[f]?=some fn) (hb:fn.body=some code)
   (h:code.wpIn Fence.wide 0 P (bodyPostR P fn R) { tmps:=args++Array.replicate (fn.ntmps - args.size) undef,defers:=[] } w):Calls P f args w R :=
 callsIn_wide.1 (callsIn_of_wp_marks (n:=0) hf hb trivial (wpIn_mono h fun e a w hq=>by cases e<;>first|exact hq|exact hq.elim))
theorem St.shut:∀ (ds:List Nat) {S:Sig} {a:Act} {w:World},S.ds=ds→St P S σ env objs nx a w→(∀ D∈ds,S.w0.heap.size≤D)→ds.Nodup→∃ w2,St P { S with ds:=[] } σ env objs nx { a with defers:=[] } w2 ∧
   ∀ fn tmps R,LeavesInM Fence.wide 0 P fn tmps R [] .returning w2→LeavesInM Fence.wide 0 P fn tmps R a.defers .returning w
 | [],S,a,w,hds,hst,_,_=>by
   refine ⟨w,{ slots:=hst.slots,dom:=hst.dom,size:=hst.size,defers:=rfl,obs:=hst.obs,hist:=hst.hist,own0:=hst.own0,a0:=hst.a0,mks:=fun D hD=>(by cases hD),glob:=hst.glob,base:=hst.base,nnx:=hst.nnx },fun fn tmps R h=>?_⟩
   rw [hst.defers,hds];exact h
 | D::r,S,a,w,hds,hst,hnew,hnd=>by
   have hm:=hst.mks D (by rw [hds];simp)
   have hno:∀ b,owns σ objs b→b≠D:=fun b hb e=>(hst.obs.lt b hb).2 (e▸hm.1)
   have hz:(w.putObj D (.deferred none)).heap.size=w.heap.size:=by simp
   have hlat:Later w (S.A σ objs) (w.putObj D (.deferred none)) (S.A σ objs):=(Mod.putObj w D _).later (fun b hb=>.inl (hb▸hm.1)) (fun b _ hb=>hb)
   have hst1:St P { S with ds:=r } σ env objs nx { a with defers:=r.map mkD } (w.putObj D (.deferred none)) :=
     { slots:=fun t s hs=>(hst.slots t s hs).later hlat,dom:=hst.dom,size:=hst.size,defers:=rfl
       obs:=⟨fun q hq=>(hst.obs.holds q hq).later hlat fun b hb=>World.putObj_heap_other (hno b (owns_mem hq hb)),hst.obs.disj,fun b hb=>by have:=hst.obs.lt b hb;exact ⟨by rw [hz];exact this.1,this.2⟩⟩
       hist:=hst.hist.step (Mod.putObj w D _) (fun b hb=>.inr (by rw [hb];exact hnew D (by simp))),own0:=hst.own0,a0:=fun b hb=>by rw [hz];exact hst.a0 b hb
       mks:=fun D' hD=>by
         have h1:=hst.mks D' (by rw [hds];exact List.mem_cons_of_mem _ hD)
         exact ⟨h1.1,(World.putObj_heap_other (fun e=>(List.nodup_cons.1 hnd).1 (by first|(rw [e] at hD;exact hD)|(rw [← e] at hD;exact hD)))).trans h1.2⟩
       glob:=hst.glob.later hlat,base:=hst.base,nnx:=hst.nnx }
   obtain ⟨w2,h2,h3⟩:=St.shut r rfl hst1 (fun D' hD=>hnew D' (List.mem_cons_of_mem _ hD)) (List.nodup_cons.1 hnd).2
   refine ⟨w2,h2,fun fn tmps R h=>?_⟩
   rw [hst.defers,hds];exact ⟨by simp,.inl ⟨D,_,rfl,run_takeDeferred hm.2,h3 fn tmps R h⟩⟩
variable (P) in
def retK (c:Ctr) (d:c.D) (rs:List ResultVar):KW:=fun way env objs nx=>match way with
 | .exit _=>False
 | _=>RetS P c d rs env objs nx
theorem retK_n {c:Ctr} {d:c.D} {rs:List ResultVar} (h:RetS P c d rs env objs nx):retK P c d rs .normal env objs nx:=h
theorem retK_r {c:Ctr} {d:c.D} {rs:List ResultVar} (h:RetS P c d rs env objs nx):retK P c d rs .ret env objs nx:=h
theorem fn_ok {f:Nat} {fn:Func} {code:Code} {c:Ctr} (H:Cfg) (nn:Nat) (hnn':c.nn=nn) (rs:List ResultVar) (hf:P.funcs[f]?=some fn) (hb:fn.body=some code) (hrs:fn.results.toList=rs) (hcs:CsOk P H.cs) (hn:H.n=fn.ntmps) (hnn:H.nn=c.nn) (hdr:drawsOk H.dr code=true) (hle:∀ d,(c.args d).length≤H.n)
   (h:∀ d,c.pre d→Rng (c.args d)→Vc P H code (argE (c.args d) 0) (c.objs d) nn (retK P c d rs)) (hkp:c.kp=false:=by rfl):c.Ok P f:=by
 subst hnn';intro d hpre A0 w σ vs hA hobs hargs hdom hgl;have hlen:vs.length=(c.args d).length:=by
   have:∀ {l:List SV} {vs:List Value},hvs w (Av A0 σ (c.objs d)) σ l vs→vs.length=l.length:=by
     intro l
     induction l with
     | nil=>intro vs h;simp only [hvs] at h;simp [h]
     | cons s r ih=>rintro vs ⟨v,m,rfl,_,h⟩;simp [ih h]
   exact this hargs
 refine calls_of_body hf hb ?_
 let S:Sig:=⟨A0,owns σ (c.objs d),w,H.n,σ,c.nn,[]⟩
 have hst:St P S σ (argE (c.args d) 0) (c.objs d) c.nn { tmps:=vs.toArray++Array.replicate (fn.ntmps - vs.toArray.size) undef,defers:=[] } w:=by
   refine { slots:=fun t s ht=>?_,dom:=hdom,size:=?_,defers:=rfl,obs:=hobs,hist:=Mod.refl _ _,own0:=fun b hb=>.inl hb,a0:=hA,mks:=fun D hD=>(by cases hD),glob:=hgl,base:=fun k _ v hv=>hv,nnx:=Nat.le_refl _ }
   · obtain ⟨v,_,h1,h2⟩:=argE_look hargs ht
     simp only [Nat.sub_zero] at h1;have hlt:=(List.getElem?_eq_some_iff.1 h1).1;have e:(vs.toArray++Array.replicate (fn.ntmps - vs.toArray.size) undef).getD t undef=v:=by
       simp only [Array.getD_eq_getD_getElem?,Array.getElem?_append,List.size_toArray,hlt,if_true]
       simp [h1]
     show s.hv w _ σ _;rw [e];exact h1_hv h2 fun vs' e=>by subst e;simp only [SV.h1,SV.hc] at h2
   · have:=hle d
     have hn':H.n=fn.ntmps:=hn;show (vs.toArray++Array.replicate (fn.ntmps - vs.toArray.size) undef).size=H.n
     simp;omega
 have hret:∀ S',S.Le S'→∀ way env objs nx,retK P c d rs way env objs nx→Pr P S' env objs nx (bodyPostR P fn (fun e w'=>∃ (e':c.E) (v:Value) (σ':Sg),e=.returned v∧c.post d e'∧(∀ k,k<c.nn→∀ v,σ' k=some v→σ k=some v)∧(∀ k,c.nn+c.mm≤k→σ' k=none)∧(c.res d e').hv w' (Av A0 σ' (c.out d e')) σ' v∧Mod (fun b=>c.kp=false∧owns σ (c.objs d) b) w w'∧Obs σ' A0 (c.out d e') w' ∧
   (∀ b,owns σ' (c.out d e') b→owns σ (c.objs d) b∨w.heap.size≤b)) (exW way)):=by
   intro S' hS;have main:∀ way env objs nx,RetS P c d rs env objs nx→(way=.normal∨way=.ret)→Pr P S' env objs nx (bodyPostR P fn (fun e w'=>∃ (e':c.E) (v:Value) (σ':Sg),e=.returned v∧c.post d e'∧(∀ k,k<c.nn→∀ v,σ' k=some v→σ k=some v)∧(∀ k,c.nn+c.mm≤k→σ' k=none)∧(c.res d e').hv w' (Av A0 σ' (c.out d e')) σ' v∧Mod (fun b=>c.kp=false∧owns σ (c.objs d) b) w w'∧Obs σ' A0 (c.out d e') w' ∧
   (∀ b,owns σ' (c.out d e') b→owns σ (c.objs d) b∨w.heap.size≤b)) (exW way)):=by
     intro way env objs nx hr hway σ1 a0 w10 hst10;obtain ⟨w1,hst1,hshut⟩:=St.shut S'.ds rfl hst10 (fun D hD=>(hS.ds D hD).elim (fun h=>(by cases h)) fun h=>by rw [hS.w0];exact h) (hS.nod List.nodup_nil)
     generalize ha:({ a0 with defers:=[] }:Act)=a at hst1;have eA:∀ b,A0 b→S'.A0 b:=hS.a0;obtain ⟨ss,hre,hrun⟩:=resK_sound (P:=P) hr;obtain ⟨vs',hrun1,hvs1⟩:=hrun hst1;obtain ⟨e',hpost,hfit⟩:=hre;obtain ⟨ρ1,o1,n1,hfit,f1⟩:=fitV_sound (P:=P) hfit;obtain ⟨ρ,tn,rest,n2,hrn,l2,f2⟩:=hfit.h (P:=P);obtain ⟨σ2,le2,s2,t2,p2⟩:=f1.2 _ env σ1 a w1 hst1;obtain ⟨σ3,le3,s3,t3,p3⟩:=f2 _ env σ2 a w1 s2;simp only [List.append_nil] at s3 t3 p3;have hres1:(resS ss).hv w1 (S'.A σ1 objs) σ1 (resVal vs'):=by
       match ss,vs',hvs1 with
       | [],vs',h=>simp only [hvs] at h;subst h;exact ⟨[],rfl,rfl⟩
       | [s],vs',⟨v,m,h1,h2,h3⟩ =>
         simp only [hvs] at h3;subst h3 h1;exact h1_hv h2 fun vs'' e=>by subst e;simp only [SV.h1,SV.hc] at h2
       | s::s'::r,vs',h =>
         obtain ⟨v,m,h1,h2,v',m',h4,h5,h6⟩:=h;subst h4 h1;exact ⟨_,rfl,v,_,rfl,h2,v',_,rfl,h5,h6⟩
     have hres:(c.res d e').hv w1 (S'.A σ3 (tn.reverse++rest)) (σ3.via ρ) (resVal vs'):=((p2 _ hres1).later t3).names (via_le le3 l2);have hhist:Mod (owns σ (c.objs d)) w w1:=by
       have h:Mod S'.M0 S'.w0 w1:=s3.hist;rw [show S'.M0=owns σ (c.objs d) from hS.M0,show S'.w0=w from hS.w0] at h;exact h
     have hown0:∀ b,owns σ3 (tn.reverse++rest) b→owns σ (c.objs d) b∨w.heap.size≤b:=fun b hb=>by
       have h:S'.M0 b∨S'.w0.heap.size≤b:=s3.own0 b hb;rw [show S'.M0=owns σ (c.objs d) from hS.M0,show S'.w0=w from hS.w0] at h;exact h
     have hd:=Disj_append.1 s3.obs.disj;have hown:∀ b,owns (σ3.via ρ) (c.out d e') b↔owns σ3 tn b:=p3.owns;have hle3:∀ b,owns (σ3.via ρ) (c.out d e') b→owns σ3 (tn.reverse++rest) b:=fun b hb=>by rw [owns_append];exact .inl ((owns_rev b).2 ((hown b).1 hb))
     have hl:Later w1 (S'.A σ3 (tn.reverse++rest)) w1 (Av A0 (σ3.via ρ) (c.out d e')):=Later.own fun b hb=>hb.imp (eA b) (hle3 b)
     have hP:∃ (e':c.E) (v:Value) (σ':Sg),Ending.returned (resVal vs')=.returned v∧c.post d e'∧(∀ k,k<c.nn→∀ v,σ' k=some v→σ k=some v)∧(∀ k,c.nn+c.mm≤k→σ' k=none)∧(c.res d e').hv w1 (Av A0 σ' (c.out d e')) σ' v∧Mod (fun b=>c.kp=false∧owns σ (c.objs d) b) w w1∧Obs σ' A0 (c.out d e') w1 ∧
         (∀ b,owns σ' (c.out d e') b→owns σ (c.objs d) b∨w.heap.size≤b):=by
       refine ⟨e',resVal vs',σ3.via ρ,rfl,hpost,fun k hk v hv=>?_,fun k hk=>by unfold Sg.via;rw [rnB_spec hrn k hk],hres.later hl,hhist.mono fun b hb=>⟨hkp,hb⟩,⟨fun o ho=>(p3.holds o ho).later hl (fun _ _=>rfl),p3.disj (Disj_perm (List.reverse_perm tn) hd.1),fun b hb=>⟨(s3.obs.lt b (hle3 b hb)).1,fun h=>(s3.obs.lt b (hle3 b hb)).2 (eA b h)⟩⟩,fun b hb=>hown0 b (hle3 b hb)⟩
       unfold Sg.via at hv;rw [(f1.1.trans l2) k k (idRn_spec c.nn k hk)] at hv;have hb:S'.s0 k=some v:=s3.base k (show k<S'.nn by rw [hS.nn];exact hk) v hv
       rw [show S'.s0=σ from hS.s0] at hb;exact hb
     have hrun':(results fn a.tmps).run P w1=.ok (resVal vs') w1:=by
       have e:results fn a.tmps=(do let vs ← (List.toArray <$> (rs.mapM (resF a.tmps)):Sem (Array Value));pure (if h:vs.size=1 then vs[0] else .tuple vs)):=by
         unfold results
         congr 1
         rw [Array.mapM_eq_mapM_toList,hrs]
         congr 2
       rw [e];simp only [Sem.run_bind,Sem.run_map,hrun1,Result.andThen_ok]
       match vs' with
       | []=>simp [resVal]
       | [x]=>simp [resVal]
       | x::y::r=>simp [resVal]
     rcases hway with rfl|rfl
     · exact hshut fn _ _ ⟨resVal vs',by rw [show a0.tmps=a.tmps by rw [← ha]];exact hrun',hP⟩
     · exact hshut fn _ _ ⟨resVal vs',by rw [show a0.tmps=a.tmps by rw [← ha]];exact hrun',hP⟩
   intro way env objs nx hr
   cases way with
   | normal=>exact main .normal env objs nx hr (.inl rfl)
   | ret=>exact main .ret env objs nx hr (.inr rfl)
   | exit i=>exact hr.elim
 exact (h d hpre hargs.rng).h (S:=S) none hcs rfl hnn hdr (fun e=>by cases e) panicQ_body hret σ _ w hst
end
attribute [irreducible] retK
class Unf (p:Prop) where
 q:Prop
 h:q→p
section
variable {P:Program} [TabC P] {env:Env} {objs:List Ob} {nx:Nat}
instance {H:Cfg} {all r:List Oper} {K:KS}:Unf (OpsK P H all r K env objs nx):=⟨opsS P H all r K env objs nx,OpsK.unf⟩
instance {H:Cfg} {all:List Oper} {o0:List Ob} {N:List Nat} {r:Ord} {ph k:Bool} {K:KS}:Unf (OrdK P H all o0 N r ph k K env objs nx):=⟨ordS P H all o0 N r ph k K env objs nx,OrdK.unf⟩
instance {H:Cfg} {c:Code} {K:KW}:Unf (Vc P H c env objs nx K):=⟨vcS P H c env objs nx K,Vc.unf⟩
instance {E:Env} {ρ:Rn} {K:KF}:Unf (FitE env ρ objs nx E K):=⟨fitES env ρ objs nx E K,FitE.unf⟩
instance {ρ:Rn} {es ss:List SV} {K:KF}:Unf (FitL ρ objs nx es ss K):=⟨fitLS ρ objs nx es ss K,FitL.unf⟩
instance {ρ:Rn} {es ss:List SV} {K:KF}:Unf (FitAs ρ objs nx es ss K):=⟨fitAsS ρ objs nx es ss K,FitAs.unf⟩
instance {ρ:Rn} {tk:List Ob} {exps:List Ob} {K:Rn→List Ob→List Ob→Nat→Prop}:Unf (FitOs ρ tk objs nx exps K):=⟨fitOsS ρ tk objs nx exps K,FitOs.unf⟩
instance {Y:Env→List Ob→Nat→KW→Prop} {K:KW}:Unf (seqK Y K .normal env objs nx):=⟨Y env objs nx K,seqK_n⟩
instance {Y:Env→List Ob→Nat→KW→Prop} {K:KW}:Unf (seqK Y K .ret env objs nx):=⟨K .ret env objs nx,seqK_r⟩
instance {Y:Env→List Ob→Nat→KW→Prop} {K:KW} {i:Nat}:Unf (seqK Y K (.exit i) env objs nx):=⟨K (.exit i) env objs nx,seqK_e⟩
instance {id:Nat} {K:KW}:Unf (blockK id K .normal env objs nx):=⟨K .normal env objs nx,blockK_n⟩
instance {id:Nat} {K:KW}:Unf (blockK id K .ret env objs nx):=⟨K .ret env objs nx,blockK_r⟩
instance {id i:Nat} {K:KW}:Unf (blockK id K (.exit i) env objs nx):=⟨_,blockK_e⟩
instance {nn:Nat} {I:Type} {Φ:I→Prop} {E:I→Env} {O:I→List Ob} {N:Nat} {m:I→Nat} {i:I} {K:KW}:Unf (loopK nn Φ E O N m i K .ret env objs nx):=⟨K .ret env objs nx,loopK_r⟩
instance {nn:Nat} {I:Type} {Φ:I→Prop} {E:I→Env} {O:I→List Ob} {N:Nat} {m:I→Nat} {i:I} {K:KW} {id:Nat}:Unf (loopK nn Φ E O N m i K (.exit id) env objs nx):=⟨K (.exit id) env objs nx,loopK_e⟩
instance {nn:Nat} {I:Type} {Φ:I→Prop} {E:I→Env} {O:I→List Ob} {N:Nat} {K:KW}:Unf (cutK nn Φ E O N K .ret env objs nx):=⟨K .ret env objs nx,cutK_r⟩
instance {nn:Nat} {I:Type} {Φ:I→Prop} {E:I→Env} {O:I→List Ob} {N:Nat} {K:KW} {id:Nat}:Unf (cutK nn Φ E O N K (.exit id) env objs nx):=⟨K (.exit id) env objs nx,cutK_e⟩
instance {c:Ctr} {d:c.D} {rs:List ResultVar}:Unf (retK P c d rs .normal env objs nx):=⟨RetS P c d rs env objs nx,retK_n⟩
instance {c:Ctr} {d:c.D} {rs:List ResultVar}:Unf (retK P c d rs .ret env objs nx):=⟨RetS P c d rs env objs nx,retK_r⟩
end
theorem lenS:(∀ {α:Type} {n:Nat} (v:Vector α n),v.toList.length=n)∧(∀ {α:Type},([]:List α).length=0)∧(∀ {α:Type} (a:α) (l:List α),(a::l).length=l.length+1)∧(∀ {α:Type} (l m:List α),(l++m).length=l.length+m.length) ∧
   (∀ {α β:Type} (f:α→β) (l:List α),(l.map f).length=l.length)∧(∀ {α:Type} (i:Nat) (l:List α),(l.take i).length=min i l.length)∧(∀ {α:Type} (i:Nat) (l:List α),(l.drop i).length=l.length - i) ∧
   (∀ {α:Type} (enc:α→List SV) (xs:List α),(EF.of enc xs).els.length=xs.length)∧(∀ l:List (List SV),(EF.lit l).els.length=l.length) ∧
   (∀ {α:Type 1},([]:List α).length=0)∧(∀ {α:Type 1} (a:α) (l:List α),(a::l).length=l.length+1)∧(∀ {α:Type 1} (l m:List α),(l++m).length=l.length+m.length)∧(∀ {α:Type} {β:Type 1} (f:α→β) (l:List α),(l.map f).length=l.length)∧(∀ {α:Type 1} (n:Nat) (a:α),(List.replicate n a).length=n)∧(∀ {α:Type} (n:Nat) (a:α),(List.replicate n a).length=n) :=
 ⟨fun v=>Vector.length_toList,rfl,fun _ _=>rfl,fun _ _=>List.length_append,fun _ _=>List.length_map _,fun _ _=>List.length_take,fun _ _=>List.length_drop,fun _ _=>EF.of_len,fun _=>rfl,rfl,fun _ _=>rfl,fun _ _=>List.length_append,fun _ _=>List.length_map _,fun _ _=>List.length_replicate,fun _ _=>List.length_replicate⟩
theorem dT {p:Prop} [Decidable p] (h:p):true=decide p:=(decide_eq_true h).symm
theorem dF {p:Prop} [Decidable p] (h:¬ p):false=decide p:=(decide_eq_false h).symm
theorem nnS {n:Nat} {p:Prop} (h:p):0≤(n:Int)∧p:=⟨Int.natCast_nonneg _,h⟩
theorem cut_all {α:Type} {n:Nat} (v:Vector α n):List.drop (loI none).toNat (List.take (hiI n none).toNat v.toList)=v.toList:=by
 simp [loI,hiI,List.take_of_length_le]
theorem cut_from {α:Type} {n:Nat} (v:Vector α n) (k:Nat):List.drop (loI (some (k:Int))).toNat (List.take (hiI n none).toNat v.toList)=v.toList.drop k:=by
 simp [loI,hiI,List.take_of_length_le]
end Go.Proofs.YtfljmihdeimahaaGreatDoor
namespace Go.Proofs.YtfljmihdeimahaaGreatDoor
set_option linter.all false
def tab:List TI:=[⟨.oth,1,0⟩,⟨.oth,1,8⟩,⟨.int .i64,1,8⟩,⟨.int .i64,1,8⟩,⟨.bool,1,1⟩,⟨.int .u8,1,1⟩,⟨.int .u8,1,1⟩,⟨.st [(0,2),(1,3),(2,4),(3,6)],4,24⟩,⟨.st [(0,2),(1,3),(2,4),(3,6)],4,24⟩,⟨.str,1,16⟩,⟨.str,1,16⟩,⟨.str,1,16⟩,⟨.int .u64,1,8⟩,⟨.st [(0,9),(1,12)],2,24⟩,⟨.st [(0,9),(1,12)],2,24⟩,⟨.ptr 297,1,8⟩,⟨.ptr 300,1,8⟩,⟨.ptr 308,1,8⟩,⟨.st [(0,17)],1,8⟩,⟨.st [(0,17)],1,8⟩,⟨.oth,1,16⟩,⟨.int .i32,1,4⟩,⟨.sl 41,1,24⟩,⟨.oth,1,8⟩,⟨.ptr 83,1,8⟩,⟨.int .i64,1,8⟩,⟨.oth,1,0⟩,⟨.oth,1,8⟩,⟨.ptr 94,1,8⟩,⟨.sl 42,1,24⟩,⟨.oth,1,0⟩,⟨.oth,1,8⟩,⟨.ptr 66,1,8⟩,⟨.oth,1,8⟩,⟨.ar 32 5,32,32⟩,⟨.ar 32 5,32,32⟩,⟨.st [(0,3),(1,3),(2,3),(3,35)],35,56⟩,⟨.st [(0,3),(1,3),(2,3),(3,35)],35,56⟩,⟨.oth,1,8⟩,⟨.sl 44,1,24⟩,⟨.st [(0,3),(1,39)],2,32⟩,⟨.st [(0,3),(1,39)],2,32⟩,⟨.sl 5,1,24⟩,⟨.st [(0,3),(1,3),(2,42),(3,42)],4,64⟩,⟨.st [(0,3),(1,3),(2,42),(3,42)],4,64⟩,⟨.st [(0,3),(1,3),(2,35),(34,35)],66,80⟩,⟨.st [(0,3),(1,3),(2,35),(34,35)],66,80⟩,⟨.st [(0,46),(66,42)],67,104⟩,⟨.st [(0,46),(66,42)],67,104⟩,⟨.sl 35,1,24⟩,⟨.st [(0,49),(1,49)],2,48⟩,⟨.st [(0,49),(1,49)],2,48⟩,⟨.sl 310,1,24⟩,⟨.st [(0,3),(1,35)],33,40⟩,⟨.st [(0,3),(1,35)],33,40⟩,⟨.st [(0,52),(1,3),(2,35),(34,35),(66,54),(99,35),(131,35)],163,200⟩,⟨.st [(0,52),(1,3),(2,35),(34,35),(66,54),(99,35),(131,35)],163,200⟩,⟨.sl 248,1,24⟩,⟨.sl 313,1,24⟩,⟨.sl 250,1,24⟩,⟨.st [(0,3),(1,3),(2,3),(3,3),(4,3),(5,3),(6,25),(7,42),(8,42),(9,48),(76,51),(78,51),(80,35),(112,56),(275,57),(276,58),(277,59),(278,49)],279,632⟩,⟨.st [(0,3),(1,3),(2,3),(3,3),(4,3),(5,3),(6,25),(7,42),(8,42),(9,48),(76,51),(78,51),(80,35),(112,56),(275,57),(276,58),(277,59),(278,49)],279,632⟩,⟨.oth,1,0⟩,⟨.oth,1,8⟩,⟨.ptr 101,1,8⟩,⟨.st [(0,37),(35,64),(36,22),(37,39)],38,112⟩,⟨.st [(0,37),(35,64),(36,22),(37,39)],38,112⟩,⟨.oth,1,8⟩,⟨.oth,1,8⟩,⟨.sl 61,1,24⟩,⟨.oth,1,0⟩,⟨.oth,1,8⟩,⟨.oth,1,8⟩,⟨.ptr 124,1,8⟩,⟨.oth,1,0⟩,⟨.oth,1,8⟩,⟨.st [(0,3),(1,3),(2,3),(3,35)],35,56⟩,⟨.oth,1,8⟩,⟨.oth,1,8⟩,⟨.oth,1,8⟩,⟨.sl 189,1,24⟩,⟨.sl 208,1,24⟩,⟨.st [(0,80),(1,80),(2,81),(3,3),(4,4)],5,88⟩,⟨.st [(0,80),(1,80),(2,81),(3,3),(4,4)],5,88⟩,⟨.int .u64,1,8⟩,⟨.oth,1,0⟩,⟨.oth,1,8⟩,⟨.int .u32,1,4⟩,⟨.st [(0,4),(1,87),(2,87)],3,12⟩,⟨.st [(0,4),(1,87),(2,87)],3,12⟩,⟨.oth,1,0⟩,⟨.oth,1,8⟩,⟨.ptr 137,1,8⟩,⟨.st [(0,24),(1,89),(4,92),(5,4)],6,40⟩,⟨.st [(0,24),(1,89),(4,92),(5,4)],6,40⟩,⟨.oth,1,8⟩,⟨.oth,1,0⟩,⟨.oth,1,8⟩,⟨.oth,1,8⟩,⟨.sl 145,1,24⟩,⟨.st [(0,35),(32,99)],33,56⟩,⟨.st [(0,35),(32,99)],33,56⟩,⟨.oth,1,0⟩,⟨.oth,1,8⟩,⟨.oth,1,8⟩,⟨.oth,1,8⟩,⟨.oth,1,8⟩,⟨.oth,1,8⟩,⟨.oth,1,8⟩,⟨.sl 111,1,24⟩,⟨.st [(0,42),(1,42)],2,48⟩,⟨.st [(0,42),(1,42)],2,48⟩,⟨.oth,1,0⟩,⟨.oth,1,8⟩,⟨.ptr 165,1,8⟩,⟨.oth,1,0⟩,⟨.oth,1,8⟩,⟨.oth,1,8⟩,⟨.ptr 176,1,8⟩,⟨.oth,1,8⟩,⟨.map 3 184,1,8⟩,⟨.sl 3,1,24⟩,⟨.sl 182,1,24⟩,⟨.st [(0,28),(1,114),(2,118),(3,121),(4,120),(5,122),(6,25)],7,88⟩,⟨.st [(0,28),(1,114),(2,118),(3,121),(4,120),(5,122),(6,25)],7,88⟩,⟨.oth,1,8⟩,⟨.oth,1,0⟩,⟨.oth,1,8⟩,⟨.oth,1,0⟩,⟨.oth,1,8⟩,⟨.ptr 193,1,8⟩,⟨.oth,1,8⟩,⟨.oth,1,8⟩,⟨.oth,1,0⟩,⟨.oth,1,8⟩,⟨.oth,1,8⟩,⟨.st [(0,24),(1,3),(2,3),(3,87),(4,3),(5,4)],6,48⟩,⟨.st [(0,24),(1,3),(2,3),(3,87),(4,3),(5,4)],6,48⟩,⟨.st [(0,87),(1,3),(2,3),(3,42)],4,48⟩,⟨.st [(0,87),(1,3),(2,3),(3,42)],4,48⟩,⟨.oth,1,0⟩,⟨.oth,1,8⟩,⟨.oth,1,8⟩,⟨.oth,1,8⟩,⟨.oth,1,8⟩,⟨.sl 153,1,24⟩,⟨.sl 151,1,24⟩,⟨.oth,1,0⟩,⟨.oth,1,8⟩,⟨.oth,1,8⟩,⟨.st [(0,3),(1,3),(2,35),(34,35),(66,42)],67,104⟩,⟨.st [(0,3),(1,3),(2,35),(34,35),(66,42)],67,104⟩,⟨.st [(0,42),(1,151)],68,128⟩,⟨.st [(0,42),(1,151)],68,128⟩,⟨.oth,1,8⟩,⟨.oth,1,8⟩,⟨.oth,1,8⟩,⟨.ar 16 5,16,16⟩,⟨.ar 16 5,16,16⟩,⟨.oth,1,0⟩,⟨.oth,1,8⟩,⟨.ptr 215,1,8⟩,⟨.oth,1,0⟩,⟨.oth,1,8⟩,⟨.st [(0,3),(1,3),(2,35),(34,161),(35,161),(36,3)],37,72⟩,⟨.st [(0,3),(1,3),(2,35),(34,161),(35,161),(36,3)],37,72⟩,⟨.oth,1,8⟩,⟨.oth,1,8⟩,⟨.ptr 171,1,8⟩,⟨.sl 283,1,24⟩,⟨.st [(0,169)],1,24⟩,⟨.st [(0,169)],1,24⟩,⟨.map 9 3,1,8⟩,⟨.sl 275,1,24⟩,⟨.sl 269,1,24⟩,⟨.st [(0,35),(32,168),(33,173),(34,174),(35,172)],36,96⟩,⟨.st [(0,35),(32,168),(33,173),(34,174),(35,172)],36,96⟩,⟨.oth,1,0⟩,⟨.oth,1,8⟩,⟨.oth,1,8⟩,⟨.oth,1,8⟩,⟨.st [(0,3),(1,3),(2,42),(3,42)],4,64⟩,⟨.st [(0,3),(1,3),(2,42),(3,42)],4,64⟩,⟨.st [(0,3),(1,3)],2,16⟩,⟨.st [(0,3),(1,3)],2,16⟩,⟨.oth,1,0⟩,⟨.oth,1,8⟩,⟨.oth,1,8⟩,⟨.oth,1,8⟩,⟨.ar 128 5,128,128⟩,⟨.oth,1,8⟩,⟨.oth,1,8⟩,⟨.st [(0,42),(1,4)],2,32⟩,⟨.st [(0,42),(1,4)],2,32⟩,⟨.oth,1,0⟩,⟨.oth,1,8⟩,⟨.oth,1,8⟩,⟨.oth,1,8⟩,⟨.ptr 200,1,8⟩,⟨.st [(0,42),(1,4)],2,32⟩,⟨.st [(0,42),(1,4)],2,32⟩,⟨.oth,1,8⟩,⟨.oth,1,8⟩,⟨.int .u64,1,8⟩,⟨.oth,1,8⟩,⟨.oth,1,8⟩,⟨.oth,1,8⟩,⟨.st [(0,3),(1,189)],129,136⟩,⟨.st [(0,3),(1,189)],129,136⟩,⟨.oth,1,8⟩,⟨.oth,1,8⟩,⟨.oth,1,8⟩,⟨.oth,1,8⟩,⟨.oth,1,8⟩,⟨.st [(0,3),(1,3),(2,158),(18,35),(50,49)],51,88⟩,⟨.st [(0,3),(1,3),(2,158),(18,35),(50,49)],51,88⟩,⟨.oth,1,0⟩,⟨.oth,1,8⟩,⟨.oth,1,8⟩,⟨.oth,1,8⟩,⟨.ar 8 87,8,32⟩,⟨.ar 8 87,8,32⟩,⟨.oth,1,8⟩,⟨.oth,1,8⟩,⟨.oth,1,8⟩,⟨.oth,1,8⟩,⟨.sl 244,1,24⟩,⟨.oth,1,8⟩,⟨.oth,1,8⟩,⟨.oth,1,8⟩,⟨.oth,1,8⟩,⟨.oth,1,8⟩,⟨.st [(0,3),(1,3),(2,3)],3,24⟩,⟨.st [(0,3),(1,3),(2,3)],3,24⟩,⟨.oth,1,0⟩,⟨.oth,1,8⟩,⟨.oth,1,8⟩,⟨.oth,1,8⟩,⟨.oth,1,8⟩,⟨.oth,1,8⟩,⟨.ar 64 87,64,256⟩,⟨.oth,1,8⟩,⟨.oth,1,8⟩,⟨.oth,1,8⟩,⟨.st [(0,42),(1,42)],2,48⟩,⟨.oth,1,0⟩,⟨.oth,1,8⟩,⟨.oth,1,8⟩,⟨.st [(0,3),(1,3),(2,35),(34,35),(66,42)],67,104⟩,⟨.st [(0,42),(1,248)],68,128⟩,⟨.st [(0,42),(1,248)],68,128⟩,⟨.sl 57,1,24⟩,⟨.st [(0,59),(1,251)],2,48⟩,⟨.st [(0,59),(1,251)],2,48⟩,⟨.oth,1,0⟩,⟨.oth,1,8⟩,⟨.oth,1,0⟩,⟨.oth,1,8⟩,⟨.oth,1,8⟩,⟨.oth,1,8⟩,⟨.oth,1,8⟩,⟨.oth,1,8⟩,⟨.ar 5 233,15,120⟩,⟨.oth,1,8⟩,⟨.oth,1,8⟩,⟨.oth,1,8⟩,⟨.oth,1,8⟩,⟨.oth,1,0⟩,⟨.st [(0,42),(1,57)],2,48⟩,⟨.st [(0,42),(1,57)],2,48⟩,⟨.oth,1,8⟩,⟨.oth,1,8⟩,⟨.oth,1,8⟩,⟨.oth,1,8⟩,⟨.st [(0,3),(1,35),(33,3),(34,35),(66,59)],67,104⟩,⟨.st [(0,3),(1,35),(33,3),(34,35),(66,59)],67,104⟩,⟨.oth,1,8⟩,⟨.oth,1,8⟩,⟨.oth,1,8⟩,⟨.oth,1,0⟩,⟨.oth,1,8⟩,⟨.oth,1,8⟩,⟨.st [(0,4),(1,35),(33,35),(65,54),(98,3),(99,3),(100,35)],132,160⟩,⟨.st [(0,4),(1,35),(33,35),(65,54),(98,3),(99,3),(100,35)],132,160⟩,⟨.oth,1,8⟩,⟨.oth,1,8⟩,⟨.oth,1,8⟩,⟨.oth,1,8⟩,⟨.oth,1,8⟩,⟨.oth,1,8⟩,⟨.oth,1,8⟩,⟨.oth,1,8⟩,⟨.oth,1,8⟩,⟨.oth,1,8⟩,⟨.oth,1,8⟩,⟨.oth,1,8⟩,⟨.st [(0,17),(1,17),(2,17),(3,9)],4,40⟩,⟨.st [(0,17),(1,17),(2,17),(3,9)],4,40⟩,⟨.ar 0 16,0,0⟩,⟨.st [(0,298)],0,0⟩,⟨.st [(0,298)],0,0⟩,⟨.int .u8,1,1⟩,⟨.int .u8,1,1⟩,⟨.oth,1,8⟩,⟨.ptr 5,1,8⟩,⟨.int .i32,1,4⟩,⟨.int .i32,1,4⟩,⟨.st [(0,12),(1,12),(2,87),(3,301),(4,5),(5,5),(6,302),(7,303),(8,304),(9,305),(10,306)],11,48⟩,⟨.st [(0,12),(1,12),(2,87),(3,301),(4,5),(5,5),(6,302),(7,303),(8,304),(9,305),(10,306)],11,48⟩,⟨.st [(0,54),(33,35)],65,72⟩,⟨.st [(0,54),(33,35)],65,72⟩,⟨.oth,1,8⟩,⟨.st [(0,4),(1,35),(33,35),(65,54),(98,35),(130,35)],162,176⟩,⟨.st [(0,4),(1,35),(33,35),(65,54),(98,35),(130,35)],162,176⟩,⟨.oth,1,8⟩,⟨.oth,1,8⟩,⟨.oth,1,8⟩,⟨.int .i64,1,8⟩]
def gv0:Vector (BitVec 32) 8:=#v[1779033703#32,3144134277#32,1013904242#32,2773480762#32,1359893119#32,2600822924#32,528734635#32,1541459225#32]
def gv1:Vector (BitVec 32) 64:=#v[1116352408#32,1899447441#32,3049323471#32,3921009573#32,961987163#32,1508970993#32,2453635748#32,2870763221#32,3624381080#32,310598401#32,607225278#32,1426881987#32,1925078388#32,2162078206#32,2614888103#32,3248222580#32,3835390401#32,4022224774#32,264347078#32,604807628#32,770255983#32,1249150122#32,1555081692#32,1996064986#32,2554220882#32,2821834349#32,2952996808#32,3210313671#32,3336571891#32,3584528711#32,113926993#32,338241895#32,666307205#32,773529912#32,1294757372#32,1396182291#32,1695183700#32,1986661051#32,2177026350#32,2456956037#32,2730485921#32,2820302411#32,3259730800#32,3345764771#32,3516065817#32,3600352804#32,4094571909#32,275423344#32,430227734#32,506948616#32,659060556#32,883997877#32,958139571#32,1322822218#32,1537002063#32,1747873779#32,1955562222#32,2024104815#32,2227730452#32,2361852424#32,2428436474#32,2756734187#32,3204031479#32,3329325298#32]
def e3I (p:Int×Int×Int):List SV:=[.int .i64 p.1,.int .i64 p.2.1,.int .i64 p.2.2]
def gv2:List (Int×Int×Int):=[(0,0,0),(1,265,7),(2,133,6),(4,67,4),(8,34,0)]
def cl:List Bool:=[false,false,true,true,true,true,true,true,true,true,true,true,true,true,true,true,true,true,true,true,true,true,true,true,true,true,true,true,true,true,true,true,true,true,true,true,true,true,true,true,true,true,true,true,true,true,true,true,true,true,true,true,true,true,true,true,true,true,true,true,true,true,true,true,true,true,true,true,true,true,true,true,true,true,true,true,true,true,true,true,true,true,true,true,true,true,true,true,true,true,true,true,true,true,true,true,true,true,true,true,true,true,true,true,true,true,true,true,true,true,true,true,true,true,true,true,true,true,true,true,true,true,true,true,true,true,true,true,true,true,true,true,true,true,true,true,true,true,true,true,true,true,true,true,true,true,true,true,true,true,true,true,true,true,true,true,true,true,true,true,true,true,true,true,true,true,true,true,true,true,true,true,true,true,true,false,false,false,false,false,false,false,false,false,false,false,false,false,false,false,false,false,false,false,false,false,false,false,false,false,false,false,true]
noncomputable instance tabI:TabC Tryz.prog:={ cl:=cl,clok:=by kernel_rfl,tab:=tab,ok:=by kernel_rfl,zok:=by kernel_rfl,mix:=by kernel_rfl,gl:=[(0,[.arr32 gv0]),(1,[.arr32 gv1]),(2,[.arrG 3 e3I gv2])],eqs:=[7,8,34,35,36,37,45,46,53,54,76,88,89,157,158,183,184,189,207,208,220,221,232,233,240,262,282,283,309,310,312,313],eqok:=by kernel_rfl }
end Go.Proofs.YtfljmihdeimahaaGreatDoor
namespace Go.Proofs.YtfljmihdeimahaaGreatDoor
set_option linter.all false
open Go.RowKit
section
variable {P:Program} [TabC P] {H:Type} {enc:TypeId×Value→H} {W:World} {spare:Nat→Bool} {held:Bool}
abbrev none0:Own:=fun _=>False
variable (P enc W spare held) in
def Opens (t:Nat) {α:Type} (f:α→List SV):Prop:=∀ (fuel:Nat) (cs:List Value) (x:DataW H×List MemPlace),DataW.trod enc P W 0 spare held fuel t cs=some x→∃ a,hL W none0 (f a) sg0 cs
theorem ty_cells {t:Nat} {i:TI} (h:ty P t=some i):P.cellsOf t=i.size:=by
 obtain ⟨inf,d,hi,_,hs,_⟩:=ty_spec h
 simp [Program.cellsOf,hi,hs]
theorem one_of {s:SV} {v:Value} (h:s.hc W none0 sg0 [v]):hL W none0 [s] sg0 [v]:=⟨[v],[],rfl,h,rfl⟩
theorem o_i64 {t:Nat} {i:TI} (h:ty P t=some i) (hk:i.k=.int .i64):Opens P enc W spare held t (fun n:Int=>[.int .i64 n]):=fun fuel cs x hx=>by
 obtain ⟨n,rfl,_,hw⟩:=DataW.trod_int (ty_int h hk) hx;refine ⟨n,one_of ?_⟩;simp only [SV.hc,true_and];intro _
 have:-9223372036854775808≤n∧n≤9223372036854775807:=by simpa [Lit.wf,IntKind.min,IntKind.max,IntKind.signed,IntKind.bits] using hw
 exact ⟨this.1,by omega⟩
theorem o_uns {t w:Nat} {i:TI} {k:IntKind} {mk:BitVec w→SV} (h:ty P t=some i) (hk:i.k=.int k) (hs:k.signed=false) (hw:k.bits=w) (hmk:∀ x v,(mk x).hc W none0 sg0 [v]↔v=bV k x):Opens P enc W spare held t (fun x:BitVec w=>[mk x]):=fun fuel cs x hx=>by
 obtain ⟨n,rfl,_,hwf⟩:=DataW.trod_int (ty_int h hk) hx;subst hw;refine ⟨BitVec.ofInt k.bits n,one_of ((hmk _ _).2 ?_)⟩;have hr:0≤n∧n<2^k.bits:=by cases k<;>simp [IntKind.signed] at hs<;>simp [Lit.wf,IntKind.min,IntKind.max,IntKind.signed,IntKind.bits] at hwf ⊢<;>omega
 simp only [bV,Value.int.injEq,true_and,BitVec.toNat_ofInt];rw [Int.toNat_of_nonneg (Int.emod_nonneg _ (by have:=Nat.two_pow_pos k.bits;omega))]
 rw [Int.emod_eq_of_lt hr.1]
 exact_mod_cast hr.2
theorem hc8 {x:BitVec 8} {v:Value}:(SV.u8 x).hc W none0 sg0 [v]↔v=bV .u8 x:=by simp [SV.hc]
theorem o_slice {t e z:Nat} {i j:TI} {α:Type} {f:α→List SV} (h:ty P t=some i) (hk:i.k=.sl e) (hj:ty P e=some j) (hz:Nat.beq j.size z=true) (hz0:Nat.blt 0 z=true) (he:Opens P enc W spare held e f) (hs:∀ a,szL (f a)=z) :
   Opens P enc W spare held t (fun l:List α=>[.fs z f l]):=fun fuel cs x hx=>by
 have hz':=Nat.eq_of_beq_eq_true hz;have hpos:0<z:=by simpa [Nat.blt_eq] using hz0
 rcases DataW.trod_slice (ty_slice h hk) hx with ⟨rfl,_⟩|⟨a,len,cap,elems,rest,n,_,rfl,_,_,hl,hm,hlen,hel,_⟩
 · refine ⟨[],one_of ?_⟩
   simp only [SV.hc];exact ⟨none,0,rfl,Nat.le_refl _,by decide,fun _=>by simp,fun i hi=>hs _,fun ad had=>by cases had⟩
 · have hc:P.cellsOf e=z:=by rw [ty_cells hj,hz']
   rw [hc] at hel;have each:∀ i,i<len→∃ b cs',hL W none0 (f b) sg0 cs'∧W.cells? 0 (a.add (i*z)) z=some cs':=fun i hi=>by
     have h1:=hel i hi;have hi':i<elems.length:=by omega
     rw [List.getElem?_eq_getElem hi',Option.bind_eq_some_iff] at h1;obtain ⟨cs',h2,h3⟩:=h1;obtain ⟨b,hb⟩:=he _ _ _ h3;exact ⟨b,cs',hb,h2⟩
   by_cases hl0:len=0
   · subst hl0
     refine ⟨[],one_of ?_⟩;simp only [SV.hc];exact ⟨some a,cap,rfl,Nat.zero_le _,hm,(fun h=>(by cases h)),fun i hi=>hs _,fun ad had=>.inl (by simp)⟩
   · obtain ⟨b0,cs0,hb0,hc0⟩:=each 0 (by omega)
     have h0:=(World.cells?_some hc0).2.2 0 hpos;have hlen0:=(World.cells?_some hc0).2.1;simp only [Nat.zero_mul,Addr.add,if_true] at h0;obtain ⟨C,T,fr,hblk,hsp⟩:∃ C T fr,W.heap[a.block]?=some (.cells C T fr)∧a.spot=none:=by
       unfold World.cell? at h0;have hsome:(cs0[0]?).isSome=true:=by simp [hlen0,hpos]
       rw [← h0] at hsome
       split at hsome
       · rename_i C T fr hh
         refine ⟨C,T,fr,hh,?_⟩
         cases hsp:a.spot with
         | none=>rfl
         | some q=>simp [hsp] at hsome
       · simp at hsome
     obtain ⟨g,p,sp⟩:=a
     simp only at hsp hblk;subst hsp
     have cell:∀ i,i<len→∃ b,hL W none0 (f b) sg0 ((C.toList.drop (p+i*z)).take z):=fun i hi=>by
       obtain ⟨b,cs',hb,hcs⟩:=each i hi;obtain ⟨_,hl',hcc⟩:=World.cells?_some hcs;refine ⟨b,?_⟩
       have:(C.toList.drop (p+i*z)).take z=cs':=by
         apply List.ext_getElem?
         intro q;rw [List.getElem?_take]
         split
         · rename_i hq
           rw [List.getElem?_drop,← hcc q hq,addr_add,addr_add,cell_of_row W g (p+i*z+q) C T fr hblk]
           simp
         · rename_i hq
           rw [List.getElem?_eq_none (by omega)]
       rw [this];exact hb
     have all:∀ n,n≤len→∃ l:List α,l.length=n∧∀ i (h:i<l.length),hL W none0 (f l[i]) sg0 ((C.toList.drop (p+i*z)).take z):=by
       intro n
       induction n with
       | zero=>intro _;exact ⟨[],rfl,fun i h=>by simp at h⟩
       | succ n ih =>
         intro hn;obtain ⟨l,hl,hE⟩:=ih (by omega)
         obtain ⟨b,hb⟩:=cell n (by omega)
         refine ⟨l++[b],by simp [hl],fun i hi=>?_⟩
         rw [List.getElem_append]
         split
         · exact hE i _
         · rename_i h1
           have:i=n:=by simp at hi;omega
           subst this;simpa using hb
     obtain ⟨l,hll,hE⟩:=all len (Nat.le_refl _);refine ⟨l,one_of ?_⟩;simp only [SV.hc];refine ⟨some ⟨g,p,none⟩,cap,by rw [hll],by rw [hll];exact hl,hm,(fun h=>(by cases h)),fun i hi=>hs _,fun ad had=>?_⟩
     simp only [Option.some.injEq] at had;subst had;exact .inr ⟨rfl,fun h=>h,C,T,fr,hblk,hE⟩
def OpensF (P:Program) [TabC P] {H:Type} (enc:TypeId×Value→H) (W:World) (spare:Nat→Bool) (held:Bool) (off:Nat) (fl:List (Nat×Nat)) {α:Type} (f:α→List SV):Prop :=
 ∀ (n:Nat) (cs:List Value),(∀ q∈fl,∃ x,DataW.trod enc P W 0 spare held n q.2 ((cs.drop q.1).take (P.cellsOf q.2))=some x)→(∀ q∈fl,q.1+P.cellsOf q.2≤cs.length)→∃ a,hL W none0 (f a) sg0 ((cs.drop off).take (szL (f a)))∧off+szL (f a)≤cs.length
theorem o_last {off t:Nat} {α:Type} {f:α→List SV} {j:TI} (hj:ty P t=some j) (h:Opens P enc W spare held t f) (hs:∀ a,szL (f a)=j.size):OpensF P enc W spare held off [(off,t)] f:=fun n cs hx hle=>by
 obtain ⟨x,hx⟩:=hx (off,t) (by simp)
 obtain ⟨a,ha⟩:=h _ _ _ hx
 have:=hle (off,t) (by simp)
 rw [ty_cells hj] at ha this;exact ⟨a,by rw [hs];exact ha,by rw [hs];exact this⟩
theorem hL_app {w:World} {A:Own} {σ:Sg}:∀ {x y:List SV} {c d:List Value},hL w A x σ c→hL w A y σ d→hL w A (x++y) σ (c++d)
 | [],y,c,d,hc,hd=>by simp only [hL] at hc;subst hc;exact hd
 | s::r,y,c,d,hc,hd=>by
   simp only [hL] at hc;obtain ⟨a,b,rfl,h1,h2⟩:=hc;simp only [List.cons_append,hL];exact ⟨a,b++d,by rw [List.append_assoc],h1,hL_app h2 hd⟩
theorem o_field {off off2 t:Nat} {fl:List (Nat×Nat)} {α β:Type} {f:α→List SV} {g:β→List SV} {j:TI} (hj:ty P t=some j) (h:Opens P enc W spare held t f) (hs:∀ a,szL (f a)=j.size) (ho:Nat.beq (off+j.size) off2=true) (hr:OpensF P enc W spare held off2 fl g) :
   OpensF P enc W spare held off ((off,t)::fl) (fun x:α×β=>f x.1++g x.2):=fun n cs hx hle=>by
 obtain rfl:=Nat.eq_of_beq_eq_true ho;obtain ⟨x,hx1⟩:=hx (off,t) (by simp)
 obtain ⟨a,ha⟩:=h _ _ _ hx1;obtain ⟨b,hb,hb2⟩:=hr n cs (fun q hq=>hx q (List.mem_cons_of_mem _ hq)) (fun q hq=>hle q (List.mem_cons_of_mem _ hq))
 rw [ty_cells hj] at ha;refine ⟨(a,b),?_,?_⟩
 · simp only [szL_append,hs]
   rw [List.take_add,List.drop_drop];exact hL_app ha hb
 · simp only [szL_append,hs];omega
theorem o_struct {t:Nat} {i:TI} {fl:List (Nat×Nat)} {α:Type} {f:α→List SV} (h:ty P t=some i) (hk:i.k=.st fl) (hr:OpensF P enc W spare held 0 fl f) (hs:∀ a,szL (f a)=i.size) (hfit:fl.all (fun q=>match ty P q.2 with|some j=>Nat.ble (q.1+j.size) i.size|none=>false)=true) :
   Opens P enc W spare held t f:=fun fuel cs x hx=>by
 obtain ⟨gs,hu,hm⟩:=ty_struct h hk;obtain ⟨xs,n,_,_,hlen,hxl,hel⟩:=DataW.trod_struct hu hx;rw [ty_cells h] at hlen;have h1:∀ q∈fl,∃ x,DataW.trod enc P W 0 spare held n q.2 ((cs.drop q.1).take (P.cellsOf q.2))=some x:=fun q hq=>by
   rw [← hm,List.mem_map] at hq;obtain ⟨g,hg,rfl⟩:=hq;obtain ⟨k,hk,he⟩:=List.mem_iff_getElem.1 hg;have hgk:gs[k]?=some g:=by rw [← Array.getElem?_toList,List.getElem?_eq_getElem hk,he]
   have hk':k<xs.length:=by rw [hxl];simpa using hk
   exact ⟨xs[k],by rw [hel k g hgk,List.getElem?_eq_getElem hk']⟩
 have h2:∀ q∈fl,q.1+P.cellsOf q.2≤cs.length:=fun q hq=>by
   have:=List.all_eq_true.1 hfit q hq
   split at this
   · rename_i j hj
     rw [ty_cells hj,hlen];exact Nat.le_of_ble_eq_true this
   · cases this
 obtain ⟨a,ha,hle⟩:=hr n cs h1 h2;refine ⟨a,?_⟩;rw [hs,List.drop_zero,← hlen,List.take_length] at ha;exact ha
theorem Opens.map {t:Nat} {α β:Type} {f:α→List SV} {g:β→List SV} (h:Opens P enc W spare held t f) (m:α→β) (hm:∀ a,f a=g (m a)):Opens P enc W spare held t g:=fun fuel cs x hx=>by
 obtain ⟨a,ha⟩:=h fuel cs x hx;exact ⟨m a,by rw [← hm];exact ha⟩
end
end Go.Proofs.YtfljmihdeimahaaGreatDoor
namespace Go.Proofs.YtfljmihdeimahaaGreatDoor
set_option linter.all false
open Go.RowKit Go.ChangeShapes Go.WideShapes Go.ChangeAt
section
variable {P:Program} [TabC P] {H:Type} {enc:TypeId×Value→H} {W:World} {spare:Nat→Bool} {held:Bool}
theorem arr_cells {t e n w:Nat} {k:IntKind} {i j:TI} {base:Nat} (h:ty P t=some i) (hk:i.k=.ar n e) (hj:ty P e=some j) (hjk:j.k=.int k) (hj1:j.size=1) (hi:i.size=n) (hs:k.signed=false) (hw:k.bits=w) {fuel:Nat} {cs:List Value} {x:DataW H×List MemPlace}
   (hx:DataW.trod enc P W base spare held fuel t cs=some x):∃ v:Vector (BitVec w) n,cs=v.toList.map (bV k)∧x.1=.agg (v.toList.map fun b=>.lit (.int k (b.toNat:Int))):=by
 subst hw;obtain ⟨xs,m,_,hx1,hlen,hxl,hel⟩:=DataW.trod_array (ty_array h hk) hx;rw [ty_cells h,hi] at hlen;have each:∀ q (hq:q<n),∃ b:BitVec k.bits,cs[q]?=some (bV k b)∧∃ y,xs[q]?=some y∧y.1=.lit (.int k (b.toNat:Int)):=fun q hq=>by
   have h1:=hel q hq;rw [ty_cells hj,hj1,Nat.mul_one] at h1;have hq':q<xs.length:=by omega
   rw [List.getElem?_eq_getElem hq'] at h1;obtain ⟨z,hz,hz2,hwf⟩:=DataW.trod_int (ty_int hj hjk) h1;have hr:0≤z∧z<2^k.bits:=by cases k<;>simp [IntKind.signed] at hs<;>simp [Lit.wf,IntKind.min,IntKind.max,IntKind.signed,IntKind.bits] at hwf ⊢<;>omega
   have hzn:z=((BitVec.ofInt k.bits z).toNat:Int):=by
     rw [BitVec.toNat_ofInt,Int.toNat_of_nonneg (Int.emod_nonneg _ (by have:=Nat.two_pow_pos k.bits;omega)),Int.emod_eq_of_lt hr.1 (by exact_mod_cast hr.2)]
   refine ⟨BitVec.ofInt k.bits z,?_,xs[q],List.getElem?_eq_getElem hq',?_⟩
   · have:(cs.drop q).take 1=[cs[q]'(by omega)]:=by
       rw [List.drop_eq_getElem_cons (by omega)];rfl
     rw [this] at hz;rw [List.getElem?_eq_getElem (by omega)]
     simp only [List.cons.injEq,and_true] at hz;rw [hz,bV,← hzn]
   · rw [hz2,← hzn]
 have all:∀ q,q≤n→∃ l:List (BitVec k.bits),l.length=q∧∀ p (hp:p<l.length),cs[p]?=some (bV k l[p])∧∃ y,xs[p]?=some y∧y.1=.lit (.int k (l[p].toNat:Int)):=by
   intro q
   induction q with
   | zero=>intro _;exact ⟨[],rfl,fun p hp=>by simp at hp⟩
   | succ q ih =>
     intro hq;obtain ⟨l,hl,hE⟩:=ih (by omega)
     obtain ⟨b,hb⟩:=each q (by omega)
     refine ⟨l++[b],by simp [hl],fun p hp=>?_⟩
     rw [List.getElem_append]
     split
     · exact hE p _
     · rename_i h1
       have:p=q:=by simp at hp;omega
       subst this;simpa using hb
 obtain ⟨l,hl,hE⟩:=all n (Nat.le_refl _);refine ⟨⟨l.toArray,by simpa using hl⟩,?_,?_⟩
 · show cs=l.map (bV k)
   refine List.ext_getElem (by simp;omega) fun p h1 h2=>?_
   have:=(hE p (by simpa using h2)).1
   rw [List.getElem?_eq_getElem h1] at this
   simpa using this
 · rw [hx1]
   show DataW.agg _=.agg (l.map _)
   congr 1
   refine List.ext_getElem (by simp;omega) fun p h1 h2=>?_
   obtain ⟨y,hy,hy2⟩:=(hE p (by simpa using h2)).2
   have hp:p<xs.length:=by simpa using h1
   rw [List.getElem?_eq_getElem hp] at hy;simp only [Option.some.injEq] at hy
   simp [hy,hy2]
theorem arg_slice {t e base z:Nat} {i:TI} {α:Type} {f:α→List SV} (ht:ty P t=some i) (hk:i.k=.sl e) (ho:Opens P enc W spare held t (fun l:List α=>[.fs z f l])) {v:Value} {d:DataW H} {p:List MemPlace} (hv:Value.okWide P W .any base t v) (h:DataW.Trod enc P W 0 spare held t v d p):∃ l:List α,(SV.fs z f l).h1 W none0 sg0 v:=by
 obtain ⟨fuel,hT⟩:=h;obtain ⟨l,hl⟩:=ho _ _ _ hT;have hone:v.cells.toList=[v]:=by
   have hv':=hv;simp only [Value.okWide,ty_slice ht hk,Cell.okWide] at hv'
   cases v<;>first|rfl|(simp [Cell.ok,ty_slice ht hk] at hv')
 refine ⟨l,?_⟩;simp only [hL] at hl;obtain ⟨a,b,h1,h2,rfl⟩:=hl;rw [List.append_nil,hone] at h1;subst h1;exact h2
theorem law_callsG {f:Nat} {c:Ctr} (hc:c.Ok P f) (d:c.D) (hp:c.pre d) (ho:c.objs d=[]) (hr:∀ e,c.post d e→c.res d e=.bool true) (W:World) {vs:List Value} (hv:hvs W none0 sg0 (c.args d) vs) (hg:Glob P W none0) :
   Calls P f vs.toArray W (fun e W'=>e=.returned (.bool true)∧Below W.heap.size W W'):=by
 have hA:Later W none0 W (Av none0 sg0 (c.objs d)):=Later.own fun b hb=>by rw [ho] at hb;exact hb.elim id id
 refine (hc d hp none0 W sg0 vs (fun _ h=>h.elim) (by rw [ho];exact ⟨fun o ho=>(by cases ho),trivial,fun b hb=>hb.elim⟩) (hvs.later hA hv) (fun _ _=>rfl) (hg.later hA)).mono ?_
 rintro e W' ⟨e',v,σ',rfl,hpost,_,_,hres,hm,_,_⟩;rw [hr e' hpost] at hres;simp only [SV.hv,SV.h1,SV.hc,List.cons.injEq,and_true] at hres;subst hres;exact ⟨rfl,hm.os,hm.tape,hm.output,hm.size,fun k hk=>hm.block k hk (fun h=>by have h:=h.2;rw [ho] at h;exact h)⟩
theorem glob_arr32 {n:String} {g t e m f:Nat} {i j:TI} {cs:Array Value} {p:List MemPlace} {v:Vector (BitVec 32) m} (hg:P.globalNamed n=some g) (hv:W.var? P n=some cs) (ht:ty P t=some i) (hk:i.k=.ar m e) (hj:ty P e=some j) (hjk:j.k=.int .u32) (hj1:j.size=1) (hi:i.size=m)
   (hd:DataW.trod enc P W 0 spare held f t cs.toList=some (.agg (v.toList.map fun b=>.lit (.int .u32 (b.toNat:Int))),p)):(SV.fpt [.arr32 v]).hc W none0 sg0 [.pointer (some ⟨g,0,none⟩)]:=by
 obtain ⟨u,hcs,hx⟩:=arr_cells (w:=32) ht hk hj hjk hj1 hi rfl rfl hd;have huv:u=v:=by
   have hx':v.toList.map (fun b=>(DataW.lit (.int .u32 (b.toNat:Int)):DataW H))=u.toList.map fun b=>.lit (.int .u32 (b.toNat:Int)):=by simpa using hx
   have:v.toList=u.toList:=by
     have inj:∀ {l k:List (BitVec 32)},l.map (fun b=>(DataW.lit (.int .u32 (b.toNat:Int)):DataW H))=k.map (fun b=>.lit (.int .u32 (b.toNat:Int)))→l=k:=by
       intro l
       induction l with
       | nil=>intro k h;cases k with
         | nil=>rfl
         | cons _ _=>cases h
       | cons a r ih=>intro k h;cases k with
         | nil=>cases h
         | cons b s =>
           simp only [List.map_cons,List.cons.injEq,DataW.lit.injEq,Lit.int.injEq,true_and,Int.natCast_inj] at h;rw [BitVec.eq_of_toNat_eq h.1,ih h.2]
     exact inj hx'
   exact (Vector.toList_inj.1 this).symm
 subst huv;simp only [World.var?,hg,Option.bind_some] at hv;simp only [SV.hc]
 split at hv
 · rename_i C T fr hh
   have e:=Option.some.inj hv;refine ⟨g,0,rfl,fun h=>h,C,T,fr,hh,?_⟩
   rw [List.drop_zero,e,hcs];refine ⟨u.toList.map (bV .u32),[],?_,by simp only [SV.hc],rfl⟩
   rw [List.append_nil,List.take_of_length_le (by simp [szL,SV.sz])]
 · cases hv
end
end Go.Proofs.YtfljmihdeimahaaGreatDoor
namespace Go.Proofs.YtfljmihdeimahaaGreatDoor
set_option linter.all false
open Go.RowKit
def freeS:SV→Bool
 | .fs _ _ _=>false
 | .fpt _=>false
 | .arrG _ _ _=>false
 | .agg _=>false
 | .tup _=>false
 | _=>true
def freeL:List SV→Bool
 | []=>true
 | s::r=>freeS s&&freeL r
def freeA:SV→Bool
 | .agg ps=>freeL ps
 | s=>freeS s
def freeAs:List SV→Bool
 | []=>true
 | s::r=>freeA s&&freeAs r
def freeV:SV→Bool
 | .tup vs=>freeAs vs
 | s=>freeA s
theorem freeS_hc {w:World} {A A':Own}:∀ {s:SV} {σ:Sg} {cs:List Value},freeS s=true→s.hc w A σ cs→s.hc w A' σ cs:=by
 intro s σ cs hf h
 cases s<;>first|(simp [freeS] at hf;done)|(simp only [SV.hc] at h ⊢;exact h)|(simp only [SV.hc] at h)
theorem freeL_hL {w:World} {A A':Own} {σ:Sg}:∀ {l:List SV} {cs:List Value},freeL l=true→hL w A l σ cs→hL w A' l σ cs
 | [],cs,_,h=>by simp only [hL] at h ⊢;exact h
 | s::r,cs,hf,h=>by
   simp only [freeL,Bool.and_eq_true] at hf;simp only [hL] at h ⊢;obtain ⟨a,b,h1,h2,h3⟩:=h;exact ⟨a,b,h1,freeS_hc hf.1 h2,freeL_hL hf.2 h3⟩
theorem freeA_h1 {w:World} {A A':Own} {σ:Sg} {s:SV} {v:Value} (hf:freeA s=true) (h:s.h1 w A σ v):s.h1 w A' σ v:=by
 cases s<;>first|(simp [freeA,freeS] at hf;done)|(simp only [SV.h1] at h ⊢;exact freeS_hc rfl h)|(simp only [SV.h1] at h ⊢;done)|skip
 obtain ⟨cs,h1,h2⟩:=h;exact ⟨cs,h1,freeL_hL hf h2⟩
theorem freeAs_hvs {w:World} {A A':Own} {σ:Sg}:∀ {l:List SV} {vs:List Value},freeAs l=true→hvs w A σ l vs→hvs w A' σ l vs
 | [],_,_,h=>h
 | s::r,_,hf,⟨v,m,h1,h2,h3⟩=>by
   simp only [freeAs,Bool.and_eq_true] at hf;exact ⟨v,m,h1,freeA_h1 hf.1 h2,freeAs_hvs hf.2 h3⟩
theorem freeV_hv {w:World} {A A':Own} {σ:Sg} {s:SV} {v:Value} (hf:freeV s=true) (h:s.hv w A σ v):s.hv w A' σ v:=by
 cases s with
 | tup vs=>obtain ⟨l,h1,h2⟩:=h;exact ⟨l,h1,freeAs_hvs hf h2⟩
 | _=>(simp only [SV.hv] at h ⊢;exact freeA_h1 hf h)
theorem freeL_hE {w:World} {A A':Own} {σ:Sg}:∀ {els:List (List SV)} {cs:List Value},(∀ e∈els,freeL e=true)→hE w A σ els cs→hE w A' σ els cs
 | [],cs,_,h=>by simp only [hE] at h ⊢;exact h
 | e::r,cs,hf,h=>by
   simp only [hE] at h ⊢;obtain ⟨a,b,h1,h2,h3⟩:=h;exact ⟨a,b,h1,freeL_hL (hf e (List.mem_cons_self ..)) h2,freeL_hE (fun x hx=>hf x (List.mem_cons_of_mem _ hx)) h3⟩
def freeO:SO→Prop
 | .box _ ps=>freeL ps=true
 | .row _ _ enc xs=>∀ x∈xs,freeL (enc x)=true
 | .nrow=>True
 | _=>False
theorem freeO_holds {w:World} {A A':Own} {σ:Sg} {k:Nat} {o:SO} (hf:freeO o) (h:o.holds w A σ k):o.holds w A' σ k:=by
 cases o<;>simp only [freeO] at hf
 · obtain ⟨b,cs,h1,h2,h3⟩:=h;exact ⟨b,cs,h1,h2,freeL_hL hf h3⟩
 · obtain ⟨v,cs,h0,h1,h2,h3,h4⟩:=h
   exact ⟨v,cs,h0,h1,h2,freeL_hE (fun e he=>by obtain ⟨x,hx,rfl⟩:=List.mem_map.1 he;exact hf x hx) h3,h4⟩
 · exact h
def frowIn (nn:Nat) (l:List Ob) (o:Ob):Prop:=o.1<nn∧o∈l∧match o.2 with
 | .frow _ _ _=>True
 | _=>False
theorem Ctr.Ok.melt {P:Program} [TabC P] {f:Nat} {c:Ctr} (h:c.Ok P f) {k e z:Nat} {α:Type} {enc:α→List SV} {xs:c.D→List α} {objs':c.D→List Ob} {out':c.D→c.E→List Ob} (hk:k<c.nn)
   (ho:∀ d,SetO (objs' d) (k,.row e z enc (xs d)) (k,.frow z enc (xs d)) (c.objs d)) (hu:∀ d e',SetO (out' d e') (k,.row e z enc (xs d)) (k,.frow z enc (xs d)) (c.out d e'))
   (hf:∀ d e',∀ o∈out' d e',freeO o.2∨frowIn c.nn (objs' d) o) (hr:∀ d e',freeV (c.res d e')=true):({ c with objs:=objs',out:=out' }:Ctr).Ok P f:=by
 intro d hpre A0 w σ vs hA hobs hargs hdom hgl;have hobs:Obs σ A0 (objs' d) w:=hobs;obtain ⟨R,r1,r2,r3⟩:=(ho d).owns_iff (σ:=σ);have r3:=r3 hobs.disj;have hrow:rowH w (fun b=>A0 b∨owns σ (objs' d) b) σ k e z ((xs d).map enc):=hobs.holds _ (ho d).mem
 have hle:∀ b,owns σ (c.objs d) b→owns σ (objs' d) b:=fun b hb=>(r1 b).2 (((r2 b).1 hb).imp id fun x=>x.elim)
 have hnot:∀ b,SO.own σ k (.row e z enc (xs d)) b→¬ (A0 b∨owns σ (c.objs d) b):=fun b hb hx=>by
   rcases hx with hx|hx
   · exact (hobs.lt b ((r1 b).2 (.inr hb))).2 hx
   · rcases (r2 b).1 hx with hx|hx
     · exact r3 b hx hb
     · exact hx
 have hobs1:Obs σ A0 (c.objs d) w:=hobs.set (ho d) (Mod.refl _ w) (hrow.fs (fun b hb=>hb.imp id (hle b)) (fun b v h1 h2=>hnot b ⟨v,h1,h2⟩)) (fun b hb=>hb.elim) hA
 refine (h d hpre A0 w σ vs hA hobs1 (hargs.later (Later.own fun b hb=>hb.imp id (hle b))) hdom (hgl.later (Later.own fun b hb=>hb.imp id (hle b)))).mono ?_
 rintro en w' ⟨e',v,σ',rfl,hpost,hsame,hdom',hres,hm,hobs',hnew⟩;obtain ⟨R',s1,s2,s3⟩:=(hu d e').owns_iff (σ:=σ');have hmem:(k,SO.frow z enc (xs d))∈c.out d e':=by
   obtain ⟨a,b,_,h2⟩:=(hu d e').split;rw [h2];simp
 obtain ⟨v0,hv0',hfs⟩:∃ v0,σ' k=some v0∧(SV.fs z enc (xs d)).hc w' (fun b=>A0 b∨owns σ' (c.out d e') b) sg0 [v0]:=hobs'.holds _ hmem
 have hv0:σ k=some v0:=hsame k hk v0 hv0';have hoo:∀ b,SO.own σ' k (.row e z enc (xs d)) b↔SO.own σ k (.row e z enc (xs d)) b:=fun b=>by
   simp only [SO.own,hv0,hv0']
 have hnewR:∀ b,R' b→owns σ (c.objs d) b∨w.heap.size≤b:=fun b hb=>hnew b ((s2 b).2 (.inl hb))
 have hA':∀ b,owns σ' (out' d e') b→owns σ (objs' d) b∨w.heap.size≤b:=fun b hb=>by
   rcases (s1 b).1 hb with hb|hb
   · exact (hnewR b hb).imp (hle b) id
   · exact .inl ((r1 b).2 (.inr ((hoo b).1 hb)))
 have hlat:Later w (fun b=>A0 b∨owns σ (objs' d) b) w' (fun b=>A0 b∨owns σ' (out' d e') b):=hm.later (fun b hb=>.inr (hle b hb.2)) (fun b hb hx=>hx.imp id fun hx=>(hA' b hx).resolve_right (by omega))
 have hlt0:∀ b,SO.own σ k (.row e z enc (xs d)) b→b<w.heap.size:=fun b hb=>(hobs.lt b ((r1 b).2 (.inr hb))).1
 have hrow':rowH w' (fun b=>A0 b∨owns σ' (out' d e') b) σ' k e z ((xs d).map enc):=by
   have:=hrow.later hlat (fun b v h1 h2=>hm.block b (hlt0 b ⟨v,h1,h2⟩) fun x=>hnot b ⟨v,h1,h2⟩ (.inr x.2))
   obtain ⟨u,cs,g1,g2⟩:=this;rw [hv0] at g1;cases g1;exact ⟨_,cs,hv0',g2⟩
 refine ⟨e',v,σ',rfl,hpost,hsame,hdom',freeV_hv (hr d e') hres,hm.mono fun b hb=>⟨hb.1,hle b hb.2⟩,⟨fun o hmo=>?_,?_,fun b hb=>?_⟩,hA'⟩
 · obtain ⟨a,b,h1,h2⟩:=(hu d e').split
   have hcase:o=(k,SO.row e z enc (xs d))∨o∈c.out d e':=by
     rw [h2];have hmo:o∈out' d e':=hmo;rw [h1] at hmo;rcases List.mem_append.1 hmo with hmo|hmo
     · exact .inr (List.mem_append_left _ hmo)
     · rcases List.mem_cons.1 hmo with rfl|hmo
       · exact .inl rfl
       · exact .inr (List.mem_append_right _ (List.mem_cons_of_mem _ hmo))
   rcases hcase with rfl|hmo'
   · exact hrow'
   · rcases hf d e' o hmo with hfree|⟨hlt,hin,hfr⟩
     · exact freeO_holds hfree (hobs'.holds o hmo')
     · obtain ⟨n,so⟩:=o
       cases so<;>try (exact hfr.elim)
       rename_i z2 α2 enc2 xs2;obtain ⟨u,hu1,hu2⟩:∃ u,σ' n=some u∧(SV.fs z2 enc2 xs2).hc w' (fun b=>A0 b∨owns σ' (c.out d e') b) sg0 [u]:=hobs'.holds _ hmo'
       have hu0:=hsame n hlt u hu1
       have:=(hobs.holds _ hin).later hlat (fun b hb=>hb.elim)
       obtain ⟨u',g1,g2⟩:∃ u',σ n=some u'∧(SV.fs z2 enc2 xs2).hc w' (fun b=>A0 b∨owns σ' (out' d e') b) sg0 [u']:=this
       rw [hu0] at g1;cases g1;exact ⟨_,hu1,g2⟩
 · obtain ⟨a,b,h1,h2⟩:=(hu d e').split
   have hd:=hobs'.disj;have hRr:∀ x,R' x→¬ SO.own σ' k (.row e z enc (xs d)) x:=fun x hx hy=>by
     have hy:=(hoo x).1 hy;rcases hnewR x hx with h'|h'
     · exact hnot x hy (.inr h')
     · have:=hlt0 x hy;omega
   have hRa:∀ x,owns σ' a x∨owns σ' b x→R' x:=fun x hx=>by
     have:owns σ' (c.out d e') x:=by
       rw [h2,owns_append];exact hx.imp id .inr
     exact ((s2 x).1 this).resolve_right (fun y=>y.elim)
   show Disj σ' (out' d e');rw [h2] at hd;rw [h1];rw [Disj_append] at hd ⊢;exact ⟨hd.1,⟨fun x hx hb=>hRr x (hRa x (.inr hb)) hx,hd.2.1.2⟩,fun x hx hc=>hc.elim (fun hc=>hRr x (hRa x (.inl hx)) hc) (fun hb=>hd.2.2 x hx (.inr hb))⟩
 · rcases (s1 b).1 hb with hb|hb
   · exact hobs'.lt b ((s2 b).2 (.inl hb))
   · have:=hobs.lt b ((r1 b).2 (.inr ((hoo b).1 hb)))
     exact ⟨Nat.lt_of_lt_of_le this.1 hm.size,this.2⟩
end Go.Proofs.YtfljmihdeimahaaGreatDoor
namespace Go.Proofs.YtfljmihdeimahaaGreatDoor
set_option linter.all false
open Go.RowKit
set_option maxRecDepth 100000 in
set_option maxHeartbeats 4000000 in
theorem sgrow_raw (n:Nat) (h1:1≤n) (h2:n≤1000000000) (w:World):Calls Tryz.prog 109 #[.slice none 0 0,.int .i64 (n:Int)] w fun e w'=>∃ c C,e=.returned (.slice (some ⟨w.heap.size,0,none⟩) 0 c)∧c≤maxLen∧C.size=c∧w'=w.drew.alloc (.cells C 5):=by
 obtain ⟨i0,d0,hi0,hd0,hz0,hb0,_⟩:=ty_spec (P:=Tryz.prog) (t:=5) (i:=⟨.int .u8,1,1⟩) rfl;obtain ⟨i1,z,hi1,hz,hs1,hc1⟩:=zero_spec (P:=Tryz.prog) (t:=5) (c:=[.u8 0#8]) rfl;rw [hi0] at hi1;cases hi1;have hb0:i0.bytes=1:=hb0;have hz0:i0.size=1:=hz0;have hzc:z.cells.size=1:=by
   have:=(hc1 w (fun _=>False) (fun _=>none)).len
   simpa [szL,SV.sz] using this
 have hh1:¬ ((n:Int)<0):=by omega
 have hh2:wrap64 ((0:Int) - 0)=0:=by unfold wrap64;omega
 have hh3:wrap64 ((n:Int) - 0)=(n:Int):=by unfold wrap64;omega
 have hh4:(n:Int)>0:=by omega
 have hold:(Builtin.firstCells i0.size 0 (.slice none 0 0)).run Tryz.prog w.drew=.ok (([]:List Value).toArray) w.drew:=run_firstCells_none w.drew i0.size 0 0 0;have hfit:Builtin.nextslicecap (0+n) 0*i0.bytes≤281474976710656:=growslice_fits (by omega) (by rw [hb0];omega)
 have hrz:∀ ty,(Builtin.append_ #[42,3] ty #[.slice none 0 0,.int .i64 (n:Int)]).run Tryz.prog w =
     .ok (.slice (some ⟨w.heap.size,0,none⟩) n (grownCap w n 0 5)) (w.drew.alloc (.cells (#[]++Builtin.zeroCells z.cells n++Builtin.zeroCells z.cells (grownCap w n 0 5 - n)) 5)):=fun ty=>by
   have h:=Lib.run_append_grow_zeros w 42 3 ty 5 i0 z .i64 .i64 Tryz.underlying42 Tryz.underlying3 hi0 hz none 0 0 [] hold n (by omega) (by omega) (by omega) (by omega) (by rw [hb0];omega) hfit
   simpa using h
 have hGn:n≤grownCap w n 0 5:=grownCap_ge w _ _ _;have hGm:grownCap w n 0 5≤maxLen:=grownCap_le_maxLen w n 0 5 (by unfold maxLen;omega)
 generalize grownCap w n 0 5=G at *;have hG63:G≤9223372036854775807:=by unfold maxLen at hGm;omega
 clear hold hfit hc1;generalize z.cells=zc at hrz hzc;clear hz
 go_enter Tryz.func109,Tryz.ntmps109
 go_wp2_with (at_builtin;refine Lib.wpList_append_run _ rfl _ _ _ _ rfl _ _ rfl rfl _ _ (hrz _) ?_)
 all_goals go_ret
 exact ⟨G,rfl,hGm,_,by simp [Builtin.zeroCells,hzc];omega,rfl⟩
def sgrow_c:Ctr where
 D:=Nat
 pre:=fun n=>1≤n∧n≤1000000000
 args:=fun n=>[.nils,.int .i64 (n:Int)]
 res:=fun _ _=>.own 0
 out:=fun _ _=>[(0,.row 5 1 eB [])]
 mm:=1
theorem sgrow_ok:sgrow_c.Ok Tryz.prog 109:=by
 intro n ⟨h1,h2⟩ A0 w σ vs hA hobs hargs hdom hgl;obtain ⟨v0,m,rfl,h0,v1,m1,rfl,h1',rfl⟩:=hargs;simp only [SV.h1,SV.hc,List.cons.injEq,and_true] at h0 h1';subst h0;obtain ⟨rfl,_⟩:=h1';refine (sgrow_raw n h1 h2 w).mono ?_;rintro en w' ⟨c,C,rfl,hcm,hcs,rfl⟩;have hg:(w.drew.alloc (.cells C 5)).heap[w.heap.size]?=some (.cells C 5 (0,0)):=heap_alloc_new w.drew _;have hm:Mod (fun _=>False) w (w.drew.alloc (.cells C 5)):=(Mod.drew _ w).trans (Mod.alloc _ _ _)
 have hs1:σ.set 0 (.slice (some ⟨w.heap.size,0,none⟩) 0 c) 0=some (.slice (some ⟨w.heap.size,0,none⟩) 0 c):=Sg.set_self _ _ _;have hrow1:∀ k,SO.own (σ.set 0 (.slice (some ⟨w.heap.size,0,none⟩) 0 c)) 0 (.row 5 1 eB []) k↔w.heap.size=k:=fun k=>⟨fun ⟨u,hu,hk⟩=>by rw [hs1] at hu;cases hu;simpa [blkO] using hk,fun hk=>⟨_,hs1,by simp [blkO,hk]⟩⟩
 refine ⟨(),_,σ.set 0 (.slice (some ⟨w.heap.size,0,none⟩) 0 c),rfl,trivial,fun k hk x hx=>?_,fun k hk=>?_,⟨_,hs1,rfl,rfl⟩,hm.mono fun k hk=>hk.elim,⟨fun o ho=>?_,⟨fun _ _ x=>x,trivial⟩,fun k hk=>?_⟩,fun k hk=>?_⟩
 · cases hk
 · have hk1:1≤k:=hk
   show (if k=0 then _ else σ k)=none
   rw [if_neg (by omega)];exact hdom k (Nat.zero_le _)
 · rcases List.mem_cons.1 ho with rfl|ho
   · exact ⟨_,[],hs1,fun e he=>(by cases he),Nat.zero_le _,rfl,by simp,.inr ⟨w.heap.size,c,C,rfl,Nat.zero_le _,hg,Nat.zero_le _,hcm,by omega,by simp⟩⟩
   · cases ho
 · have:=(hrow1 k).1 (hk.resolve_right (fun x=>x))
   subst this;exact ⟨(Array.getElem?_eq_some_iff.1 hg).1,fun hx=>by have:=hA _ hx;omega⟩
 · have:=(hrow1 k).1 (hk.resolve_right (fun x=>x))
   subst this;exact Or.inr (Nat.le_refl _)
end Go.Proofs.YtfljmihdeimahaaGreatDoor
namespace Go.Proofs.YtfljmihdeimahaaGreatDoor
set_option linter.all false
section
structure Vr (H B:Type) where
 num:Int
 ep:Int
 salt:H
 before:H
 val:List B
variable {H B:Type} (cm:Vr H B→H)
def okV (i:Nat) (b:H) (e:Int) (v:Vr H B):Prop:=v.num=(i:Int)+1∧e<v.ep∧v.ep<2147483648∧v.before=b∧v.val.length≤64
def fmV:Nat→H→Int→List (Vr H B)→Prop
 | _,_,_,[]=>True
 | i,b,e,v::r=>okV i b e v∧fmV (i+1) (cm v) v.ep r
def lastB (b:H):List (Vr H B)→H
 | []=>b
 | v::r=>lastB (cm v) r
def lastE (e:Int):List (Vr H B)→Int
 | []=>e
 | v::r=>lastE v.ep r
theorem fmV_app (v:Vr H B):∀ (l:List (Vr H B)) (i:Nat) (b:H) (e:Int),fmV cm i b e (l++[v])↔fmV cm i b e l∧okV (i+l.length) (lastB cm b l) (lastE e l) v
 | [],i,b,e=>by simp [fmV,lastB,lastE]
 | w::r,i,b,e=>by
   simp only [List.cons_append,fmV,lastB,lastE,List.length_cons];rw [fmV_app v r,show i+1+r.length=i+(r.length+1) by omega,and_assoc]
theorem lastB_snoc (b:H) (v:Vr H B):∀ (l:List (Vr H B)),lastB cm b (l++[v])=cm v
 | []=>rfl
 | w::r=>lastB_snoc (cm w) v r
theorem lastE_snoc (e:Int) (v:Vr H B):∀ (l:List (Vr H B)),lastE e (l++[v])=v.ep
 | []=>rfl
 | w::r=>lastE_snoc w.ep v r
theorem lastB_at (b:H):∀ {l:List (Vr H B)} (h:l≠[]),lastB cm b l=cm (l.getLast h):=by
 intro l h;have e:=List.dropLast_concat_getLast h
 conv=>lhs;rw [← e]
 exact lastB_snoc cm b _ _
theorem lastE_at (e:Int):∀ {l:List (Vr H B)} (h:l≠[]),lastE e l=(l.getLast h).ep:=by
 intro l h;have e':=List.dropLast_concat_getLast h
 conv=>lhs;rw [← e']
 exact lastE_snoc e _ _
theorem fmV_take {i:Nat} {b:H} {e:Int}:∀ {l m:List (Vr H B)},fmV cm i b e (l++m)→fmV cm i b e l:=by
 intro l
 induction l generalizing i b e with
 | nil=>intro m _;trivial
 | cons v r ih=>intro m h;exact ⟨h.1,ih h.2⟩
theorem fmV_le {i:Nat} {b:H}:∀ {l:List (Vr H B)} {e:Int},fmV cm i b e l→e≤lastE e l:=by
 intro l
 induction l generalizing i b with
 | nil=>intro e _;exact Int.le_refl _
 | cons v r ih=>intro e h;have h1:=h.1.2.1;have:=ih h.2;show e≤lastE v.ep r;omega
variable {L C:Type} [DecidableEq L]
def getLb (ps:List (L×C)) (x:L):Option C:=(ps.find? fun p=>decide (p.1=x)).map Prod.snd
def setLb (ps:List (L×C)) (x:L) (c:C):List (L×C):=match ps with
 | []=>[(x,c)]
 | p::r=>if p.1=x then (x,c)::r else p::setLb r x c
theorem getLb_set (x y:L) (c:C):∀ (ps:List (L×C)),getLb (setLb ps x c) y=if x=y then some c else getLb ps y
 | []=>by
   unfold setLb getLb
   by_cases h:x=y
   · simp [h]
   · simp [h]
 | p::r=>by
   have ih:=getLb_set x y c r;unfold setLb
   by_cases h:p.1=x
   · rw [if_pos h]
     by_cases h2:x=y
     · subst h2;simp [getLb]
     · rw [if_neg h2]
       unfold getLb;have h3:¬ p.1=y:=fun e=>h2 (h.symm.trans e)
       simp [h2,h3]
   · rw [if_neg h]
     unfold getLb at ih ⊢
     by_cases h2:p.1=y
     · have h3:¬ x=y:=fun e=>h (h2.trans e.symm)
       simp [h2,h3]
     · simp only [List.find?_cons,h2,decide_false]
       exact ih
theorem setLb_fst (x:L) (c:C):∀ (ps:List (L×C)),(setLb ps x c).map Prod.fst=if x∈ps.map Prod.fst then ps.map Prod.fst else ps.map Prod.fst++[x]
 | []=>rfl
 | p::r=>by
   unfold setLb
   by_cases h:p.1=x
   · rw [if_pos h,if_pos (by simp [h])];simp [h]
   · rw [if_neg h,List.map_cons,setLb_fst x c r]
     have h':¬ x=p.1:=fun e=>h e.symm
     by_cases hm:x∈r.map Prod.fst
     · rw [if_pos hm,if_pos (by simp only [List.map_cons,List.mem_cons];exact .inr hm)];rfl
     · rw [if_neg hm,if_neg (by simp only [List.map_cons,List.mem_cons,not_or];exact ⟨h',hm⟩)];rfl
variable {V:Type}
def chR (es:List (List (L×V))) (x:L):List V:=es.flatten.filterMap fun p=>if p.1=x then some p.2 else none
theorem chR_snoc (es:List (List (L×V))) (n:List (L×V)) (x:L):chR (es++[n]) x=chR es x++n.filterMap fun p=>if p.1=x then some p.2 else none:=by
 unfold chR;simp
theorem news_one {n:List (L×V)} (h:(n.map Prod.fst).Nodup) (x:L):(n.filterMap fun p=>if p.1=x then some p.2 else none)=(getLb n x).toList:=by
 induction n with
 | nil=>rfl
 | cons p r ih =>
   obtain ⟨h1,h2⟩:=List.nodup_cons.1 (show (p.1::r.map Prod.fst).Nodup from h);have ih:=ih h2;unfold getLb at ih ⊢
   by_cases hp:p.1=x
   · have hn:∀ q∈r,¬ q.1=x:=fun q hq e=>h1 (List.mem_map.2 ⟨q,hq,e.trans hp.symm⟩)
     have hr:(r.filterMap fun p=>if p.1=x then some p.2 else none)=[]:=by
       rw [List.filterMap_eq_nil_iff];intro q hq;rw [if_neg (hn q hq)]
     simp [hp,hr]
   · simp [hp,ih]
def giveLb (ps:List (L×List V)):List (L×V)→List (L×List V)
 | []=>ps
 | p::r=>giveLb (setLb ps p.1 (((getLb ps p.1).getD [])++[p.2])) r
theorem giveLb_get:∀ (n:List (L×V)) (ps:List (L×List V)),(n.map Prod.fst).Nodup→∀ x,(getLb (giveLb ps n) x).getD []=(getLb ps x).getD []++(getLb n x).toList
 | [],ps,_,x=>by simp [giveLb,getLb]
 | p::r,ps,h,x=>by
   obtain ⟨h1,h2⟩:=List.nodup_cons.1 (show (p.1::r.map Prod.fst).Nodup from h);show (getLb (giveLb (setLb ps p.1 _) r) x).getD []=_;rw [giveLb_get r _ h2,getLb_set]
   by_cases hp:p.1=x
   · have hr:getLb r x=none:=by
       unfold getLb;rw [List.find?_eq_none.2 fun q hq=>by
         simp only [decide_eq_true_eq];exact fun e=>h1 (List.mem_map.2 ⟨q,hq,e.trans hp.symm⟩)]
       rfl
     rw [if_pos hp,hr];subst hp
     simp [getLb]
   · rw [if_neg hp]
     congr 2
     unfold getLb
     simp [hp]
theorem give_chR {es:List (List (L×V))} {n:List (L×V)} {ps:List (L×List V)} (hn:(n.map Prod.fst).Nodup) (h:∀ x,(getLb ps x).getD []=chR es x):∀ x,(getLb (giveLb ps n) x).getD []=chR (es++[n]) x:=fun x=>by
 rw [giveLb_get n ps hn,h x,chR_snoc,news_one hn]
end
end Go.Proofs.YtfljmihdeimahaaGreatDoor
namespace Go.Proofs.YtfljmihdeimahaaGreatDoor
set_option linter.all false
section
variable {H B:Type} (cm:List B→Vr H B→H) (zero:H)
def okG (x:List B) (l:List (Vr H B)) (e:Int) (val:List B):Prop:=(1≤x.length∧x.length≤32)∧fmV (cm x) 0 zero 0 l∧lastE 0 l<e∧e<2147483648∧val.length≤64
def formedC (x:List B) (l:List (Vr H B)):Prop:=(1≤x.length∧x.length≤32)∧l≠[]∧fmV (cm x) 0 zero 0 l
def newV (salt:H) (x:List B) (l:List (Vr H B)) (e:Int) (val:List B):Vr H B:=⟨(l.length:Int)+1,e,salt,lastB (cm x) zero l,val⟩
def fmVD [DecidableEq H] (cm:Vr H B→H):∀ (i:Nat) (b:H) (e:Int) (l:List (Vr H B)),Decidable (fmV cm i b e l)
 | _,_,_,[]=>isTrue trivial
 | i,b,e,v::r=>@instDecidableAnd _ _ (inferInstanceAs (Decidable (_∧_∧_∧_∧_))) (fmVD cm (i+1) (cm v) v.ep r)
instance [DecidableEq H] (cm:Vr H B→H) (i:Nat) (b:H) (e:Int) (l:List (Vr H B)):Decidable (fmV cm i b e l):=fmVD cm i b e l
instance [DecidableEq H] (cm:List B→Vr H B→H) (zero:H) (x:List B) (l:List (Vr H B)) (e:Int) (val:List B):Decidable (okG cm zero x l e val):=inferInstanceAs (Decidable (_∧_∧_∧_∧_))
instance [DecidableEq H] (cm:List B→Vr H B→H) (zero:H) (x:List B) (l:List (Vr H B)):Decidable (formedC cm zero x l) :=
 match l with
 | []=>isFalse fun h=>h.2.1 rfl
 | v::r=>decidable_of_iff ((1≤x.length∧x.length≤32)∧fmV (cm x) 0 zero 0 (v::r)) ⟨fun h=>⟨h.1,by simp,h.2⟩,fun h=>⟨h.1,h.2.2⟩⟩
theorem okG_out (salt:H) {x:List B} {l:List (Vr H B)} {e:Int} {val:List B}:formedC cm zero x (l++[newV cm zero salt x l e val])↔okG cm zero x l e val:=by
 unfold formedC okG;rw [fmV_app]
 constructor
 · rintro ⟨h1,_,h2,_,h3,h4,_,h5⟩
   exact ⟨h1,h2,h3,h4,h5⟩
 · rintro ⟨h1,h2,h3,h4,h5⟩
   exact ⟨h1,by simp,h2,by simp [newV],h3,h4,rfl,h5⟩
theorem okG_prog {x:List B} {l:List (Vr H B)} {e:Int} {val:List B}:okG cm zero x l e val↔((1≤x.length∧x.length≤32)∧val.length≤64∧1≤e∧e<2147483648)∧(l=[]∨formedC cm zero x l∧∀ h:l≠[],(l.getLast h).ep<e):=by
 unfold okG formedC
 constructor
 · rintro ⟨h1,h2,h3,h4,h5⟩
   have:=fmV_le (cm x) h2
   refine ⟨⟨h1,h5,by omega,h4⟩,?_⟩
   by_cases hl:l=[]
   · exact .inl hl
   · exact .inr ⟨⟨h1,hl,h2⟩,fun h=>by rw [← lastE_at 0 h];exact h3⟩
 · rintro ⟨⟨h1,h5,h6,h4⟩,h|⟨⟨_,hl,h2⟩,h3⟩⟩
   · subst h;exact ⟨h1,trivial,by show (0:Int)<e;omega,h4,h5⟩
   · exact ⟨h1,h2,by rw [lastE_at 0 hl];exact h3 hl,h4,h5⟩
theorem okG_short {x:List B} {l:List (Vr H B)} {e:Int} {val:List B} (h:okG cm zero x l e val) (hl:l≠[]):formedC cm zero x l:=⟨h.1,hl,h.2.1⟩
end
end Go.Proofs.YtfljmihdeimahaaGreatDoor
namespace Go.Proofs.YtfljmihdeimahaaGreatDoor
set_option linter.all false
open Go.RowKit
def rotr (x:BitVec 32) (n:Nat):BitVec 32:=x >>> n ||| x <<< (32 - n)
theorem rot_amt:∀ n:Fin 32,0<n.1→(BitVec.ofInt 64 (-(n.1:Int)) &&& 31#64).toNat=32 - n.1∧(32#64 - (BitVec.ofInt 64 (-(n.1:Int)) &&& 31#64)).toNat=n.1:=by decide
def rot_c:Ctr where
 D:=BitVec 32×Nat
 pre:=fun (x,n)=>0<n∧n<32
 args:=fun (x,n)=>[.u32 x,.int .i64 (-(n:Int))]
 objs:=fun _=>[]
 nn:=0
 E:=Unit
 post:=fun _ _=>True
 res:=fun (x,n) _=>.u32 (rotr x n)
 out:=fun _ _=>[]
 mm:=0
def rot_H:Cfg:=⟨[],[],[],[],17,0,[],[],[]⟩
theorem rot_ok:rot_c.Ok Tryz.prog 127:=by
 refine fn_ok rot_H 0 rfl _ Tryz.func127 rfl rfl trivial rfl rfl (by kernel_rfl) (fun _=>nlb rfl) ?_
 rintro ⟨x,n⟩ hp hr
 try dsimp only [rot_c] at hp
 try simp only [rot_c,Rng,RngL,inR,and_true,true_and] at hr
 repeat' (first|(with_reducible refine Unf.h ?_)|((conv=>whnf);first|refine RetE.mk () trivial ?_|refine retK_r ?_)|fail);all_goals try (conv=>whnf)
 refine Side.mk ?_ (by repeat' (first|(with_reducible refine Unf.h ?_)|((conv=>whnf);exact rfl)|fail);all_goals try (conv=>whnf))
 obtain ⟨h1,h2⟩:=rot_amt ⟨n,hp.2⟩ hp.1;show SV.u32 _=SV.u32 _
 simp only at h1 h2
 rw [rotr,BitVec.or_comm,h1,h2]
def wpart (b:List (BitVec 8)) (j:Nat):Nat→BitVec 32
 | 0=>0#32
 | m+1=>wpart b j m <<< 8 ||| (b.getD (4*j+m) 0#8).setWidth 32
@[irreducible] def sig0 (x:BitVec 32):BitVec 32:=rotr x 7 ^^^ rotr x 18 ^^^ x >>> 3
@[irreducible] def sig1 (x:BitVec 32):BitVec 32:=rotr x 17 ^^^ rotr x 19 ^^^ x >>> 10
def wrd (b:List (BitVec 8)) (t:Nat):BitVec 32 :=
 if t<16 then wpart b t 4 else if h:16≤t then wrd b (t - 16)+sig0 (wrd b (t - 15))+wrd b (t - 7)+sig1 (wrd b (t - 2)) else 0#32
termination_by t
theorem wrd_rec (b:List (BitVec 8)) (t:Nat) (h:16≤t):wrd b t=wrd b (t - 16)+sig0 (wrd b (t - 15))+wrd b (t - 7)+sig1 (wrd b (t - 2)):=by
 rw [wrd,if_neg (by omega),dif_pos h]
@[irreducible] def wUp (b:List (BitVec 8)) (t:Nat):Vector (BitVec 32) 64:=Vector.ofFn fun i=>if i.1<t then wrd b i.1 else 0#32
@[irreducible] def wAt (b:List (BitVec 8)) (i:Nat):Vector (BitVec 32) 64:=Vector.ofFn fun j=>wpart b j.1 (min 4 (i - 4*j.1))
theorem wAt_zero (b:List (BitVec 8)):wAt b 0=Vector.replicate 64 0#32:=by
 ext i hi:1
 simp [wAt,wpart]
theorem wAt_all (b:List (BitVec 8)):wAt b 64=wUp b 16:=by
 ext i hi:1
 unfold wAt wUp;simp only [Vector.getElem_ofFn]
 by_cases h:i<16
 · rw [if_pos h,wrd,if_pos h,show min 4 (64 - 4*i)=4 by omega]
 · rw [if_neg h,show min 4 (64 - 4*i)=0 by omega];rfl
theorem wAt_step (b:List (BitVec 8)) (i k:Nat) (hk:k<64) (e:k=i / 4) (x:BitVec 32) (hx:x=(wAt b i)[k] <<< 8 ||| (b.getD i 0#8).setWidth 32):(wAt b i).set k x hk=wAt b (i+1):=by
 subst e
 ext j hj:1
 rw [Vector.getElem_set]
 split
 · rename_i h;subst h
   rw [hx];simp only [wAt,Vector.getElem_ofFn];rw [show min 4 (i+1 - 4*(i / 4))=min 4 (i - 4*(i / 4))+1 by omega,wpart,show 4*(i / 4)+min 4 (i - 4*(i / 4))=i by omega]
 · simp only [wAt,Vector.getElem_ofFn]
   rw [show min 4 (i+1 - 4*j)=min 4 (i - 4*j) by omega]
theorem wUp_get (b:List (BitVec 8)) (t i k:Nat) (hi:i<64) (h:i<t) (e:i=k):(wUp b t)[i]=wrd b k:=by
 subst e;simp [wUp,h]
theorem wUp_step (b:List (BitVec 8)) (t k:Nat) (hk:k<64) (e:k=t) (x:BitVec 32) (hx:x=wrd b t):(wUp b t).set k x hk=wUp b (t+1):=by
 subst e hx
 ext j hj:1
 rw [Vector.getElem_set]
 split
 · rename_i h;subst h;simp [wUp]
 · simp only [wUp,Vector.getElem_ofFn]
   by_cases h:j<k
   · rw [if_pos h,if_pos (by omega)]
   · rw [if_neg h,if_neg (by omega)]
attribute [irreducible] wpart
def sched_c:Ctr where
 D:=List (BitVec 8)
 pre:=fun b=>64≤b.length
 args:=fun b=>[.fs 1 eB b]
 res:=fun b _=>.agg [.arr32 (wUp b 64)]
def sched_H:Cfg:=⟨[(127,rot_c)],[(10,[3,8,14],[4,9],(oA 0 (oA 1 (oA 2 (oB 3 (oA 5 (oA 6 (oA 7 (oB 8 (oA 11 (oA 12 (oA 13 (oB 14 (oA 15 (oD 4 (oD 9 (oA 10 (oA 16 (oA 17 .nil)))))))))))))))))),[]),(11,[3,8,14],[4,9],(oA 0 (oA 1 (oA 2 (oB 3 (oA 5 (oA 6 (oA 7 (oB 8 (oA 11 (oA 12 (oA 13 (oB 14 (oA 15 (oD 4 (oD 9 (oA 10 (oA 16 (oA 17 .nil)))))))))))))))))),[]),(12,[4,10],[15],(oA 0 (oA 1 (oA 2 (oA 3 (oB 4 (oA 5 (oA 6 (oA 7 (oA 8 (oA 9 (oB 10 (oA 11 (oA 12 (oA 13 (oA 14 (oC 15 .nil)))))))))))))))),[])],[],[],83,0,[],[],[]⟩
theorem sched_ok:sched_c.Ok Tryz.prog 126:=by
 refine fn_ok sched_H 0 rfl _ Tryz.func126 rfl rfl ⟨rot_ok,trivial⟩ rfl rfl (by kernel_rfl) (fun _=>nlb rfl) ?_
 intro (b:List (BitVec 8)) hp hr
 try dsimp only [sched_c] at hp
 try simp only [sched_c,Rng,RngL,inR,and_true,true_and] at hr
 repeat' (first|(with_reducible refine Unf.h ?_)|((conv=>whnf);(refine Side.mk ?_ ?_;focus ((intros;(try simp only [lenS,inR,cutS,loI,hiI] at *);omega))))|fail);all_goals try (conv=>whnf)
 refine LoopS.auto (fun i:Nat=>i≤64) (fun i=>[(12,.int .i64 i)]) (fun i=>[(1,.box 240 [.arr32 (wAt b i)]),(0,.box 240 [.arr32 (Vector.replicate 64 0#32)])]) (fun i=>64 - i) 0 (by omega) ?_ ?_
 · repeat' (first|(with_reducible refine Unf.h ?_)|((conv=>whnf);first|(refine Side.mk ?_ ?_;focus (first|with_reducible rfl|(refine congrArg (SV.int _) ?_;omega)|(simp only [*,cutL,wAt_zero];done)))|(with_reducible refine Unf.h ?_)|exact True.intro)|fail);all_goals try (conv=>whnf)
 · intro i hi
   repeat' (first|(with_reducible first|refine Unf.h ?_|refine loopK_n ?_)|((conv=>whnf);first|refine Fork.mk (fun h=>?_) (fun h=>?_)|(refine Side.mk ?_ ?_;focus (first|omega|(intros;(try simp only [lenS,inR,cutS,loI,hiI,cutL] at *);omega)))|(refine Idx.mk ?_ ?_;focus (omega)))|fail);all_goals try (conv=>whnf)
   · have h:=h
     simp [cutL] at h
     refine ⟨i+1,⟨by omega,by omega⟩,?_⟩
     repeat' (first|(with_reducible refine Unf.h ?_)|((conv=>whnf);first|(refine Side.mk ?_ ?_;focus (first|with_reducible rfl|(refine congrArg (SV.int _) ?_;omega)))|(with_reducible refine Unf.h ?_))|fail);all_goals try (conv=>whnf)
     refine Side.mk (congrArg SV.arr32 (wAt_step b i _ _ (by omega) _ ?_)) (by repeat' (first|(with_reducible refine Unf.h ?_)|((conv=>whnf);first|(refine Side.mk ?_ ?_;focus (with_reducible rfl))|exact True.intro)|fail);all_goals try (conv=>whnf))
     have hi':i<b.length:=by omega
     have e:(cutL b none (some 64))[((i:Nat):Int).toNat]'(by simp [cutL];omega)=b.getD i 0#8:=by
       simp [cutL,List.getD_eq_getElem?_getD,hi']
     rw [e];rfl
   have h64:i=64:=by simp [cutL] at h;omega
   clear h hi;subst h64;refine LoopS.auto (fun k:Nat=>16≤k∧k≤64) (fun k=>[(6,.int .i64 k)]) (fun k=>[(1,.box 240 [.arr32 (wUp b k)]),(0,.box 240 [.arr32 (Vector.replicate 64 0#32)])]) (fun k=>64 - k) 16 (by omega) ?_ ?_
   · repeat' (first|(with_reducible refine Unf.h ?_)|((conv=>whnf);first|(refine Side.mk ?_ ?_;focus (first|with_reducible rfl|(refine congrArg (SV.int _) ?_;omega)|(simp only [*,wAt_all];done)))|(with_reducible refine Unf.h ?_)|exact True.intro)|fail);all_goals try (conv=>whnf)
   · intro k hk
     repeat' (first|(with_reducible refine Unf.h ?_)|((conv=>whnf);first|refine Fork.mk (fun h=>?_) (fun h=>?_)|(refine Side.mk ?_ ?_;focus (first|omega|(intros;(try simp only [lenS,inR,cutS,loI,hiI] at *);omega)))|(refine Idx.mk ?_ ?_;focus (omega))|refine RetE.mk () trivial ?_|refine retK_r ?_)|fail);all_goals try (conv=>whnf)
     · have g:∀ m:Nat,0<m→m≤16→∀ h:((k:Int) - m).toNat<64,(wUp b k)[((k:Int) - m).toNat]'h=wrd b (k - m):=fun m h1 h2 h3=>wUp_get b k _ _ h3 (by omega) (by omega)
       have g15:=g 15 (by omega) (by omega) (by omega)
       have g16:=g 16 (by omega) (by omega) (by omega)
       have g2:=g 2 (by omega) (by omega) (by omega)
       have g7:=g 7 (by omega) (by omega) (by omega)
       simp only [show ((15:Nat):Int)=15 from rfl,show ((16:Nat):Int)=16 from rfl,show ((2:Nat):Int)=2 from rfl,show ((7:Nat):Int)=7 from rfl] at g15 g16 g2 g7;clear g;refine CallS.mk (c:=rot_c) ((wrd b (k - 15),7)) ?_
       repeat' (first|(with_reducible refine Unf.h ?_)|((conv=>whnf);first|(refine Side.mk ?_ ?_;focus (first|(refine congrArg (SV.int _) ?_;omega)|(simp only [*];done)|(dsimp only [resS,sched_c,rot_c];omega)))|refine Got.mk (fun _ _=>?_))|fail);all_goals try (conv=>whnf)
       refine CallS.mk (c:=rot_c) ((wrd b (k - 15),18)) ?_
       repeat' (first|(with_reducible refine Unf.h ?_)|((conv=>whnf);first|(refine Side.mk ?_ ?_;focus (first|omega|(refine congrArg (SV.int _) ?_;omega)|(intros;(try simp only [lenS,inR,cutS,loI,hiI] at *);omega)|(simp only [*];done)|(dsimp only [resS,sched_c,rot_c];omega)))|(refine Idx.mk ?_ ?_;focus (omega))|refine Got.mk (fun _ _=>?_))|fail);all_goals try (conv=>whnf)
       refine CallS.mk (c:=rot_c) ((wrd b (k - 2),17)) ?_
       repeat' (first|(with_reducible refine Unf.h ?_)|((conv=>whnf);first|(refine Side.mk ?_ ?_;focus (first|(refine congrArg (SV.int _) ?_;omega)|(simp only [*];done)|(dsimp only [resS,sched_c,rot_c];omega)))|refine Got.mk (fun _ _=>?_))|fail);all_goals try (conv=>whnf)
       refine CallS.mk (c:=rot_c) ((wrd b (k - 2),19)) ?_
       repeat' (first|(with_reducible first|refine Unf.h ?_|refine loopK_n ?_)|((conv=>whnf);first|(refine Side.mk ?_ ?_;focus (first|omega|(refine congrArg (SV.int _) ?_;omega)|(intros;(try simp only [lenS,inR,cutS,loI,hiI] at *);omega)|(simp only [*];done)|(dsimp only [resS,sched_c,rot_c];omega)))|(refine Idx.mk ?_ ?_;focus (omega))|refine Got.mk (fun _ _=>?_))|fail);all_goals try (conv=>whnf)
       refine ⟨k+1,⟨by omega,by omega,by omega⟩,?_⟩
       repeat' (first|(with_reducible refine Unf.h ?_)|((conv=>whnf);first|(refine Side.mk ?_ ?_;focus (first|with_reducible rfl|(refine congrArg (SV.int _) ?_;omega)))|(with_reducible refine Unf.h ?_))|fail);all_goals try (conv=>whnf)
       refine Side.mk (congrArg SV.arr32 (wUp_step b k _ _ (by omega) _ ?_)) (by repeat' (first|(with_reducible refine Unf.h ?_)|((conv=>whnf);first|(refine Side.mk ?_ ?_;focus (with_reducible rfl))|exact True.intro)|fail);all_goals try (conv=>whnf))
       rw [g15,g16,g2,g7,wrd_rec b k hk.1];unfold sig0 sig1
       rfl
     · have e:k=64:=by omega
       subst e
       repeat' (first|(with_reducible refine Unf.h ?_)|((conv=>whnf);first|(refine Side.mk ?_ ?_;focus (with_reducible rfl))|exact rfl)|fail);all_goals try (conv=>whnf)
@[irreducible] def kAt (t:Nat):BitVec 32:=if h:t<64 then gv1[t] else 0#32
def sgA (v:BitVec 32):BitVec 32:=rotr v 6 ^^^ rotr v 11 ^^^ rotr v 25
def sgB (v:BitVec 32):BitVec 32:=rotr v 2 ^^^ rotr v 13 ^^^ rotr v 22
def rnX (v:Vector (BitVec 32) 8) (k w:BitVec 32):BitVec 32:=v[7]+sgA v[4]+(v[6] ^^^ v[4] &&& (v[5] ^^^ v[6]))+k+w
def rnY (v:Vector (BitVec 32) 8):BitVec 32:=sgB v[0]+(v[0] &&& v[1] ||| v[2] &&& (v[0] ||| v[1]))
@[irreducible] def rnd (v:Vector (BitVec 32) 8) (k w:BitVec 32):Vector (BitVec 32) 8:=#v[rnX v k w+rnY v,v[0],v[1],v[2],v[3]+rnX v k w,v[4],v[5],v[6]]
def rnds (s:Vector (BitVec 32) 8) (b:List (BitVec 8)):Nat→Vector (BitVec 32) 8
 | 0=>s
 | t+1=>rnd (rnds s b t) (kAt t) (wrd b t)
@[irreducible] def addUp (s v:Vector (BitVec 32) 8) (i:Nat):Vector (BitVec 32) 8:=Vector.ofFn fun j=>if j.1<i then s[j]+v[j] else s[j]
theorem rnds_succ (s:Vector (BitVec 32) 8) (b:List (BitVec 8)) (t:Nat):rnds s b (t+1)=rnd (rnds s b t) (kAt t) (wrd b t):=rfl
theorem rnds_zero (s:Vector (BitVec 32) 8) (b:List (BitVec 8)):rnds s b 0=s:=rfl
attribute [irreducible] rnds
@[irreducible] def blk (s:Vector (BitVec 32) 8) (b:List (BitVec 8)):Vector (BitVec 32) 8:=addUp s (rnds s b 64) 8
theorem addUp_zero (s v:Vector (BitVec 32) 8):addUp s v 0=s:=by
 unfold addUp;ext i hi:1;simp
theorem addUp_step (s v:Vector (BitVec 32) 8) (i k m:Nat) (hk:k<8) (hm:m<8) (e:k=i) (e2:m=i):(addUp s v i).set k ((addUp s v i)[k]+v[m]) hk=addUp s v (i+1):=by
 subst e e2
 ext j hj:1
 rw [Vector.getElem_set];unfold addUp
 split
 · rename_i h;subst h;simp
 · simp only [Vector.getElem_ofFn]
   by_cases h:j<m
   · rw [if_pos h,if_pos (by omega)]
   · rw [if_neg h,if_neg (by omega)]
def block_c:Ctr where
 D:=Vector (BitVec 32) 8×List (BitVec 8)
 pre:=fun (s,b)=>64≤b.length
 args:=fun (s,b)=>[.agg [.arr32 s],.fs 1 eB b]
 res:=fun (s,b) _=>.agg [.arr32 (blk s b)]
def block_H:Cfg:=⟨[(126,sched_c),(127,rot_c)],[(6,[1,4,8],[2,5,9],(oA 0 (oB 1 (oA 3 (oB 4 (oA 7 (oB 8 (oD 2 (oD 5 (oA 6 (oC 9 (oA 10 (oA 11 .nil)))))))))))),[]),(7,[1,5,7,9,11,18,22],[],(oA 0 (oB 1 (oA 2 (oA 3 (oA 4 (oB 5 (oA 6 (oB 7 (oA 8 (oB 9 (oA 10 (oB 11 (oA 12 (oA 13 (oA 14 (oA 15 (oA 16 (oA 17 (oB 18 (oA 19 (oA 20 (oA 21 (oB 22 (oA 23 (oA 24 .nil))))))))))))))))))))))))),[]),(8,[1,4,8],[2,5,9],(oA 0 (oB 1 (oA 3 (oB 4 (oA 7 (oB 8 (oD 2 (oD 5 (oA 6 (oC 9 (oA 10 (oA 11 .nil)))))))))))),[]),(15,[2,5],[8],(oA 0 (oA 1 (oB 2 (oA 3 (oA 4 (oB 5 (oA 6 (oA 7 (oC 8 .nil))))))))),[])],[],[],115,0,[],[],[]⟩
theorem block_ok:block_c.Ok Tryz.prog 102:=by
 refine fn_ok block_H 0 rfl _ Tryz.func102 rfl rfl ⟨sched_ok,rot_ok,trivial⟩ rfl rfl (by kernel_rfl) (fun _=>nlb rfl) ?_
 rintro ⟨s,b⟩ hp hr
 try dsimp only [block_c] at hp
 try simp only [block_c,Rng,RngL,inR,and_true,true_and] at hr
 repeat' (first|(with_reducible refine Unf.h ?_)|((conv=>whnf);first|(refine Side.mk ?_ ?_;focus (first|with_reducible rfl|assumption))|refine Got.mk (fun _ _=>?_)|refine CallS.mk (c:=sched_c) (b) ?_)|fail);all_goals try (conv=>whnf)
 refine LoopS.auto (fun t:Nat=>t≤64) (fun t=>[(16,.int .i64 t)]) (fun t=>[(3,.box 221 [.arr32 (rnds s b t)]),(2,.box 240 [.arr32 (wUp b 64)]),(1,.box 221 [.arr32 (Vector.replicate 8 0#32)]),(0,.box 221 [.arr32 s])]) (fun t=>64 - t) 0 (by omega) ?_ ?_
 · repeat' (first|(with_reducible refine Unf.h ?_)|((conv=>whnf);first|(refine Side.mk ?_ ?_;focus (first|with_reducible rfl|(refine congrArg (SV.int _) ?_;omega)|(simp only [*,rnds_zero];done)))|(with_reducible refine Unf.h ?_)|exact True.intro)|fail);all_goals try (conv=>whnf)
 · intro t ht
   repeat' (first|(with_reducible refine Unf.h ?_)|((conv=>whnf);first|refine Fork.mk (fun h=>?_) (fun h=>?_)|(refine Side.mk ?_ ?_;focus (omega))|(refine Idx.mk ?_ ?_;focus (omega)))|fail);all_goals try (conv=>whnf)
   · refine CallS.mk (c:=rot_c) (((rnds s b t)[4],6)) ?_
     repeat' (first|(with_reducible refine Unf.h ?_)|((conv=>whnf);first|(refine Side.mk ?_ ?_;focus (first|(refine congrArg (SV.int _) ?_;omega)|(simp [*];done)|(dsimp only [resS,block_c,rot_c];omega)))|refine Got.mk (fun _ _=>?_))|fail);all_goals try (conv=>whnf)
     refine CallS.mk (c:=rot_c) (((rnds s b t)[4],11)) ?_
     repeat' (first|(with_reducible refine Unf.h ?_)|((conv=>whnf);first|(refine Side.mk ?_ ?_;focus (first|(refine congrArg (SV.int _) ?_;omega)|(simp [*];done)|(dsimp only [resS,block_c,rot_c];omega)))|refine Got.mk (fun _ _=>?_))|fail);all_goals try (conv=>whnf)
     refine CallS.mk (c:=rot_c) (((rnds s b t)[4],25)) ?_
     repeat' (first|(with_reducible refine Unf.h ?_)|((conv=>whnf);first|(refine Side.mk ?_ ?_;focus (first|omega|(refine congrArg (SV.int _) ?_;omega)|(simp [*];done)|(dsimp only [resS,block_c,rot_c];omega)))|(refine Idx.mk ?_ ?_;focus (omega))|refine Got.mk (fun _ _=>?_))|fail);all_goals try (conv=>whnf)
     refine CallS.mk (c:=rot_c) (((rnds s b t)[0],2)) ?_
     repeat' (first|(with_reducible refine Unf.h ?_)|((conv=>whnf);first|(refine Side.mk ?_ ?_;focus (first|(refine congrArg (SV.int _) ?_;omega)|(simp [*];done)|(dsimp only [resS,block_c,rot_c];omega)))|refine Got.mk (fun _ _=>?_))|fail);all_goals try (conv=>whnf)
     refine CallS.mk (c:=rot_c) (((rnds s b t)[0],13)) ?_
     repeat' (first|(with_reducible refine Unf.h ?_)|((conv=>whnf);first|(refine Side.mk ?_ ?_;focus (first|(refine congrArg (SV.int _) ?_;omega)|(simp [*];done)|(dsimp only [resS,block_c,rot_c];omega)))|refine Got.mk (fun _ _=>?_))|fail);all_goals try (conv=>whnf)
     refine CallS.mk (c:=rot_c) (((rnds s b t)[0],22)) ?_
     repeat' (first|(with_reducible first|refine Unf.h ?_|refine loopK_n ?_)|((conv=>whnf);first|(refine Side.mk ?_ ?_;focus (first|omega|(refine congrArg (SV.int _) ?_;omega)|(intros;(try simp only [lenS,inR,cutS,loI,hiI] at *);omega)|(simp [*];done)|(dsimp only [resS,block_c,rot_c];omega)))|(refine Idx.mk ?_ ?_;focus (omega))|refine Got.mk (fun _ _=>?_))|fail);all_goals try (conv=>whnf)
     refine ⟨t+1,⟨by omega,by omega⟩,?_⟩
     repeat' (first|(with_reducible refine Unf.h ?_)|((conv=>whnf);first|(refine Side.mk ?_ ?_;focus (first|with_reducible rfl|(refine congrArg (SV.int _) ?_;omega)))|(with_reducible refine Unf.h ?_))|fail);all_goals try (conv=>whnf)
     refine Side.mk (congrArg SV.arr32 ?_) (by repeat' (first|(with_reducible refine Unf.h ?_)|((conv=>whnf);first|(refine Side.mk ?_ ?_;focus (with_reducible rfl))|exact True.intro)|fail);all_goals try (conv=>whnf))
     have e1:gv1[((t:Nat):Int).toNat]'(by omega)=kAt t:=by
       have h':t<64:=by omega
       unfold kAt;rw [dif_pos h'];rfl
     have e2:(wUp b 64)[((t:Nat):Int).toNat]'(by omega)=wrd b t:=wUp_get b 64 _ _ _ (by omega) (by omega)
     rw [rnds_succ,e1,e2];generalize rnds s b t=v;unfold rnd rnX rnY sgA sgB
     rfl
   refine LoopS.auto (fun i:Nat=>i≤8) (fun i=>[(102,.int .i64 i)]) (fun i=>[(3,.box 221 [.arr32 (rnds s b 64)]),(2,.box 240 [.arr32 (wUp b 64)]),(1,.box 221 [.arr32 (Vector.replicate 8 0#32)]),(0,.box 221 [.arr32 (addUp s (rnds s b 64) i)])]) (fun i=>8 - i) 0 (by omega) ?_ ?_
   · have e:t=64:=by omega
     subst e
     repeat' (first|(with_reducible refine Unf.h ?_)|((conv=>whnf);first|(refine Side.mk ?_ ?_;focus (first|with_reducible rfl|(refine congrArg (SV.int _) ?_;omega)|(simp only [*,addUp_zero];done)))|(with_reducible refine Unf.h ?_)|exact True.intro)|fail);all_goals try (conv=>whnf)
   · intro i hi
     repeat' (first|(with_reducible first|refine Unf.h ?_|refine loopK_n ?_)|((conv=>whnf);first|refine Fork.mk (fun h=>?_) (fun h=>?_)|(refine Side.mk ?_ ?_;focus (first|omega|(intros;(try simp only [lenS,inR,cutS,loI,hiI] at *);omega)))|(refine Idx.mk ?_ ?_;focus (omega))|refine RetE.mk () trivial ?_|refine retK_r ?_)|fail);all_goals try (conv=>whnf)
     · refine ⟨i+1,⟨by omega,by omega⟩,?_⟩
       repeat' (first|(with_reducible refine Unf.h ?_)|((conv=>whnf);first|(refine Side.mk ?_ ?_;focus (first|with_reducible rfl|(refine congrArg (SV.int _) ?_;omega)))|(with_reducible refine Unf.h ?_))|fail);all_goals try (conv=>whnf)
       refine Side.mk (congrArg SV.arr32 (addUp_step s _ i _ _ (by omega) (by omega) (by omega) (by omega))) (by repeat' (first|(with_reducible refine Unf.h ?_)|((conv=>whnf);exact True.intro)|fail);all_goals try (conv=>whnf))
     · have e:i=8:=by omega
       subst e
       repeat' (first|(with_reducible refine Unf.h ?_)|((conv=>whnf);first|(refine Side.mk ?_ ?_;focus ((simp only [*,blk];done)))|exact rfl)|fail);all_goals try (conv=>whnf)
abbrev H256:=Vector (BitVec 8) 32
def folded (s:Vector (BitVec 32) 8) (l:List (BitVec 8)):Vector (BitVec 32) 8:=if _h:64≤l.length then folded (blk s l) (l.drop 64) else s
termination_by l.length
decreasing_by rw [List.length_drop];omega
def restOf (l:List (BitVec 8)):List (BitVec 8):=if _h:64≤l.length then restOf (l.drop 64) else l
termination_by l.length
decreasing_by rw [List.length_drop];omega
theorem folded_ge {s:Vector (BitVec 32) 8} {l:List (BitVec 8)} (h:64≤l.length):folded s l=folded (blk s l) (l.drop 64):=by rw [folded,dif_pos h]
theorem folded_lt {s:Vector (BitVec 32) 8} {l:List (BitVec 8)} (h:¬ 64≤l.length):folded s l=s:=by rw [folded,dif_neg h]
theorem restOf_ge {l:List (BitVec 8)} (h:64≤l.length):restOf l=restOf (l.drop 64):=by rw [restOf,dif_pos h]
theorem restOf_lt {l:List (BitVec 8)} (h:¬ 64≤l.length):restOf l=l:=by rw [restOf,dif_neg h]
def be8 (x:BitVec 64):List (BitVec 8):=(List.range 8).map fun i=>(x >>> (8*(7 - i))).setWidth 8
def padT (r:List (BitVec 8)) (n:Nat):List (BitVec 8):=r++[128#8]++List.replicate ((119 - r.length % 64) % 64) 0#8++be8 (BitVec.ofNat 64 n <<< 3)
@[irreducible] def outV (s:Vector (BitVec 32) 8) (i:Nat):H256:=Vector.ofFn fun j=>if j.1<i then (s[j.1 / 4]'(by omega) >>> (24 - 8*(j.1 % 4))).setWidth 8 else 0#8
@[irreducible] def sha (b:List (BitVec 8)):H256:=outV (folded gv0 (padT b b.length)) 32
def tailUp (r:List (BitVec 8)) (n size:Nat):Nat→Vector (BitVec 8) 128
 | 0=>(vput (Vector.replicate 128 0#8) 0 r).setIfInBounds r.length 128#8
 | i+1=>(tailUp r n size i).setIfInBounds (size - 1 - i) ((BitVec.ofNat 64 n <<< 3 >>> (8*i)).setWidth 8)
theorem tailUp_get (r:List (BitVec 8)) (n size k:Nat) (hr:r.length<64) (hs:size=64∨size=128) (hz:r.length+9≤size) (hk:k≤8) (j:Nat) (hj:j<128) :
   (tailUp r n size k)[j]=if j<r.length then r.getD j 0#8 else if j=r.length then 128#8 else if size - k≤j∧j<size then (BitVec.ofNat 64 n <<< 3 >>> (8*(size - 1 - j))).setWidth 8 else 0#8:=by
 induction k with
 | zero =>
   simp only [tailUp,Vector.getElem_setIfInBounds,vput,Vector.getElem_ofFn,Vector.getElem_replicate,Nat.zero_le,true_and,Nat.sub_zero]
   by_cases h1:r.length=j
   · subst h1;simp
   · rw [if_neg h1]
     by_cases h2:j<r.length
     · rw [dif_pos h2,if_pos h2];simp [List.getD_eq_getElem?_getD,h2]
     · rw [dif_neg h2,if_neg h2,if_neg (fun e=>h1 e.symm),if_neg (by omega)];simp
 | succ k ih =>
   simp only [tailUp,Vector.getElem_setIfInBounds]
   have:=ih (by omega)
   by_cases h1:size - 1 - k=j
   · rw [if_pos h1,if_neg (by omega),if_neg (by omega),if_pos (by omega)]
     rw [show size - 1 - j=k by omega]
   · rw [if_neg h1,this]
     by_cases h2:j<r.length
     · rw [if_pos h2,if_pos h2]
     · rw [if_neg h2,if_neg h2]
       by_cases h3:j=r.length
       · rw [if_pos h3,if_pos h3]
       · rw [if_neg h3,if_neg h3]
         by_cases h4:size - k≤j∧j<size
         · rw [if_pos h4,if_pos (by omega)]
         · rw [if_neg h4,if_neg (by omega)]
theorem tailUp_zero (r:List (BitVec 8)) (n size:Nat):tailUp r n size 0=(vput (Vector.replicate 128 0#8) 0 r).setIfInBounds r.length 128#8:=rfl
theorem tailUp_succ (r:List (BitVec 8)) (n size i:Nat):tailUp r n size (i+1)=(tailUp r n size i).setIfInBounds (size - 1 - i) ((BitVec.ofNat 64 n <<< 3 >>> (8*i)).setWidth 8):=rfl
attribute [irreducible] tailUp
theorem set_sib {α:Type} {n:Nat} (v:Vector α n) {i j:Nat} {x y:α} (h:i<n) (e:i=j) (exy:x=y):v.set i x h=v.setIfInBounds j y:=by
 subst e exy
 ext k hk:1
 rw [Vector.getElem_set,Vector.getElem_setIfInBounds]
theorem padT_len (r:List (BitVec 8)) (n:Nat) (hr:r.length<64):(padT r n).length=if r.length<56 then 64 else 128:=by
 simp only [padT,be8,List.length_append,List.length_replicate,List.length_map,List.length_range,List.length_cons,List.length_nil]
 split<;>omega
theorem padT_get (r:List (BitVec 8)) (n j Z:Nat) (hr:r.length<64) (hZ:Z=if r.length<56 then 64 else 128) (hj:j<(padT r n).length):(padT r n)[j]=if j<r.length then r.getD j 0#8 else if j=r.length then 128#8 else if Z - 8≤j then (BitVec.ofNat 64 n <<< 3 >>> (8*(Z - 1 - j))).setWidth 8 else 0#8:=by
 have hl:=padT_len r n hr;rw [hl,← hZ] at hj;have hz:(119 - r.length % 64) % 64=Z - 9 - r.length∧r.length+9≤Z:=by split at hZ<;>omega
 clear hZ hl;simp only [padT]
 by_cases h1:j<r.length
 · rw [if_pos h1,List.getElem_append_left (by simp<;>omega),List.getElem_append_left (by simp<;>omega),List.getElem_append_left h1]
   simp [List.getD_eq_getElem?_getD,h1]
 · rw [if_neg h1]
   by_cases h2:j=r.length
   · subst h2
     rw [if_pos rfl,List.getElem_append_left (by simp<;>omega),List.getElem_append_left (by simp)];simp
   · rw [if_neg h2]
     by_cases h3:Z - 8≤j
     · rw [if_pos h3,List.getElem_append_right (by simp only [List.length_append,List.length_replicate,List.length_cons,List.length_nil];omega)]
       simp only [be8,List.getElem_map,List.getElem_range,List.length_append,List.length_replicate,List.length_cons,List.length_nil];rw [show 7 - (j - (r.length+(0+1)+(119 - r.length % 64) % 64))=Z - 1 - j by omega]
     · rw [if_neg h3,List.getElem_append_left (by simp only [List.length_append,List.length_replicate,List.length_cons,List.length_nil];omega),List.getElem_append_right (by simp<;>omega)]
       simp
theorem tail_pad (r:List (BitVec 8)) (n:Nat) (hr:r.length<64):(tailUp r n (if r.length<56 then 64 else 128) 8).toList.take (if r.length<56 then 64 else 128)=padT r n:=by
 have hl:=padT_len r n hr;refine List.ext_getElem (by rw [hl];simp;split<;>omega) fun j h1 h2=>?_
 rw [List.getElem_take,Vector.getElem_toList,tailUp_get r n _ 8 hr (by split<;>simp) (by split<;>omega) (by omega),padT_get r n j _ hr rfl h2]
 rw [hl] at h2;simp only [h2,and_true]
theorem wpart_congr {a b:List (BitVec 8)} (h:∀ i,i<64→a.getD i 0#8=b.getD i 0#8) (j:Nat) (hj:j<16):∀ m,m≤4→wpart a j m=wpart b j m
 | 0,_=>by unfold wpart;rfl
 | m+1,hm=>by rw [wpart,wpart,wpart_congr h j hj m (by omega),h _ (by omega)]
theorem wrd_lt (b:List (BitVec 8)) (t:Nat) (h:t<16):wrd b t=wpart b t 4:=by rw [wrd,if_pos h]
theorem wrd_congr {a b:List (BitVec 8)} (h:∀ i,i<64→a.getD i 0#8=b.getD i 0#8) (t:Nat):wrd a t=wrd b t:=by
 induction t using Nat.strongRecOn with
 | ind t ih =>
   by_cases ht:t<16
   · rw [wrd_lt a t ht,wrd_lt b t ht,wpart_congr h t ht 4 (by omega)]
   · rw [wrd_rec a t (by omega),wrd_rec b t (by omega),ih (t - 16) (by omega),ih (t - 15) (by omega),ih (t - 7) (by omega),ih (t - 2) (by omega)]
theorem rnds_congr {a b:List (BitVec 8)} (h:∀ i,i<64→a.getD i 0#8=b.getD i 0#8) (s:Vector (BitVec 32) 8):∀ t,rnds s a t=rnds s b t
 | 0=>by rw [rnds_zero,rnds_zero]
 | t+1=>by rw [rnds_succ,rnds_succ,rnds_congr h s t,wrd_congr h]
theorem blk_congr {a b:List (BitVec 8)} (h:∀ i,i<64→a.getD i 0#8=b.getD i 0#8) (s:Vector (BitVec 32) 8):blk s a=blk s b:=by
 unfold blk;rw [rnds_congr h]
theorem blk_append (s:Vector (BitVec 32) 8) (a t:List (BitVec 8)) (h:64≤a.length):blk s (a++t)=blk s a :=
 blk_congr (fun i hi=>by simp [List.getD_eq_getElem?_getD,List.getElem?_append,show i<a.length by omega]) s
theorem blk_take (s:Vector (BitVec 32) 8) (a:List (BitVec 8)) (k:Nat) (h:64≤k):blk s (a.take k)=blk s a :=
 blk_congr (fun i hi=>by simp only [List.getD_eq_getElem?_getD];rw [List.getElem?_take_of_lt (by omega)]) s
theorem folded_append (a t:List (BitVec 8)) (s:Vector (BitVec 32) 8):folded s (a++t)=folded (folded s a) (restOf a++t):=by
 induction hn:a.length using Nat.strongRecOn generalizing a s with
 | ind n ih =>
   by_cases h:64≤a.length
   · rw [folded_ge (l:=a++t) (by simp;omega),blk_append s a t h,List.drop_append_of_le_length h,ih (a.drop 64).length (by simp;omega) _ _ rfl,← folded_ge h,← restOf_ge h]
   · rw [folded_lt (l:=a) h,restOf_lt h]
theorem restOf_len (a:List (BitVec 8)):(restOf a).length=a.length % 64:=by
 induction hn:a.length using Nat.strongRecOn generalizing a with
 | ind n ih =>
   by_cases h:64≤a.length
   · rw [restOf_ge h,ih (a.drop 64).length (by simp;omega) _ rfl,List.length_drop];omega
   · rw [restOf_lt h];omega
theorem padT_rest (b:List (BitVec 8)) (s:Vector (BitVec 32) 8):folded s (padT b b.length)=folded (folded s b) (padT (restOf b) b.length):=by
 have h:=restOf_len b;unfold padT;rw [List.append_assoc,List.append_assoc,folded_append,h]
 congr 1
 rw [List.append_assoc,List.append_assoc]
 congr 4
 omega
theorem outV_zero (s:Vector (BitVec 32) 8):outV s 0=Vector.replicate 32 0#8:=by
 unfold outV;ext i hi:1;simp
theorem outV_step (s:Vector (BitVec 32) 8) (i k:Nat) (hk:k<32) (e:k=i) (x:BitVec 8) (hx:x=(s[i / 4]'(by omega) >>> (24 - 8*(i % 4))).setWidth 8):(outV s i).set k x hk=outV s (i+1):=by
 subst e
 ext j hj:1
 rw [Vector.getElem_set];unfold outV
 split
 · rename_i h;subst h;simp [hx]
 · simp only [Vector.getElem_ofFn]
   by_cases h:j<k
   · rw [if_pos h,if_pos (by omega)]
   · rw [if_neg h,if_neg (by omega)]
theorem sha_tail (b r:List (BitVec 8)) (s:Vector (BitVec 32) 8) (hr:r=restOf b) (hs:s=folded gv0 b) (v:Vector (BitVec 8) 128) (hv:v=tailUp r b.length (if r.length<56 then 64 else 128) 8) :
   sha b=outV (if r.length<56 then blk s v.toList else blk (blk s v.toList) (v.toList.drop 64)) 32:=by
 have hl:r.length<64:=by rw [hr,restOf_len];omega
 have ht:=tail_pad r b.length hl;rw [← hv] at ht;unfold sha
 congr 1
 rw [padT_rest,← hr,← hs,← ht];have hvl:v.toList.length=128:=by simp
 by_cases h:r.length<56
 · rw [if_pos h,if_pos h,folded_ge (by simp),blk_take _ _ _ (by omega),folded_lt (by simp)]
 · rw [if_neg h,if_neg h,List.take_of_length_le (by omega),folded_ge (by omega),folded_ge (by simp),folded_lt (by simp)]
theorem cut64v (v:Vector (BitVec 8) 128):List.drop (loI (some 64)).toNat (List.take (hiI 128 none).toNat v.toList)=v.toList.drop 64:=cut_from v 64
def sum_c:Ctr where
 D:=List (BitVec 8)
 args:=fun b=>[.fs 1 eB b]
 res:=fun b _=>.agg [.arr8 (sha b)]
def sum_H:Cfg:=⟨[(102,block_c)],[(17,[0],[2,3],(oB 0 (oA 1 (oC 2 (oC 3 .nil)))),[]),(19,[0],[2,3],(oB 0 (oA 1 (oC 2 (oC 3 .nil)))),[])],[24,50],[],71,0,[],[],[]⟩
theorem sum_ok:sum_c.Ok Tryz.prog 63:=by
 refine fn_ok sum_H 0 rfl _ Tryz.func63 rfl rfl ⟨block_ok,trivial⟩ rfl rfl (by kernel_rfl) (fun _=>nlb rfl) ?_
 intro (b:List (BitVec 8)) hp hr
 try dsimp only [sum_c] at hp
 try simp only [sum_c,Rng,RngL,inR,and_true,true_and] at hr
 repeat' (first|(with_reducible refine Unf.h ?_)|fail);all_goals try (conv=>whnf)
 refine LoopS.auto (I:=Vector (BitVec 32) 8×List (BitVec 8)) (fun p=>folded p.1 p.2=folded gv0 b∧restOf p.2=restOf b∧p.2.length≤b.length) (fun p=>[(0,.fs 1 eB p.2)]) (fun p=>[(1,.box 221 [.arr32 p.1]),(0,.box 35 [.arr8 (Vector.replicate 32 0#8)])]) (fun p=>p.2.length) (gv0,b) ⟨rfl,rfl,Nat.le_refl _⟩ ?_ ?_
 · repeat' (first|(with_reducible refine Unf.h ?_)|((conv=>whnf);first|(refine Side.mk ?_ ?_;focus (with_reducible rfl))|(with_reducible refine Unf.h ?_)|exact True.intro)|fail);all_goals try (conv=>whnf)
 · intro p hq
   repeat' (first|(with_reducible first|refine Unf.h ?_|refine loopK_n ?_)|((conv=>whnf);first|refine Fork.mk (fun h=>?_) (fun h=>?_)|(refine Side.mk ?_ ?_;focus (first|with_reducible rfl|(intros;(try simp only [lenS,inR,cutS,loI,hiI] at *);omega)|(dsimp only [resS,sum_c,block_c];omega)))|refine Got.mk (fun _ _=>?_)|refine CallS.mk (c:=block_c) (p) ?_)|fail);all_goals try (conv=>whnf)
   · have hl:64≤p.2.length:=by omega
     refine ⟨(blk p.1 p.2,p.2.drop 64),⟨by simp only [List.length_drop];omega,?_,?_,by simp only [List.length_drop];omega⟩,?_⟩
     · rw [← hq.1,folded_ge hl]
     · rw [← hq.2.1,restOf_ge hl]
     · repeat' (first|(with_reducible refine Unf.h ?_)|((conv=>whnf);first|(refine Side.mk ?_ ?_;focus (first|with_reducible rfl|(simp [*,cutL];done)))|(with_reducible refine Unf.h ?_)|exact True.intro)|fail);all_goals try (conv=>whnf)
   have hl:¬ 64≤p.2.length:=by omega
   obtain ⟨h1,h2,h3⟩:=hq;rw [folded_lt hl] at h1;rw [restOf_lt hl] at h2;refine CutS.auto (I:=Nat) (fun z=>z=64∧p.2.length<56∨z=128∧56≤p.2.length) (fun z=>[(6,.int .i64 z)]) (fun _=>[(2,.box 189 [.arr8 (Vector.replicate 128 0#8)]),(1,.box 221 [.arr32 p.1]),(0,.box 35 [.arr8 (Vector.replicate 32 0#8)])]) 3 ?_ ?_
   · repeat' (first|(with_reducible first|refine Unf.h ?_|refine cutK_n ?_)|((conv=>whnf);refine Fork.mk (fun h=>?_) (fun h=>?_))|fail);all_goals try (conv=>whnf)
     · refine ⟨128,by omega,?_⟩
       repeat' (first|(with_reducible refine Unf.h ?_)|((conv=>whnf);first|(refine Side.mk ?_ ?_;focus (first|with_reducible rfl|(refine congrArg (SV.int _) ?_;omega)))|(with_reducible refine Unf.h ?_)|exact True.intro)|fail);all_goals try (conv=>whnf)
     · refine ⟨64,by omega,?_⟩
       repeat' (first|(with_reducible refine Unf.h ?_)|((conv=>whnf);first|(refine Side.mk ?_ ?_;focus (first|with_reducible rfl|(refine congrArg (SV.int _) ?_;omega)))|(with_reducible refine Unf.h ?_)|exact True.intro)|fail);all_goals try (conv=>whnf)
   intro z hz;have hr64:p.2.length<64:=by omega
   repeat' (first|(with_reducible refine Unf.h ?_)|((conv=>whnf);first|(refine Side.mk ?_ ?_;focus (first|exact True.intro|omega|(intros;(try simp only [lenS,inR,cutS,loI,hiI] at *);omega)))|(refine Idx.mk ?_ ?_;focus (omega))|refine Ex.mk _ rfl ?_)|fail);all_goals try (conv=>whnf)
   refine LoopS.auto (fun i:Nat=>i≤8) (fun i=>[(31,.int .i64 i)]) (fun i=>[(2,.box 189 [.arr8 (tailUp p.2 b.length z i)]),(1,.box 221 [.arr32 p.1]),(0,.box 35 [.arr8 (Vector.replicate 32 0#8)])]) (fun i=>8 - i) 0 (by omega) ?_ ?_
   · repeat' (first|(with_reducible refine Unf.h ?_)|((conv=>whnf);first|(refine Side.mk ?_ ?_;focus (first|with_reducible rfl|(refine congrArg (SV.int _) ?_;omega)))|(with_reducible refine Unf.h ?_))|fail);all_goals try (conv=>whnf)
     refine Side.mk (congrArg SV.arr8 ?_) (by repeat' (first|(with_reducible refine Unf.h ?_)|((conv=>whnf);first|(refine Side.mk ?_ ?_;focus (with_reducible rfl))|exact True.intro)|fail);all_goals try (conv=>whnf))
     rw [tailUp_zero];refine (set_sib (j:=p.2.length) (y:=128#8) _ _ (by omega) rfl).trans ?_
     simp only [loI,hiI,List.take_of_length_le (show p.2.length≤(((128:Nat):Int)).toNat - (0:Int).toNat by omega)]
     rfl
   · intro i hi
     repeat' (first|(with_reducible first|refine Unf.h ?_|refine loopK_n ?_)|((conv=>whnf);first|refine Fork.mk (fun h=>?_) (fun h=>?_)|(refine Side.mk ?_ ?_;focus (first|exact True.intro|omega|(intros;(try simp only [lenS,inR,cutS,loI,hiI] at *);omega)))|(refine Idx.mk ?_ ?_;focus (omega)))|fail);all_goals try (conv=>whnf)
     · refine ⟨i+1,⟨by omega,by omega⟩,?_⟩
       repeat' (first|(with_reducible refine Unf.h ?_)|((conv=>whnf);first|(refine Side.mk ?_ ?_;focus (first|with_reducible rfl|(refine congrArg (SV.int _) ?_;omega)))|(with_reducible refine Unf.h ?_))|fail);all_goals try (conv=>whnf)
       refine Side.mk (congrArg SV.arr8 ?_) (by repeat' (first|(with_reducible refine Unf.h ?_)|((conv=>whnf);first|(refine Side.mk ?_ ?_;focus (with_reducible rfl))|exact True.intro)|fail);all_goals try (conv=>whnf))
       rw [tailUp_succ];refine set_sib _ _ (by omega) ?_
       rw [BitVec.ofInt_natCast,show (8*(i:Int)).toNat=8*i by omega]
       rfl
     have h8:i=8:=by omega
     subst h8;refine CallS.mk (c:=block_c) (p.1,(tailUp p.2 b.length z 8).toList) ?_
     repeat' (first|(with_reducible refine Unf.h ?_)|((conv=>whnf);first|(refine Side.mk ?_ ?_;focus (first|with_reducible rfl|(intros;(try simp only [lenS,inR,cutS,loI,hiI,cut_all] at *);omega)|(simp only [*,cut_all];done)|(dsimp only [resS,sum_c,block_c];((try simp only [lenS,inR,cutS,loI,hiI,cut_all]);omega))))|refine Got.mk (fun _ _=>?_))|fail);all_goals try (conv=>whnf)
     refine CutS.auto (I:=Vector (BitVec 32) 8) (fun v=>v=if p.2.length<56 then blk p.1 (tailUp p.2 b.length z 8).toList else blk (blk p.1 (tailUp p.2 b.length z 8).toList) ((tailUp p.2 b.length z 8).toList.drop 64)) (fun _=>[]) (fun v=>[(2,.fbox 189 [.arr8 (tailUp p.2 b.length z 8)]),(1,.box 221 [.arr32 v]),(0,.box 35 [.arr8 (Vector.replicate 32 0#8)])]) 3 ?_ ?_
     · repeat' (first|(with_reducible first|refine Unf.h ?_|refine cutK_n ?_)|((conv=>whnf);first|refine Fork.mk (fun h=>?_) (fun h=>?_)|(refine Side.mk ?_ ?_;focus ((intros;(try simp only [lenS,inR,cutS,loI,hiI] at *);omega))))|fail);all_goals try (conv=>whnf)
       · refine CallS.mk (c:=block_c) (blk p.1 (tailUp p.2 b.length z 8).toList,(tailUp p.2 b.length z 8).toList.drop 64) ?_
         repeat' (first|(with_reducible first|refine Unf.h ?_|refine cutK_n ?_)|((conv=>whnf);first|(refine Side.mk ?_ ?_;focus (first|with_reducible rfl|(intros;(try simp only [lenS,inR,cutS,loI,hiI,cut64v] at *);omega)|(simp only [*,cut64v];done)|(dsimp only [resS,sum_c,block_c];((try simp only [lenS,inR,cutS,loI,hiI,cut64v]);omega))))|refine Got.mk (fun _ _=>?_))|fail);all_goals try (conv=>whnf)
         refine ⟨blk (blk p.1 (tailUp p.2 b.length z 8).toList) ((tailUp p.2 b.length z 8).toList.drop 64),(if_neg (by omega)).symm,?_⟩
         repeat' (first|(with_reducible refine Unf.h ?_)|((conv=>whnf);first|(refine Side.mk ?_ ?_;focus (with_reducible rfl))|(with_reducible refine Unf.h ?_)|exact True.intro)|fail);all_goals try (conv=>whnf)
       · refine ⟨blk p.1 (tailUp p.2 b.length z 8).toList,(if_pos (by omega)).symm,?_⟩
         repeat' (first|(with_reducible refine Unf.h ?_)|((conv=>whnf);first|(refine Side.mk ?_ ?_;focus (with_reducible rfl))|(with_reducible refine Unf.h ?_)|exact True.intro)|fail);all_goals try (conv=>whnf)
     · intro v hv
       repeat' (first|(with_reducible refine Unf.h ?_)|fail);all_goals try (conv=>whnf)
       refine LoopS.auto (fun i:Nat=>i≤32) (fun i=>[(54,.int .i64 i)]) (fun i=>[(3,.box 35 [.arr8 (outV v i)]),(1,.box 221 [.arr32 v]),(0,.box 35 [.arr8 (Vector.replicate 32 0#8)])]) (fun i=>32 - i) 0 (by omega) ?_ ?_
       · repeat' (first|(with_reducible refine Unf.h ?_)|((conv=>whnf);first|(refine Side.mk ?_ ?_;focus (first|with_reducible rfl|(refine congrArg (SV.int _) ?_;omega)|(simp only [*,outV_zero];done)))|(with_reducible refine Unf.h ?_)|exact True.intro)|fail);all_goals try (conv=>whnf)
       · intro i hi
         repeat' (first|(with_reducible first|refine Unf.h ?_|refine loopK_n ?_)|((conv=>whnf);first|refine Fork.mk (fun h=>?_) (fun h=>?_)|(refine Side.mk ?_ ?_;focus (first|omega|(intros;(try simp only [lenS,inR,cutS,loI,hiI] at *);omega)))|(refine Idx.mk ?_ ?_;focus (omega))|refine RetE.mk () trivial ?_|refine retK_r ?_)|fail);all_goals try (conv=>whnf)
         · refine ⟨i+1,⟨by omega,by omega⟩,?_⟩
           repeat' (first|(with_reducible refine Unf.h ?_)|((conv=>whnf);first|(refine Side.mk ?_ ?_;focus (first|with_reducible rfl|(refine congrArg (SV.int _) ?_;omega)))|(with_reducible refine Unf.h ?_))|fail);all_goals try (conv=>whnf)
           refine Side.mk (congrArg SV.arr8 (outV_step v i _ (by omega) (by omega) _ ?_)) (by repeat' (first|(with_reducible refine Unf.h ?_)|((conv=>whnf);first|(refine Side.mk ?_ ?_;focus (with_reducible rfl))|exact True.intro)|fail);all_goals try (conv=>whnf))
           have e1:((i:Nat):Int) / 4=((i / 4:Nat):Int):=by omega
           have e2:((24:Int) - 8*(((i:Nat):Int) % 4)).toNat=24 - 8*(i % 4):=by omega
           simp only [e1,e2,Int.toNat_natCast]
         · have e:i=32:=by omega
           subst e;have hz':z=if p.2.length<56 then 64 else 128:=by split<;>omega
           have hs:=sha_tail b p.2 p.1 h2 h1 (tailUp p.2 b.length z 8) (by rw [← hz'])
           rw [← hv] at hs;rw [← hs]
           repeat' (first|(with_reducible refine Unf.h ?_)|((conv=>whnf);first|(refine Side.mk ?_ ?_;focus (with_reducible rfl))|exact rfl)|fail);all_goals try (conv=>whnf)
def numA (x:BitVec 64) (n:Nat):List (BitVec 8):=(List.range n).map fun i=>(x >>> (8*i)).setWidth 8
def beN (n:Nat) (x:BitVec 64):List (BitVec 8):=(List.range n).map fun i=>(x >>> (8*(n - 1 - i))).setWidth 8
theorem numA_zero (x:BitVec 64):numA x 0=[]:=rfl
theorem numA_succ (x:BitVec 64) (n:Nat):numA x n++[(x >>> (8*n)).setWidth 8]=numA x (n+1):=by simp [numA,List.range_succ]
theorem numA_len (x:BitVec 64) (n:Nat):(numA x n).length=n:=by simp [numA]
theorem beN_len (x:BitVec 64) (n:Nat):(beN n x).length=n:=by simp [beN]
theorem div256 (x:BitVec 64):x / 256#64=x >>> 8:=by
 apply BitVec.eq_of_toNat_eq;simp [BitVec.toNat_udiv,Nat.shiftRight_eq_div_pow]
theorem mod256 (x:BitVec 64):(x % 256#64).setWidth 8=x.setWidth 8:=by
 apply BitVec.eq_of_toNat_eq;simp [BitVec.toNat_umod]
def beUp (x:BitVec 64) (n k:Nat):List (BitVec 8):=(List.range k).map fun i=>(x >>> (8*(n - 1 - i))).setWidth 8
theorem beUp_zero (x:BitVec 64) (n:Nat):beUp x n 0=[]:=rfl
theorem beUp_all (x:BitVec 64) (n:Nat):beUp x n n=beN n x:=rfl
theorem beUp_len (x:BitVec 64) (n k:Nat):(beUp x n k).length=k:=by simp [beUp]
theorem beUp_succ (x:BitVec 64) (n k:Nat):beUp x n k++[(x >>> (8*(n - 1 - k))).setWidth 8]=beUp x n (k+1):=by simp [beUp,List.range_succ]
theorem shr_shr (x:BitVec 64) (i:Nat):x >>> (8*i) >>> 8=x >>> (8*(i+1)):=by rw [← BitVec.shiftRight_add];rfl
def number_c:Ctr where
 D:=BitVec 64×Nat
 pre:=fun (_,n)=>n≤1000
 args:=fun (x,n)=>[.u64 x,.int .i64 n]
 res:=fun _ _=>.own 0
 out:=fun (x,n) _=>[(0,.row 5 1 eB (beN n x))]
 mm:=1
def number_H:Cfg:=⟨[],[],[],[],36,0,[],[],[]⟩
theorem number_ok:number_c.Ok Tryz.prog 29:=by
 refine fn_ok number_H 0 rfl _ Tryz.func29 rfl rfl trivial rfl rfl (by kernel_rfl) (fun _=>nlb rfl) ?_
 rintro ⟨x,n⟩ hp hr
 try dsimp only [number_c] at hp
 try simp only [number_c,Rng,RngL,inR,and_true,true_and] at hr
 repeat' (first|(with_reducible refine Unf.h ?_)|fail);all_goals try (conv=>whnf)
 refine LoopS.autoN (fun i:Nat=>i≤n) (fun i=>[(7,.int .i64 i),(5,.own 0),(0,.u64 (x >>> (8*i)))]) (fun i=>[(0,.row 5 1 eB (numA x i))]) 1 (fun i=>n - i) 0 (by omega) ?_ ?_
 · repeat' (first|(with_reducible refine Unf.h ?_)|((conv=>whnf);first|(refine Side.mk ?_ ?_;focus (first|with_reducible rfl|(refine congrArg (SV.int _) ?_;omega)|(simp only [*,numA_zero];done)|(simp [*,numA_zero];done)))|(with_reducible refine Unf.h ?_)|exact True.intro)|fail);all_goals try (conv=>whnf)
 · intro i hi
   repeat' (first|(with_reducible first|refine Unf.h ?_|refine loopK_n ?_)|((conv=>whnf);first|refine Fork.mk (fun h=>?_) (fun h=>?_)|(refine Side.mk ?_ ?_;focus (first|(intros;(try simp only [lenS,inR,cutS,loI,hiI,numA_len] at *);omega)|(simp [*,numA_len];done)))|refine Ex.mk [_] rfl ?_)|fail);all_goals try (conv=>whnf)
   · refine ⟨i+1,⟨by omega,by omega⟩,?_⟩
     repeat' (first|(with_reducible refine Unf.h ?_)|((conv=>whnf);first|(refine Side.mk ?_ ?_;focus (first|with_reducible rfl|(refine congrArg (SV.int _) ?_;omega)|(simp only [*,div256,shr_shr,mod256,numA_succ];done)))|(with_reducible refine Unf.h ?_)|exact True.intro)|fail);all_goals try (conv=>whnf)
   have e:i=n:=by omega
   subst e;refine LoopS.autoN (fun k:Nat=>k≤i) (fun k=>[(8,.int .i64 ((i:Int) - 1 - k)),(5,.own 0),(6,.own 1)]) (fun k=>[(0,.row 5 1 eB (numA x i)),(1,.row 5 1 eB (beUp x i k))]) 2 (fun k=>i - k) 0 (by omega) ?_ ?_
   · repeat' (first|(with_reducible refine Unf.h ?_)|((conv=>whnf);first|(refine Side.mk ?_ ?_;focus (first|with_reducible rfl|(refine congrArg (SV.int _) ?_;omega)|(simp only [*,beUp_zero];done)))|(with_reducible refine Unf.h ?_)|exact True.intro)|fail);all_goals try (conv=>whnf)
   · intro k hk
     repeat' (first|(with_reducible first|refine Unf.h ?_|refine loopK_n ?_)|((conv=>whnf);first|refine Fork.mk (fun h=>?_) (fun h=>?_)|(refine Side.mk ?_ ?_;focus ((intros;(try simp only [lenS,inR,cutS,loI,hiI,numA_len,beUp_len] at *);omega)))|(refine Idx.mk ?_ ?_;focus ((simp only [lenS,inR,cutS,loI,hiI,numA_len,beUp_len];omega)))|refine RetE.mk () trivial ?_|refine Ex.mk [_] rfl ?_|refine retK_r ?_)|fail);all_goals try (conv=>whnf)
     · refine ⟨k+1,⟨by omega,by omega⟩,?_⟩
       repeat' (first|(with_reducible refine Unf.h ?_)|((conv=>whnf);first|(refine Side.mk ?_ ?_;focus (first|with_reducible rfl|(refine congrArg (SV.int _) ?_;omega)))|(with_reducible refine Unf.h ?_))|fail);all_goals try (conv=>whnf)
       refine Side.mk (congrArg (SO.row _ _ _) ?_) (by repeat' (first|(with_reducible refine Unf.h ?_)|((conv=>whnf);exact True.intro)|fail);all_goals try (conv=>whnf))
       rw [← beUp_succ]
       congr 2
       have e:((i:Int) - 1 - k).toNat=i - 1 - k:=by omega
       simp only [e,numA,List.getElem_map,List.getElem_range]
     · have e:k=i:=by omega
       subst e
       repeat' (first|(with_reducible refine Unf.h ?_)|((conv=>whnf);first|(refine Side.mk ?_ ?_;focus ((simp only [*,beUp_all];done)))|exact rfl)|fail);all_goals try (conv=>whnf)
def valL (b:List (BitVec 8)):BitVec 64:=b.foldl (fun x c=>x*256#64+c.setWidth 64) 0#64
theorem valL_zero (b:List (BitVec 8)):valL (b.take 0)=0#64:=by simp [valL]
theorem valL_succ (b:List (BitVec 8)) (i:Nat) (h:i<b.length):valL (b.take (i+1))=valL (b.take i)*256#64+(b[i]).setWidth 64:=by
 unfold valL;rw [List.take_succ_eq_append_getElem h,List.foldl_append];rfl
def value_c:Ctr where
 D:=List (BitVec 8)
 args:=fun b=>[.fs 1 eB b]
 res:=fun b _=>.u64 (valL b)
def value_H:Cfg:=⟨[],[],[],[],20,0,[],[],[]⟩
theorem value_ok:value_c.Ok Tryz.prog 165:=by
 refine fn_ok value_H 0 rfl _ Tryz.func165 rfl rfl trivial rfl rfl (by kernel_rfl) (fun _=>nlb rfl) ?_
 intro (b:List (BitVec 8)) hp hr
 try dsimp only [value_c] at hp
 try simp only [value_c,Rng,RngL,inR,and_true,true_and] at hr
 repeat' (first|(with_reducible refine Unf.h ?_)|fail);all_goals try (conv=>whnf)
 refine LoopS.auto (fun i:Nat=>i≤b.length) (fun i=>[(4,.int .i64 i),(3,.u64 (valL (b.take i)))]) (fun i=>[]) (fun i=>b.length - i) 0 (by omega) ?_ ?_
 · repeat' (first|(with_reducible refine Unf.h ?_)|((conv=>whnf);first|(refine Side.mk ?_ ?_;focus (first|with_reducible rfl|(refine congrArg (SV.int _) ?_;omega)|(simp only [*,valL_zero];done)))|(with_reducible refine Unf.h ?_)|exact True.intro)|fail);all_goals try (conv=>whnf)
 · intro i hi
   repeat' (first|(with_reducible first|refine Unf.h ?_|refine loopK_n ?_)|((conv=>whnf);first|refine Fork.mk (fun h=>?_) (fun h=>?_)|(refine Side.mk ?_ ?_;focus ((intros;(try simp only [lenS,inR,cutS,loI,hiI] at *);omega)))|(refine Idx.mk ?_ ?_;focus (omega))|refine RetE.mk () trivial ?_|refine retK_r ?_)|fail);all_goals try (conv=>whnf)
   · refine ⟨i+1,⟨by omega,by omega⟩,?_⟩
     repeat' (first|(with_reducible refine Unf.h ?_)|((conv=>whnf);first|(refine Side.mk ?_ ?_;focus ((refine congrArg (SV.int _) ?_;omega)))|(with_reducible refine Unf.h ?_))|fail);all_goals try (conv=>whnf)
     refine Side.mk (congrArg SV.u64 ?_) (by repeat' (first|(with_reducible refine Unf.h ?_)|((conv=>whnf);first|(refine Side.mk ?_ ?_;focus (with_reducible rfl))|exact True.intro)|fail);all_goals try (conv=>whnf))
     rw [valL_succ b i (by omega)];rfl
   · have e:i=b.length:=by omega
     subst e
     repeat' (first|(with_reducible refine Unf.h ?_)|((conv=>whnf);first|(refine Side.mk ?_ ?_;focus ((dsimp only [resS,value_c];(simp only [*,List.take_length];done))))|exact rfl)|fail);all_goals try (conv=>whnf)
def turned_c:Ctr where
 D:=BitVec 32×Nat
 pre:=fun (x,n)=>0<n∧n<32
 args:=fun (x,n)=>[.u32 x,.u32 (BitVec.ofNat 32 n)]
 res:=fun (x,n) _=>.u32 (rotr x n)
theorem rot_amt2:∀ n:Fin 32,(BitVec.ofNat 32 n.1).toNat=n.1∧(32#32 - BitVec.ofNat 32 n.1).toNat=32 - n.1:=by decide
def turned_H:Cfg:=⟨[],[],[],[],13,0,[],[],[]⟩
theorem turned_ok:turned_c.Ok Tryz.prog 155:=by
 refine fn_ok turned_H 0 rfl _ Tryz.func155 rfl rfl trivial rfl rfl (by kernel_rfl) (fun _=>nlb rfl) ?_
 rintro ⟨x,n⟩ hp hr
 try dsimp only [turned_c] at hp
 try simp only [turned_c,Rng,RngL,inR,and_true,true_and] at hr
 repeat' (first|(with_reducible refine Unf.h ?_)|((conv=>whnf);first|refine RetE.mk () trivial ?_|refine retK_r ?_)|fail);all_goals try (conv=>whnf)
 refine Side.mk (congrArg SV.u32 ?_) (by repeat' (first|(with_reducible refine Unf.h ?_)|((conv=>whnf);exact rfl)|fail);all_goals try (conv=>whnf))
 obtain ⟨h1,h2⟩:=rot_amt2 ⟨n,hp.2⟩
 simp only at h1 h2
 rw [rotr,h1,h2]
def start_c:Ctr where
 D:=Unit
 args:=fun _=>[]
 res:=fun _ _=>.agg [.arr32 gv0]
def start_H:Cfg:=⟨[],[],[],[],2,0,[],[],[]⟩
theorem start_ok:start_c.Ok Tryz.prog 137:=by
 refine fn_ok start_H 0 rfl _ Tryz.func137 rfl rfl trivial rfl rfl (by kernel_rfl) (fun _=>nlb rfl) ?_
 intro (_:Unit) hp hr
 repeat' (first|(with_reducible refine Unf.h ?_)|((conv=>whnf);first|refine RetE.mk () trivial ?_|refine retK_r ?_)|fail);all_goals try (conv=>whnf)
 refine Side.mk (congrArg SV.arr32 (by kernel_rfl)) (by repeat' (first|(with_reducible refine Unf.h ?_)|((conv=>whnf);exact rfl)|fail);all_goals try (conv=>whnf))
def kk_c:Ctr where
 D:=Unit
 args:=fun _=>[]
 res:=fun _ _=>.agg [.arr32 gv1]
def kk_H:Cfg:=⟨[],[],[],[],2,0,[],[],[]⟩
theorem kk_ok:kk_c.Ok Tryz.prog 154:=by
 refine fn_ok kk_H 0 rfl _ Tryz.func154 rfl rfl trivial rfl rfl (by kernel_rfl) (fun _=>nlb rfl) ?_
 intro (_:Unit) hp hr
 repeat' (first|(with_reducible refine Unf.h ?_)|((conv=>whnf);first|refine RetE.mk () trivial ?_|refine retK_r ?_)|fail);all_goals try (conv=>whnf)
 refine Side.mk (congrArg SV.arr32 (by kernel_rfl)) (by repeat' (first|(with_reducible refine Unf.h ?_)|((conv=>whnf);exact rfl)|fail);all_goals try (conv=>whnf))
theorem shl3 (n:Nat):8#64*BitVec.ofInt 64 (n:Int)=BitVec.ofNat 64 n <<< 3:=by
 rw [BitVec.ofInt_natCast]
 apply BitVec.eq_of_toNat_eq
 simp [BitVec.toNat_mul,BitVec.toNat_shiftLeft,Nat.shiftLeft_eq,Nat.mul_comm]
def padZ (b:List (BitVec 8)) (k:Nat):List (BitVec 8):=b++[128#8]++List.replicate k 0#8
theorem padZ_len (b:List (BitVec 8)) (k:Nat):(padZ b k).length=b.length+1+k:=by simp [padZ];omega
theorem padZ_zero (b:List (BitVec 8)):padZ b 0=b++[128#8]:=by simp [padZ]
theorem padZ_succ (b:List (BitVec 8)) (k:Nat):padZ b k++[0#8]=padZ b (k+1):=by simp [padZ,List.replicate_succ']
def padded_c:Ctr where
 D:=List (BitVec 8)
 pre:=fun b=>b.length≤1000000000
 args:=fun b=>[.fs 1 eB b]
 res:=fun _ _=>.own 0
 out:=fun b _=>[(0,.row 5 1 eB (padT b b.length))]
 mm:=1
def padded_H:Cfg:=⟨[(29,number_c)],[],[],[],24,0,[],[],[]⟩
theorem padded_ok:padded_c.Ok Tryz.prog 138:=by
 refine fn_ok padded_H 0 rfl _ Tryz.func138 rfl rfl ⟨number_ok,trivial⟩ rfl rfl (by kernel_rfl) (fun _=>nlb rfl) ?_
 intro (b:List (BitVec 8)) hp hr
 try dsimp only [padded_c] at hp
 try simp only [padded_c,Rng,RngL,inR,and_true,true_and] at hr
 repeat' (first|(with_reducible refine Unf.h ?_)|((conv=>whnf);first|(refine Side.mk ?_ ?_;focus ((intros;(try simp only [lenS,inR,cutS,loI,hiI] at *);omega)))|refine Ex.mk [_] rfl ?_)|fail);all_goals try (conv=>whnf)
 refine LoopS.autoN (fun k:Nat=>k≤(119 - b.length % 64) % 64) (fun k=>[(3,.own 0)]) (fun k=>[(0,.row 5 1 eB (padZ b k))]) 1 (fun k=>(119 - b.length % 64) % 64 - k) 0 (by omega) ?_ ?_
 · repeat' (first|(with_reducible refine Unf.h ?_)|((conv=>whnf);first|(refine Side.mk ?_ ?_;focus (first|with_reducible rfl|(simp only [*,padZ_zero];done)))|(with_reducible refine Unf.h ?_)|exact True.intro)|fail);all_goals try (conv=>whnf)
 · intro k hk
   repeat' (first|(with_reducible first|refine Unf.h ?_|refine loopK_n ?_)|((conv=>whnf);first|refine Fork.mkn (fun h=>?_) (fun h=>?_)|(refine Side.mk ?_ ?_;focus (first|omega|(intros;(try simp only [lenS,inR,cutS,loI,hiI,padZ_len] at *);omega)))|refine Ex.mk [_] rfl ?_)|fail);all_goals try (conv=>whnf)
   · simp only [padZ_len] at h
     refine ⟨k+1,⟨by omega,by omega⟩,?_⟩
     repeat' (first|(with_reducible refine Unf.h ?_)|((conv=>whnf);first|(refine Side.mk ?_ ?_;focus (first|with_reducible rfl|(simp only [*,padZ_succ];done)))|(with_reducible refine Unf.h ?_)|exact True.intro)|fail);all_goals try (conv=>whnf)
   · simp only [padZ_len] at h
     have e:k=(119 - b.length % 64) % 64:=by omega
     repeat' (first|(with_reducible refine Unf.h ?_)|((conv=>whnf);first|(refine Side.mk ?_ ?_;focus (first|with_reducible rfl|(refine congrArg (SV.int _) ?_;omega)|(intros;(try simp only [lenS,inR,cutS,loI,hiI,padZ_len,beN_len] at *);omega)|(dsimp only [resS,padded_c,number_c];omega)))|refine RetE.mk () trivial ?_|refine Got.mk (fun _ _=>?_)|refine Ex.mk _ rfl ?_|refine retK_r ?_|refine CallS.mk (c:=number_c) ((8#64*BitVec.ofInt 64 (b.length:Int),8)) ?_)|fail);all_goals try (conv=>whnf)
     refine Side.mk (congrArg (SO.row _ _ _) ?_) (by repeat' (first|(with_reducible refine Unf.h ?_)|((conv=>whnf);exact rfl)|fail);all_goals try (conv=>whnf))
     rw [shl3,e];rfl
theorem val_step (v:BitVec 64) (c:BitVec 8):(v*256#64+c.setWidth 64).setWidth 32=(v.setWidth 32) <<< 8 ||| c.setWidth 32:=by
 apply BitVec.eq_of_toNat_eq
 have hc:=c.isLt;have hv:=v.isLt;simp only [BitVec.toNat_setWidth,BitVec.toNat_add,BitVec.toNat_mul,BitVec.toNat_ofNat,BitVec.toNat_or,BitVec.toNat_shiftLeft,Nat.shiftLeft_eq];have e:v.toNat % 2^32*2^8 % 2^32=(v.toNat % 2^24)*2^8:=by omega
 rw [e,Nat.mod_eq_of_lt (show c.toNat<2^32 by omega),Nat.mod_eq_of_lt (show c.toNat<2^64 by omega),← Nat.shiftLeft_eq,← Nat.shiftLeft_add_eq_or_of_lt (by omega) (v.toNat % 2^24),Nat.shiftLeft_eq]
 omega
theorem valL_snoc (l:List (BitVec 8)) (c:BitVec 8):valL (l++[c])=valL l*256#64+c.setWidth 64:=by simp [valL]
theorem wrd_val (b:List (BitVec 8)) (t:Nat) (ht:t<16) (hb:64≤b.length) (l:List (BitVec 8)) (hl:l=(b.take (4*t+4)).drop (4*t)):(valL l).setWidth 32=wrd b t:=by
 rw [wrd_lt b t ht];have e:l=[b.getD (4*t+0) 0#8]++[b.getD (4*t+1) 0#8]++[b.getD (4*t+2) 0#8]++[b.getD (4*t+3) 0#8]:=by
   rw [hl];refine List.ext_getElem (by simp;omega) fun j h1 h2=>?_
   simp only [List.length_append,List.length_cons,List.length_nil] at h2;rw [List.getElem_drop,List.getElem_take];have h3:j=0∨j=1∨j=2∨j=3:=by omega
   rcases h3 with rfl|rfl|rfl|rfl<;>simp [List.getD_eq_getElem?_getD,show 4*t+0<b.length by omega,show 4*t+1<b.length by omega,show 4*t+2<b.length by omega,show 4*t+3<b.length by omega,show 4*t<b.length by omega]
 rw [e,valL_snoc,val_step,valL_snoc,val_step,valL_snoc,val_step];have z:(valL [b.getD (4*t+0) 0#8]).setWidth 32=(0#32) <<< 8 ||| (b.getD (4*t+0) 0#8).setWidth 32:=by
   rw [← List.nil_append [b.getD (4*t+0) 0#8],valL_snoc,val_step];simp [valL]
 rw [z];simp only [wpart]
theorem wUp_zero (b:List (BitVec 8)):wUp b 0=Vector.replicate 64 0#32:=by
 ext i hi:1;simp [wUp]
theorem div8 (x:BitVec 32):x / 8#32=x >>> 3:=by
 apply BitVec.eq_of_toNat_eq;simp [BitVec.toNat_udiv,Nat.shiftRight_eq_div_pow]
theorem div1024 (x:BitVec 32):x / 1024#32=x >>> 10:=by
 apply BitVec.eq_of_toNat_eq;simp [BitVec.toNat_udiv,Nat.shiftRight_eq_div_pow]
def words_c:Ctr where
 D:=List (BitVec 8)
 pre:=fun b=>64≤b.length
 args:=fun b=>[.fs 1 eB b]
 res:=fun b _=>.agg [.arr32 (wUp b 64)]
def words_H:Cfg:=⟨[(155,turned_c),(165,value_c)],[(11,[4,17],[6,8,20,22,29],(oA 0 (oA 1 (oA 2 (oA 3 (oB 4 (oA 5 (oA 7 (oA 10 (oA 11 (oA 14 (oA 15 (oA 16 (oB 17 (oA 19 (oA 21 (oA 24 (oA 25 (oD 6 (oD 8 (oA 9 (oA 12 (oA 13 (oA 18 (oD 20 (oD 22 (oA 23 (oA 26 (oA 27 (oA 28 (oC 29 .nil)))))))))))))))))))))))))))))),[])],[],[],65,0,[],[],[]⟩
theorem words_ok:words_c.Ok Tryz.prog 153:=by
 refine fn_ok words_H 0 rfl _ Tryz.func153 rfl rfl ⟨turned_ok,value_ok,trivial⟩ rfl rfl (by kernel_rfl) (fun _=>nlb rfl) ?_
 intro (b:List (BitVec 8)) hp hr
 try dsimp only [words_c] at hp
 try simp only [words_c,Rng,RngL,inR,and_true,true_and] at hr
 repeat' (first|(with_reducible refine Unf.h ?_)|fail);all_goals try (conv=>whnf)
 refine LoopS.auto (fun t:Nat=>t≤16) (fun t=>[(4,.int .i64 t)]) (fun t=>[(1,.box 240 [.arr32 (wUp b t)]),(0,.box 240 [.arr32 (Vector.replicate 64 0#32)])]) (fun t=>16 - t) 0 (by omega) ?_ ?_
 · repeat' (first|(with_reducible refine Unf.h ?_)|((conv=>whnf);first|(refine Side.mk ?_ ?_;focus (first|with_reducible rfl|(refine congrArg (SV.int _) ?_;omega)|(simp only [*,wUp_zero];done)))|(with_reducible refine Unf.h ?_)|exact True.intro)|fail);all_goals try (conv=>whnf)
 · intro t ht
   repeat' (first|(with_reducible refine Unf.h ?_)|((conv=>whnf);first|refine Fork.mk (fun h=>?_) (fun h=>?_)|(refine Side.mk ?_ ?_;focus ((intros;(try simp only [lenS,inR,cutS,loI,hiI] at *);omega))))|fail);all_goals try (conv=>whnf)
   · refine CallS.mk (c:=value_c) ((cutL b (some (4*(t:Int))) (some (4*(t:Int)+4)))) ?_
     repeat' (first|(with_reducible first|refine Unf.h ?_|refine loopK_n ?_)|((conv=>whnf);first|(refine Side.mk ?_ ?_;focus (first|with_reducible rfl|exact True.intro|omega|(intros;(try simp only [lenS,inR,cutS,loI,hiI] at *);omega)))|(refine Idx.mk ?_ ?_;focus (omega))|refine Got.mk (fun _ _=>?_))|fail);all_goals try (conv=>whnf)
     refine ⟨t+1,⟨by omega,by omega⟩,?_⟩
     repeat' (first|(with_reducible refine Unf.h ?_)|((conv=>whnf);first|(refine Side.mk ?_ ?_;focus (first|with_reducible rfl|(refine congrArg (SV.int _) ?_;omega)))|(with_reducible refine Unf.h ?_))|fail);all_goals try (conv=>whnf)
     refine Side.mk (congrArg SV.arr32 (wUp_step b t _ _ (by omega) _ ?_)) (by repeat' (first|(with_reducible refine Unf.h ?_)|((conv=>whnf);first|(refine Side.mk ?_ ?_;focus (with_reducible rfl))|exact True.intro)|fail);all_goals try (conv=>whnf))
     refine wrd_val b t (by omega) hp _ ?_
     simp only [cutL_eq,loI,hiI]
     congr 2<;>omega
   have e:t=16:=by omega
   subst e;refine LoopS.auto (fun k:Nat=>16≤k∧k≤64) (fun k=>[(5,.int .i64 k)]) (fun k=>[(1,.box 240 [.arr32 (wUp b k)]),(0,.box 240 [.arr32 (Vector.replicate 64 0#32)])]) (fun k=>64 - k) 16 (by omega) ?_ ?_
   · repeat' (first|(with_reducible refine Unf.h ?_)|((conv=>whnf);first|(refine Side.mk ?_ ?_;focus (first|with_reducible rfl|(refine congrArg (SV.int _) ?_;omega)))|(with_reducible refine Unf.h ?_)|exact True.intro)|fail);all_goals try (conv=>whnf)
   · intro k hk
     repeat' (first|(with_reducible refine Unf.h ?_)|((conv=>whnf);first|refine Fork.mk (fun h=>?_) (fun h=>?_)|(refine Side.mk ?_ ?_;focus (first|omega|(intros;(try simp only [lenS,inR,cutS,loI,hiI] at *);omega)|(simp [*];done)))|(refine Idx.mk ?_ ?_;focus (omega))|refine RetE.mk () trivial ?_|refine retK_r ?_)|fail);all_goals try (conv=>whnf)
     · have g:∀ m:Nat,0<m→m≤16→∀ h:((k:Int) - m).toNat<64,(wUp b k)[((k:Int) - m).toNat]'h=wrd b (k - m):=fun m h1 h2 h3=>wUp_get b k _ _ h3 (by omega) (by omega)
       have g15:=g 15 (by omega) (by omega) (by omega)
       have g16:=g 16 (by omega) (by omega) (by omega)
       have g2:=g 2 (by omega) (by omega) (by omega)
       have g7:=g 7 (by omega) (by omega) (by omega)
       simp only [show ((15:Nat):Int)=15 from rfl,show ((16:Nat):Int)=16 from rfl,show ((2:Nat):Int)=2 from rfl,show ((7:Nat):Int)=7 from rfl] at g15 g16 g2 g7;clear g;refine CallS.mk (c:=turned_c) ((wrd b (k - 15),7)) ?_
       repeat' (first|(with_reducible refine Unf.h ?_)|((conv=>whnf);first|(refine Side.mk ?_ ?_;focus (first|with_reducible rfl|(simp only [*];done)|(dsimp only [resS,words_c,turned_c];omega)))|refine Got.mk (fun _ _=>?_))|fail);all_goals try (conv=>whnf)
       refine CallS.mk (c:=turned_c) ((wrd b (k - 15),18)) ?_
       repeat' (first|(with_reducible refine Unf.h ?_)|((conv=>whnf);first|(refine Side.mk ?_ ?_;focus (first|with_reducible rfl|(simp only [*];done)|(dsimp only [resS,words_c,turned_c];omega)))|refine Got.mk (fun _ _=>?_))|fail);all_goals try (conv=>whnf)
       refine CallS.mk (c:=turned_c) ((wrd b (k - 2),17)) ?_
       repeat' (first|(with_reducible refine Unf.h ?_)|((conv=>whnf);first|(refine Side.mk ?_ ?_;focus (first|with_reducible rfl|(simp only [*];done)|(dsimp only [resS,words_c,turned_c];omega)))|refine Got.mk (fun _ _=>?_))|fail);all_goals try (conv=>whnf)
       refine CallS.mk (c:=turned_c) ((wrd b (k - 2),19)) ?_
       repeat' (first|(with_reducible first|refine Unf.h ?_|refine loopK_n ?_)|((conv=>whnf);first|(refine Side.mk ?_ ?_;focus (first|with_reducible rfl|omega|(intros;(try simp only [lenS,inR,cutS,loI,hiI] at *);omega)|(simp only [*];done)|(dsimp only [resS,words_c,turned_c];omega)))|(refine Idx.mk ?_ ?_;focus (omega))|refine Got.mk (fun _ _=>?_))|fail);all_goals try (conv=>whnf)
       refine ⟨k+1,⟨by omega,by omega,by omega⟩,?_⟩
       repeat' (first|(with_reducible refine Unf.h ?_)|((conv=>whnf);first|(refine Side.mk ?_ ?_;focus (first|with_reducible rfl|(refine congrArg (SV.int _) ?_;omega)))|(with_reducible refine Unf.h ?_))|fail);all_goals try (conv=>whnf)
       refine Side.mk (congrArg SV.arr32 (wUp_step b k _ _ (by omega) _ ?_)) (by repeat' (first|(with_reducible refine Unf.h ?_)|((conv=>whnf);first|(refine Side.mk ?_ ?_;focus (with_reducible rfl))|exact True.intro)|fail);all_goals try (conv=>whnf))
       rw [div8,div1024,g15,g16,g2,g7,wrd_rec b k hk.1];unfold sig0 sig1
       rfl
     · have e:k=64:=by omega
       subst e
       repeat' (first|(with_reducible refine Unf.h ?_)|((conv=>whnf);first|(refine Side.mk ?_ ?_;focus (with_reducible rfl))|exact rfl)|fail);all_goals try (conv=>whnf)
theorem pick_eq (a b c:BitVec 32):a &&& b ||| (4294967295#32 - a) &&& c=c ^^^ a &&& (b ^^^ c):=by
 have e:4294967295#32 - a = ~~~ a:=by
   rw [← BitVec.allOnes_sub_eq_not];rfl
 rw [e]
 ext i hi
 simp only [BitVec.getElem_or,BitVec.getElem_and,BitVec.getElem_xor,BitVec.getElem_not]
 cases a[i]<;>cases b[i]<;>cases c[i]<;>rfl
theorem two_eq (a b c:BitVec 32):a &&& b ||| a &&& c ||| b &&& c=a &&& b ||| c &&& (a ||| b):=by
 ext i hi
 simp only [BitVec.getElem_or,BitVec.getElem_and]
 cases a[i]<;>cases b[i]<;>cases c[i]<;>rfl
theorem v8 (a b c d e f g h:BitVec 32):((((((((Vector.replicate 8 0#32).setIfInBounds 0 a).setIfInBounds 1 b).setIfInBounds 2 c).setIfInBounds 3 d).setIfInBounds 4 e).setIfInBounds 5 f).setIfInBounds 6 g).setIfInBounds 7 h=#v[a,b,c,d,e,f,g,h]:=rfl
theorem rnd_doc (v:Vector (BitVec 32) 8) (k w:BitVec 32):#v[v[7]+(rotr v[4] 6 ^^^ rotr v[4] 11 ^^^ rotr v[4] 25)+(v[4] &&& v[5] ||| (4294967295#32 - v[4]) &&& v[6])+k+w+((rotr v[0] 2 ^^^ rotr v[0] 13 ^^^ rotr v[0] 22)+(v[0] &&& v[1] ||| v[0] &&& v[2] ||| v[1] &&& v[2])),v[0],v[1],v[2],v[3]+(v[7]+(rotr v[4] 6 ^^^ rotr v[4] 11 ^^^ rotr v[4] 25)+(v[4] &&& v[5] ||| (4294967295#32 - v[4]) &&& v[6])+k+w),v[4],v[5],v[6]]=rnd v k w:=by
 unfold rnd rnX rnY sgA sgB;rw [pick_eq,two_eq]
def take_c:Ctr where
 D:=Vector (BitVec 32) 8×List (BitVec 8)
 pre:=fun (_,b)=>64≤b.length
 args:=fun (s,b)=>[.agg [.arr32 s],.fs 1 eB b]
 res:=fun (s,b) _=>.agg [.arr32 (blk s b)]
def take_H:Cfg:=⟨[(155,turned_c),(153,words_c),(154,kk_c)],[(9,[1,3,6,10,18,22],[4,7,11],(oA 0 (oB 1 (oA 2 (oB 3 (oA 5 (oB 6 (oA 9 (oB 10 (oA 14 (oA 16 (oA 17 (oB 18 (oA 20 (oA 21 (oB 22 (oD 4 (oD 7 (oA 8 (oD 11 (oA 12 (oA 13 (oA 15 (oA 19 (oA 23 (oA 24 .nil))))))))))))))))))))))))),[]),(10,[1,4,8],[2,5,9],(oA 0 (oB 1 (oA 3 (oB 4 (oA 7 (oB 8 (oA 11 (oD 2 (oD 5 (oA 6 (oC 9 (oA 10 (oA 12 (oA 13 .nil)))))))))))))),[]),(15,[2,5],[8],(oA 0 (oA 1 (oB 2 (oA 3 (oA 4 (oB 5 (oA 6 (oA 7 (oC 8 .nil))))))))),[])],[],[],121,0,[],[],[]⟩
theorem take_ok:take_c.Ok Tryz.prog 139:=by
 refine fn_ok take_H 0 rfl _ Tryz.func139 rfl rfl ⟨turned_ok,words_ok,kk_ok,trivial⟩ rfl rfl (by kernel_rfl) (fun _=>nlb rfl) ?_
 rintro ⟨s,b⟩ hp hr
 try dsimp only [take_c] at hp
 try simp only [take_c,Rng,RngL,inR,and_true,true_and] at hr
 repeat' (first|(with_reducible refine Unf.h ?_)|((conv=>whnf);first|(refine Side.mk ?_ ?_;focus (first|with_reducible rfl|exact True.intro|assumption))|refine Got.mk (fun _ _=>?_)|refine CallS.mk (c:=words_c) (b) ?_|refine CallS.mk (c:=kk_c) (()) ?_)|fail);all_goals try (conv=>whnf)
 refine LoopS.auto (fun t:Nat=>t≤64) (fun t=>[(8,.int .i64 t)]) (fun t=>[(4,.box 220 [.arr32 (rnds s b t)]),(3,.box 240 [.arr32 gv1]),(2,.box 240 [.arr32 (wUp b 64)]),(1,.box 220 [.arr32 (Vector.replicate 8 0#32)]),(0,.box 220 [.arr32 s])]) (fun t=>64 - t) 0 (by omega) ?_ ?_
 · repeat' (first|(with_reducible refine Unf.h ?_)|((conv=>whnf);first|(refine Side.mk ?_ ?_;focus (first|with_reducible rfl|(refine congrArg (SV.int _) ?_;omega)|(simp only [*,rnds_zero];done)))|(with_reducible refine Unf.h ?_)|exact True.intro)|fail);all_goals try (conv=>whnf)
 · intro t ht
   repeat' (first|(with_reducible refine Unf.h ?_)|((conv=>whnf);first|refine Fork.mk (fun h=>?_) (fun h=>?_)|(refine Side.mk ?_ ?_;focus (omega))|(refine Idx.mk ?_ ?_;focus (omega)))|fail);all_goals try (conv=>whnf)
   · refine CallS.mk (c:=turned_c) (((rnds s b t)[4],6)) ?_
     repeat' (first|(with_reducible refine Unf.h ?_)|((conv=>whnf);first|(refine Side.mk ?_ ?_;focus (first|with_reducible rfl|(simp [*];done)|(dsimp only [resS,take_c,turned_c];omega)))|refine Got.mk (fun _ _=>?_))|fail);all_goals try (conv=>whnf)
     refine CallS.mk (c:=turned_c) (((rnds s b t)[4],11)) ?_
     repeat' (first|(with_reducible refine Unf.h ?_)|((conv=>whnf);first|(refine Side.mk ?_ ?_;focus (first|with_reducible rfl|(simp [*];done)|(dsimp only [resS,take_c,turned_c];omega)))|refine Got.mk (fun _ _=>?_))|fail);all_goals try (conv=>whnf)
     refine CallS.mk (c:=turned_c) (((rnds s b t)[4],25)) ?_
     repeat' (first|(with_reducible refine Unf.h ?_)|((conv=>whnf);first|(refine Side.mk ?_ ?_;focus (first|with_reducible rfl|omega|(simp [*];done)|(dsimp only [resS,take_c,turned_c];omega)))|(refine Idx.mk ?_ ?_;focus (omega))|refine Got.mk (fun _ _=>?_))|fail);all_goals try (conv=>whnf)
     refine CallS.mk (c:=turned_c) (((rnds s b t)[0],2)) ?_
     repeat' (first|(with_reducible refine Unf.h ?_)|((conv=>whnf);first|(refine Side.mk ?_ ?_;focus (first|with_reducible rfl|(simp [*];done)|(dsimp only [resS,take_c,turned_c];omega)))|refine Got.mk (fun _ _=>?_))|fail);all_goals try (conv=>whnf)
     refine CallS.mk (c:=turned_c) (((rnds s b t)[0],13)) ?_
     repeat' (first|(with_reducible refine Unf.h ?_)|((conv=>whnf);first|(refine Side.mk ?_ ?_;focus (first|with_reducible rfl|(simp [*];done)|(dsimp only [resS,take_c,turned_c];omega)))|refine Got.mk (fun _ _=>?_))|fail);all_goals try (conv=>whnf)
     refine CallS.mk (c:=turned_c) (((rnds s b t)[0],22)) ?_
     repeat' (first|(with_reducible first|refine Unf.h ?_|refine loopK_n ?_)|((conv=>whnf);first|(refine Side.mk ?_ ?_;focus (first|with_reducible rfl|omega|(intros;(try simp only [lenS,inR,cutS,loI,hiI] at *);omega)|(simp [*];done)|(dsimp only [resS,take_c,turned_c];omega)))|(refine Idx.mk ?_ ?_;focus (omega))|refine Got.mk (fun _ _=>?_))|fail);all_goals try (conv=>whnf)
     refine ⟨t+1,⟨by omega,by omega⟩,?_⟩
     repeat' (first|(with_reducible refine Unf.h ?_)|((conv=>whnf);first|(refine Side.mk ?_ ?_;focus (first|with_reducible rfl|(refine congrArg (SV.int _) ?_;omega)))|(with_reducible refine Unf.h ?_))|fail);all_goals try (conv=>whnf)
     refine Side.mk (congrArg SV.arr32 ((v8 _ _ _ _ _ _ _ _).trans ?_)) (by repeat' (first|(with_reducible refine Unf.h ?_)|((conv=>whnf);first|(refine Side.mk ?_ ?_;focus (with_reducible rfl))|exact True.intro)|fail);all_goals try (conv=>whnf))
     have e1:gv1[((t:Nat):Int).toNat]'(by omega)=kAt t:=by
       have h':t<64:=by omega
       unfold kAt;rw [dif_pos h'];rfl
     have e2:(wUp b 64)[((t:Nat):Int).toNat]'(by omega)=wrd b t:=wUp_get b 64 _ _ _ (by omega) (by omega)
     rw [rnds_succ,e1,e2];generalize rnds s b t=v;exact rnd_doc v _ _
   refine LoopS.auto (fun i:Nat=>i≤8) (fun i=>[(13,.int .i64 i)]) (fun i=>[(4,.box 220 [.arr32 (rnds s b 64)]),(3,.box 240 [.arr32 gv1]),(2,.box 240 [.arr32 (wUp b 64)]),(1,.box 220 [.arr32 (Vector.replicate 8 0#32)]),(0,.box 220 [.arr32 (addUp s (rnds s b 64) i)])]) (fun i=>8 - i) 0 (by omega) ?_ ?_
   · have e:t=64:=by omega
     subst e
     repeat' (first|(with_reducible refine Unf.h ?_)|((conv=>whnf);first|(refine Side.mk ?_ ?_;focus (first|with_reducible rfl|(refine congrArg (SV.int _) ?_;omega)|(simp only [*,addUp_zero];done)))|(with_reducible refine Unf.h ?_)|exact True.intro)|fail);all_goals try (conv=>whnf)
   · intro i hi
     repeat' (first|(with_reducible first|refine Unf.h ?_|refine loopK_n ?_)|((conv=>whnf);first|refine Fork.mk (fun h=>?_) (fun h=>?_)|(refine Side.mk ?_ ?_;focus (first|omega|(intros;(try simp only [lenS,inR,cutS,loI,hiI] at *);omega)))|(refine Idx.mk ?_ ?_;focus (omega))|refine RetE.mk () trivial ?_|refine retK_r ?_)|fail);all_goals try (conv=>whnf)
     · refine ⟨i+1,⟨by omega,by omega⟩,?_⟩
       repeat' (first|(with_reducible refine Unf.h ?_)|((conv=>whnf);first|(refine Side.mk ?_ ?_;focus (first|with_reducible rfl|(refine congrArg (SV.int _) ?_;omega)))|(with_reducible refine Unf.h ?_))|fail);all_goals try (conv=>whnf)
       refine Side.mk (congrArg SV.arr32 (addUp_step s _ i _ _ (by omega) (by omega) (by omega) (by omega))) (by repeat' (first|(with_reducible refine Unf.h ?_)|((conv=>whnf);exact True.intro)|fail);all_goals try (conv=>whnf))
     · have e:i=8:=by omega
       subst e
       repeat' (first|(with_reducible refine Unf.h ?_)|((conv=>whnf);first|(refine Side.mk ?_ ?_;focus ((simp only [*,blk];done)))|exact rfl)|fail);all_goals try (conv=>whnf)
theorem padT_mod (b:List (BitVec 8)):64 ∣ (padT b b.length).length:=by
 simp only [padT,be8,List.length_append,List.length_replicate,List.length_map,List.length_range,List.length_cons,List.length_nil];omega
theorem padT_le (b:List (BitVec 8)):(padT b b.length).length≤b.length+128:=by
 simp only [padT,be8,List.length_append,List.length_replicate,List.length_map,List.length_range,List.length_cons,List.length_nil];omega
theorem sub24:∀ j:Fin 4,(24#32 - 8#32*BitVec.ofInt 32 ((j.1:Nat):Int)).toNat=24 - 8*j.1:=by decide
theorem cutL_nn {α:Type} (l:List α) (a b:Int) (i k:Nat) (ha:a=i) (hb:b=k):cutL l (some a) (some b)=(l.take k).drop i:=by
 subst ha hb;simp [cutL]
def refsum_c:Ctr where
 D:=List (BitVec 8)
 pre:=fun b=>b.length≤1000000000
 args:=fun b=>[.fs 1 eB b]
 res:=fun b _=>.agg [.arr8 (sha b)]
def refsum_H:Cfg:=⟨[(137,start_c),(138,padded_c),(139,take_c)],[(6,[0],[6,7],(oB 0 (oA 1 (oA 2 (oA 3 (oA 4 (oA 5 (oC 6 (oC 7 .nil)))))))),[])],[],[],42,0,[],[],[]⟩
theorem refsum_ok:refsum_c.Ok Tryz.prog 117:=by
 refine fn_ok refsum_H 0 rfl _ Tryz.func117 rfl rfl ⟨start_ok,padded_ok,take_ok,trivial⟩ rfl rfl (by kernel_rfl) (fun _=>nlb rfl) ?_
 intro (b:List (BitVec 8)) hp hr
 try dsimp only [refsum_c] at hp
 try simp only [refsum_c,Rng,RngL,inR,and_true,true_and] at hr
 repeat' (first|(with_reducible refine Unf.h ?_)|((conv=>whnf);first|(refine Side.mk ?_ ?_;focus (first|with_reducible rfl|exact True.intro|assumption))|refine Got.mk (fun _ _=>?_)|refine CallS.mk (c:=start_c) (()) ?_|refine CallS.mk (c:=padded_c) (b) ?_)|fail);all_goals try (conv=>whnf)
 refine LoopS.auto (I:=Vector (BitVec 32) 8×Nat) (fun p=>64*p.2≤(padT b b.length).length∧folded p.1 ((padT b b.length).drop (64*p.2))=folded gv0 (padT b b.length)) (fun p=>[(5,.int .i64 (64*(p.2:Int))),(4,.fs 1 eB (padT b b.length))]) (fun p=>[(1,.box 220 [.arr32 p.1]),(0,.box 35 [.arr8 (Vector.replicate 32 0#8)])]) (fun p=>(padT b b.length).length - 64*p.2) (gv0,0) ⟨by omega,by simp⟩ ?_ ?_
 · repeat' (first|(with_reducible refine Unf.h ?_)|((conv=>whnf);first|(refine Side.mk ?_ ?_;focus (first|with_reducible rfl|(refine congrArg (SV.int _) ?_;omega)))|(with_reducible refine Unf.h ?_)|exact True.intro)|fail);all_goals try (conv=>whnf)
 · intro p hq
   obtain ⟨hi,hf⟩:=hq;have hm:=padT_mod b;have hle:=padT_le b
   repeat' (first|(with_reducible refine Unf.h ?_)|((conv=>whnf);first|refine Fork.mk (fun h=>?_) (fun h=>?_)|(refine Side.mk ?_ ?_;focus ((intros;(try simp only [lenS,inR,cutS,loI,hiI] at *);omega))))|fail);all_goals try (conv=>whnf)
   · have hlt:64*p.2+64≤(padT b b.length).length:=by omega
     have hc:=cutL_nn (padT b b.length) (64*(p.2:Int)) (64*(p.2:Int)+64) (64*p.2) (64*p.2+64) (by omega) (by omega)
     have hcl:(cutL (padT b b.length) (some (64*(p.2:Int))) (some (64*(p.2:Int)+64))).length=64:=by rw [hc];simp;omega
     refine CallS.mk (c:=take_c) ((p.1,cutL (padT b b.length) (some (64*(p.2:Int))) (some (64*(p.2:Int)+64)))) ?_
     repeat' (first|(with_reducible first|refine Unf.h ?_|refine loopK_n ?_)|((conv=>whnf);first|(refine Side.mk ?_ ?_;focus (first|with_reducible rfl|(intros;(try simp only [lenS,inR,cutS,loI,hiI,hcl] at *);omega)|(dsimp only [resS,refsum_c,take_c];omega)))|refine Got.mk (fun _ _=>?_))|fail);all_goals try (conv=>whnf)
     refine ⟨(blk p.1 ((padT b b.length).drop (64*p.2)),p.2+1),⟨by omega,by omega,?_⟩,?_⟩
     · rw [← hf,folded_ge (l:=(padT b b.length).drop (64*p.2)) (by rw [List.length_drop];omega),List.drop_drop]
       congr 2
     · repeat' (first|(with_reducible refine Unf.h ?_)|((conv=>whnf);first|(refine Side.mk ?_ ?_;focus (first|with_reducible rfl|(refine congrArg (SV.int _) ?_;omega)))|(with_reducible refine Unf.h ?_))|fail);all_goals try (conv=>whnf)
       refine Side.mk (congrArg SV.arr32 ?_) (by repeat' (first|(with_reducible refine Unf.h ?_)|((conv=>whnf);first|(refine Side.mk ?_ ?_;focus (with_reducible rfl))|exact True.intro)|fail);all_goals try (conv=>whnf))
       rw [hc,List.drop_take,show 64*p.2+64 - 64*p.2=64 by omega,blk_take _ _ _ (Nat.le_refl _)]
   · have he:64*p.2=(padT b b.length).length:=by omega
     rw [he,List.drop_length,folded_lt (by simp)] at hf
     refine LoopS.auto (fun i:Nat=>i≤32) (fun i=>[(7,.int .i64 i)]) (fun i=>[(3,.box 35 [.arr8 (outV p.1 i)]),(1,.box 220 [.arr32 p.1]),(0,.box 35 [.arr8 (Vector.replicate 32 0#8)])]) (fun i=>32 - i) 0 (by omega) ?_ ?_
     · repeat' (first|(with_reducible refine Unf.h ?_)|((conv=>whnf);first|(refine Side.mk ?_ ?_;focus (first|with_reducible rfl|(refine congrArg (SV.int _) ?_;omega)|(simp only [*,outV_zero];done)))|(with_reducible refine Unf.h ?_)|exact True.intro)|fail);all_goals try (conv=>whnf)
     · intro i hi
       repeat' (first|(with_reducible first|refine Unf.h ?_|refine loopK_n ?_)|((conv=>whnf);first|refine Fork.mk (fun h=>?_) (fun h=>?_)|(refine Side.mk ?_ ?_;focus (first|omega|(intros;(try simp only [lenS,inR,cutS,loI,hiI] at *);omega)))|(refine Idx.mk ?_ ?_;focus (omega))|refine RetE.mk () trivial ?_|refine retK_r ?_)|fail);all_goals try (conv=>whnf)
       · refine ⟨i+1,⟨by omega,by omega⟩,?_⟩
         repeat' (first|(with_reducible refine Unf.h ?_)|((conv=>whnf);first|(refine Side.mk ?_ ?_;focus (first|with_reducible rfl|(refine congrArg (SV.int _) ?_;omega)))|(with_reducible refine Unf.h ?_))|fail);all_goals try (conv=>whnf)
         refine Side.mk (congrArg SV.arr8 (outV_step p.1 i _ (by omega) (by omega) _ ?_)) (by repeat' (first|(with_reducible refine Unf.h ?_)|((conv=>whnf);first|(refine Side.mk ?_ ?_;focus (with_reducible rfl))|exact True.intro)|fail);all_goals try (conv=>whnf))
         have e1:(((i:Nat):Int) / 4).toNat=i / 4:=by omega
         have e2:((i:Nat):Int) % 4=((i % 4:Nat):Int):=by omega
         have e3:=sub24 ⟨i % 4,by omega⟩
         simp only at e3
         simp only [e1,e2,e3]
       · have e:i=32:=by omega
         subst e
         repeat' (first|(with_reducible refine Unf.h ?_)|((conv=>whnf);first|(refine Side.mk ?_ ?_;focus ((simp only [*,sha];done)))|exact rfl)|fail);all_goals try (conv=>whnf)
abbrev Bs:=List (BitVec 8)
def eP (p:Bs):List SV:=[.fs 1 eB p]
def lenB (n:Nat):Bs:=beN 4 (BitVec.ofNat 64 n)
def part (p:Bs):Bs:=lenB p.length++p
def txt (tag:BitVec 8) (l:List Bs):Bs:=tag::l.flatMap part
theorem txt_zero (tag:BitVec 8) (l:List Bs):txt tag (l.take 0)=[tag]:=by simp [txt]
theorem txt_succ (tag:BitVec 8) (l:List Bs) (i:Nat) (h:i<l.length):txt tag (l.take (i+1))=txt tag (l.take i)++lenB l[i].length++l[i]:=by
 unfold txt;rw [List.take_succ_eq_append_getElem h,List.flatMap_append,List.flatMap_singleton,part,List.append_assoc,List.cons_append]
theorem lenB_len (n:Nat):(lenB n).length=4:=beN_len _ _
theorem flat_len (l:List Bs) (h:∀ p∈l,p.length≤1000000):(l.flatMap part).length≤1000004*l.length:=by
 induction l with
 | nil=>simp
 | cons a r ih =>
   have:=h a (by simp)
   have:=ih fun p hp=>h p (by simp [hp])
   rw [List.flatMap_cons,List.length_append,part,List.length_append,lenB_len,List.length_cons];omega
theorem txt_len (tag:BitVec 8) (l:List Bs) (h:∀ p∈l,p.length≤1000000) (i:Nat):(txt tag (l.take i)).length≤1000004*l.length+1:=by
 have:=flat_len (l.take i) fun p hp=>h p (List.mem_of_mem_take hp)
 simp only [txt,List.length_cons]
 have:(l.take i).length≤l.length:=by simp;omega
 omega
theorem lenB_doc (n:Nat) (h:n<4294967296):[((BitVec.ofInt 32 (n:Int)) >>> 24).setWidth 8,((BitVec.ofInt 32 (n:Int)) >>> 16).setWidth 8,((BitVec.ofInt 32 (n:Int)) >>> 8).setWidth 8,(BitVec.ofInt 32 (n:Int)).setWidth 8]=lenB n:=by
 have key:∀ k:Nat,((BitVec.ofNat 32 n) >>> k).setWidth 8=((BitVec.ofNat 64 n) >>> k).setWidth 8:=fun k=>by
   apply BitVec.eq_of_toNat_eq
   simp only [BitVec.toNat_setWidth,BitVec.toNat_ushiftRight,BitVec.toNat_ofNat];rw [Nat.mod_eq_of_lt (show n<2^32 by omega),Nat.mod_eq_of_lt (show n<2^64 by omega)]
 have k0:=key 0;simp only [BitVec.ushiftRight_zero] at k0;simp only [BitVec.ofInt_natCast,lenB,beN,List.range,List.range.loop,List.map,key,k0]
 rfl
def htext_c:Ctr where
 D:=BitVec 8×List Bs
 pre:=fun (_,l)=>l.length≤1000∧∀ p∈l,p.length≤1000000
 args:=fun (t,l)=>[.u8 t,.fs 1 eP l]
 res:=fun _ _=>.own 0
 out:=fun (t,l) _=>[(0,.row 5 1 eB (txt t l))]
 mm:=1
def htext_H:Cfg:=⟨[],[],[],[],58,0,[],[],[]⟩
theorem htext_ok:htext_c.Ok Tryz.prog 64:=by
 refine fn_ok htext_H 0 rfl _ Tryz.func64 rfl rfl trivial rfl rfl (by kernel_rfl) (fun _=>nlb rfl) ?_
 rintro ⟨t,l⟩ hp hr
 try dsimp only [htext_c] at hp
 try simp only [htext_c,Rng,RngL,inR,and_true,true_and] at hr
 obtain ⟨hp1,hp2⟩:=hp
 repeat' (first|(with_reducible refine Unf.h ?_)|fail);all_goals try (conv=>whnf)
 refine LoopS.auto (I:=Nat×Int) (fun p=>p.1≤l.length∧0≤p.2∧p.2≤1000004*p.1+1) (fun p=>[(14,.int .i64 p.1),(5,.int .i64 p.2)]) (fun p=>[]) (fun p=>l.length - p.1) (0,1) (by omega) ?_ ?_
 · repeat' (first|(with_reducible refine Unf.h ?_)|((conv=>whnf);first|(refine Side.mk ?_ ?_;focus (first|with_reducible rfl|(refine congrArg (SV.int _) ?_;omega)))|(with_reducible refine Unf.h ?_)|exact True.intro)|fail);all_goals try (conv=>whnf)
 · intro p hq
   repeat' (first|(with_reducible refine Unf.h ?_)|((conv=>whnf);first|refine Fork.mk (fun h=>?_) (fun h=>?_)|(refine Side.mk ?_ ?_;focus (first|(dsimp only;omega)|(intros;(try simp only [lenS,inR,cutS,loI,hiI] at *);omega)))|(refine Idx.mk ?_ ?_;focus (omega)))|fail);all_goals try (conv=>whnf)
   · have hb:=hp2 _ (List.getElem_mem (show p.1<l.length by omega))
     have hb':(l[((p.1:Nat):Int).toNat]'(by omega)).length≤1000000:=hb
     repeat' (first|(with_reducible first|refine Unf.h ?_|refine loopK_n ?_)|((conv=>whnf);(refine Side.mk ?_ ?_;focus ((intros;(try simp only [lenS,inR,cutS,loI,hiI,eP] at *);omega))))|fail);all_goals try (conv=>whnf)
     refine ⟨(p.1+1,p.2+(4+((l[((p.1:Nat):Int).toNat]'(by omega)).length:Int))),⟨by omega,by omega,by omega,by omega⟩,?_⟩
     repeat' (first|(with_reducible refine Unf.h ?_)|((conv=>whnf);first|(refine Side.mk ?_ ?_;focus (first|with_reducible rfl|(refine congrArg (SV.int _) ?_;omega)))|(with_reducible refine Unf.h ?_)|exact True.intro)|fail);all_goals try (conv=>whnf)
   · refine LoopS.auto (fun i:Nat=>i≤l.length) (fun i=>[(32,.int .i64 i),(8,.own 0)]) (fun i=>[(0,.row 5 1 eB (txt t (l.take i)))]) (fun i=>l.length - i) 0 (by omega) ?_ ?_
     · repeat' (first|(with_reducible refine Unf.h ?_)|((conv=>whnf);first|(refine Side.mk ?_ ?_;focus (first|with_reducible rfl|(refine congrArg (SV.int _) ?_;omega)|(simp only [*,txt_zero,List.map_cons,List.map_nil,eB];done)))|(with_reducible refine Unf.h ?_)|exact True.intro)|fail);all_goals try (conv=>whnf)
     · intro i hi
       have htl:=txt_len t l hp2 i
       repeat' (first|(with_reducible refine Unf.h ?_)|((conv=>whnf);first|refine Fork.mk (fun h=>?_) (fun h=>?_)|(refine Side.mk ?_ ?_;focus ((intros;(try simp only [lenS,inR,cutS,loI,hiI] at *);omega)))|(refine Idx.mk ?_ ?_;focus (omega))|refine RetE.mk () trivial ?_|refine Ex.mk _ rfl ?_|refine Ex.mk [_,_,_,_] rfl ?_|refine retK_r ?_)|fail);all_goals try (conv=>whnf)
       · have hb:=hp2 _ (List.getElem_mem (show i<l.length by omega))
         have hb':(l[((i:Nat):Int).toNat]'(by omega)).length≤1000000:=hb
         repeat' (first|(with_reducible first|refine Unf.h ?_|refine loopK_n ?_)|((conv=>whnf);(refine Side.mk ?_ ?_;focus ((intros;(try simp only [lenS,inR,cutS,loI,hiI,eP] at *);omega))))|fail);all_goals try (conv=>whnf)
         refine ⟨i+1,⟨by omega,by omega⟩,?_⟩
         repeat' (first|(with_reducible refine Unf.h ?_)|((conv=>whnf);first|(refine Side.mk ?_ ?_;focus (first|with_reducible rfl|(refine congrArg (SV.int _) ?_;omega)))|(with_reducible refine Unf.h ?_))|fail);all_goals try (conv=>whnf)
         refine Side.mk (congrArg (SO.row _ _ _) ?_) (by repeat' (first|(with_reducible refine Unf.h ?_)|((conv=>whnf);exact True.intro)|fail);all_goals try (conv=>whnf))
         rw [txt_succ t l i (by omega),← lenB_doc _ (by omega)]
         rfl
       · have e:i=l.length:=by omega
         subst e
         repeat' (first|(with_reducible refine Unf.h ?_)|((conv=>whnf);first|(refine Side.mk ?_ ?_;focus ((simp only [*,List.take_length];done)))|exact rfl)|fail);all_goals try (conv=>whnf)
def rtext_c:Ctr where
 D:=BitVec 8×List Bs
 pre:=fun (_,l)=>l.length≤1000∧∀ p∈l,p.length≤1000000
 args:=fun (t,l)=>[.u8 t,.fs 1 eP l]
 res:=fun _ _=>.own 0
 out:=fun (t,l) _=>[(0,.row 5 1 eB (txt t l))]
 mm:=1
def rtext_H:Cfg:=⟨[(29,number_c)],[],[],[],31,0,[],[],[]⟩
theorem rtext_ok:rtext_c.Ok Tryz.prog 136:=by
 refine fn_ok rtext_H 0 rfl _ Tryz.func136 rfl rfl ⟨number_ok,trivial⟩ rfl rfl (by kernel_rfl) (fun _=>nlb rfl) ?_
 rintro ⟨t,l⟩ hp hr
 try dsimp only [rtext_c] at hp
 try simp only [rtext_c,Rng,RngL,inR,and_true,true_and] at hr
 obtain ⟨hp1,hp2⟩:=hp
 repeat' (first|(with_reducible refine Unf.h ?_)|fail);all_goals try (conv=>whnf)
 refine LoopS.auto (fun i:Nat=>i≤l.length) (fun i=>[(6,.int .i64 i),(5,.own 0)]) (fun i=>[(0,.row 5 1 eB (txt t (l.take i)))]) (fun i=>l.length - i) 0 (by omega) ?_ ?_
 · repeat' (first|(with_reducible refine Unf.h ?_)|((conv=>whnf);first|(refine Side.mk ?_ ?_;focus (first|with_reducible rfl|(refine congrArg (SV.int _) ?_;omega)|(simp only [*,txt_zero,List.map_cons,List.map_nil,eB];done)))|(with_reducible refine Unf.h ?_)|exact True.intro)|fail);all_goals try (conv=>whnf)
 · intro i hi
   have htl:=txt_len t l hp2 i
   repeat' (first|(with_reducible refine Unf.h ?_)|((conv=>whnf);first|refine Fork.mk (fun h=>?_) (fun h=>?_)|(refine Idx.mk ?_ ?_;focus (omega))|refine RetE.mk () trivial ?_|refine retK_r ?_)|fail);all_goals try (conv=>whnf)
   · have hb:=hp2 _ (List.getElem_mem (show i<l.length by omega))
     have hb':(l[((i:Nat):Int).toNat]'(by omega)).length≤1000000:=hb
     all_goals try (conv=>whnf)
     refine CallS.mk (c:=number_c) ((BitVec.ofNat 64 (l[i]'(by omega)).length,4)) ?_
     repeat' (first|(with_reducible first|refine Unf.h ?_|refine loopK_n ?_)|((conv=>whnf);first|(refine Side.mk ?_ ?_;focus (first|(refine congrArg (SV.int _) ?_;omega)|(intros;(try simp only [lenS,inR,cutS,loI,hiI,eP,BitVec.ofInt_natCast,beN_len] at *);omega)|(simp [*,eP,BitVec.ofInt_natCast,beN_len];done)|(dsimp only [resS,rtext_c,number_c];omega)))|(refine Idx.mk ?_ ?_;focus (omega))|refine Got.mk (fun _ _=>?_)|refine Ex.mk _ rfl ?_)|fail);all_goals try (conv=>whnf)
     refine ⟨i+1,⟨by omega,by omega⟩,?_⟩
     repeat' (first|(with_reducible refine Unf.h ?_)|((conv=>whnf);first|(refine Side.mk ?_ ?_;focus (first|with_reducible rfl|(refine congrArg (SV.int _) ?_;omega)))|(with_reducible refine Unf.h ?_))|fail);all_goals try (conv=>whnf)
     refine Side.mk (congrArg (SO.row _ _ _) ?_) (by repeat' (first|(with_reducible refine Unf.h ?_)|((conv=>whnf);exact True.intro)|fail);all_goals try (conv=>whnf))
     rw [txt_succ t l i (by omega)]
     rfl
   · have e:i=l.length:=by omega
     subst e
     repeat' (first|(with_reducible refine Unf.h ?_)|((conv=>whnf);first|(refine Side.mk ?_ ?_;focus ((simp only [*,List.take_length];done)))|exact rfl)|fail);all_goals try (conv=>whnf)
theorem txt_small (t:BitVec 8) (l:List Bs) (h1:l.length≤900) (h2:∀ p∈l,p.length≤1000000):(txt t l).length≤1000000000:=by
 have:=txt_len t l h2 l.length
 rw [List.take_length] at this;omega
def htagged_c:Ctr where
 D:=BitVec 8×List Bs
 pre:=fun (_,l)=>l.length≤900∧∀ p∈l,p.length≤1000000
 args:=fun (t,l)=>[.u8 t,.fs 1 eP l]
 res:=fun (t,l) _=>.agg [.arr8 (sha (txt t l))]
def htagged_H:Cfg:=⟨[(64,htext_c),(63,sum_c)],[],[],[],9,0,[],[],[]⟩
theorem htagged_ok:htagged_c.Ok Tryz.prog 34:=by
 refine fn_ok htagged_H 0 rfl _ Tryz.func34 rfl rfl ⟨htext_ok,sum_ok,trivial⟩ rfl rfl (by kernel_rfl) (fun _=>nlb rfl) ?_
 rintro ⟨t,l⟩ hp hr
 try dsimp only [htagged_c] at hp
 try simp only [htagged_c,Rng,RngL,inR,and_true,true_and] at hr
 obtain ⟨hp1,hp2⟩:=hp
 repeat' (first|(with_reducible refine Unf.h ?_)|((conv=>whnf);first|(refine Side.mk ?_ ?_;focus (first|with_reducible rfl|exact True.intro|(dsimp only [resS,htagged_c,htext_c,sum_c];(refine ⟨?_,?_⟩;all_goals (repeat' apply And.intro);all_goals first|omega|assumption|(simp only [lenS,inR,cutS,loI,hiI];omega)|(simp;done)|(simp only [*];done)|(simp only [*,List.map_cons,List.map_nil,eB];done)|(simp [*];done)))))|refine RetE.mk () trivial ?_|refine Got.mk (fun _ _=>?_)|refine retK_r ?_|exact rfl|refine CallS.mk (c:=htext_c) ((t,l)) ?_|refine CallS.mk (c:=sum_c) (txt t l) ?_)|fail);all_goals try (conv=>whnf)
def rtagged_c:Ctr where
 D:=BitVec 8×List Bs
 pre:=fun (_,l)=>l.length≤900∧∀ p∈l,p.length≤1000000
 args:=fun (t,l)=>[.u8 t,.fs 1 eP l]
 res:=fun (t,l) _=>.agg [.arr8 (sha (txt t l))]
def rtagged_H:Cfg:=⟨[(136,rtext_c),(117,refsum_c)],[],[],[],9,0,[],[],[]⟩
theorem rtagged_ok:rtagged_c.Ok Tryz.prog 115:=by
 refine fn_ok rtagged_H 0 rfl _ Tryz.func115 rfl rfl ⟨rtext_ok,refsum_ok,trivial⟩ rfl rfl (by kernel_rfl) (fun _=>nlb rfl) ?_
 rintro ⟨t,l⟩ hp hr
 try dsimp only [rtagged_c] at hp
 try simp only [rtagged_c,Rng,RngL,inR,and_true,true_and] at hr
 obtain ⟨hp1,hp2⟩:=hp
 repeat' (first|(with_reducible refine Unf.h ?_)|((conv=>whnf);first|(refine Side.mk ?_ ?_;focus (first|with_reducible rfl|(dsimp only [resS,rtagged_c,rtext_c,refsum_c];(refine ⟨?_,?_⟩;all_goals (repeat' apply And.intro);all_goals first|omega|assumption|(simp only [lenS,inR,cutS,loI,hiI];omega)|(simp;done)|(simp only [*];done)|(simp only [*,List.map_cons,List.map_nil,eB];done)|(simp [*];done)))))|refine Got.mk (fun _ _=>?_)|refine CallS.mk (c:=rtext_c) ((t,l)) ?_|refine CallS.mk (c:=refsum_c) (txt t l) ?_)|fail);all_goals try (conv=>whnf)
 refine Side.mk (txt_small _ _ hp1 hp2) ?_
 repeat' (first|(with_reducible refine Unf.h ?_)|((conv=>whnf);first|(refine Side.mk ?_ ?_;focus (with_reducible rfl))|refine RetE.mk () trivial ?_|refine Got.mk (fun _ _=>?_)|refine retK_r ?_|exact rfl)|fail);all_goals try (conv=>whnf)
def emptyH:H256:=sha (txt 101#8 [])
def hempty_c:Ctr where
 D:=Unit
 args:=fun _=>[]
 res:=fun _ _=>.agg [.arr8 emptyH]
def hempty_H:Cfg:=⟨[(34,htagged_c)],[],[],[],2,0,[],[],[]⟩
theorem hempty_ok:hempty_c.Ok Tryz.prog 163:=by
 refine fn_ok hempty_H 0 rfl _ Tryz.func163 rfl rfl ⟨htagged_ok,trivial⟩ rfl rfl (by kernel_rfl) (fun _=>nlb rfl) ?_
 intro (_:Unit) hp hr
 repeat' (first|(with_reducible refine Unf.h ?_)|((conv=>whnf);first|(refine Side.mk ?_ ?_;focus (first|with_reducible rfl|(simp only [*,emptyH];done)|(dsimp only [resS,rtagged_c,htagged_c];(refine ⟨?_,?_⟩;all_goals (repeat' apply And.intro);all_goals first|omega|assumption|(simp only [lenS,inR,cutS,loI,hiI,emptyH];omega)|(simp;done)|(simp only [*,emptyH];done)|(simp only [*,emptyH,List.map_cons,List.map_nil,eB];done)|(simp [*,emptyH];done)))))|refine RetE.mk () trivial ?_|refine Got.mk (fun _ _=>?_)|refine retK_r ?_|exact rfl|refine CallS.mk (c:=htagged_c) ((101#8,[])) ?_)|fail);all_goals try (conv=>whnf)
structure Nd where
 leaf:Bool
 key:H256
 value:H256
 plen:Int
 bits:H256
 left:Int
 right:Int
 hash:H256
def eNd (n:Nd):List SV:=[.bool n.leaf,.arr8 n.key,.arr8 n.value,.int .i64 n.plen,.arr8 n.bits,.int .i64 n.left,.int .i64 n.right,.arr8 n.hash]
def leafT (k v:H256):Bs:=txt 108#8 [k.toList,v.toList]
def innerT (len:Int) (bits l r:H256):Bs:=txt 110#8 [[BitVec.ofInt 8 (len / 2^8),BitVec.ofInt 8 len],bits.toList,l.toList,r.toList]
def ndT (n:Nd) (l r:H256):Bs:=if n.leaf then leafT n.key n.value else innerT n.plen n.bits l r
theorem cutv2 {α:Type} {n:Nat} (v:Vector α n):List.drop (loI none).toNat (List.take (hiI (↑n) none).toNat v.toList)=v.toList:=cut_all v
def ttext_c:Ctr where
 D:=Nd×H256×H256
 args:=fun (n,l,r)=>[.agg (eNd n),.agg [.arr8 l],.agg [.arr8 r]]
 res:=fun _ _=>.own 0
 out:=fun (n,l,r) _=>[(0,.row 5 1 eB (ndT n l r))]
 mm:=1
def ttext_H:Cfg:=⟨[(64,htext_c)],[(2,[],[4,5],(oA 0 (oA 1 (oA 2 (oA 3 (oC 4 (oC 5 (oA 6 .nil))))))),[]),(4,[],[6,7],(oA 0 (oA 1 (oA 2 (oA 3 (oA 4 (oA 5 (oC 6 (oC 7 (oA 8 .nil))))))))),[])],[],[],34,0,[],[],[]⟩
theorem ttext_ok:ttext_c.Ok Tryz.prog 167:=by
 refine fn_ok ttext_H 0 rfl _ Tryz.func167 rfl rfl ⟨htext_ok,trivial⟩ rfl rfl (by kernel_rfl) (fun _=>nlb rfl) ?_
 rintro ⟨n,l,r⟩ hp hr
 try dsimp only [ttext_c] at hp
 try simp only [ttext_c,Rng,RngL,inR,and_true,true_and] at hr
 obtain ⟨leaf,key,value,plen,bits,left,right,hash⟩:=n
 cases leaf
 · repeat' (first|(with_reducible refine Unf.h ?_)|((conv=>whnf);first|(refine Side.mk ?_ ?_;focus (first|exact True.intro|(intros;(try simp only [lenS,inR,cutS,loI,hiI,cutv2] at *);omega)|exact nnS (by decide)))|refine Ex.mk [_,_] rfl ?_)|fail);all_goals try (conv=>whnf)
   refine CallS.mk (c:=htext_c) ((110#8,[[BitVec.ofInt 8 (plen / 2^8),BitVec.ofInt 8 plen],bits.toList,l.toList,r.toList])) ?_
   repeat' (first|(with_reducible refine Unf.h ?_)|((conv=>whnf);(refine Side.mk ?_ ?_;focus (with_reducible rfl)))|fail);all_goals try (conv=>whnf)
   refine Side.mk (by simp only [cutv2];rfl) ?_
   repeat' (first|(with_reducible refine Unf.h ?_)|((conv=>whnf);first|(refine Side.mk ?_ ?_;focus ((dsimp only [resS,ttext_c,htext_c];(refine ⟨?_,?_⟩;all_goals (repeat' apply And.intro);all_goals first|omega|assumption|(simp only [lenS,inR,cutS,loI,hiI];omega)|(simp;done)|(simp only [*];done)|(simp only [*,List.map_cons,List.map_nil,eB];done)|(simp [*];done)))))|refine RetE.mk () trivial ?_|refine Got.mk (fun _ _=>?_)|(with_reducible refine Unf.h ?_)|refine retK_r ?_)|fail);all_goals try (conv=>whnf)
   exact Side.mk rfl (by repeat' (first|(with_reducible refine Unf.h ?_)|((conv=>whnf);exact rfl)|fail);all_goals try (conv=>whnf))
 · repeat' (first|(with_reducible refine Unf.h ?_)|((conv=>whnf);(refine Side.mk ?_ ?_;focus (first|exact True.intro|(intros;(try simp only [lenS,inR,cutS,loI,hiI,cutv2] at *);omega))))|fail);all_goals try (conv=>whnf)
   refine CallS.mk (c:=htext_c) ((108#8,[key.toList,value.toList])) ?_
   repeat' (first|(with_reducible refine Unf.h ?_)|((conv=>whnf);(refine Side.mk ?_ ?_;focus (with_reducible rfl)))|fail);all_goals try (conv=>whnf)
   refine Side.mk (by simp only [cutv2];rfl) ?_
   repeat' (first|(with_reducible refine Unf.h ?_)|((conv=>whnf);first|(refine Side.mk ?_ ?_;focus ((dsimp only [resS,ttext_c,htext_c];(refine ⟨?_,?_⟩;all_goals (repeat' apply And.intro);all_goals first|omega|assumption|(simp only [lenS,inR,cutS,loI,hiI];omega)|(simp;done)|(simp only [*];done)|(simp only [*,List.map_cons,List.map_nil,eB];done)|(simp [*];done)))))|refine RetE.mk () trivial ?_|refine Got.mk (fun _ _=>?_)|(with_reducible refine Unf.h ?_)|refine retK_r ?_)|fail);all_goals try (conv=>whnf)
   exact Side.mk rfl (by repeat' (first|(with_reducible refine Unf.h ?_)|((conv=>whnf);exact rfl)|fail);all_goals try (conv=>whnf))
def same_c:Ctr where
 D:=Bs×Bs
 args:=fun (a,b)=>[.fs 1 eB a,.fs 1 eB b]
 res:=fun (a,b) _=>.dec (a=b) inferInstance
def same_H:Cfg:=⟨[],[(6,[3,7],[],(oA 0 (oA 1 (oA 2 (oB 3 (oA 4 (oA 5 (oA 6 (oB 7 (oA 8 .nil))))))))),[])],[],[],26,0,[],[],[]⟩
theorem same_ok:same_c.Ok Tryz.prog 26:=by
 refine fn_ok same_H 0 rfl _ Tryz.func26 rfl rfl trivial rfl rfl (by kernel_rfl) (fun _=>nlb rfl) ?_
 rintro ⟨a,b⟩ hp hr
 try dsimp only [same_c] at hp
 try simp only [same_c,Rng,RngL,inR,and_true,true_and] at hr
 repeat' (first|(with_reducible refine Unf.h ?_)|((conv=>whnf);first|refine Fork.mkn (fun h=>?_) (fun h=>?_)|refine RetE.mk () trivial ?_|refine retK_r ?_)|fail);all_goals try (conv=>whnf)
 · exact Side.mk ⟨fun h=>(by cases h),fun e=>absurd (congrArg (fun l=>((List.length l:Nat):Int)) e) h⟩ (by repeat' (first|(with_reducible refine Unf.h ?_)|((conv=>whnf);exact rfl)|fail);all_goals try (conv=>whnf))
 have hl:a.length=b.length:=by omega
 refine LoopS.mk (fun i:Nat=>i≤a.length∧a.take i=b.take i) (fun i=>[(0,.fs 1 eB a),(1,.fs 1 eB b),(5,.int .i64 i)]) (fun _=>[]) 0 (fun i=>a.length - i) 0 ⟨Nat.zero_le _,rfl⟩ ?_ ?_
 · repeat' (first|(with_reducible refine Unf.h ?_)|((conv=>whnf);first|(refine Side.mk ?_ ?_;focus (first|with_reducible rfl|(refine congrArg (SV.int _) ?_;omega)))|(with_reducible refine Unf.h ?_)|exact True.intro)|fail);all_goals try (conv=>whnf)
 · rintro i ⟨hi,he⟩
   repeat' (first|(with_reducible first|refine Unf.h ?_|refine loopK_n ?_)|((conv=>whnf);first|refine Fork.mkn (fun h=>?_) (fun h=>?_)|refine Fork.mk (fun h=>?_) (fun h=>?_)|(refine Side.mk ?_ ?_;focus ((intros;(try simp only [lenS,inR,cutS,loI,hiI] at *);omega)))|(refine Idx.mk ?_ ?_;focus (omega))|refine RetE.mk () trivial ?_|refine retK_r ?_)|fail);all_goals try (conv=>whnf)
   · exact Side.mk ⟨fun h=>(by cases h),fun e=>absurd (by subst e;rfl) h⟩ (by repeat' (first|(with_reducible refine Unf.h ?_)|((conv=>whnf);exact rfl)|fail);all_goals try (conv=>whnf))
   · refine ⟨i+1,⟨by omega,by omega,?_⟩,by repeat' (first|(with_reducible refine Unf.h ?_)|((conv=>whnf);first|(refine Side.mk ?_ ?_;focus (first|with_reducible rfl|(refine congrArg (SV.int _) ?_;omega)))|(with_reducible refine Unf.h ?_)|exact True.intro)|fail);all_goals try (conv=>whnf)⟩
     have h1:i<a.length:=by omega
     have h2:i<b.length:=by omega
     have h3:a[i]=b[i]:=by simpa using h
     rw [List.take_succ_eq_append_getElem h1,List.take_succ_eq_append_getElem h2,he,h3]
   · refine Side.mk ⟨fun _=>?_,fun _=>rfl⟩ (by repeat' (first|(with_reducible refine Unf.h ?_)|((conv=>whnf);exact rfl)|fail);all_goals try (conv=>whnf))
     have:i=a.length:=by omega
     rw [this,List.take_length,hl,List.take_length] at he;exact he
def kb (k:H256) (i:Nat):Bool:=if h:i<256 then (k[i / 8]'(by omega)).getLsbD (7 - i % 8) else false
theorem kb_out {k:H256} {i:Nat} (h:256≤i):kb k i=false:=by unfold kb;rw [dif_neg (by omega)]
theorem kb_byte (k:H256) (j n:Nat) (hj:j<32) (hn:n<8):kb k (8*j+(7 - n))=k[j].getLsbD n:=by
 unfold kb;rw [dif_pos (by omega)]
 simp only [show (8*j+(7 - n)) / 8=j by omega,show 7 - (8*j+(7 - n)) % 8=n by omega]
@[irreducible] def setB (k:H256) (i:Nat):H256:=if h:i<256 then k.set (i / 8) (k[i / 8]'(by omega) ||| 128#8 >>> (i % 8)) (by omega) else k
@[irreducible] def cutB (k:H256) (n:Nat):H256:=Vector.ofFn fun j=>k[j] &&& ~~~ (255#8 >>> min (n - 8*j.1) 8)
abbrev zeroH:H256:=Vector.replicate 32 0#8
def shF (a b:H256):Nat→Nat→Nat
 | 0,i=>i
 | f+1,i=>if kb a i=kb b i then shF a b f (i+1) else i
def shared (a b:H256):Nat:=shF a b 256 0
theorem shF_spec (a b:H256):∀ (f i:Nat),i≤shF a b f i∧shF a b f i≤i+f∧(∀ j,i≤j→j<shF a b f i→kb a j=kb b j)∧(shF a b f i<i+f→kb a (shF a b f i)≠kb b (shF a b f i))
 | 0,i=>⟨Nat.le_refl _,Nat.le_refl _,fun j h1 h2=>by simp only [shF] at h2;omega,fun h=>by simp only [shF] at h;omega⟩
 | f+1,i=>by
   unfold shF
   split
   · rename_i h
     obtain ⟨h1,h2,h3,h4⟩:=shF_spec a b f (i+1);refine ⟨by omega,by omega,fun j hj hk=>?_,fun hl=>h4 (by omega)⟩
     rcases Nat.eq_or_lt_of_le hj with e|e
     · rw [← e];exact h
     · exact h3 j e hk
   · rename_i h;exact ⟨Nat.le_refl _,by omega,fun j h1 h2=>by omega,fun _=>h⟩
theorem shared_le (a b:H256):shared a b≤256:=by have:=(shF_spec a b 256 0).2.1;unfold shared;omega
theorem shared_eq {a b:H256} {i:Nat} (h:i<shared a b):kb a i=kb b i:=(shF_spec a b 256 0).2.2.1 i (Nat.zero_le _) h
theorem shared_ne {a b:H256} (h:shared a b<256):kb a (shared a b)≠kb b (shared a b):=(shF_spec a b 256 0).2.2.2 (by unfold shared at h;omega)
theorem shared_uniq {a b:H256} {n:Nat} (h1:n≤256) (h2:∀ i,i<n→kb a i=kb b i) (h3:n<256→kb a n≠kb b n):shared a b=n:=by
 have l:=shared_le a b;rcases Nat.lt_trichotomy (shared a b) n with h|h|h
 · exact absurd (h2 _ h) (shared_ne (by omega))
 · exact h
 · exact absurd (shared_eq h) (h3 (by omega))
structure Pfx where
 len:Int
 bits:H256
deriving DecidableEq
def ePfx (p:Pfx):List SV:=[.int .i64 p.len,.arr8 p.bits]
abbrev zeroP:Pfx:=⟨0,zeroH⟩
def cutP (k:H256) (n:Int):Pfx:=⟨min (max n 0) 256,cutB k (min (max n 0) 256).toNat⟩
def formedP (p:Pfx):Prop:=0≤p.len∧p.len≤256∧cutB p.bits p.len.toNat=p.bits
instance (p:Pfx):Decidable (formedP p):=inferInstanceAs (Decidable (_∧_∧_))
def holdsP (p:Pfx) (k:H256):Prop:=formedP p∧cutB k p.len.toNat=p.bits
instance (p:Pfx) (k:H256):Decidable (holdsP p k):=inferInstanceAs (Decidable (_∧_))
def withinP (p q:Pfx):Prop:=formedP q∧p.len≤q.len∧holdsP p q.bits
instance (p q:Pfx):Decidable (withinP p q):=inferInstanceAs (Decidable (_∧_∧_))
def bitI (k:H256) (i:Int):Int:=if 0≤i∧kb k i.toNat=true then 1 else 0
def childOk (p:Pfx) (b:Int):Prop:=formedP p∧p.len<256∧0≤b∧b≤1
instance (p:Pfx) (b:Int):Decidable (childOk p b):=inferInstanceAs (Decidable (_∧_∧_∧_))
def childP (p:Pfx) (b:Int):Pfx:=if childOk p b then ⟨p.len+1,if b=1 then setB p.bits p.len.toNat else p.bits⟩ else zeroP
def meetP (p q:Pfx):Pfx:=if formedP p∧formedP q then cutP p.bits (min (min (shared p.bits q.bits:Int) p.len) q.len) else zeroP
end Go.Proofs.YtfljmihdeimahaaGreatDoor
