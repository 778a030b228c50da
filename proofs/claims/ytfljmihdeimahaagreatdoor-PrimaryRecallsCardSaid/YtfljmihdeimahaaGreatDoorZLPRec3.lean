import Derived.Test.YtfljmihdeimahaaGreatDoorZLPRec2
import Derived.Laws.CopyRow
import Derived.Laws.BytesArg
import Derived.Lib.ConvBytes
import Derived.Maps.Keyed
import Derived.RangeFuncBox
import Derived.RangeFuncFrom
import Derived.RangeFuncCalls
import Derived.TacticsIn
import Derived.Deep.LoopGhost
namespace Go.Proofs.YtfljmihdeimahaaGreatDoor
set_option linter.all false
open Go.RowKit
structure Ctr where
 D:Type
 pre:D→Prop:=fun _=>True
 args:D→List SV
 objs:D→List Ob:=fun _=>[]
 nn:Nat:=0
 E:Type:=Unit
 post:D→E→Prop:=fun _ _=>True
 res:D→E→SV
 out:D→E→List Ob:=fun _ _=>[]
 mm:Nat:=0
 kp:Bool:=false
abbrev Av (A0:Own) (σ:Sg) (objs:List Ob):Own:=fun b=>A0 b∨owns σ objs b
def Ctr.Ok (P:Program) [TabC P] (f:Nat) (c:Ctr):Prop:=∀ d,c.pre d→∀ (A0:Own) (w:World) (σ:Sg) (vs:List Value),(∀ b,A0 b→b<w.heap.size)→Obs σ A0 (c.objs d) w→hvs w (Av A0 σ (c.objs d)) σ (c.args d) vs→(∀ k,c.nn≤k→σ k=none)→Glob P w (Av A0 σ (c.objs d)) →
 Calls P f vs.toArray w fun e w'=>∃ (e':c.E) (v:Value) (σ':Sg),e=.returned v∧c.post d e'∧(∀ k,k<c.nn→∀ v,σ' k=some v→σ k=some v)∧(∀ k,c.nn+c.mm≤k→σ' k=none)∧(c.res d e').hv w' (Av A0 σ' (c.out d e')) σ' v∧Mod (fun b=>c.kp=false∧owns σ (c.objs d) b) w w'∧Obs σ' A0 (c.out d e') w' ∧
   (∀ b,owns σ' (c.out d e') b→owns σ (c.objs d) b∨w.heap.size≤b)
def ren1 (f:Nat→Nat):SV→SV
 | .ptr o off=>.ptr (f o) off
 | .own o=>.own (f o)
 | .rptr o q z off=>.rptr (f o) q z off
 | .cptr o off q=>.cptr (f o) off q
 | .bsl o off lo hi=>.bsl (f o) off lo hi
 | s=>s
def renL (f:Nat→Nat):List SV→List SV
 | []=>[]
 | s::r=>ren1 f s::renL f r
def renA (f:Nat→Nat):SV→SV
 | .agg ps=>.agg (renL f ps)
 | s=>ren1 f s
def renAs (f:Nat→Nat):List SV→List SV
 | []=>[]
 | s::r=>renA f s::renAs f r
def renV (f:Nat→Nat):SV→SV
 | .tup vs=>.tup (renAs f vs)
 | s=>renA f s
def renO (f:Nat→Nat):SO→SO
 | .box T ps=>.box T (renL f ps)
 | so=>so
def renOs (f:Nat→Nat):List Ob→List Ob
 | []=>[]
 | (j,so)::r=>(f j,renO f so)::renOs f r
section
variable {P:Program} [TabC P] {S:Sig} {σ σ':Sg} {env:Env} {objs:List Ob} {nx:Nat} {a:Act} {w:World} {A:Own} {f:Nat→Nat} {o:Oper}
theorem ren1_hc (hf:∀ j v,σ j=some v→σ' (f j)=some v) {s:SV} {cs:List Value} (h:s.hc w A σ cs):(ren1 f s).hc w A σ' cs:=by
 cases s<;>simp only [ren1,SV.hc] at h ⊢<;>first|exact h|skip
 · obtain ⟨b,c,h1,h2⟩:=h;exact ⟨b,c,hf _ _ h1,h2⟩
 · obtain ⟨v,h1,h2⟩:=h;exact ⟨v,hf _ _ h1,h2⟩
 · obtain ⟨g,l,c,h1,h2⟩:=h;exact ⟨g,l,c,hf _ _ h1,h2⟩
 · obtain ⟨b,c,h1,h2⟩:=h;exact ⟨b,c,hf _ _ h1,h2⟩
 · obtain ⟨b,c,p,k,h1,h2⟩:=h;exact ⟨b,c,p,k,hf _ _ h1,h2⟩
theorem renL_hL (hf:∀ j v,σ j=some v→σ' (f j)=some v):∀ {l:List SV} {cs:List Value},hL w A l σ cs→hL w A (renL f l) σ' cs
 | [],cs,h=>h
 | s::r,cs,h=>by
   simp only [hL,renL] at h ⊢;obtain ⟨a,b,h1,h2,h3⟩:=h;exact ⟨a,b,h1,ren1_hc hf h2,renL_hL hf h3⟩
theorem renA_h1 (hf:∀ j v,σ j=some v→σ' (f j)=some v) {s:SV} {v:Value} (h:s.h1 w A σ v):(renA f s).h1 w A σ' v:=by
 cases s<;>first
   | (obtain ⟨cs,h1,h2⟩:=h;exact ⟨cs,h1,renL_hL hf h2⟩)
   | trivial
   | exact ren1_hc (σ:=σ) (σ':=σ') hf (s:=_) h
   | skip
 all_goals (simp only [SV.h1,renA,ren1] at h ⊢;exact ren1_hc hf h)
theorem renAs_hvs (hf:∀ j v,σ j=some v→σ' (f j)=some v):∀ {l:List SV} {vs:List Value},hvs w A σ l vs→hvs w A σ' (renAs f l) vs
 | [],vs,h=>h
 | s::r,vs,⟨v,m,h1,h2,h3⟩=>⟨v,m,h1,renA_h1 hf h2,renAs_hvs hf h3⟩
theorem renV_hv (hf:∀ j v,σ j=some v→σ' (f j)=some v) {s:SV} {v:Value} (h:s.hv w A σ v):(renV f s).hv w A σ' v:=by
 cases s with
 | tup vs=>obtain ⟨l,h1,h2⟩:=h;exact ⟨l,h1,renAs_hvs hf h2⟩
 | agg ps=>exact renA_h1 (s:=.agg ps) hf h
 | _=>(simp only [SV.hv] at h;have:=renA_h1 hf h;simpa only [SV.hv,renV,renA,ren1] using this)
theorem renO_holds (hf:∀ j v,σ j=some v→σ' (f j)=some v) {so:SO} {j:Nat} (h:so.holds w A σ j):(renO f so).holds w A σ' (f j):=by
 cases so with
 | box T ps=>obtain ⟨b,cs,h1,h2,h3⟩:=h;exact ⟨b,cs,hf _ _ h1,h2,renL_hL hf h3⟩
 | row e z enc xs=>exact rowH.via h (Later.refl _ _) (hf j)
 | lits e z els=>exact rowH.via h (Later.refl _ _) (hf j)
 | fbox T ps=>obtain ⟨v,h1,h2⟩:=h;exact ⟨v,hf _ _ h1,h2⟩
 | frow z enc xs=>obtain ⟨v,h1,h2⟩:=h;exact ⟨v,hf _ _ h1,h2⟩
 | nrow=>exact hf _ _ h
 | mp _ _ _ ek ev l=>obtain ⟨c,es,clock,h1,h2⟩:=h;exact ⟨c,es,clock,hf _ _ h1,h2⟩
 | ab a=>exact h
theorem renO_own (hf:∀ j v,σ j=some v→σ' (f j)=some v) {so:SO} {j:Nat} (h:so.holds w A σ j) (b:Nat):(renO f so).own σ' (f j) b↔so.own σ j b:=by
 rcases h.named with ⟨a,rfl⟩|⟨v,hv⟩
 · exact Iff.rfl
 · have hv':=hf _ _ hv
   cases so<;>simp only [renO,SO.own,hv,hv']
theorem renOs_owns (hf:∀ j v,σ j=some v→σ' (f j)=some v):∀ {l:List Ob},(∀ o∈l,o.2.holds w A σ o.1)→∀ b,owns σ' (renOs f l) b↔owns σ l b
 | [],_,b=>Iff.rfl
 | (j,so)::r,h,b=>by
   simp only [renOs,owns];rw [renO_own hf (h (j,so) (by simp)),renOs_owns hf (fun o ho=>h o (List.mem_cons_of_mem _ ho))]
theorem renOs_disj (hf:∀ j v,σ j=some v→σ' (f j)=some v):∀ {l:List Ob},(∀ o∈l,o.2.holds w A σ o.1)→Disj σ l→Disj σ' (renOs f l)
 | [],_,_=>trivial
 | (j,so)::r,h,⟨h1,h2⟩=>by
   refine ⟨fun b hb hx=>h1 b ((renO_own hf (h (j,so) (by simp)) b).1 hb) ((renOs_owns hf (fun o ho=>h o (List.mem_cons_of_mem _ ho)) b).1 hx),renOs_disj hf (fun o ho=>h o (List.mem_cons_of_mem _ ho)) h2⟩
theorem renOs_holds {A':Own} (hf:∀ j v,σ j=some v→σ' (f j)=some v) (hl:Later w A w A'):∀ {l:List Ob},(∀ o∈l,o.2.holds w A σ o.1)→∀ o∈renOs f l,o.2.holds w A' σ' o.1
 | [],_,o,ho=>by cases ho
 | (j,so)::r,h,o,ho=>by
   rcases List.mem_cons.1 ho with rfl|ho
   · exact (renO_holds hf (h (j,so) (by simp))).later hl (fun _ _=>rfl)
   · exact renOs_holds hf hl (fun o ho=>h o (List.mem_cons_of_mem _ ho)) o ho
def rnB (nn:Nat):Rn→Bool
 | []=>true
 | (j,_)::r=>match Nat.blt j nn with
   | true=>rnB nn r
   | false=>false
theorem rnB_spec {nn:Nat}:∀ {ρ:Rn},rnB nn ρ=true→∀ j,nn≤j→lkN ρ j=none
 | [],_,j,hj=>rfl
 | (k,_)::r,h,j,hj=>by
   unfold rnB at h
   split at h
   · rename_i hb
     have hk:k<nn:=by simpa [Nat.blt_eq] using hb
     unfold lkN
     split
     · rename_i he;have:=Nat.eq_of_beq_eq_true he;omega
     · exact rnB_spec h j hj
   · cases h
def renF (ρ:Rn) (nn nx:Nat):Nat→Nat:=fun j=>match lkN ρ j with
 | some k=>k
 | none=>nx+(j - nn)
def frcAs:List SV→(List SV→Prop)→Prop
 | [],K=>K []
 | s::r,K=>frcA s fun s=>frcAs r fun r=>K (s::r)
theorem frcAs_k:∀ {l:List SV} {K:List SV→Prop},frcAs l K→K l
 | [],K,h=>h
 | s::r,K,h=>frcAs_k (l:=r) (K:=fun r=>K (s::r)) (frcA_k (K:=fun s=>frcAs r fun r=>K (s::r)) h)
def frcV (v:SV) (K:SV→Prop):Prop:=match v with
 | .tup vs=>frcAs vs fun vs=>K (.tup vs)
 | v=>frcA v K
theorem frcV_k {v:SV} {K:SV→Prop} (h:frcV v K):K v:=by
 unfold frcV at h;split at h
 · exact frcAs_k (K:=fun vs=>K (.tup vs)) h
 · exact frcA_k h
def frcOs:List Ob→List Ob→(List Ob→Prop)→Prop
 | [],r,K=>K r
 | (k,.box T ps)::l,r,K=>frcL ps fun ps=>frcOs l r fun o=>K ((k,.box T ps)::o)
 | (k,.row e z enc xs)::l,r,K=>frcOs l r fun o=>K ((k,.row e z enc xs)::o)
 | (k,so)::l,r,K=>frcOs l r fun o=>K ((k,so)::o)
theorem frcOs_k:∀ {l r:List Ob} {K:List Ob→Prop},frcOs l r K→K (l++r)
 | [],r,K,h=>h
 | (k,.box T ps)::l,r,K,h=>frcOs_k (l:=l) (K:=fun o=>K ((k,.box T ps)::o)) (frcL_k (K:=fun ps=>frcOs l r fun o=>K ((k,.box T ps)::o)) h)
 | (k,.row e z enc xs)::l,r,K,h=>frcOs_k (l:=l) (K:=fun o=>K ((k,.row e z enc xs)::o)) h
 | (k,.lits e z els)::l,r,K,h=>frcOs_k (l:=l) (K:=fun o=>K ((k,.lits e z els)::o)) h
 | (k,.fbox T ps)::l,r,K,h=>frcOs_k (l:=l) (K:=fun o=>K ((k,.fbox T ps)::o)) h
 | (k,.frow z enc xs)::l,r,K,h=>frcOs_k (l:=l) (K:=fun o=>K ((k,.frow z enc xs)::o)) h
 | (k,.nrow)::l,r,K,h=>frcOs_k (l:=l) (K:=fun o=>K ((k,.nrow)::o)) h
 | (k,.mp a b c d e f)::l,r,K,h=>frcOs_k (l:=l) (K:=fun o=>K ((k,.mp a b c d e f)::o)) h
 | (k,.ab a)::l,r,K,h=>frcOs_k (l:=l) (K:=fun o=>K ((k,.ab a)::o)) h
def kpB:Bool→Bool→Bool
 | true,_=>true
 | false,b=>b
inductive CallS (c:Ctr) (Q:c.D→Prop):Prop
 | mk (d:c.D) (h:Q d)
structure Got (c:Ctr) (d:c.D) (K:c.E→Prop):Prop where
 got:∀ e,c.post d e→K e
def dstV (n:Nat) (dst:Option Nat) (env:Env) (s:SV) (K:Env→Prop):Prop:=match dst with
 | none=>K env
 | some d=>match Nat.blt d n with
   | true=>frcV s fun s=>K ((d,s)::env)
   | false=>False
def callGC (chk:List Ob→Bool) (c:Ctr) (n:Nat) (dst:Option Nat) (acts:List SV) (env:Env) (objs:List Ob) (nx:Nat) (K:KS):Prop :=
 CallS c fun d=>FitAs [] objs nx (c.args d) acts fun ρ objs nx=>FitOs ρ [] objs nx (c.objs d) fun ρ tk rest nx=>match rnB c.nn ρ with
   | true=>match chk tk with
     | true=>Side (c.pre d) (Got c d fun e=>dstV n dst env (renV (renF ρ c.nn nx) (c.res d e)) fun env=>frcOs (renOs (renF ρ c.nn nx) (c.out d e)) rest fun objs=>K env objs (nx+c.mm))
     | false=>False
   | false=>False
def callG (c:Ctr) (n:Nat) (dst:Option Nat) (acts:List SV) (env:Env) (objs:List Ob) (nx:Nat) (K:KS):Prop :=
 CallS c fun d=>FitAs [] objs nx (c.args d) acts fun ρ objs nx=>FitOs ρ [] objs nx (c.objs d) fun ρ tk rest nx=>match rnB c.nn ρ with
   | true=>Side (c.pre d) (Got c d fun e=>dstV n dst env (renV (renF ρ c.nn nx) (c.res d e)) fun env=>frcOs (renOs (renF ρ c.nn nx) (c.out d e)) rest fun objs=>K env objs (nx+c.mm))
   | false=>False
variable (P) in
def evs (env:Env):List Operand→Option (List SV)
 | []=>some []
 | x::r=>match evx P env x with
   | some s=>match evs env r with
     | some l=>some (s::l)
     | none=>none
   | none=>none
def noTup:SV→Bool
 | .tup _=>false
 | _=>true
def noTups:List SV→Bool
 | []=>true
 | s::r=>match noTup s with
   | true=>noTups r
   | false=>false
theorem evs_spec:∀ {l:List Operand} {ss:List SV},evs P env l=some ss→noTups ss=true→∀ {σ a w},St P S σ env objs nx a w→hvs w (S.A σ objs) σ ss (l.map a.eval)
 | [],ss,h,hn,σ,a,w,hst=>by simp only [evs,Option.some.injEq] at h;subst h;rfl
 | x::r,ss,h,hn,σ,a,w,hst=>by
   unfold evs at h
   split at h
   · rename_i s hs
     split at h
     · rename_i l hl
       simp only [Option.some.injEq] at h;subst h;unfold noTups at hn
       split at hn
       · rename_i ht
         refine ⟨a.eval x,r.map a.eval,rfl,?_,evs_spec hl hn hst⟩
         have:=hst.ev hs
         cases s<;>first|exact this|(simp [noTup] at ht)
       · cases hn
     · cases h
   · cases h
theorem run_call {f:Nat} {as:Array Operand} {ts:Array TypeId} (ho:o.op=.call { callee:=.value (.func f),args:=as,argTypes:=ts }) (hf:nth (TabC.cl P) f=some true) (a:Act) (w:World) :
   (execOp a.eval o).run P w=.ok (.enter f (as.map a.eval)) w:=by
 obtain ⟨fn,h1,h2,h3⟩:=call_spec (P:=P) hf;have h4:¬ fn.body=none:=by intro e;rw [e] at h3;cases h3
 have h5 : ¬ fn.name = "runtime.NumGoroutine" := by simpa using h2
 simp [execOp,ho,resolve,Act.eval,Deferred.ofValue,invoke,callFunc,h1,h5,h4]
theorem MatchO.owns {ρ:Rn}:∀ {exps tn:List Ob},MatchO σ ρ w A exps tn→∀ b,owns (σ.via ρ) exps b↔owns σ tn b
 | [],tn,h,b=>by simp only [MatchO] at h;subst h;exact Iff.rfl
 | (j,so)::r,tn,h,b=>by
   obtain ⟨k,act,m,rfl,h1,h2,h3,h4⟩:=h;exact or_congr (h3 b) (MatchO.owns h4 b)
theorem MatchO.disj {ρ:Rn}:∀ {exps tn:List Ob},MatchO σ ρ w A exps tn→Disj σ tn→Disj (σ.via ρ) exps
 | [],tn,h,hd=>trivial
 | (j,so)::r,tn,h,hd=>by
   obtain ⟨k,act,m,rfl,h1,h2,h3,h4⟩:=h;exact ⟨fun b hb hx=>hd.1 b ((h3 b).1 hb) ((h4.owns b).1 hx),h4.disj hd.2⟩
theorem MatchO.holds {ρ:Rn}:∀ {exps tn:List Ob},MatchO σ ρ w A exps tn→∀ o∈exps,o.2.holds w A (σ.via ρ) o.1
 | [],tn,h,o,ho=>by cases ho
 | (j,so)::r,tn,h,o,ho=>by
   obtain ⟨k,act,m,rfl,h1,h2,h3,h4⟩:=h;rcases List.mem_cons.1 ho with rfl|ho
   · exact h2
   · exact h4.holds o ho
theorem owns_rev {l:List Ob} (b:Nat):owns σ l.reverse b↔owns σ l b:=owns_perm (List.reverse_perm l) b
def Ctr.OkBy (P:Program) [TabC P] (C:Array Value→World→(Ending→World→Prop)→Prop) (c:Ctr):Prop:=∀ d,c.pre d→∀ (A0:Own) (w:World) (σ:Sg) (vs:List Value),(∀ b,A0 b→b<w.heap.size)→Obs σ A0 (c.objs d) w→hvs w (Av A0 σ (c.objs d)) σ (c.args d) vs→(∀ k,c.nn≤k→σ k=none)→Glob P w (Av A0 σ (c.objs d)) →
 C vs.toArray w fun e w'=>∃ (e':c.E) (v:Value) (σ':Sg),e=.returned v∧c.post d e'∧(∀ k,k<c.nn→∀ v,σ' k=some v→σ k=some v)∧(∀ k,c.nn+c.mm≤k→σ' k=none)∧(c.res d e').hv w' (Av A0 σ' (c.out d e')) σ' v∧Mod (fun b=>c.kp=false∧owns σ (c.objs d) b) w w'∧Obs σ' A0 (c.out d e') w' ∧
   (∀ b,owns σ' (c.out d e') b→owns σ (c.objs d) b∨w.heap.size≤b)
theorem callGC_core {C:Array Value→World→(Ending→World→Prop)→Prop} (hmono:∀ {args w R R'},C args w R→(∀ e w',R e w'→R' e w')→C args w R') {chk:List Ob→Bool} {c:Ctr} {as:Array Operand} {ss:List SV} {K:KS} (hc:c.OkBy P C) (ha:evs P env as.toList=some ss) (hnt:noTups ss=true)
   (h:callGC chk c S.n o.dst ss env objs nx K) {σ:Sg} {a:Act} {w:World} (hst:St P S σ env objs nx a w) {X:Act→World→Prop} (hX:∀ σ' env' objs' nx' a' w',K env' objs' nx'→St P S σ' env' objs' nx' a' w'→(kpB c.kp (Nat.beq c.nn 0)=true→Kept w w')→(∃ σ2 tn,chk tn=true∧Mod (owns σ2 tn) w w'∧∀ k,k<S.nn→∀ v,σ2 k=some v→S.s0 k=some v)→X a' w') :
   C (as.map a.eval) w fun e w'=>∃ v,e=.returned v∧X (a.put o.dst v) w':=by
 obtain ⟨d,h⟩:=h;obtain ⟨ρ1,o1,n1,h,f1⟩:=h.h (P:=P);obtain ⟨ρ,tn,rest,n2,h,l2,f2⟩:=h.h (P:=P)
 split at h
 · rename_i hrn
   split at h
   rotate_left
   · exact h.elim
   rename_i hchk;obtain ⟨hpre,hgot⟩:=h;obtain ⟨σ1,le1,s1,t1,p1⟩:=f1.2 S env σ a w hst;obtain ⟨σ2,le2,s2,t2,p2⟩:=f2 S env σ1 a w s1;simp only [List.append_nil] at s2 t2 p2;have hargs:hvs w (S.A σ2 (tn.reverse++rest)) (σ2.via ρ) (c.args d) (as.toList.map a.eval):=((p1 _ (evs_spec ha hnt hst)).later t2).names (via_le le2 l2);have hargs':as.map a.eval=(as.toList.map a.eval).toArray:=by rw [← Array.toList_map]
   rw [hargs'];have hd:=Disj_append.1 s2.obs.disj;have hown:∀ b,owns (σ2.via ρ) (c.objs d) b↔owns σ2 tn b:=p2.owns;have hA:∀ b,S.A σ2 (tn.reverse++rest) b↔Av (fun b=>S.A0 b∨owns σ2 rest b) (σ2.via ρ) (c.objs d) b:=fun b=>by
     simp only [Sig.A,Av,owns_append,owns_rev,hown b];exact ⟨fun h=>h.elim (fun h=>.inl (.inl h)) (fun h=>h.elim .inr (fun h=>.inl (.inr h))),fun h=>h.elim (fun h=>h.imp id .inr) (fun h=>.inr (.inl h))⟩
   have hl:Later w (S.A σ2 (tn.reverse++rest)) w (Av (fun b=>S.A0 b∨owns σ2 rest b) (σ2.via ρ) (c.objs d)):=Later.own fun b hb=>(hA b).2 hb
   have hdisj:Disj (σ2.via ρ) (c.objs d):=p2.disj (Disj_perm (List.reverse_perm tn) hd.1);refine hmono (hc d hpre (fun b=>S.A0 b∨owns σ2 rest b) w (σ2.via ρ) _ ?_ ⟨fun o ho=>(p2.holds o ho).later hl (fun _ _=>rfl),hdisj,fun b hb=>?_⟩ (hargs.later hl) (fun k hk=>by unfold Sg.via;rw [rnB_spec hrn k hk]) (s2.glob.later hl)) ?_
   · rintro b (hb|hb)
     · exact s2.a0lt b hb
     · exact (s2.obs.lt b (by rw [owns_append];exact .inr hb)).1
   · have hb':owns σ2 tn.reverse b:=(owns_rev b).2 ((hown b).1 hb)
     have:=s2.obs.lt b (by rw [owns_append];exact .inl hb')
     exact ⟨this.1,fun hx=>hx.elim this.2 (hd.2.2 b hb')⟩
   · rintro e w' ⟨e',v,σc,rfl,hpost,hsame,hdom,hres,hm,hobs,hnew⟩
     refine ⟨v,rfl,?_⟩;have hmk:c.kp=true→Kept w w':=fun hz=>hm.mono fun b hb=>by rw [hz] at hb;cases hb.1
     replace hm:Mod (owns (σ2.via ρ) (c.objs d)) w w':=hm.mono fun b hb=>hb.2
     have hkp:kpB c.kp (Nat.beq c.nn 0)=true→Kept w w':=fun hz=>by
       cases hkc:c.kp with
       | true=>exact hmk hkc
       | false =>
       rw [hkc] at hz;have hz':=Nat.eq_of_beq_eq_true (show Nat.beq c.nn 0=true from hz)
       cases ho:c.objs d with
       | nil=>rw [ho] at hm;exact hm
       | cons x r =>
         obtain ⟨j,so⟩:=x;rw [ho] at p2;obtain ⟨k,_,_,_,h1,_⟩:=p2;rw [rnB_spec hrn j (by omega)] at h1;cases h1
     have hK:=hgot.got e' hpost
     let f:=renF ρ c.nn n2
     let σ3:Sg:=fun k=>if k<n2 then σ2 k else σc (k - n2+c.nn)
     have le3:Sg.le σ2 σ3:=fun k v hv=>by
       have:k<n2:=by
         rcases Nat.lt_or_ge k n2 with h|h
         · exact h
         · rw [s2.dom k h] at hv;cases hv
       show (if k<n2 then σ2 k else _)=_
       rw [if_pos this];exact hv
     have hf3:∀ j v,σc j=some v→σ3 (f j)=some v:=fun j v hv=>by
       show σ3 (renF ρ c.nn n2 j)=some v;unfold renF;rcases Nat.lt_or_ge j c.nn with hj|hj
       · replace hv:=hsame j hj v hv
         unfold Sg.via at hv
         split at hv
         · rename_i k hk
           simp only [hk];exact le3 _ _ hv
         · cases hv
       · rw [rnB_spec hrn j hj]
         show (if n2+(j - c.nn)<n2 then _ else σc (n2+(j - c.nn) - n2+c.nn))=some v
         rw [if_neg (by omega),show n2+(j - c.nn) - n2+c.nn=j by omega]
         exact hv
     have hrest:∀ o∈rest,o.2.holds w (S.A σ2 (tn.reverse++rest)) σ2 o.1:=fun o ho=>s2.obs.holds o (List.mem_append_right _ ho)
     have howr:∀ b,owns σ3 rest b↔owns σ2 rest b:=owns_names le3 hrest;have howo:∀ b,owns σ3 (renOs f (c.out d e')) b↔owns σc (c.out d e') b:=renOs_owns hf3 hobs.holds;have hA3:∀ b,S.A σ3 (renOs f (c.out d e')++rest) b↔Av (fun b=>S.A0 b∨owns σ2 rest b) σc (c.out d e') b:=fun b=>by
       simp only [Sig.A,Av,owns_append,howo b,howr b];exact ⟨fun h=>h.elim (fun h=>.inl (.inl h)) (fun h=>h.elim .inr (fun h=>.inl (.inr h))),fun h=>h.elim (fun h=>h.imp id .inr) (fun h=>.inr (.inl h))⟩
     have hback:Later w' (Av (fun b=>S.A0 b∨owns σ2 rest b) σc (c.out d e')) w' (S.A σ3 (renOs f (c.out d e')++rest)):=Later.own fun b hb=>(hA3 b).1 hb
     have hmod:Mod (owns σ2 tn) w w':=hm.mono fun b hb=>(hown b).1 hb
     have hnew':∀ b,owns σ3 (renOs f (c.out d e')++rest) b→owns σ2 (tn.reverse++rest) b∨w.heap.size≤b:=fun b hb=>by
       rw [owns_append] at hb ⊢;rcases hb with hb|hb
       · exact (hnew b ((howo b).1 hb)).imp (fun h=>.inl ((owns_rev b).2 ((hown b).1 h))) id
       · exact .inl (.inr ((howr b).1 hb))
     have hfwd:Later w (S.A σ2 (tn.reverse++rest)) w' (S.A σ3 (renOs f (c.out d e')++rest)):=hmod.later (fun b hb=>.inr (by rw [owns_append];exact .inl ((owns_rev b).2 hb))) (fun b hb hx=>hx.imp id fun hx=>(hnew' b hx).resolve_right (by omega))
     have hst3:St P S σ3 env (renOs f (c.out d e')++rest) (n2+c.mm) a w':=by
       refine { slots:=fun t s ht=>((s2.slots t s ht).later hfwd).names le3,dom:=fun k hk=>?_,size:=s2.size,defers:=s2.defers,obs:=⟨fun o ho=>?_,?_,fun b hb=>?_⟩,hist:=s2.hist.step hmod fun b hb=>s2.own0 b (by rw [owns_append];exact .inl ((owns_rev b).2 hb)),own0:=fun b hb=>?_,a0:=fun b hb=>Nat.lt_of_lt_of_le (s2.a0 b hb) hmod.size,mks:=fun D hD=>⟨(s2.mks D hD).1,(hmod.block D (s2.a0 D (s2.mks D hD).1) fun hM=>(s2.obs.lt D (by rw [owns_append];exact .inl ((owns_rev D).2 hM))).2 (s2.mks D hD).1).trans (s2.mks D hD).2⟩,glob:=s2.glob.later hfwd,base:=fun k hk v hv=>?_,nnx:=Nat.le_trans s2.nnx (Nat.le_add_right _ _) }
       · show (if k<n2 then _ else σc (k - n2+c.nn))=none
         rw [if_neg (by omega)];exact hdom _ (by omega)
       · rcases List.mem_append.1 ho with ho|ho
         · exact renOs_holds hf3 hback hobs.holds o ho
         · refine ((hrest o ho).names le3).later hfwd (fun b hb=>?_)
           have hb2:owns σ2 rest b:=owns_mem ho ((SO.own_names le3 (hrest o ho) b).1 hb);exact hmod.block b (s2.obs.lt b (by rw [owns_append];exact .inr hb2)).1 (fun hx=>hd.2.2 b ((owns_rev b).2 hx) hb2)
       · refine Disj_append.2 ⟨renOs_disj hf3 hobs.holds hobs.disj,Disj_names le3 hrest hd.2.1,fun b hb hx=>?_⟩
         exact (hobs.lt b ((howo b).1 hb)).2 (.inr ((howr b).1 hx))
       · rw [owns_append] at hb
         rcases hb with hb|hb
         · have:=hobs.lt b ((howo b).1 hb)
           exact ⟨this.1,fun hx=>this.2 (.inl hx)⟩
         · have:=s2.obs.lt b (by rw [owns_append];exact .inr ((howr b).1 hb))
           exact ⟨Nat.lt_of_lt_of_le this.1 hm.size,this.2⟩
       · exact (hnew' b hb).elim (s2.own0 b) (fun x=>.inr (Nat.le_trans s2.hist.size x))
       · have hk2:=s2.nnx
         have hv':(if k<n2 then σ2 k else σc (k - n2+c.nn))=some v:=hv
         rw [if_pos (by omega)] at hv'
         exact s2.base k hk v hv'
     have hresv:(renV f (c.res d e')).hv w' (S.A σ3 (renOs f (c.out d e')++rest)) σ3 v:=(renV_hv hf3 hres).later hback;unfold dstV at hK
     split at hK
     · rename_i hd0
       have hK2:=frcOs_k hK;rw [hd0];exact hX σ3 _ _ _ _ _ hK2 hst3 hkp ⟨σ2,_,hchk,hmod.mono (fun b hb=>by rw [List.append_nil];exact (owns_rev b).2 hb),s2.base⟩
     · rename_i dd hd0
       split at hK
       · rename_i hlt
         have hK2:=frcOs_k (frcV_k hK);rw [hd0];exact hX σ3 _ _ _ _ _ hK2 (hst3.put (by simpa [Nat.blt_eq] using hlt) hresv) hkp ⟨σ2,_,hchk,hmod.mono (fun b hb=>by rw [List.append_nil];exact (owns_rev b).2 hb),s2.base⟩
       · exact hK.elim
 · exact h.elim
theorem callG_GC {c:Ctr} {n:Nat} {dst:Option Nat} {acts:List SV} {env:Env} {objs:List Ob} {nx:Nat} {K:KS}:callG c n dst acts env objs nx K=callGC (fun _=>true) c n dst acts env objs nx K:=rfl
theorem callG_core {C:Array Value→World→(Ending→World→Prop)→Prop} (hmono:∀ {args w R R'},C args w R→(∀ e w',R e w'→R' e w')→C args w R') {c:Ctr} {as:Array Operand} {ss:List SV} {K:KS} (hc:c.OkBy P C) (ha:evs P env as.toList=some ss) (hnt:noTups ss=true)
   (h:callG c S.n o.dst ss env objs nx K) {σ:Sg} {a:Act} {w:World} (hst:St P S σ env objs nx a w) {X:Act→World→Prop} (hX:∀ σ' env' objs' nx' a' w',K env' objs' nx'→St P S σ' env' objs' nx' a' w'→(kpB c.kp (Nat.beq c.nn 0)=true→Kept w w')→X a' w') :
   C (as.map a.eval) w fun e w'=>∃ v,e=.returned v∧X (a.put o.dst v) w':=by
 rw [callG_GC] at h;exact callGC_core (C:=C) hmono hc ha hnt h hst fun σ' e' o' n' a' w' h1 h2 h3 _=>hX σ' e' o' n' a' w' h1 h2 h3
theorem callG_sound {c:Ctr} {f:Nat} {as:Array Operand} {ts:Array TypeId} {ss:List SV} {K:KS} (hc:c.Ok P f) (ho:o.op=.call { callee:=.value (.func f),args:=as,argTypes:=ts }) (hf:nth (TabC.cl P) f=some true) (ha:evs P env as.toList=some ss) (hnt:noTups ss=true)
   (h:callG c S.n o.dst ss env objs nx K):DoesK P S env objs nx o (kpB c.kp (Nat.beq c.nn 0)) K:=by
 intro σ a w hst X Q hX;unfold Oper.wp;rw [run_call ho hf a w,Oper.upon_enter];refine Calls.mono (callG_core (C:=Calls P f) (fun h k=>Calls.mono h k) (show c.OkBy P (Calls P f) from hc) ha hnt h hst hX) ?_
 rintro e w' ⟨v,rfl,hx⟩;exact hx
theorem callGC_sound {chk:List Ob→Bool} {c:Ctr} {f:Nat} {as:Array Operand} {ts:Array TypeId} {ss:List SV} {K:KS} (hc:c.Ok P f) (ho:o.op=.call { callee:=.value (.func f),args:=as,argTypes:=ts }) (hf:nth (TabC.cl P) f=some true) (ha:evs P env as.toList=some ss) (hnt:noTups ss=true)
   (h:callGC chk c S.n o.dst ss env objs nx K):∀ X Q σ a w,St P S σ env objs nx a w→(∀ σ' env' objs' nx' a' w',K env' objs' nx'→St P S σ' env' objs' nx' a' w'→(∃ σ2 tn,chk tn=true∧Mod (owns σ2 tn) w w'∧∀ k,k<S.nn→∀ v,σ2 k=some v→S.s0 k=some v)→X a' w')→o.wp P a w X Q:=by
 intro X Q σ a w hst hX;unfold Oper.wp;rw [run_call ho hf a w,Oper.upon_enter];refine Calls.mono (callGC_core (C:=Calls P f) (fun h k=>Calls.mono h k) (show c.OkBy P (Calls P f) from hc) ha hnt h hst fun σ' e' o' n' a' w' h1 h2 _ h3=>hX σ' e' o' n' a' w' h1 h2 h3) ?_
 rintro e w' ⟨v,rfl,hx⟩;exact hx
end
section
variable {P:Program} [TabC P] {S:Sig} {σ:Sg} {env:Env} {objs:List Ob} {nx:Nat} {o:Oper} {a:Act} {w:World} {x y:Operand}
theorem Mod.freeze (w:World) (g n:Nat):Mod (fun x=>x=g) w (w.freeze ⟨g,n,none⟩ 1):=by
 have:(w.freeze ⟨g,n,none⟩ 1).heap.size=w.heap.size:=by simp [World.freeze]
 exact ⟨rfl,rfl,rfl,by omega,fun k _ hk=>by simp only [World.freeze];simp [Array.getElem?_modify,Ne.symm hk]⟩
theorem St.mark {objs':List Ob} {k e:Nat} {so:SO} {l:List (BitVec 8)} {T et:TypeId} {i j:TI} (h:St P S σ env objs nx a w) (hs:SetO objs (k,so) (k,.frow 1 eB l) objs')
   (hso:∀ w A σ,so.holds w A σ k↔rowH w A σ k e 1 (l.map eB)) (hown:∀ σ b,so.own σ k b↔∃ v,σ k=some v∧blkO v=some b) (hl:0<l.length)
   (ho:o.op=.convert T T x) (hx:evx P env x=some (.own k)) (hty:ty P T=some i) (hk:i.k=.sl et) (hj:ty P et=some j) (hu:j.k=.int .u8) :
   ∃ v w',(execOp a.eval o).run P w=.ok (.value v) w'∧St P S σ env objs' nx a w'∧(SV.fs 1 eB l).hv w' (S.A σ objs') σ v:=by
 have hh:=(hso _ _ _).1 (h.obs.holds _ hs.mem);have hsz:=fun i (hi:i<l.length)=>(rfl:szL (eB l[i])=1)
 obtain ⟨v,cs,h0,h1,h2,h3,hr⟩:=hh;have hv:=h.ev hx;simp only [SV.hv,SV.h1,SV.hc,List.cons.injEq,and_true] at hv;obtain ⟨v',hv1,_,hv2⟩:=hv;rw [h0] at hv1;cases hv1;rw [List.length_map] at *;rcases hr.2 with ⟨rfl,hn⟩|⟨g,cap,cur,rfl,hb0,hg,hn,hc,hcs,ht⟩
 · omega
 · have hm:=Mod.freeze w g cur.size
   have hpo:∀ b,so.own σ k b↔b=g:=fun b=>by
     rw [hown,h0];exact ⟨fun ⟨v,h1,h2⟩=>by cases h1;cases h2;rfl,fun e=>⟨_,rfl,by rw [e];rfl⟩⟩
   have hgo:∀ b,b=g→owns σ objs b:=fun b hb=>owns_mem hs.mem ((hpo b).2 hb)
   have hle:∀ b,owns σ objs' b→owns σ objs b:=hs.owns_le (fun b hb=>hb.elim)
   have hd:=own_disj h hs (fun b hb=>hb)
   have hlat:=h.lat hm hgo (fun b hb=>.inl (hle b hb))
   have hfz:(w.freeze ⟨g,cur.size,none⟩ 1).heap[g]?=some (.cells cur e (cur.size,cur.size+1)):=by
     simp only [World.freeze];simp [Array.getElem?_modify,hg]
   have hfs:(SV.fs 1 eB l).hc (w.freeze ⟨g,cur.size,none⟩ 1) (S.A σ objs') sg0 [.slice (some ⟨g,0,none⟩) l.length cap]:=by
     simp only [SV.hc,List.cons.injEq,and_true];refine ⟨some ⟨g,0,none⟩,cap,rfl,hn,hc,fun h=>(by cases h),hsz,fun ad had=>?_⟩
     simp only [Option.some.injEq] at had;subst had;refine .inr ⟨rfl,hd g ((hpo g).2 rfl),cur,e,_,hfz,fun i hi=>?_⟩
     have h4:=h3.get (z:=1) h1 (i:=i) (e:=eB l[i]) (by simp [hi])
     have h5:=hL.later hlat _ _ _ h4;have hmul:(i+1)*1≤l.length*1:=Nat.mul_le_mul_right _ hi;rw [← ht,List.drop_take,List.take_take,Nat.min_eq_left (by omega)] at h5
     simpa using h5
   have hobs:Obs σ S.A0 objs' (w.freeze ⟨g,cur.size,none⟩ 1):=h.obs.set hs (hm.mono fun b hb=>(hpo b).2 hb) ⟨_,h0,hfs⟩ (fun b hb=>hb.elim) h.a0lt
   refine ⟨.slice (some ⟨g,0,none⟩) l.length cap,w.freeze ⟨g,cur.size,none⟩ 1,?_,h.upd hm hgo (fun b hb=>.inl (hle b hb)) hobs,?_⟩
   · have hsh:w.shape? g=some (e,cur.size):=by simp [World.shape?,hg]
     simp [execOp,ho,hv2,convert,run_underlying (ty_slice hty hk),run_underlying (ty_int hj hu),markStringish,hsh]
   · simp only [SV.hv,SV.h1]
     simp only [SV.hc] at hfs ⊢;exact hfs
variable (P) in
def cvMark (env:Env) (objs:List Ob) (nx:Nat) (T d k:Nat) (els:List (List SV)) (K:KS):Prop:=match ty P T with
 | some ⟨.sl et,_,_⟩=>match ty P et with
   | some ⟨.int .u8,_,_⟩=>Ex (fun l:List (BitVec 8)=>l.map eB=els) fun l=>Side (0<l.length) (setK objs k k (.frow 1 eB l) fun o=>K ((d,.fs 1 eB l)::env) o nx)
   | _=>False
 | _=>False
variable (P) in
def evCvS (n:Nat) (dst:Option Nat) (env:Env) (objs:List Ob) (nx:Nat) (T:Nat) (s:SV) (K:KS):Prop:=dstK n dst fun d=>match s with
 | .own k=>match lk objs k with
   | some (.row e 1 enc xs)=>cvMark P env objs nx T d k (xs.map enc) K
   | some (.lits e 1 els)=>cvMark P env objs nx T d k els K
   | _=>False
 | s=>evConv P T T s fun s=>K ((d,s)::env) objs nx
theorem evCvS_sound {T:TypeId} {s:SV} {K:KS} (ho:o.op=.convert T T x) (hx:evx P env x=some s) (h:evCvS P S.n o.dst env objs nx T s K):DoesK P S env objs nx o false K:=by
 obtain ⟨d,hd,hlt,h⟩:=dstK_spec h;have core:∀ {k e:Nat} {so:SO} {els:List (List SV)},lk objs k=some so→evx P env x=some (.own k)→(∀ w A σ,so.holds w A σ k↔rowH w A σ k e 1 els)→(∀ σ b,so.own σ k b↔∃ v,σ k=some v∧blkO v=some b)→cvMark P env objs nx T d k els K→DoesK P S env objs nx o false K:=by
   intro k e so els hk hx hso hown h;unfold cvMark at h
   split at h
   · rename_i ht
     split at h
     · rename_i hj
       obtain ⟨l,hl,hpos,h⟩:=h;unfold setK at h
       split at h
       · rename_i o' hset
         refine DoesK.of h fun σ a w hst=>?_
         obtain ⟨v,w',h1,h2,h3⟩:=hst.mark (setO_spec hk hset) (fun w A σ=>by rw [hso,hl]) hown hpos ho hx ht rfl hj rfl
         exact ⟨_,v,w',σ,h1,.inl rfl,by rw [hd];exact h2.put hlt h3,fun e=>by cases e⟩
       · exact h.elim
     · exact h.elim
   · exact h.elim
 split at h
 · rename_i k
   split at h
   · rename_i hk;exact core hk hx (fun _ _ _=>Iff.rfl) (fun _ _=>Iff.rfl) h
   · rename_i hk;exact core hk hx (fun _ _ _=>Iff.rfl) (fun _ _=>Iff.rfl) h
   · exact h.elim
 · have:=evConv_sound (S:=S) (nx:=nx) (objs:=objs) ho hx h
   intro σ a w hst X Q hX;obtain ⟨s',v,h1,h2,h3⟩:=this σ a w hst;unfold Oper.wp;rw [h3 w];simp only [Oper.upon,hd];exact hX σ _ _ _ _ _ h1 (hst.put hlt h2) (fun e=>by cases e)
end
def vput {n:Nat} (y:Vector (BitVec 8) n) (lo:Nat) (l:List (BitVec 8)):Vector (BitVec 8) n:=Vector.ofFn fun i=>if h:lo≤i.1∧i.1 - lo<l.length then l[i.1 - lo]'h.2 else y[i]
section
variable {P:Program} [TabC P] {S:Sig} {σ:Sg} {env:Env} {objs:List Ob} {nx:Nat} {o:Oper} {a:Act} {w:World} {x y:Operand} {K:KS}
theorem vput_list {n:Nat} (y:Vector (BitVec 8) n) (lo:Nat) (l:List (BitVec 8)) (h:lo+l.length≤n):(vput y lo l).toList=y.toList.take lo++l++y.toList.drop (lo+l.length):=by
 apply List.ext_getElem
 · simp;omega
 · intro i h1 h2
   have hi:i<n:=by simpa using h1
   simp only [vput,Vector.getElem_toList,Vector.getElem_ofFn]
   by_cases hlo:i<lo
   · rw [dif_neg (by omega),List.getElem_append_left (by simp;omega),List.getElem_append_left (by simp;omega)]
     simp
   · by_cases hl:i - lo<l.length
     · rw [dif_pos ⟨by omega,hl⟩,List.getElem_append_left (by simp;omega),List.getElem_append_right (by simp;omega)]
       congr 1
       simp;omega
     · rw [dif_neg (by omega),List.getElem_append_right (by simp;omega)]
       simp only [List.getElem_drop,Vector.getElem_toList];show y[i]=_
       congr 1
       simp;omega
theorem hE_bytes {w:World} {A:Own}:∀ {l:List (BitVec 8)} {cs:List Value},hE w A sg0 (l.map eB) cs→cs=l.map (bV .u8)
 | [],cs,h=>by simp only [List.map_nil,hE] at h;subst h;rfl
 | b::r,cs,h=>by
   simp only [List.map_cons,hE] at h;obtain ⟨c,rest,rfl,h1,h2⟩:=h;rw [hL.single] at h1;simp only [SV.hc] at h1;subst h1;rw [hE_bytes h2];rfl
variable (P) in
def evCopy (n:Nat) (dst:Option Nat) (env:Env) (objs:List Ob) (nx:Nat) (T:Nat) (s u:SV) (K:KS):Prop:=match s with
 | .bsl k off lo hi=>match ty P T with
   | some ⟨.sl et,_,_⟩=>match ty P et with
     | some ⟨_,1,_⟩=>match lk objs k,srcE objs u 1 with
       | some (.box T' ps),some f=>match takeP ps off with
         | some (pa,@SV.arr8 m v::r)=>Ex (fun l:List (BitVec 8)=>l.map eB=f.els) fun l=>Side (lo<hi∧hi≤m) (match app2 pa (.arr8 (vput v lo (l.take (hi - lo)))::r) with
           | some ps'=>frcL ps' fun ps'=>setK objs k k (.box T' ps') fun o=>dstV n dst env (.int .i64 (min l.length (hi - lo):Nat)) fun env=>K env o nx
           | none=>False)
         | _=>False
       | _,_=>False
     | _=>False
   | _=>False
 | _=>False
theorem evCopy_sound {T T':TypeId} {s u:SV} (ho:o.op=.call { callee:=.builtin .copy,args:=#[x,y],argTypes:=#[T,T'] }) (hx:evx P env x=some s) (hy:evx P env y=some u) (h:evCopy P S.n o.dst env objs nx T s u K):DoesK P S env objs nx o false K:=by
 unfold evCopy at h
 split at h
 · rename_i k off lo hi
   split at h
   · rename_i et _ _ hT
     split at h
     · rename_i ek _ hE
       split at h
       · rename_i T2 ps f hk hf
         split at h
         · rename_i pa m v r htk
           obtain ⟨l,hl,hside,h⟩:=h;obtain ⟨hlo,hhi⟩:=hside
           split at h
           · rename_i ps' happ
             obtain ⟨objs',hset,hK⟩:=setK_spec (frcL_k (K:=fun ps'=>setK objs k k (.box T2 ps') fun o'=>dstV S.n o.dst env (.int .i64 (min l.length (hi - lo):Nat)) fun env=>K env o' nx) h)
             obtain rfl:=app2_eq happ;have hs:=setO_spec hk hset;have hlen:(l.take (hi - lo)).length=min l.length (hi - lo):=by simp [Nat.min_comm]
             intro σ a w hst X Q hX;obtain ⟨b,cs,h1,h2,h3⟩:=lk_holds hst hk;obtain ⟨rfl,htl⟩:=takeP_spec htk;obtain ⟨c1,c2,rfl,hc1,hc2⟩:=hL.split h3;simp only [hL] at hc2;obtain ⟨d1,d2,rfl,hd1,hd2⟩:=hc2;have f1:=hc1.len;have f2:=hd1.len;simp only [SV.sz] at f2;have hbx:=hst.ev hx;simp only [SV.hv,SV.h1,SV.hc,List.cons.injEq,and_true] at hbx;obtain ⟨b',c,p,q,g1,g2,g3,g4,g5,g6⟩:=hbx;rw [h1] at g1;cases g1;have hsl:=srcE_spec hf hy hst;rw [← hl] at hsl;obtain ⟨_,ad,cap,ds,e1,e2,e3,e4⟩:=hsl;obtain rfl:=hE_bytes e2;rw [List.length_map] at e1;have hinfo:(P.info? et).map (·.size)=some 1:=by
               obtain ⟨inf,d,hi1,_,hi2,_⟩:=ty_spec hE;rw [hi1];simpa using hi2
             have hp:p=off+lo:=by have:=g6 hlo;omega
             have hnew:(vput v lo (l.take (hi - lo))).toList.map (bV .u8)=d1.take lo++(l.take (hi - lo)).map (bV .u8)++d1.drop (lo+(l.take (hi - lo)).length):=by
               rw [vput_list _ _ _ (by omega)]
               simp only [SV.hc] at hd1;rw [hd1];simp [List.map_take,List.map_drop]
             have hcells:hL w (S.A σ objs) (pa++.arr8 (vput v lo (l.take (hi - lo)))::r) σ (c1++(d1.take lo++(l.take (hi - lo)).map (bV .u8)++d1.drop (lo+(l.take (hi - lo)).length)++d2)):=by
               refine hc1.append ?_;simp only [hL];exact ⟨_,d2,rfl,by simp only [SV.hc];rw [hnew],hd2⟩
             have hset2:(c1++(d1++d2)).take (off+lo)++(l.take (hi - lo)).map (bV .u8)++(c1++(d1++d2)).drop (off+lo+((l.take (hi - lo)).map (bV .u8)).length)=c1++(d1.take lo++(l.take (hi - lo)).map (bV .u8)++d1.drop (lo+(l.take (hi - lo)).length)++d2):=by
               have e5:c1.length=off:=by rw [f1,htl]
               rw [← e5,List.take_length_add_append,List.take_append_of_le_length (by omega),List.length_map,Nat.add_assoc,List.drop_length_add_append,List.drop_append_of_le_length (by omega)]
               simp [List.append_assoc]
             have key:∃ w',(execOp a.eval o).run P w=.ok (.value (.int .i64 (min l.length (hi - lo):Nat))) w'∧Mod (fun c=>c=b) w w'∧w'.heap[b]?=some (.cells (c1++(d1.take lo++(l.take (hi - lo)).map (bV .u8)++d1.drop (lo+(l.take (hi - lo)).length)++d2)).toArray T2 (0,0)):=by
               have hcall:∀ r w',(Builtin.copy_ #[T,T'] o.type #[a.eval x,a.eval y]).run P w=.ok r w'→(execOp a.eval o).run P w=.ok (.value r) w':=fun r w' hr=>by
                 simp [execOp,ho,resolve,invoke,builtin,hr]
               rw [g2,e1] at hcall
               cases ad with
               | none =>
                 obtain ⟨e5,rfl⟩:=e3 rfl
                 have:l=[]:=by simpa using e5
                 subst this;refine ⟨w,hcall _ _ ?_,Mod.refl _ _,?_⟩
                 · rw [List.length_nil,run_copy_nil (P:=P) w T T' o.type et ⟨b,p,none⟩ (hi - lo) q (ty_slice hT rfl) (by rw [hinfo];rfl)]
                   simp [goInt]
                 · rw [h2];simp
               | some ad =>
                 have hrow:=run_copy_row (P:=P) w T T' o.type et b p (hi - lo) q ad l.length cap (c1++(d1++d2)).toArray T2 ((l.take (hi - lo)).map (bV .u8)) (ty_slice hT rfl) hinfo h2 (by simp [Nat.min_comm]) (fun j u hu=>?_) ?_ ?_
                 · have hq:goInt (((l.take (hi - lo)).map (bV .u8)).length)=.int .i64 (min l.length (hi - lo):Nat):=by rw [List.length_map,hlen];rfl
                   rw [hq] at hrow;refine ⟨_,hcall _ _ hrow,Mod.setRow _ _ _,?_⟩
                   · rw [hp,setRow_heap w b _ _ T2 _ h2]
                     rw [← hset2]
                 · refine e4 ad rfl j u ?_
                   rw [List.map_take,List.getElem?_take] at hu
                   split at hu
                   · exact hu
                   · cases hu
                 · simp only [List.length_map,List.size_toArray,List.length_append];omega
                 · intro u hu
                   obtain ⟨b,_,rfl⟩:=List.mem_map.1 hu;rfl
             obtain ⟨w',hrun,hm,hheap⟩:=key;obtain ⟨R,r1,r2,_⟩:=hs.owns_iff (σ:=σ);have hbown:∀ so:SO,(∃ ps,so=.box T2 ps)→∀ c,so.own σ k c↔c=b:=by
               rintro so ⟨ps,rfl⟩ c;simp only [SO.own,h1,Option.some.injEq]
               constructor
               · rintro ⟨v,rfl,h⟩;simp only [blkO,Option.some.injEq] at h;exact h.symm
               · rintro rfl;exact ⟨_,rfl,rfl⟩
             have hM:∀ c,c=b→owns σ objs c:=fun c hc=>(r1 c).2 (.inr ((hbown _ ⟨_,rfl⟩ c).2 hc))
             have hown:∀ c,owns σ objs' c→owns σ objs c∨w.heap.size≤c:=fun c hc=>.inl ((r1 c).2 (((r2 c).1 hc).imp id fun h=>(hbown _ ⟨_,rfl⟩ c).2 ((hbown _ ⟨_,rfl⟩ c).1 h)))
             have hst':=hst.upd hm hM hown (hst.obs.set hs (hm.mono fun c hc=>(hbown _ ⟨_,rfl⟩ c).2 hc) ⟨b,_,h1,hheap,hL.later (hst.lat hm hM hown) _ _ _ hcells⟩ (fun c hc=>.inl ((hbown _ ⟨_,rfl⟩ c).2 ((hbown _ ⟨_,rfl⟩ c).1 hc))) hst.a0lt)
             unfold Oper.wp;rw [hrun];simp only [Oper.upon];unfold dstV at hK
             split at hK
             · rename_i hd0
               rw [hd0];exact hX σ _ _ _ _ _ hK hst' (fun e=>by cases e)
             · rename_i d hd0
               split at hK
               · rename_i hlt
                 have hK2:=frcV_k hK;rw [hd0];refine hX σ _ _ _ _ _ hK2 (hst'.put (by simpa [Nat.blt_eq] using hlt) (hvI.2 ⟨rfl,fun _=>?_⟩)) (fun e=>by cases e)
                 unfold inR
                 have:maxLen≤9223372036854775807:=by decide
                 omega
               · exact hK.elim
           · exact h.elim
         · exact h.elim
       · exact h.elim
     · exact h.elim
   · exact h.elim
 · exact h.elim
end
section
variable {P:Program} [TabC P] {S:Sig} {σ:Sg} {env:Env} {objs:List Ob} {nx:Nat} {o:Oper} {a:Act} {w:World} {x y:Operand} {K:SV→Prop}
variable (P) in
def evStr (objs:List Ob) (T T':Nat) (s:SV) (K:SV→Prop):Prop:=match ty P T with
 | some ⟨.sl e,_,_⟩=>match ty P e,ty P T' with
   | some ⟨.int .u8,_,_⟩,some ⟨.str,_,_⟩=>match srcE objs s 1 with
     | some f=>Ex (fun l:List (BitVec 8)=>f.els=l.map eB) fun l=>K (.str l)
     | none=>False
   | _,_=>False
 | _=>False
theorem Kept.cellq {w w':World} (h:Kept w w') {a:Addr} {v:Value} (hv:w.cell? a=some v):w'.cell? a=some v:=by
 have hlt:a.block<w.heap.size:=by
   unfold World.cell? at hv
   split at hv
   · rename_i hh;exact (Array.getElem?_eq_some_iff.1 hh).1
   · cases hv
 unfold World.cell? at hv ⊢;rw [h.block _ hlt id];exact hv
theorem push_bytes (l:List (BitVec 8)):(l.map fun b=>(b.toNat:Int)).foldl (fun r n=>r.push (UInt8.ofNat n.toNat)) ByteArray.empty=baOf l:=by
 rw [foldl_push_bytes];unfold baOf;rw [List.map_map]
 congr 1
 have:((fun n:Int=>UInt8.ofNat n.toNat)∘fun b:BitVec 8=>(b.toNat:Int))=UInt8.ofBitVec:=by
   funext b
   apply UInt8.toBitVec_inj.1
   simp [UInt8.ofNat]
 rw [this];show #[]++(List.map UInt8.ofBitVec l).toArray=_
 simp
theorem evStr_sound {T T':TypeId} {s:SV} (ho:o.op=.convert T T' x) (hx:evx P env x=some s) (h:evStr P objs T T' s K):LoadK P S env objs nx o K:=by
 unfold evStr at h
 split at h
 · rename_i e _ _ hT
   split at h
   · rename_i he hT'
     split at h
     · rename_i f hf
       obtain ⟨l,hl,h⟩:=h;intro σ a w hst;refine ⟨_,.string (baOf l),h,hvS.2 rfl,fun w' hw=>?_⟩
       obtain ⟨h1,ad,c,cs,h2,h3,h4,h5⟩:=srcE_spec hf hx hst;rw [hl] at h3 h4 h2;have hcs:=hE_bytes h3;have u1:=ty_slice hT rfl;have u2:=ty_int he rfl;have u3:=ty_str hT' rfl;have hrun:(convert T T' (a.eval x)).run P w'=.ok (.string (baOf l)) w':=by
         rw [h2]
         cases ad with
         | none =>
           obtain ⟨hnil,_⟩:=h4 rfl
           have:l=[]:=List.map_eq_nil_iff.1 hnil
           subst this;rw [run_convert_bytes_nil w' T e u1 u2 _ _ T' u3];rfl
         | some ad =>
           have hlc:(loadCells ad l.length).run P w'=.ok ((l.map fun b=>(b.toNat:Int)).map (Value.int .u8)).toArray w':=by
             have:=run_loadCells_list (P:=P) w' ad cs (fun j v hj=>hw.cellq (h5 ad rfl j v hj))
             rw [hcs,List.length_map] at this;rw [this,List.map_map];rfl
           rw [run_convert_bytes_string w' T T' e _ _ c u1 u2 u3,List.length_map,run_bytesToString w' ad l.length c _ hlc,push_bytes]
       simp [execOp,ho,hrun]
     · exact h.elim
   · exact h.elim
 · exact h.elim
variable (P) in
def evByt (n:Nat) (dst:Option Nat) (env:Env) (objs:List Ob) (nx:Nat) (T T':Nat) (s:SV) (K:KS):Prop:=match ty P T with
 | some ⟨.str,_,_⟩=>match ty P T' with
   | some ⟨.sl e,_,_⟩=>match ty P e,s with
     | some ⟨.int .u8,1,_⟩,.str l=>Side (l.length≤140737488355328) (dstV n dst env (.fs 1 eB l) fun env=>K env objs nx)
     | _,_=>False
   | _=>False
 | _=>False
theorem St.kept {w':World} (h:St P S σ env objs nx a w) (hm:Kept w w'):St P S σ env objs nx a w':=by
 have hl:Later w (S.A σ objs) w' (S.A σ objs):=hm.later _ fun _ _ hb=>hb
 exact h.upd (M:=fun _=>False) hm (fun _ x=>x.elim) (fun b hb=>.inl hb) ⟨fun r hr=>(h.obs.holds r hr).later hl fun b hb=>hm.block b (h.obs.lt b (owns_mem hr hb)).1 id,h.obs.disj,fun b hb=>⟨Nat.lt_of_lt_of_le (h.obs.lt b hb).1 hm.size,(h.obs.lt b hb).2⟩⟩
theorem bytes_kept (w:World) (e:TypeId) (s:ByteArray):Kept w (Go.Lib.bytesWorld w e s) :=
 ⟨rfl,rfl,rfl,by rw [Go.Lib.bytesWorld_size];omega,fun k hk _=>Go.Lib.bytesWorld_at_old w e s k hk⟩
theorem baOf_list (l:List (BitVec 8)):(baOf l).data.toList=l.map UInt8.ofBitVec:=rfl
theorem evByt_sound {T T':TypeId} {s:SV} {K:KS} (ho:o.op=.convert T T' x) (hx:evx P env x=some s) (h:evByt P S.n o.dst env objs nx T T' s K):DoesK P S env objs nx o true K:=by
 unfold evByt at h
 split at h
 · rename_i hT
   split at h
   · rename_i e _ _ hT'
     split at h
     · rename_i l he
       obtain ⟨hlen,h⟩:=h;intro σ a w hst X Q hX;have u1:=ty_str hT rfl;have u2:=ty_slice hT' rfl;have u3:=ty_int he rfl;have hv:=hvS.1 (hst.ev hx);have hsz:(baOf l).size=l.length:=baOf_size l;have hrun:(execOp a.eval o).run P w=.ok (.value (.slice (some ⟨w.heap.size,0,none⟩) l.length (grownCap w l.length 0 e))) (Go.Lib.bytesWorld w e (baOf l)):=by
         have:=Go.Lib.run_convert_string_bytes (P:=P) w T T' e (baOf l) u1 u2 u3
         rw [hsz] at this
         simp [execOp,ho,hv,this]
       have hmax:l.length≤maxLen:=Nat.le_trans hlen (by decide)
       have hst':=hst.kept (bytes_kept w e (baOf l));have hval:(SV.fs 1 eB l).hv (Go.Lib.bytesWorld w e (baOf l)) (S.A σ objs) σ (.slice (some ⟨w.heap.size,0,none⟩) l.length (grownCap w l.length 0 e)):=by
         refine ⟨_,_,rfl,grownCap_ge _ _ _ _,grownCap_le_maxLen _ _ _ _ hmax,fun h=>(by cases h),fun i hi=>rfl,fun ad had=>.inr ?_⟩
         cases had
         refine ⟨rfl,fun hA=>?_,_,_,_,Go.Lib.bytesWorld_at_new w e (baOf l),fun i hi=>?_⟩
         · rcases hA with hA|hA
           · exact absurd (hst.a0lt _ hA) (Nat.lt_irrefl _)
           · exact absurd (hst.obs.lt _ hA).1 (Nat.lt_irrefl _)
         · refine hL.single.2 ?_
           simp only [SV.hc];have e1:(Go.Lib.bytesCells w e (baOf l)).toList=l.map (bV .u8)++Array.toList (Array.replicate (grownCap w (baOf l).size 0 e - (baOf l).size) (.int .u8 0)):=by
             unfold Go.Lib.bytesCells;rw [Array.toList_append,Array.toList_map,baOf_list,List.map_map]
             rfl
           rw [e1,Nat.zero_add,Nat.mul_one,List.drop_append_of_le_length (by simp;omega)]
           rw [List.take_append_of_le_length (by simp;omega)]
           rw [List.drop_eq_getElem_cons (by simpa using hi)]
           simp
       unfold Oper.wp;rw [hrun];unfold dstV at h
       split at h
       · rename_i hd
         simp only [Oper.upon,hd];exact hX σ _ _ _ _ _ h hst' (fun _=>bytes_kept w e _)
       · rename_i d hd
         simp only [Oper.upon,hd]
         split at h
         · rename_i hlt
           exact hX σ _ _ _ _ _ (frcV_k (K:=fun s=>K ((d,s)::env) objs nx) h) (hst'.put (by simpa [Nat.blt_eq] using hlt) hval) (fun _=>bytes_kept w e _)
         · exact h.elim
     · exact h.elim
   · exact h.elim
 · exact h.elim
end
end Go.Proofs.YtfljmihdeimahaaGreatDoor
namespace Go.Proofs.YtfljmihdeimahaaGreatDoor
set_option linter.all false
open Go.RowKit Go.MapKept
section
variable {κ ν:Type} [DecidableEq κ]
def mget:List (κ×ν)→κ→Option ν
 | [],_=>none
 | p::r,a=>if p.1=a then some p.2 else mget r a
def mput:List (κ×ν)→κ→ν→List (κ×ν)
 | [],a,b=>[(a,b)]
 | p::r,a,b=>if p.1=a then (a,b)::r else p::mput r a b
theorem mget_mem {a:κ} {b:ν}:∀ {l:List (κ×ν)},mget l a=some b→(a,b)∈l
 | [],h=>by simp [mget] at h
 | p::r,h=>by
   unfold mget at h
   split at h
   · rename_i e
     simp only [Option.some.injEq] at h;subst e h;exact List.mem_cons_self ..
   · exact List.mem_cons_of_mem _ (mget_mem h)
theorem mput_fst {a:κ} {b:ν}:∀ {l:List (κ×ν)},(mput l a b).map Prod.fst=if a∈l.map Prod.fst then l.map Prod.fst else l.map Prod.fst++[a]
 | []=>by simp [mput]
 | p::r=>by
   unfold mput
   by_cases h:p.1=a
   · simp [h]
   · rw [if_neg h]
     simp only [List.map_cons,mput_fst (l:=r),List.mem_cons]
     by_cases hr:a∈r.map Prod.fst
     · rw [if_pos hr,if_pos (.inr hr)]
     · rw [if_neg hr,if_neg (fun e=>e.elim (fun e=>h e.symm) hr)];rfl
theorem mput_nodup {a:κ} {b:ν} {l:List (κ×ν)} (h:(l.map Prod.fst).Nodup):((mput l a b).map Prod.fst).Nodup:=by
 rw [mput_fst]
 split
 · exact h
 · rename_i hn
   rw [List.nodup_append];refine ⟨h,by simp,fun x hx y hy e=>?_⟩
   rw [List.mem_singleton.1 hy] at e;exact hn (e▸hx)
theorem mput_len {a:κ} {b:ν}:∀ {l:List (κ×ν)},(mput l a b).length≤l.length+1
 | []=>by simp [mput]
 | p::r=>by
   unfold mput
   split
   · simp
   · have:=mput_len (l:=r) (a:=a) (b:=b)
     simp only [List.length_cons];omega
theorem mget_put {a c:κ} {b:ν}:∀ {l:List (κ×ν)},mget (mput l a b) c=if a=c then some b else mget l c
 | []=>by simp [mput,mget]
 | p::r=>by
   unfold mput
   by_cases h:p.1=a
   · rw [if_pos h]
     subst h;unfold mget
     by_cases hc:p.1=c
     · simp [hc]
     · simp [hc]
   · rw [if_neg h]
     conv=>lhs;unfold mget
     conv=>rhs;unfold mget
     rw [mget_put (l:=r)]
     by_cases hc:p.1=c
     · subst hc
       rw [if_pos rfl,if_pos rfl,if_neg (fun e=>h e.symm)]
     · rw [if_neg hc,if_neg hc]
end
structure MKey (P:Program) (k:Nat) {κ:Type} (ek:κ→SV):Prop where
 ex:∃ kv:κ→Value,(∀ a b,kv a=kv b→a=b)∧(∀ a w A σ u,(ek a).hv w A σ u↔u=kv a)∧(∀ a w em,(Instr.checkKey em 10000 k (kv a)).run P w=.ok () w)∧(∀ a w,(Instr.keyThatStays (kv a) (kv a)).run P w=.ok (kv a) w) ∧
   ∀ a w (es:List MapEntry),(∀ e∈es,∃ b,e.key=kv b)→((Instr.findKey k (kv a) es).run P w=.ok none w∧∀ e∈es,e.key≠kv a)∨∃ j e,(Instr.findKey k (kv a) es).run P w=.ok (some (j,e.val)) w∧es[j]?=some e∧e.key=kv a
def ZeroIs (P:Program) (e:Nat) (s:SV):Prop:=∃ z,(∀ w,(zeroValue e).run P w=.ok z w)∧∀ w A σ,s.hv w A σ z
theorem mkey_plain {P:Program} {k:Nat} {d:TypeDesc} {κ:Type} {ek:κ→SV} (hk:P.underlying k=some d) (kv:κ→Value) (hd:∀ a,IsKey d (kv a)) (hi:∀ a b,kv a=kv b→a=b) (he:∀ a w A σ u,(ek a).hv w A σ u↔u=kv a):MKey P k ek:=by
 refine ⟨kv,hi,he,fun a w em=>run_checkKey hk (hd a) em 9999,fun a w=>run_keyThatStays (hd a),fun a w es hes=>?_⟩
 have hks:∀ y∈es,IsKey d y.key:=fun y hy=>by
   obtain ⟨b,hb⟩:=hes y hy;rw [hb];exact hd b
 rcases findNow_spec (hd a) es 0 hks with ⟨h1,h2⟩|⟨j,e0,h1,h2,h3⟩
 · exact .inl ⟨run_findKey hk h1,h2⟩
 · exact .inr ⟨j,e0,by simpa using run_findKey hk h1,h2,h3⟩
theorem mkey_str {P:Program} {k:Nat} (hk:P.underlying k=some .string):MKey P k (fun s:List (BitVec 8)=>.str s) :=
 mkey_plain hk (fun s=>.string (baOf s)) (fun _=>trivial) (fun a b h=>baOf_inj (by simpa using h)) (fun a w A σ u=>by simp [SV.hv,SV.h1,SV.hc])
section
variable {P:Program} [TabC P] {S:Sig} {σ:Sg} {env:Env} {objs:List Ob} {nx:Nat} {o:Oper} {a:Act} {w:World} {x y z:Operand} {K:KS}
section
variable {κ ν:Type} [DecidableEq κ] {ek:κ→SV} {ev:ν→SV} {kv:κ→Value} {A:Own}
theorem mE_keys (he:∀ a w A σ u,(ek a).hv w A σ u↔u=kv a):∀ {l:List (κ×ν)} {es:List MapEntry},mE w A ek ev l es→∀ e∈es,∃ b,e.key=kv b
 | [],_,h=>by subst h;intro e he;cases he
 | p::r,_,⟨e,t,h1,h2,h3,h4⟩=>by
   subst h1;intro f hf;rcases List.mem_cons.1 hf with rfl|hf
   · exact ⟨_,(he _ _ _ _ _).1 h2⟩
   · exact mE_keys he h4 f hf
theorem mE_miss (he:∀ a w A σ u,(ek a).hv w A σ u↔u=kv a) {a:κ}:∀ {l:List (κ×ν)} {es:List MapEntry},mE w A ek ev l es→(∀ e∈es,e.key≠kv a)→mget l a=none∧∀ b val born,(ev b).hv w A sg0 val→mE w A ek ev (mput l a b) (es++[⟨kv a,val,born⟩])
 | [],_,h,_=>by
   subst h;exact ⟨rfl,fun b val born hv=>⟨_,_,rfl,(he _ _ _ _ _).2 rfl,hv,rfl⟩⟩
 | p::r,_,⟨e,t,h1,h2,h3,h4⟩,hn=>by
   subst h1;have hpa:¬ p.1=a:=fun q=>hn e (by simp) (by rw [(he _ _ _ _ _).1 h2,q])
   obtain ⟨k1,k2⟩:=mE_miss he h4 fun e he=>hn e (by simp [he])
   refine ⟨by unfold mget;rw [if_neg hpa];exact k1,fun b val born hv=>?_⟩
   unfold mput;rw [if_neg hpa];exact ⟨e,_,rfl,h2,h3,k2 b val born hv⟩
theorem mE_hit (he:∀ a w A σ u,(ek a).hv w A σ u↔u=kv a) (hi:∀ a b,kv a=kv b→a=b) {a:κ}:∀ {l:List (κ×ν)} {es:List MapEntry} {j:Nat} {e:MapEntry},mE w A ek ev l es→(l.map Prod.fst).Nodup→es[j]?=some e→e.key=kv a →
   ∃ b',mget l a=some b'∧(ev b').hv w A sg0 e.val∧∀ b val,(ev b).hv w A sg0 val→mE w A ek ev (mput l a b) (es.modify j fun e=>{ e with key:=kv a,val:=val })
 | [],_,j,e,h,_,hj,_=>by subst h;simp at hj
 | p::r,_,0,e,⟨e',t,h1,h2,h3,h4⟩,hnd,hj,hk=>by
   subst h1;simp only [List.getElem?_cons_zero,Option.some.injEq] at hj;subst hj;have hpa:p.1=a:=hi _ _ (((he _ _ _ _ _).1 h2).symm.trans hk);refine ⟨p.2,by unfold mget;rw [if_pos hpa],h3,fun b val hv=>?_⟩
   unfold mput;rw [if_pos hpa];exact ⟨_,t,rfl,(he _ _ _ _ _).2 rfl,hv,h4⟩
 | p::r,_,j+1,e,⟨e',t,h1,h2,h3,h4⟩,hnd,hj,hk=>by
   subst h1;simp only [List.getElem?_cons_succ] at hj;simp only [List.map_cons,List.nodup_cons] at hnd;obtain ⟨b',k1,k2,k3⟩:=mE_hit he hi h4 hnd.2 hj hk;have hpa:¬ p.1=a:=fun q=>hnd.1 (q▸List.mem_map.2 ⟨_,mget_mem k1,rfl⟩)
   refine ⟨b',by unfold mget;rw [if_neg hpa];exact k1,k2,fun b val hv=>?_⟩
   unfold mput;rw [if_neg hpa];exact ⟨e',_,rfl,h2,h3,k3 b val hv⟩
theorem mE_len:∀ {l:List (κ×ν)} {es:List MapEntry},mE w A ek ev l es→es.length=l.length
 | [],_,h=>by subst h;rfl
 | p::r,_,⟨e,t,h1,_,_,h4⟩=>by subst h1;simp [mE_len h4]
end
inductive MkS (k e:Nat) (K:SO→Prop):Prop
 | mk {κ ν:Type} (inst:DecidableEq κ) (ek:κ→SV) (ev:ν→SV) (h:K (.mp k e inst ek ev []))
variable (P) in
def evMkMap (n:Nat) (dst:Option Nat) (env:Env) (objs:List Ob) (nx:Nat) (T:Nat) (K:KS):Prop:=dstK n dst fun d=>match ty P T with
 | some ⟨.map k e,_,_⟩=>MkS k e fun so=>K ((d,.own nx)::env) ((nx,so)::objs) (nx+1)
 | _=>False
theorem evMkMap_sound {T:TypeId} (ho:o.op=.makeMap T none) (h:evMkMap P S.n o.dst env objs nx T K):DoesK P S env objs nx o true K:=by
 obtain ⟨d,hd,hlt,h2⟩:=dstK_spec h
 replace h:=h2
 clear h2
 split at h
 · rename_i k e _ _ ht
   obtain ⟨inst,ek,ev,h⟩:=h;refine DoesK.of h fun σ a w hst=>⟨.value (.map (some w.heap.size)),_,w.alloc (.map #[] 0),σ.set nx (.map (some w.heap.size)),?_,.inl rfl,?_,fun _=>Mod.alloc _ w _⟩
   · have hm:=run_makeMap (P:=P) T w
     simp only [execOp,ho,Sem.run_bind,Option.map_none,hm,Result.andThen_ok,Sem.run_pure]
   · rw [hd]
     have h1:=hst.name (.map (some w.heap.size));have hle:=Sg.le_set (σ:=σ) (v:=.map (some w.heap.size)) (hst.dom nx (Nat.le_refl _));have hown:∀ b,owns (σ.set nx (.map (some w.heap.size))) ((nx,.mp k e inst ek ev [])::objs) b→owns (σ.set nx (.map (some w.heap.size))) objs b∨w.heap.size≤b:=fun b hb=>by
       rcases hb with ⟨v,hv,hb⟩|hb
       · simp only [Sg.set_self,Option.some.injEq] at hv
         subst hv;simp only [blkO,Option.some.injEq] at hb;subst hb;exact .inr (Nat.le_refl _)
       · exact .inl hb
     refine (h1.upd (M:=fun _=>False) (Mod.alloc _ w _) (fun _ x=>x.elim) hown (h1.obs.cons (Mod.alloc _ w _) ⟨w.heap.size,#[],0,Sg.set_self _ _ _,heap_alloc_new w _,rfl,by simp,by simp⟩ (fun b hb=>?_) hst.a0lt)).put hlt ⟨_,Sg.set_self _ _ _,rfl,rfl⟩
     obtain ⟨v,hv,hb⟩:=hb;simp only [Sg.set_self,Option.some.injEq] at hv;subst hv;simp only [blkO,Option.some.injEq] at hb;subst hb;exact Nat.le_refl _
 · exact h.elim
def tupB:SV→Bool
 | .tup _=>true
 | _=>false
theorem tupB_spec {s:SV} (h:tupB s=false):∀ vs,s≠.tup vs:=fun vs e=>by subst e;cases h
def mpV:SV→Bool
 | .tup _=>false
 | .undef=>false
 | .agg ps=>noName ps
 | s=>noName [s]
theorem plain_hv {s:SV} {v:Value} {A:Own} (hn:noName [s]=true) (h:mpV s=true) (hv:s.hv w A σ v):s.hv w A sg0 v:=by
 cases s with
 | tup vs=>cases h
 | agg ps =>
   obtain ⟨cs,h1,h2⟩:=hv;exact ⟨cs,h1,noName_spec h h2⟩
 | undef=>cases h
 | _ =>
   simp only [SV.hv,SV.h1] at hv ⊢
   have:=noName_spec (σ':=sg0) hn (hL.single.2 hv)
   exact hL.single.1 this
variable (P) in
inductive LookS (kt et:Nat) {κ ν:Type} [DecidableEq κ] (ek:κ→SV) (ev:ν→SV) (l:List (κ×ν)) (u:SV) (K:SV→Bool→Prop):Prop
 | mk (a:κ) (hu:ek a=u) (hk:MKey P kt ek) (z:SV) (hz:ZeroIs P et z) (ht:tupB z=false∧∀ b,tupB (ev b)=false) (hit:∀ b,mget l a=some b→frcA (ev b) fun r=>K r true) (miss:mget l a=none→frcA z fun r=>K r false)
def okK (cok:Bool) (d:Nat) (env:Env) (objs:List Ob) (nx:Nat) (K:KS) (r:SV) (ok:Bool):Prop:=match cok with
 | true=>K ((d,.tup [r,.bool ok])::env) objs nx
 | false=>K ((d,r)::env) objs nx
variable (P) in
def evLook (n:Nat) (dst:Option Nat) (env:Env) (objs:List Ob) (nx:Nat) (T:Nat) (s u:SV) (cok:Bool) (K:KS):Prop:=dstK n dst fun d=>match ty P T with
 | some ⟨.map kt et,_,_⟩=>match s with
   | .own k=>match lk objs k with
     | some (.mp _ _ _ ek ev l)=>LookS P kt et ek ev l u (okK cok d env objs nx K)
     | _=>False
   | _=>False
 | _=>False
theorem ty_map {t:Nat} {i:TI} {k e:Nat} (h:ty P t=some i) (hk:i.k=.map k e):P.underlying t=some (.map k e):=by
 obtain ⟨inf,d,h1,h2,h3,h4,h5⟩:=ty_spec h;rw [h2];rw [hk] at h5
 cases d<;>simp_all [tkB]
theorem notTup {s:SV} {v:Value} {A:Own} (h:s.hv w A σ v) (hn:∀ vs,s≠.tup vs):s.h1 w A σ v:=by cases s<;>first|exact h|exact absurd rfl (hn _)
theorem hv_up {s:SV} {v:Value} {A:Own} (h:s.hv w A sg0 v):s.hv w A σ v:=h.names fun k u e=>by cases e
theorem evLook_sound {T:TypeId} {s u:SV} {cok:Bool} (ho:o.op=.lookup T x y cok) (hx:evx P env x=some s) (hy:evx P env y=some u) (h:evLook P S.n o.dst env objs nx T s u cok K):DoesK P S env objs nx o true K:=by
 obtain ⟨d,hd,hlt,h2⟩:=dstK_spec h
 replace h:=h2
 clear h2
 split at h
 · rename_i kt et _ _ ht
   split at h
   · rename_i k
     split at h
     · rename_i κ ν inst ek ev l hk
       obtain ⟨a0,hu,⟨kv,hi,he,hck,hst0,hfd⟩,zs,⟨zv,hz1,hz2⟩,hnt,hit,miss⟩:=h;intro σ a w hst X Q hX;obtain ⟨b,es,clock,h1,h2,h3,h4,h5⟩:=lk_holds hst hk;have ex:a.eval x=.map (some b):=by
         have:=own_ev hx hst
         rw [h1] at this;exact (Option.some.inj this).symm
       have ey:a.eval y=kv a0:=by
         have:=hst.ev hy
         rw [← hu] at this;exact (he _ _ _ _ _).1 this
       have hu0:=ty_map (P:=P) ht rfl;have key:∀ v,(Instr.lookup T (.map (some b)) (kv a0) cok).run P w=.ok v w→o.wp P a w X Q=X (a.put o.dst v) w:=fun v hv=>by
         unfold Oper.wp;have e:(execOp a.eval o).run P w=.ok (.value v) w:=by
           simp only [execOp,ho,ex,ey,Sem.run_bind,hv,Result.andThen_ok,Sem.run_pure]
         rw [e];rfl
       have fin:∀ (r:SV) (ok:Bool) (v:Value),okK cok d env objs nx K r ok→r.hv w (S.A σ objs) σ v→(∀ vs,r≠.tup vs)→(Instr.lookup T (.map (some b)) (kv a0) cok).run P w=.ok (if cok then .tuple #[v,.bool ok] else v) w→o.wp P a w X Q:=by
         intro r ok v hk hv hn hrun;rw [key _ hrun]
         cases cok with
         | true =>
           refine hX σ _ _ _ _ _ hk ?_ (fun _=>Mod.refl _ _)
           rw [hd];refine hst.put hlt ⟨[v,.bool ok],rfl,v,_,rfl,notTup hv hn,.bool ok,[],rfl,?_,rfl⟩;simp only [SV.h1,SV.hc]
         | false =>
           refine hX σ _ _ _ _ _ hk ?_ (fun _=>Mod.refl _ _)
           rw [hd];exact hst.put hlt hv
       have hkeys:=mE_keys he h3;rcases hfd a0 w es.toList hkeys with ⟨g1,g2⟩|⟨j,e0,g1,g2,g3⟩
       · obtain ⟨m1,-⟩:=mE_miss he h3 g2
         refine fin zs false zv (frcA_k (miss m1)) (hz2 _ _ _) (tupB_spec hnt.1) ?_
         simp [Instr.lookup,run_underlying hu0,Go.MapKept.run_getObj_map h2,hck,g1,hz1,Result.andThen]
       · obtain ⟨b',m1,m2,-⟩:=mE_hit he hi h3 h4 g2 g3
         refine fin (ev b') true e0.val (frcA_k (hit b' m1)) (hv_up m2) (tupB_spec (hnt.2 b')) ?_
         simp [Instr.lookup,run_underlying hu0,Go.MapKept.run_getObj_map h2,hck,g1,Result.andThen]
     · exact h.elim
   · exact h.elim
 · exact h.elim
inductive UpdS (P:Program) (kt et:Nat) {κ ν:Type} (inst:DecidableEq κ) (ek:κ→SV) (ev:ν→SV) (l:List (κ×ν)) (u v:SV) (K:SO→Prop):Prop
 | mk (a:κ) (hu:ek a=u) (b:ν) (hv:ev b=v) (hk:MKey P kt ek) (hl:l.length<140737488355328) (k:K (.mp kt et inst ek ev (mput l a b)))
variable (P) in
def evUpd (dst:Option Nat) (env:Env) (objs:List Ob) (nx:Nat) (T:Nat) (s u v:SV) (K:KS):Prop:=match dst with
 | none=>match ty P T with
   | some ⟨.map kt et,_,_⟩=>match s with
     | .own k=>match lk objs k with
       | some (.mp _ _ inst ek ev l)=>match noName [v],mpV v with
         | true,true=>UpdS P kt et inst ek ev l u v fun so=>setK objs k k so fun o=>K env o nx
         | _,_=>False
       | _=>False
     | _=>False
   | _=>False
 | some _=>False
theorem evUpd_sound {T:TypeId} {s u v:SV} (ho:o.op=.mapUpdate T x y z) (hx:evx P env x=some s) (hy:evx P env y=some u) (hz:evx P env z=some v) (h:evUpd P o.dst env objs nx T s u v K):DoesK P S env objs nx o false K:=by
 unfold evUpd at h
 split at h
 · rename_i hd
   split at h
   · rename_i kt et _ _ ht
     split at h
     · rename_i k
       split at h
       · rename_i k0 e0 κ ν inst ek ev l hk
         split at h
         · rename_i hnn hpl
           obtain ⟨a0,hu,b0,hv,⟨kv,hi,he,hck,hst0,hfd⟩,hl,h⟩:=h;obtain ⟨objs',hset,hK⟩:=setK_spec h;have hs:=setO_spec hk hset;refine DoesK.of hK fun σ a w hst=>?_
           obtain ⟨b,es,clock,h1,h2,h3,h4,h5⟩:=lk_holds hst hk;have ex:a.eval x=.map (some b):=by
             have:=own_ev hx hst
             rw [h1] at this;exact (Option.some.inj this).symm
           have ey:a.eval y=kv a0:=by
             have:=hst.ev hy
             rw [← hu] at this;exact (he _ _ _ _ _).1 this
           have ez:(ev b0).hv w (S.A σ objs) sg0 (a.eval z):=by
             have:=hst.ev hz
             rw [hv];exact plain_hv hnn hpl this
           have hu0:=ty_map (P:=P) ht rfl;have hkeys:=mE_keys he h3;have hlen:=mE_len h3;have main:∀ (es':Array MapEntry) (clock':Nat),(Instr.mapUpdate T (.map (some b)) (kv a0) (a.eval z)).run P w=.ok () { w with heap:=w.heap.setIfInBounds b (.map es' clock') }→mE w (S.A σ objs) ek ev (mput l a0 b0) es'.toList →
               ∃ r v w' σ',(execOp a.eval o).run P w=.ok r w'∧(r=.value v∨(r=.skip∧v=undef))∧St P S σ' env objs' nx (a.put o.dst v) w'∧(false=true→Kept w w'):=by
             intro es' clock' hrun hE;have hlt:b<w.heap.size:=(Array.getElem?_eq_some_iff.1 h2).1;have hm:Mod (fun c=>c=b) w { w with heap:=w.heap.setIfInBounds b (.map es' clock') } :=
               ⟨rfl,rfl,rfl,by simp,fun i hi hne=>by
                 show (w.heap.setIfInBounds b _)[i]?=_;rw [Array.getElem?_setIfInBounds_ne (fun e=>hne e.symm)]⟩
             obtain ⟨R,r1,r2,_⟩:=hs.owns_iff (σ:=σ);have hown:∀ (l':List (κ×ν)) (k1 e1:Nat) c,(SO.mp k1 e1 inst ek ev l').own σ k c↔c=b:=fun l' k1 e1 c=>by
               simp only [SO.own,h1,Option.some.injEq];exact ⟨fun ⟨u,hu,hc⟩=>by subst hu;simp only [blkO,Option.some.injEq] at hc;exact hc.symm,fun e=>⟨_,rfl,by rw [e];rfl⟩⟩
             have hM:∀ c,c=b→owns σ objs c:=fun c hc=>(r1 c).2 (.inr ((hown _ _ _ c).2 hc))
             have how:∀ c,owns σ objs' c→owns σ objs c∨w.heap.size≤c:=fun c hc=>.inl ((r1 c).2 (((r2 c).1 hc).imp id fun h=>(hown _ _ _ c).2 ((hown _ _ _ c).1 h)))
             refine ⟨.skip,undef,{ w with heap:=w.heap.setIfInBounds b (.map es' clock') },σ,?_,.inr ⟨rfl,rfl⟩,?_,fun e=>by cases e⟩
             · simp only [execOp,ho,ex,ey,Sem.run_bind,hrun,Result.andThen_ok,Sem.run_pure]
             · rw [hd]
               refine hst.upd hm hM how (hst.obs.set hs (hm.mono fun c hc=>(hown _ _ _ c).2 hc) ⟨b,es',clock',h1,(Go.MapKept.heap_set h2).1,hE.later (hst.lat hm hM how),mput_nodup h4,?_⟩ (fun c hc=>.inl ((hown _ _ _ c).2 ((hown _ _ _ c).1 hc))) hst.a0lt)
               have:=mput_len (l:=l) (a:=a0) (b:=b0);omega
           rcases hfd a0 w es.toList hkeys with ⟨g1,g2⟩|⟨j,e0,g1,g2,g3⟩
           · obtain ⟨-,m2⟩:=mE_miss he h3 g2
             refine main (es.push ⟨kv a0,a.eval z,clock⟩) (clock+1) ?_ (by rw [Array.toList_push];exact m2 _ _ _ ez)
             simp [Instr.mapUpdate,run_underlying hu0,Go.MapKept.run_getObj_map h2,hck,g1,Go.MapKept.run_setObj_map _ h2,Result.andThen]
           · obtain ⟨b',m1,m2,m3⟩:=mE_hit he hi h3 h4 g2 g3
             have hj:es[j]?=some e0:=by simpa using g2
             refine main (es.modify j fun e=>{ e with key:=kv a0,val:=a.eval z }) clock ?_ (by rw [Array.toList_modify];exact m3 _ _ ez)
             simp [Instr.mapUpdate,run_underlying hu0,Go.MapKept.run_getObj_map h2,hck,g1,hj,g3,hst0,Go.MapKept.run_setObj_map _ h2,Result.andThen]
         · exact h.elim
       · exact h.elim
     · exact h.elim
   · exact h.elim
 · exact h.elim
end
end Go.Proofs.YtfljmihdeimahaaGreatDoor
namespace Go.Proofs.YtfljmihdeimahaaGreatDoor
set_option linter.all false
open Go.RowKit
abbrev Ord:=OT
structure Hints where
 cs:List (Nat×Ctr)
 tr:List Nat
 cut:List Nat
 cutb:List Nat
def memB:List Nat→Nat→Bool
 | [],_=>false
 | k::r,n=>match Nat.beq k n with
   | true=>true
   | false=>memB r n
section
variable {P:Program} [TabC P] {S:Sig} {σ:Sg} {env:Env} {objs:List Ob} {nx:Nat} {o:Oper} {a:Act} {w:World} {x y:Operand} {K:KS}
variable (P) in
def PureG (S:Sig) (env:Env) (objs:List Ob) (nx:Nat) (o:Oper) (K:SV→List Ob→Nat→Prop):Prop :=
 ∀ σ a w,St P S σ env objs nx a w→∃ s v σ' objs' nx',K s objs' nx'∧St P S σ' env objs' nx' a w∧s.hv w (S.A σ' objs') σ' v∧∀ w',(execOp a.eval o).run P w'=.ok (.value v) w'
theorem PureK.g {K:SV→List Ob→Nat→Prop} (h:PureK P S env objs nx o fun s=>K s objs nx):PureG P S env objs nx o K:=fun σ a w hst=>by
 obtain ⟨s,v,h1,h2,h3⟩:=h σ a w hst;exact ⟨s,v,σ,objs,nx,h1,hst,h2,h3⟩
variable (P) in
def evSl (env:Env) (objs:List Ob) (nx:Nat) (op:Op) (K:SV→List Ob→Nat→Prop):Prop:=match op with
 | .slice _ x _ _ _=>match evx P env x with
   | some (.own k)=>frzL objs k fun o=>evPure P env o op fun s=>K s o nx
   | _=>evPure P env objs op fun s=>K s objs nx
 | op=>evPure P env objs op fun s=>K s objs nx
theorem evSl_sound {K:SV→List Ob→Nat→Prop} (h:evSl P env objs nx o.op K):PureG P S env objs nx o K:=by
 unfold evSl at h
 split at h
 · rename_i hop
   split at h
   · obtain ⟨o',h,g⟩:=frzL_sound (P:=P) h
     have:=evPure_sound (S:=S) (nx:=nx) h
     intro σ a w hst;obtain ⟨s,v,h1,h2,h3⟩:=this σ a w (g.1 S env nx σ a w hst);exact ⟨s,v,σ,o',nx,h1,g.1 S env nx σ a w hst,h2,h3⟩
   · exact (evPure_sound h).g
 · exact (evPure_sound h).g
def lkC:List (Nat×Ctr)→Nat→Option Ctr
 | [],_=>none
 | (k,c)::r,n=>match Nat.beq k n with
   | true=>some c
   | false=>lkC r n
def CsOk (P:Program) [TabC P]:List (Nat×Ctr)→Prop
 | []=>True
 | (k,c)::r=>c.Ok P k∧CsOk P r
theorem CsOk.get:∀ {l:List (Nat×Ctr)} {k:Nat} {c:Ctr},CsOk P l→lkC l k=some c→c.Ok P k
 | [],_,_,_,h=>by simp [lkC] at h
 | (j,d)::r,k,c,⟨h1,h2⟩,h=>by
   unfold lkC at h
   split at h
   · rename_i hb
     obtain rfl:=Nat.eq_of_beq_eq_true hb
     cases h;exact h1
   · exact h2.get h
inductive Or2 (p q:Prop):Prop
 | l (h:p)
 | r (h:q)
def hasC:List (Nat×Ctr)→Nat→Bool
 | [],_=>false
 | (k,_)::r,n=>match Nat.beq k n with
   | true=>true
   | false=>hasC r n
def keptC:List (Nat×Ctr)→Nat→Bool
 | [],_=>true
 | (k,c)::r,n=>match Nat.beq k n with
   | true=>match kpB c.kp (Nat.beq c.nn 0) with
     | true=>keptC r n
     | false=>false
   | false=>keptC r n
def callsG (cs:List (Nat×Ctr)) (f n:Nat) (dst:Option Nat) (ss:List SV) (env:Env) (objs:List Ob) (nx:Nat) (K:KS):Prop:=match cs with
 | []=>False
 | (k,c)::r=>match Nat.beq k f with
   | true=>match hasC r f with
     | true=>Or2 (callG c n dst ss env objs nx K) (callsG r f n dst ss env objs nx K)
     | false=>callG c n dst ss env objs nx K
   | false=>callsG r f n dst ss env objs nx K
theorem callsG_sound {f:Nat} {as:Array Operand} {ts:Array TypeId} {ss:List SV} (ho:o.op=.call { callee:=.value (.func f),args:=as,argTypes:=ts }) (hf:nth (TabC.cl P) f=some true) (ha:evs P env as.toList=some ss) (hnt:noTups ss=true) :
   ∀ {cs:List (Nat×Ctr)},CsOk P cs→callsG cs f S.n o.dst ss env objs nx K→∀ X Q σ a w,St P S σ env objs nx a w→(∀ σ' env' objs' nx' a' w',K env' objs' nx'→St P S σ' env' objs' nx' a' w'→(keptC cs f=true→Kept w w')→X a' w')→o.wp P a w X Q
 | [],_,h=>h.elim
 | (k,c)::r,⟨h1,h2⟩,h=>by
   have one:Nat.beq k f=true→callG c S.n o.dst ss env objs nx K→∀ X Q σ a w,St P S σ env objs nx a w→(∀ σ' env' objs' nx' a' w',K env' objs' nx'→St P S σ' env' objs' nx' a' w'→(keptC ((k,c)::r) f=true→Kept w w')→X a' w')→o.wp P a w X Q:=by
     intro hb hg X Q σ a w hst hX;obtain rfl:=Nat.eq_of_beq_eq_true hb;refine callG_sound h1 ho hf ha hnt hg σ a w hst X Q fun σ' e' o' n' a' w' g1 g2 g3=>hX σ' e' o' n' a' w' g1 g2 fun hk=>g3 ?_
     unfold keptC at hk;rw [hb] at hk
     simp only at hk
     split at hk
     · assumption
     · cases hk
   unfold callsG at h
   split at h
   · rename_i hb
     split at h
     · intro X Q σ a w hst hX
       rcases h with h|h
       · exact one hb h X Q σ a w hst hX
       · refine callsG_sound ho hf ha hnt h2 h X Q σ a w hst fun σ' e' o' n' a' w' g1 g2 g3=>hX σ' e' o' n' a' w' g1 g2 fun hk=>g3 ?_
         unfold keptC at hk;rw [hb] at hk
         simp only at hk
         split at hk
         · exact hk
         · cases hk
     · exact one hb h
   · rename_i hb
     intro X Q σ a w hst hX;refine callsG_sound ho hf ha hnt h2 h X Q σ a w hst fun σ' e' o' n' a' w' g1 g2 g3=>hX σ' e' o' n' a' w' g1 g2 fun hk=>g3 ?_
     unfold keptC at hk;rw [hb] at hk;exact hk
def callsN (chk:List Ob→Bool) (cs:List (Nat×Ctr)) (f n:Nat) (dst:Option Nat) (ss:List SV) (env:Env) (objs:List Ob) (nx:Nat) (K:KS):Prop:=match cs with
 | []=>False
 | (k,c)::r=>match Nat.beq k f with
   | true=>match hasC r f with
     | true=>Or2 (callGC chk c n dst ss env objs nx K) (callsN chk r f n dst ss env objs nx K)
     | false=>callGC chk c n dst ss env objs nx K
   | false=>callsN chk r f n dst ss env objs nx K
theorem callsN_sound {chk:List Ob→Bool} {f:Nat} {as:Array Operand} {ts:Array TypeId} {ss:List SV} (ho:o.op=.call { callee:=.value (.func f),args:=as,argTypes:=ts }) (hf:nth (TabC.cl P) f=some true) (ha:evs P env as.toList=some ss) (hnt:noTups ss=true) :
   ∀ {cs:List (Nat×Ctr)},CsOk P cs→callsN chk cs f S.n o.dst ss env objs nx K→∀ X Q σ a w,St P S σ env objs nx a w→(∀ σ' env' objs' nx' a' w',K env' objs' nx'→St P S σ' env' objs' nx' a' w'→(∃ σ2 tn,chk tn=true∧Mod (owns σ2 tn) w w'∧∀ k,k<S.nn→∀ v,σ2 k=some v→S.s0 k=some v)→X a' w')→o.wp P a w X Q
 | [],_,h=>h.elim
 | (k,c)::r,⟨h1,h2⟩,h=>by
   have one:Nat.beq k f=true→callGC chk c S.n o.dst ss env objs nx K→∀ X Q σ a w,St P S σ env objs nx a w→(∀ σ' env' objs' nx' a' w',K env' objs' nx'→St P S σ' env' objs' nx' a' w'→(∃ σ2 tn,chk tn=true∧Mod (owns σ2 tn) w w'∧∀ k,k<S.nn→∀ v,σ2 k=some v→S.s0 k=some v)→X a' w')→o.wp P a w X Q:=by
     intro hb hg;obtain rfl:=Nat.eq_of_beq_eq_true hb;exact callGC_sound h1 ho hf ha hnt hg
   unfold callsN at h
   split at h
   · rename_i hb
     split at h
     · rcases h with h|h
       · exact one hb h
       · exact callsN_sound ho hf ha hnt h2 h
     · exact one hb h
   · exact callsN_sound ho hf ha hnt h2 h
variable (P) in
def strQ (T':Nat):Bool:=match ty P T' with
 | some ⟨.str,_,_⟩=>true
 | _=>false
variable (P) in
def cvQ (op:Op):Bool:=match op with
 | .convert T T' _=>match ty P T,ty P T' with
   | some ⟨.sl _,_,_⟩,some ⟨.str,_,_⟩=>true
   | some ⟨.str,_,_⟩,some ⟨.sl _,_,_⟩=>true
   | _,_=>false
 | _=>false
def orQ:Bool→Bool→Bool
 | true,_=>true
 | false,b=>b
variable (P) in
def vcEff (cs:List (Nat×Ctr)) (n:Nat) (o:Oper) (env:Env) (objs:List Ob) (nx:Nat) (K:KS):Prop:=match o.op with
 | .alloc T=>evAlloc P n o.dst env objs nx T K
 | .box T x=>ev1 P env x fun s=>evBox n o.dst env objs nx T s K
 | .store T x y=>ev1 P env x fun s=>ev1 P env y fun u=>evStore P o.dst env objs nx T s u K
 | .buildSlice T m ps=>evLits P n o.dst env objs nx T m ps.toList K
 | .convert T T' x=>match Nat.beq T T' with
   | true=>ev1 P env x fun s=>evCvS P n o.dst env objs nx T s K
   | false=>match strQ P T' with
     | true=>dstK n o.dst fun d=>ev1 P env x fun s=>evStr P objs T T' s fun s=>K ((d,s)::env) objs nx
     | false=>ev1 P env x fun s=>evByt P n o.dst env objs nx T T' s K
 | .makeSlice T x y=>ev1 P env x fun s=>ev1 P env y fun u=>evMake P n o.dst env objs nx T s u K
 | .load T x=>dstK n o.dst fun d=>ev1 P env x fun s=>evLoad P objs T s fun s=>K ((d,s)::env) objs nx
 | .makeMap T r=>match r with
   | none=>evMkMap P n o.dst env objs nx T K
   | some _=>False
 | .lookup T x y c=>ev1 P env x fun s=>ev1 P env y fun u=>evLook P n o.dst env objs nx T s u c K
 | .mapUpdate T x y z=>ev1 P env x fun s=>ev1 P env y fun u=>ev1 P env z fun v=>evUpd P o.dst env objs nx T s u v K
 | .call c=>match c with
   | { callee:=.builtin .append,args:=⟨[x,y]⟩,argTypes:=⟨[T,T']⟩ }=>ev1 P env x fun s=>ev1 P env y fun u=>evAppend P n o.dst env objs nx T T' s u K
   | { callee:=.builtin .copy,args:=⟨[x,y]⟩,argTypes:=⟨[T,T']⟩ }=>ev1 P env x fun s=>ev1 P env y fun u=>evCopy P n o.dst env objs nx T s u K
   | { callee:=.value (.func f),args:=as,argTypes:=_ }=>match nth (TabC.cl P) f,evs P env as.toList with
     | some true,some ss=>match noTups ss with
       | true=>callsG cs f n o.dst ss env objs nx K
       | false=>False
     | _,_=>False
   | _=>False
 | _=>False
def keptB (cs:List (Nat×Ctr)) (op:Op):Bool:=match op with
 | .alloc _=>true
 | .box _ _=>true
 | .buildSlice _ _ _=>true
 | .makeSlice _ _ _=>true
 | .load _ _=>true
 | .makeMap _ _=>true
 | .lookup _ _ _ _=>true
 | .convert T T' _=>match Nat.beq T T' with
   | true=>false
   | false=>true
 | .call c=>match c with
   | { callee:=.value (.func f),.. }=>keptC cs f
   | _=>false
 | _=>false
theorem DoesK.weak {k k':Bool} {K:KS} (h:DoesK P S env objs nx o k K) (hk:k'=true→k=true):DoesK P S env objs nx o k' K:=fun σ a w hst X Q hX=>h σ a w hst X Q fun σ' e' o' n' a' w' h1 h2 h3=>hX σ' e' o' n' a' w' h1 h2 fun e=>h3 (hk e)
theorem vcEff_sound {cs:List (Nat×Ctr)} (hcs:CsOk P cs) (h:vcEff P cs S.n o env objs nx K):DoesK P S env objs nx o (keptB cs o.op) K:=by
 unfold vcEff at h
 split at h
 · rename_i ho;rw [ho];exact evAlloc_sound ho h
 · rename_i ho;rw [ho];obtain ⟨s,hs,h⟩:=ev1_spec h;exact evBox_sound ho hs h
 · rename_i ho;rw [ho];obtain ⟨s,hs,h⟩:=ev1_spec h;obtain ⟨u,hu,h⟩:=ev1_spec h;exact evStore_sound ho hs hu h
 · rename_i ho;rw [ho];exact evLits_sound ho h
 · rename_i ho
   split at h
   · rename_i hT
     obtain rfl:=Nat.eq_of_beq_eq_true hT;obtain ⟨s,hs,h⟩:=ev1_spec h;rw [ho];exact (evCvS_sound ho hs h).weak (fun e=>by simp [keptB,Nat.beq_refl] at e)
   · rename_i hne
     split at h
     · obtain ⟨d,hd,hlt,h⟩:=dstK_spec h
       obtain ⟨s,hs,h⟩:=ev1_spec h
       have:=evStr_sound (S:=S) (nx:=nx) ho hs h
       intro σ a w hst X Q hX;obtain ⟨s,v,h1,h2,h3⟩:=this σ a w hst;unfold Oper.wp;rw [h3 w (Mod.refl _ _)];simp only [Oper.upon,hd];exact hX σ _ _ _ _ _ h1 (hst.put hlt h2) (fun _=>Mod.refl _ _)
     · obtain ⟨s,hs,h⟩:=ev1_spec h
       exact (evByt_sound ho hs h).weak (fun _=>rfl)
 · rename_i ho;rw [ho];obtain ⟨s,hs,h⟩:=ev1_spec h;obtain ⟨u,hu,h⟩:=ev1_spec h;exact evMake_sound ho hs hu h
 · rename_i ho
   obtain ⟨d,hd,hlt,h⟩:=dstK_spec h;obtain ⟨s,hs,h⟩:=ev1_spec h
   have:=evLoad_sound (S:=S) (nx:=nx) ho hs h
   intro σ a w hst X Q hX;obtain ⟨s,v,h1,h2,h3⟩:=this σ a w hst;unfold Oper.wp;rw [h3 w (Mod.refl _ _)];simp only [Oper.upon,hd];exact hX σ _ _ _ _ _ h1 (hst.put hlt h2) (fun _=>Mod.refl _ _)
 · rename_i ho
   split at h
   · rw [ho];exact evMkMap_sound ho h
   · exact h.elim
 · rename_i ho;rw [ho];obtain ⟨s,hs,h⟩:=ev1_spec h;obtain ⟨u,hu,h⟩:=ev1_spec h;exact evLook_sound ho hs hu h
 · rename_i ho;rw [ho];obtain ⟨s,hs,h⟩:=ev1_spec h;obtain ⟨u,hu,h⟩:=ev1_spec h;obtain ⟨v,hv,h⟩:=ev1_spec h;exact evUpd_sound ho hs hu hv h
 · rename_i ho
   rw [ho]
   split at h
   · obtain ⟨s,hs,h⟩:=ev1_spec h;obtain ⟨u,hu,h⟩:=ev1_spec h;exact evAppend_sound ho hs hu h
   · obtain ⟨s,hs,h⟩:=ev1_spec h;obtain ⟨u,hu,h⟩:=ev1_spec h;exact evCopy_sound ho hs hu h
   · split at h
     · rename_i f as ts _ _ ss hf hs
       split at h
       · rename_i hn
         exact fun σ a w hst X Q hX=>callsG_sound ho hf hs hn hcs h X Q σ a w hst hX
       · exact h.elim
     · exact h.elim
   · exact h.elim
 · exact h.elim
def isEff:Op→Bool
 | .alloc _=>true
 | .box _ _=>true
 | .store _ _ _=>true
 | .buildSlice _ _ _=>true
 | .makeSlice _ _ _=>true
 | .load _ _=>true
 | .makeMap _ _=>true
 | .lookup _ _ _ _=>true
 | .mapUpdate _ _ _ _=>true
 | .convert T T' _=>Nat.beq T T'
 | .call c=>match c.callee with
   | .builtin .append=>true
   | .builtin .copy=>true
   | .value _=>true
   | _=>false
 | _=>false
variable (P) in
def vcOp (cs:List (Nat×Ctr)) (n:Nat) (o:Oper) (env:Env) (objs:List Ob) (nx:Nat) (K:KS):Prop:=match orQ (isEff o.op) (cvQ P o.op) with
 | true=>vcEff P cs n o env objs nx K
 | false=>dstK n o.dst fun d=>evSl P env objs nx o.op fun s objs nx=>K ((d,s)::env) objs nx
theorem vcOp_sound {cs:List (Nat×Ctr)} (hcs:CsOk P cs) (h:vcOp P cs S.n o env objs nx K):DoesK P S env objs nx o false K:=by
 unfold vcOp at h
 split at h
 · exact (vcEff_sound hcs h).weak (fun e=>by cases e)
 · obtain ⟨d,hd,hlt,h⟩:=dstK_spec h
   have:=evSl_sound (P:=P) (S:=S) h
   intro σ a w hst X Q hX;obtain ⟨s,v,σ',objs',nx',h1,h2,h3,h4⟩:=this σ a w hst;unfold Oper.wp;rw [h4 w];simp only [Oper.upon,hd];exact hX σ' _ _ _ _ _ h1 (h2.put hlt h3) (fun e=>by cases e)
theorem St.shadowT {d:Nat} {p:Prop} {i:Decidable p} {b:Bool} (h:St P S σ env objs nx a w) (hd:lk env d=some (.dec p i)) (hp:b=@decide p i):St P S σ ((d,.bool b)::env) objs nx a w :=
 h.reenv (fun t s ht=>by
   unfold lk at ht
   split at ht
   · rename_i hb
     obtain rfl:=Nat.eq_of_beq_eq_true hb
     cases ht
     rw [hvB,hp];exact hvD.1 (h.slots _ _ hd)
   · exact h.slots t s ht) h.size h.defers
def gdSlot (ops:List Oper) (o:Oper):Option (Option (Nat×Bool)):=match o.guard with
 | none=>some none
 | some (j,want)=>match opAt ops j with
   | some oj=>match oj.dst with
     | some d=>some (some (d,want))
     | none=>none
   | none=>none
def skipE (n:Nat) (dst:Option Nat) (env:Env) (K:Env→Prop):Prop:=match dst with
 | none=>K env
 | some d=>match Nat.blt d n with
   | true=>K ((d,.tup [])::env)
   | false=>False
def vcGuard (ops:List Oper) (n:Nat) (o:Oper) (env:Env) (run:Env→Prop) (skip:Env→Prop):Prop:=match gdSlot ops o with
 | none=>False
 | some none=>run env
 | some (some (d,want))=>match lk env d with
   | some (.bool b)=>match b,want with
     | true,true=>run env
     | false,false=>run env
     | _,_=>skipE n o.dst env skip
   | some (.dec p i)=>match want with
     | true=>Fork p (run ((d,.bool true)::env)) (skipE n o.dst ((d,.bool false)::env) skip)
     | false=>Fork p (skipE n o.dst ((d,.bool true)::env) skip) (run ((d,.bool false)::env))
   | some (.tup [])=>skipE n o.dst env skip
   | _=>False
theorem wanted_of {ops:Array Oper} {d:Nat} {want b:Bool} (hg:gdSlot ops.toList o=some (some (d,want))) (hst:St P S σ env objs nx a w) (hd:lk env d=some (.bool b)):Region.wanted o (yielded ops a.tmps)=(b == want):=by
 unfold gdSlot at hg
 split at hg
 · cases hg
 · rename_i j want' hgd
   split at hg
   · rename_i oj hoj
     split at hg
     · rename_i d' hd'
       simp only [Option.some.injEq,Prod.mk.injEq] at hg;obtain ⟨rfl,rfl⟩:=hg;have h1:=hvB.1 (hst.slots d' _ hd);have h2:=opAt_spec hoj;have hsz:d'<a.tmps.size:=by
         rcases Nat.lt_or_ge d' a.tmps.size with hh|hh
         · exact hh
         · simp [Array.getD_eq_getD_getElem?,Array.getElem?_eq_none hh,undef] at h1
       have h3:a.tmps[d']?=some (.bool b):=by
         rw [Array.getD_eq_getD_getElem?,Array.getElem?_eq_getElem hsz] at h1;rw [Array.getElem?_eq_getElem hsz];simpa using h1
       unfold Region.wanted;rw [hgd];simp only [yielded,h2,Option.bind_some,hd',h3]
       cases b<;>cases want'<;>rfl
     · cases hg
   · cases hg
theorem wanted_no {ops:Array Oper} {d:Nat} {want:Bool} (hg:gdSlot ops.toList o=some (some (d,want))) (hst:St P S σ env objs nx a w) (hd:lk env d=some (.tup [])):Region.wanted o (yielded ops a.tmps)=false:=by
 unfold gdSlot at hg
 split at hg
 · cases hg
 · rename_i j want' hgd
   split at hg
   · rename_i oj hoj
     split at hg
     · rename_i d' hd'
       simp only [Option.some.injEq,Prod.mk.injEq] at hg;obtain ⟨rfl,rfl⟩:=hg;obtain ⟨l,h1,h2⟩:=hst.slots d' _ hd;simp only [hvs] at h2;subst h2;have h2:=opAt_spec hoj;unfold Region.wanted;rw [hgd];simp only [yielded,h2,Option.bind_some,hd']
       cases ht:a.tmps[d']? with
       | none=>simp
       | some v =>
         have:a.tmps.getD d' undef=v:=by simp [Array.getD_eq_getD_getElem?,ht]
         rw [h1] at this;subst this
         simp
     · cases hg
   · cases hg
theorem St.skip (hst:St P S σ env objs nx a w) {K:Env→Prop} (h:skipE S.n o.dst env K):∃ env',K env'∧St P S σ env' objs nx (a.put o.dst undef) w:=by
 unfold skipE at h
 split at h
 · rename_i hd;rw [hd];exact ⟨env,h,hst⟩
 · rename_i d hd
   split at h
   · rename_i hb
     rw [hd];exact ⟨_,h,hst.put (by simpa [Nat.blt_eq] using hb) ⟨[],rfl,rfl⟩⟩
   · exact h.elim
theorem guard_sound {ops:Array Oper} {run skip:Env→Prop} (h:vcGuard ops.toList S.n o env run skip) (hst:St P S σ env objs nx a w) :
   (∃ env',run env'∧St P S σ env' objs nx a w∧Region.wanted o (yielded ops a.tmps)=true)∨(∃ env',skip env'∧St P S σ env' objs nx (a.put o.dst undef) w∧Region.wanted o (yielded ops a.tmps)=false):=by
 unfold vcGuard at h
 split at h
 · exact h.elim
 · rename_i hg
   refine .inl ⟨env,h,hst,?_⟩;unfold gdSlot at hg;unfold Region.wanted
   split at hg
   · rename_i hn;rw [hn]
   · split at hg
     · split at hg<;>cases hg
     · cases hg
 · rename_i d want hg
   have two:∀ {b:Bool} {env':Env},St P S σ env' objs nx a w→lk env' d=some (.bool b)→(b=want→run env')→(b≠want→skipE S.n o.dst env' skip)→(∃ env',run env'∧St P S σ env' objs nx a w∧Region.wanted o (yielded ops a.tmps)=true)∨(∃ env',skip env'∧St P S σ env' objs nx (a.put o.dst undef) w∧Region.wanted o (yielded ops a.tmps)=false):=by
     intro b env' hst' hd hr hs;have hw:=wanted_of hg hst' hd
     by_cases hb:b=want
     · exact .inl ⟨env',hr hb,hst',by rw [hw,hb];simp⟩
     · obtain ⟨env2,h1,h2⟩:=hst'.skip (hs hb)
       exact .inr ⟨env2,h1,h2,by rw [hw];simpa using hb⟩
   split at h
   · rename_i b hd
     refine two hst hd (fun e=>?_) (fun e=>?_)
     · subst e;cases b<;>exact h
     · cases b<;>cases want<;>first|exact absurd rfl e|exact h
   · rename_i p i hd
     have self:∀ b,lk ((d,SV.bool b)::env) d=some (.bool b):=fun b=>by simp [lk,Nat.beq_refl]
     split at h
     · by_cases hp:p
       · exact two (b:=true) (hst.shadowT hd (by simp [hp])) (self true) (fun _=>h.t hp) (fun e=>absurd rfl e)
       · exact two (b:=false) (hst.shadowT hd (by simp [hp])) (self false) (fun e=>by cases e) (fun _=>h.f hp)
     · by_cases hp:p
       · exact two (b:=true) (hst.shadowT hd (by simp [hp])) (self true) (fun e=>by cases e) (fun _=>h.t hp)
       · exact two (b:=false) (hst.shadowT hd (by simp [hp])) (self false) (fun _=>h.f hp) (fun e=>absurd rfl e)
   · rename_i hd
     obtain ⟨env2,h1,h2⟩:=hst.skip h;exact .inr ⟨env2,h1,h2,wanted_no hg hst hd⟩
   · exact h.elim
def isTr (tr:List Nat) (o:Oper):Bool:=match o.dst with
 | some d=>memB tr d
 | none=>false
variable (P) in
def vcOpT (tr:List Nat) (cs:List (Nat×Ctr)) (n:Nat) (o:Oper) (env:Env) (objs:List Ob) (nx:Nat) (K:KS):Prop:=match isTr tr o with
 | true=>match o.op with
   | .slice T x none (some y) none=>ev1 P env x fun s=>ev1 P env y fun u=>evTrunc P n o.dst env objs nx T s u K
   | _=>False
 | false=>vcOp P cs n o env objs nx K
theorem vcOpT_sound {tr:List Nat} {cs:List (Nat×Ctr)} (hcs:CsOk P cs) (h:vcOpT P tr cs S.n o env objs nx K):DoesK P S env objs nx o false K:=by
 unfold vcOpT at h
 split at h
 · split at h
   · rename_i ho
     obtain ⟨s,hs,h⟩:=ev1_spec h;obtain ⟨u,hu,h⟩:=ev1_spec h;exact (evTrunc_sound ho hs hu h).weak (fun e=>by cases e)
   · exact h.elim
 · exact vcOp_sound hcs h
abbrev oA (i:Nat) (r:Ord):Ord:=.one i 0 false r
abbrev oB (i:Nat) (r:Ord):Ord:=.one i 1 false r
abbrev oC (i:Nat) (r:Ord):Ord:=.one i 2 false r
abbrev oD (i:Nat) (r:Ord):Ord:=.one i 2 true r
theorem nlb {a b:Nat} (h:Nat.ble a b=true):a≤b:=Nat.le_of_ble_eq_true h
structure Cfg where
 cs:List (Nat×Ctr)
 dr:List (Nat×List Nat×List Nat×Ord×List Nat)
 cut:List Nat
 cutb:List Nat
 n:Nat
 nn:Nat
 tr:List Nat:=[]
 cutr:List Nat:=[]
 vs:List Nat:=[]
variable (P) in
def isVal (env:Env) (op:Op):Bool:=match op with
 | .call { callee:=.builtin .len,args:=⟨[x]⟩,argTypes:=_ }=>match evx P env x with
   | some (.val _)=>true
   | _=>false
 | .indexAddr _ x _=>match evx P env x with
   | some (.val _)=>true
   | _=>false
 | .call { callee:=.value (.tmp t),.. }=>match lk env t with
   | some (.val _)=>true
   | some (.fn _)=>true
   | _=>false
 | .makeFunc _ _ _=>true
 | _=>false
variable (P) in
def anyOwn (env:Env):List (Nat×Operand)→Bool
 | []=>false
 | (_,x)::r=>match evx P env x with
   | some (.own _)=>true
   | _=>anyOwn env r
def hasNil:List SV→Bool
 | []=>false
 | .nils::_=>true
 | _::r=>hasNil r
variable (P) in
def anyNil (env:Env):List (Nat×Operand)→Bool
 | []=>false
 | (_,x)::r=>match evx P env x with
   | some (.agg l)=>match hasNil l with
     | true=>true
     | false=>anyNil env r
   | _=>anyNil env r
variable (P) in
def anyBsl (env:Env):List (Nat×Operand)→Bool
 | []=>false
 | (_,x)::r=>match evx P env x with
   | some (.bsl _ _ _ _)=>true
   | _=>anyBsl env r
variable (P) in
def isSeal (vs:List Nat) (env:Env) (o:Oper):Bool:=match o.dst with
 | some d=>match memB vs d with
   | true=>match o.op with
     | .build _ ⟨ps⟩=>anyOwn P env ps
     | .buildSlice _ _ ⟨ps⟩=>match anyNil P env ps with
       | true=>true
       | false=>anyBsl P env ps
     | .box _ x=>anyNil P env [(0,x)]
     | .sliceToArrayPointer _ x=>match evx P env x with
       | some (.bsl _ _ _ _)=>true
       | _=>false
     | _=>false
   | false=>false
 | none=>false
def or2:Bool→Bool→Bool
 | true,_=>true
 | false,b=>b
structure ValS (p:Prop):Prop where
 h:p
theorem Oper.wp_in {Q:Exit→Act→World→Prop} {X:Act→World→Prop} {n:Nat} (h:o.wp P a w X Q):o.wpIn Fence.wide n P a w X Q:=by
 refine ⟨fun _ _=>trivial,?_⟩
 rw [show Fence.wide.round=none from rfl,Oper.semAt_none];unfold Oper.wp at h;revert h;generalize (execOp a.eval o).run P w=r;intro h
 match r,h with
 | .ok (.value v) w',h=>exact h
 | .ok .skip w',h=>exact h
 | .ok (.defer d) w',h=>exact h
 | .ok (.enter f args) w',h=>exact ⟨fun e=>(by cases e),callsIn_wide.2 h⟩
 | .ok (.row row args) w',h=>exact ⟨fun e=>(by cases e),fun c cs _=>let ⟨v,w',r,s⟩:=h c cs;⟨v,w',r,stepsIn_wide.2 s⟩⟩
 | .halt (.panic v) w',h=>exact h
variable (P) in
structure OpsK (H:Cfg) (all r:List Oper) (K:KS) (env:Env) (objs:List Ob) (nx:Nat):Prop where
 h:∀ {S:Sig} {Q:Exit→Act→World→Prop} {ops:Array Oper},CsOk P H.cs→H.n=S.n→ops.toList=all→(∀ env objs nx,K env objs nx→Pr P S env objs nx (Q .normal))→Pr P S env objs nx (wpListIn Fence.wide 0 P ops Q r)
variable (P) in
def opsS (H:Cfg) (all r:List Oper) (K:KS) (env:Env) (objs:List Ob) (nx:Nat):Prop:=match r with
 | []=>K env objs nx
 | o::r=>match or2 (isVal P env o.op) (isSeal P H.vs env o) with
   | true=>ValS (OpsK P H all (o::r) K env objs nx)
   | false=>vcGuard all H.n o env (fun env=>vcOpT P H.tr H.cs H.n o env objs nx (OpsK P H all r K)) (fun env=>OpsK P H all r K env objs nx)
theorem OpsK.unf {H:Cfg} {all r:List Oper} {K:KS} (h:opsS P H all r K env objs nx):OpsK P H all r K env objs nx:=⟨fun {S Q ops} hcs hn ha hK=>by
 match r,h with
 | [],h=>exact hK _ _ _ h
 | o::r,h =>
   simp only [opsS] at h
   split at h
   · exact h.h.h hcs hn ha hK
   subst ha;rw [hn] at h;intro σ a w hst;unfold wpListIn;rcases guard_sound h hst with ⟨env',h,hst',hw⟩|⟨env',h,hst',hw⟩
   · rw [if_pos hw]
     exact Oper.wp_in (vcOpT_sound hcs h σ a w hst' _ _ fun σ' e' o' n' a' w' h1 h2 _=>h1.h hcs hn rfl hK σ' a' w' h2)
   · rw [if_neg (by rw [hw];simp)]
     exact ⟨fun _ _=>trivial,h.h hcs hn rfl hK σ _ w hst'⟩⟩
def CallsV (P:Program) (v:Value) (args:Array Value) (w:World) (R:Ending→World→Prop):Prop:=∃ l,v=.func (.yield l) #[] #[]∧YieldAt Fence.wide 0 P l args w R
theorem CallsV.mono {v:Value} {args:Array Value} {w:World} {R R':Ending→World→Prop} (h:CallsV P v args w R) (hr:∀ e w',R e w'→R' e w'):CallsV P v args w R':=by
 obtain ⟨l,hv,fn,tmps,assign,body,hy,hR⟩:=h;exact ⟨l,hv,fn,tmps,assign,body,hy,hR.mono hr⟩
def kAnd:Bool→Bool→Bool
 | true,b=>b
 | false,_=>false
def impB:Bool→Bool→Bool
 | true,b=>b
 | false,_=>true
def nmS:SV→Option Nat
 | .ptr k _=>some k
 | .rptr k _ _ _=>some k
 | .cptr k _ _=>some k
 | _=>none
def flatS:SV→Bool
 | .bool _=>true
 | .dec _ _=>true
 | .int _ _=>true
 | .u8 _=>true
 | .u16 _=>true
 | .u32 _=>true
 | .u64 _=>true
 | .str _=>true
 | .nilp=>true
 | .nils=>true
 | .nilm=>true
 | .val _=>true
 | .nilf=>true
 | .fn _=>true
 | .arr8 _=>true
 | .arr32 _=>true
 | _=>false
def flatL:List SV→Bool
 | []=>true
 | s::r=>match flatS s with
   | true=>flatL r
   | false=>false
def flatV:SV→Bool
 | .agg ps=>flatL ps
 | s=>flatS s
theorem flatS_hc {s:SV} (h:flatS s=true) {w w':World} {A A':Own} {σ σ':Sg} {cs:List Value} (hc:s.hc w A σ cs):s.hc w' A' σ' cs:=by
 cases s<;>first|(simp [flatS] at h;done)|(simp only [SV.hc] at hc ⊢;exact hc)
theorem flatL_hL {w w':World} {A A':Own} {σ σ':Sg}:∀ {l:List SV},flatL l=true→∀ {cs:List Value},hL w A l σ cs→hL w' A' l σ' cs
 | [],_,cs,hc=>by simp only [hL] at hc ⊢;exact hc
 | s::r,h,cs,hc=>by
   simp only [hL] at hc ⊢;unfold flatL at h
   split at h
   · rename_i hs
     obtain ⟨a,b,h1,h2,h3⟩:=hc;exact ⟨a,b,h1,flatS_hc hs h2,flatL_hL h h3⟩
   · cases h
theorem flatV_hv {s:SV} (h:flatV s=true) {w w':World} {A A':Own} {σ σ':Sg} {v:Value} (hc:s.hv w A σ v):s.hv w' A' σ' v:=by
 cases s with
 | agg ps=>obtain ⟨cs,h1,h2⟩:=hc;exact ⟨cs,h1,flatL_hL h h2⟩
 | tup vs=>simp [flatV,flatS] at h
 | undef=>trivial
 | _ =>
   simp only [flatV] at h;simp only [SV.hv,SV.h1] at hc ⊢;exact flatS_hc h hc
variable (P) in
def evLd2 (env:Env) (o0:List Ob) (op:Op) (K:SV→Prop):Prop:=match op with
 | .load T (.tmp t)=>match lk env t with
   | some s=>match nmS s with
     | some k=>match lk o0 k with
       | some (.ab _)=>False
       | some _=>evLoad P o0 T s fun v=>match flatV v with
         | true=>K v
         | false=>False
       | none=>False
     | none=>False
   | none=>False
 | _=>False
theorem evLd2_sound {o0:List Ob} {K:SV→Prop} (h:evLd2 P env o0 o.op K) {e0:Env} {a0:Act} {w0:World} (hst0:St P S S.s0 e0 o0 S.nn a0 w0) (hst:St P S σ env objs nx a w) :
   ∃ s v,K s∧s.hv w (S.A σ objs) σ v∧∀ w',Kept w0 w'→(execOp a.eval o).run P w'=.ok (.value v) w':=by
 unfold evLd2 at h
 split at h
 · rename_i T t hop
   split at h
   · rename_i s hs
     split at h
     · rename_i k hk
       have main:∀ so,lk o0 k=some so→(∀ a,so≠.ab a)→(evLoad P o0 T s fun v=>match flatV v with
         | true=>K v
         | false=>False)→∃ s v,K s∧s.hv w (S.A σ objs) σ v∧∀ w',Kept w0 w'→(execOp a.eval o).run P w'=.ok (.value v) w':=by
         intro so hso hab hl;have hnm:∃ v,S.s0 k=some v:=by
           rcases (lk_holds hst0 hso).named with ⟨a,e⟩|h
           · exact absurd e (hab a)
           · exact h
         obtain ⟨v0,hv0⟩:=hnm;have hkn:k<S.nn:=by
           rcases Nat.lt_or_ge k S.nn with h|h
           · exact h
           · rw [hst0.dom k h] at hv0;cases hv0
         have hb:∀ v,σ k=some v→S.s0 k=some v:=hst.base k hkn;have hsv:s.hv w0 (S.A S.s0 o0) S.s0 (a.tmps.getD t undef):=by
           have h1:=hst.slots t s hs
           cases s<;>simp only [nmS,reduceCtorEq,Option.some.injEq] at hk<;>subst hk<;>simp only [SV.hv,SV.h1,SV.hc] at h1 ⊢
           · obtain ⟨b,c,h1,h2⟩:=h1;exact ⟨b,c,hb _ h1,h2⟩
           · obtain ⟨g,l,c,h1,h2⟩:=h1;exact ⟨g,l,c,hb _ h1,h2⟩
           · obtain ⟨b,c,h1,h2⟩:=h1;exact ⟨b,c,hb _ h1,h2⟩
         have hst':St P S S.s0 [(t,s)] o0 S.nn a w0:={ hst0 with
           slots:=fun t' s' h'=>by
             unfold lk at h'
             split at h'
             · rename_i he
               obtain rfl:=Nat.eq_of_beq_eq_true he
               cases h';exact hsv
             · cases h'
           size:=hst.size,defers:=hst.defers }
         obtain ⟨s',v,h1,h2,h3⟩:=evLoad_sound (S:=S) (nx:=S.nn) (env:=[(t,s)]) (x:=.tmp t) hop (by simp [evx,lk,Nat.beq_refl]) hl S.s0 a w0 hst'
         split at h1
         · rename_i hf
           exact ⟨s',v,h1,flatV_hv hf h2,h3⟩
         · exact h1.elim
       split at h
       · exact h.elim
       · rename_i so hab hso
         exact main so hso (fun a e=>hab a e) h
       · exact h.elim
     · exact h.elim
   · exact h.elim
 · exact h.elim
def isOwnSO:SO→Bool
 | .box _ _=>true
 | .row _ _ _ _=>true
 | .lits _ _ _=>true
 | _=>false
def isOwnM:SO→Bool
 | .box _ _=>true
 | .row _ _ _ _=>true
 | .lits _ _ _=>true
 | .mp _ _ _ _ _ _=>true
 | _=>false
theorem isOwnM_of {so:SO} (h:isOwnSO so=true):isOwnM so=true:=by cases so<;>first|rfl|cases h
def nOk (o0:List Ob):List Nat→Bool
 | []=>true
 | j::r=>match lk o0 j with
   | some so=>match isOwnM so with
     | true=>nOk o0 r
     | false=>false
   | none=>false
def MN (σ:Sg) (N:List Nat):Own:=fun b=>∃ k v,memB N k=true∧σ k=some v∧blkO v=some b
theorem own_blkO {so:SO} {k b:Nat} (h:isOwnM so=true):so.own σ k b↔∃ v,σ k=some v∧blkO v=some b:=by
 cases so<;>first|(simp [isOwnM] at h;done)|exact Iff.rfl
theorem own_cells {so:SO} {k b:Nat} {A:Own} {v:Value} (h:isOwnSO so=true) (hh:so.holds w A σ k) (hv:σ k=some v) (hb:blkO v=some b):b<w.heap.size∧∃ C T fr,w.heap[b]?=some (.cells C T fr):=by
 refine ⟨SO.own_lt hh b ((own_blkO (isOwnM_of h)).2 ⟨v,hv,hb⟩),?_⟩;have row:∀ {e z els},rowH w A σ k e z els→∃ C T fr,w.heap[b]?=some (.cells C T fr):=by
   rintro e z els ⟨u,cs,h1,_,_,_,ho⟩;rw [hv] at h1;cases h1;rcases ho.2 with ⟨rfl,_⟩|⟨g,cap,cur,rfl,_,hg,_⟩
   · cases hb
   · cases hb;exact ⟨_,_,_,hg⟩
 cases so with
 | box T ps =>
   obtain ⟨c,cs,h1,h2,_⟩:=hh;rw [hv] at h1;cases h1;cases hb;exact ⟨_,_,_,h2⟩
 | row e z enc xs=>exact row hh
 | lits e z els=>exact row hh
 | _=>simp [isOwnSO] at h
theorem nOk_spec {o0:List Ob}:∀ {N:List Nat},nOk o0 N=true→∀ k,memB N k=true→∃ so,lk o0 k=some so∧isOwnM so=true
 | [],_,k,h=>by simp [memB] at h
 | j::r,h,k,hk=>by
   unfold nOk at h
   split at h
   · rename_i so hso
     split at h
     · rename_i ho
       unfold memB at hk
       split at hk
       · rename_i hb
         obtain rfl:=Nat.eq_of_beq_eq_true hb;exact ⟨so,hso,ho⟩
       · exact nOk_spec h k hk
     · cases h
   · cases h
theorem Disj_lk:∀ {l:List Ob} {j k b:Nat} {so so':SO},Disj σ l→lk l j=some so→lk l k=some so'→j≠k→so.own σ j b→¬ so'.own σ k b
 | [],_,_,_,_,_,_,h,_,_,_=>by simp [lk] at h
 | (i,u)::r,j,k,b,so,so',hd,h1,h2,hne,ho=>by
   intro ho';unfold lk at h1 h2
   split at h1
   · rename_i hb1
     obtain rfl:=Nat.eq_of_beq_eq_true hb1
     cases h1
     split at h2
     · rename_i hb2
       exact hne (Nat.eq_of_beq_eq_true hb2)
     · exact hd.1 b ho (owns_mem (lk_mem h2) ho')
   · split at h2
     · rename_i hb2
       obtain rfl:=Nat.eq_of_beq_eq_true hb2
       cases h2
       exact hd.1 b ho' (owns_mem (lk_mem h1) ho)
     · exact Disj_lk hd.2 h1 h2 hne ho ho'
theorem name_lt {e0:Env} {o0:List Ob} {a0:Act} {w0:World} (hst0:St P S S.s0 e0 o0 S.nn a0 w0) {k:Nat} {v:Value} (h:S.s0 k=some v):k<S.nn:=by
 rcases Nat.lt_or_ge k S.nn with h1|h1
 · exact h1
 · rw [hst0.dom k h1] at h;cases h
theorem nm_block {s:SV} {k:Nat} {v:Value} {A:Own} (hk:nmS s=some k) (h:s.hv w A σ v):∃ b off u,v=.pointer (some ⟨b,off,none⟩)∧σ k=some u∧blkO u=some b:=by
 cases s<;>simp only [nmS,reduceCtorEq,Option.some.injEq] at hk<;>subst hk<;>simp only [SV.hv,SV.h1,SV.hc,List.cons.injEq,and_true] at h
 · obtain ⟨b,c,h1,h2⟩:=h;exact ⟨b,_,_,h2,h1,rfl⟩
 · obtain ⟨g,l,c,h1,h2⟩:=h;exact ⟨g,_,_,h2,h1,rfl⟩
 · obtain ⟨b,c,h1,h2⟩:=h;exact ⟨b,_,_,h2,h1,rfl⟩
variable (P) in
def ldSep (env:Env) (o0:List Ob) (N:List Nat) (op:Op):Bool:=match N with
 | []=>true
 | _::_=>match op with
   | .load T (.tmp t)=>match ty P T,lk env t with
     | some _,some s=>match nmS s with
       | some k=>match memB N k,lk o0 k with
         | false,some so=>isOwnSO so
         | _,_=>false
       | none=>false
     | _,_=>false
   | _=>false
theorem ldSep_sound {o0:List Ob} {N:List Nat} (h:ldSep P env o0 N o.op=true) (hN:nOk o0 N=true) {e0:Env} {a0:Act} {w0:World} (hst0:St P S S.s0 e0 o0 S.nn a0 w0) (hst:St P S σ env objs nx a w) {v:Value}
   (hr:∀ w',Kept w0 w'→(execOp a.eval o).run P w'=.ok (.value v) w'):∀ w',Mod (MN S.s0 N) w0 w'→(execOp a.eval o).run P w'=.ok (.value v) w':=by
 intro w' hm;unfold ldSep at h
 split at h
 · exact hr w' (hm.mono fun b ⟨k,v,hk,_⟩=>by simp [memB] at hk)
 · split at h
   · rename_i T t hop
     split at h
     · rename_i i s hty hs
       split at h
       · rename_i k hk
         split at h
         · rename_i so hmem hso
           obtain ⟨b,off,u,h1,h2,h3⟩:=nm_block hk (hst.slots t s hs);have hnamed:∃ v,S.s0 k=some v:=by
             rcases (lk_holds hst0 hso).named with ⟨a,e⟩|h'
             · subst e;simp [isOwnSO] at h
             · exact h'
           obtain ⟨u',hu'⟩:=hnamed;have hb0:=hst.base k (name_lt hst0 hu') u h2;obtain ⟨hlt,C,T',fr,hc⟩:=own_cells h (lk_holds hst0 hso) hb0 h3;refine loadOp_same hop hty h1 hc ((hm.block b hlt ?_).trans hc) (hr w0 (Mod.refl _ _))
           · rintro ⟨j,vj,hj,hvj,hbj⟩
             obtain ⟨so',hso',ho'⟩:=nOk_spec hN j hj;have hne:j≠k:=fun e=>by subst e;rw [hmem] at hj;cases hj
             exact Disj_lk hst0.obs.disj hso' hso hne ((own_blkO ho').2 ⟨vj,hvj,hbj⟩) ((own_blkO (isOwnM_of h)).2 ⟨u,hb0,h3⟩)
         · cases h
       · cases h
     · cases h
   · cases h
def oldOk (objs:List Ob):List Ob→Bool
 | []=>true
 | (j,so)::r=>match isOwnM so with
   | true=>match lk objs j with
     | some so'=>match isOwnM so' with
       | true=>oldOk objs r
       | false=>false
     | none=>false
   | false=>false
theorem oldOk_spec {objs:List Ob}:∀ {o0:List Ob},oldOk objs o0=true→∀ j so,(j,so)∈o0→isOwnM so=true∧∃ so',lk objs j=some so'∧isOwnM so'=true
 | [],_,_,_,h=>by cases h
 | (i,u)::r,h,j,so,hm=>by
   unfold oldOk at h
   split at h
   · rename_i h1
     split at h
     · rename_i so' h2
       split at h
       · rename_i h3
         rcases List.mem_cons.1 hm with e|e
         · cases e;exact ⟨h1,so',h2,h3⟩
         · exact oldOk_spec h j so e
       · cases h
     · cases h
   · cases h
theorem lk_of_mem {α:Type _}:∀ {l:List (Nat×α)} {j:Nat} {x:α},(j,x)∈l→lk l j≠none
 | [],_,_,h=>by cases h
 | (i,u)::r,j,x,h=>by
   unfold lk
   split
   · simp
   · rename_i hb
     rcases List.mem_cons.1 h with e|e
     · cases e;simp at hb
     · exact lk_of_mem e
theorem owns_ex:∀ {l:List Ob} {b:Nat},owns σ l b→∃ j so,(j,so)∈l∧so.own σ j b
 | [],_,h=>h.elim
 | (i,u)::r,b,h=>by
   rcases h with h|h
   · exact ⟨i,u,List.mem_cons_self,h⟩
   · obtain ⟨j,so,h1,h2⟩:=owns_ex h
     exact ⟨j,so,List.mem_cons_of_mem _ h1,h2⟩
theorem fresh_own {o0:List Ob} {e0:Env} {a0:Act} {w0:World} (hst0:St P S S.s0 e0 o0 S.nn a0 w0) (hS:S.w0=w0∧∀ b,S.M0 b→owns S.s0 o0 b) (hst:St P S σ env objs nx a w) {k b:Nat} {so:SO} (hso:lk objs k=some so) (hno:lk o0 k=none) (hold:oldOk objs o0=true) (ho:so.own σ k b):w0.heap.size≤b:=by
 rcases hst.own0 b (owns_mem (lk_mem hso) ho) with h|h
 · obtain ⟨j,so0,hj,hjb⟩:=owns_ex (hS.2 b h)
   obtain ⟨h1,so',h2,h3⟩:=oldOk_spec hold j so0 hj;obtain ⟨v,hv,hvb⟩:=(own_blkO h1).1 hjb;have hne:j≠k:=fun e=>by subst e;exact lk_of_mem hj hno
   have hnamed:∃ v,σ j=some v:=by
     rcases (lk_holds hst h2).named with ⟨a,e⟩|h'
     · subst e;simp [isOwnM] at h3
     · exact h'
   obtain ⟨v',hv'⟩:=hnamed
   have:=hst.base j (name_lt hst0 hv) v' hv'
   rw [hv] at this;cases this;exact absurd ho (Disj_lk hst.obs.disj h2 hso hne ((own_blkO h3).2 ⟨v,hv',hvb⟩))
 · rw [hS.1] at h;exact h
variable (P) in
def stN (env:Env) (o0 objs:List Ob) (N:List Nat) (op:Op):Bool:=match op with
 | .store T (.tmp t) _=>match ty P T,lk env t with
   | some _,some s=>match nmS s with
     | some k=>match lk objs k with
       | some so=>match isOwnSO so with
         | true=>match memB N k with
           | true=>true
           | false=>match lk o0 k with
             | none=>oldOk objs o0
             | some _=>false
         | false=>false
       | none=>false
     | none=>false
   | _,_=>false
 | _=>false
theorem stN_sound {o0:List Ob} {N:List Nat} (h:stN P env o0 objs N o.op=true) (hN:nOk o0 N=true) {e0:Env} {a0:Act} {w0:World} (hst0:St P S S.s0 e0 o0 S.nn a0 w0) (hS:S.w0=w0∧∀ b,S.M0 b→owns S.s0 o0 b) (hst:St P S σ env objs nx a w) (hmod:Mod (MN S.s0 N) w0 w) {X:Act→World→Prop} {Q:Exit→Act→World→Prop}
   (hX:o.wp P a w X Q):o.wp P a w (fun a' w'=>X a' w'∧Mod (MN S.s0 N) w0 w') Q:=by
 unfold stN at h
 split at h
 · rename_i T t y hop
   split at h
   · rename_i i s hty hs
     split at h
     · rename_i k hk
       split at h
       · rename_i so hso
         split at h
         · rename_i hown
           obtain ⟨b,off,u,h1,h2,h3⟩:=nm_block hk (hst.slots t s hs);obtain ⟨hlt,C,T',fr,hc⟩:=own_cells hown (lk_holds hst hso) h2 h3;refine Oper.wp_mono (fun a' w' h'=>⟨h'.1,hmod.step h'.2 fun c hc=>?_⟩) (storeOp_mod (P:=P) hop hty h1 hc hX)
           subst hc
           split at h
           · rename_i hmem
             left
             obtain ⟨so',hso',ho'⟩:=nOk_spec hN k hmem;have hnamed:∃ v,S.s0 k=some v:=by
               rcases (lk_holds hst0 hso').named with ⟨a,e⟩|h'
               · subst e;simp [isOwnM] at ho'
               · exact h'
             obtain ⟨u',hu'⟩:=hnamed;exact ⟨k,u,hmem,hst.base k (name_lt hst0 hu') u h2,h3⟩
           · split at h
             · rename_i hno
               exact .inr (fresh_own hst0 hS hst hso hno h ((own_blkO (isOwnM_of hown)).2 ⟨u,h2,h3⟩))
             · cases h
         · cases h
       · cases h
     · cases h
   · cases h
 · cases h
def orB:Bool→Bool→Bool
 | true,_=>true
 | false,b=>b
variable (P) in
structure OrdK (H:Cfg) (all:List Oper) (o0:List Ob) (N:List Nat) (r:Ord) (ph k:Bool) (K:KS) (env:Env) (objs:List Ob) (nx:Nat):Prop where
 h:∀ {S:Sig} {Q:Exit→Act→World→Prop} {ops:Array Oper},CsOk P H.cs→H.n=S.n→ops.toList=all→nOk o0 N=true→(∀ env objs nx,K env objs nx→Pr P S env objs nx (Q .normal)) →
   ∀ σ a w w0 e0 a0,St P S S.s0 e0 o0 S.nn a0 w0→(S.w0=w0∧∀ b,S.M0 b→owns S.s0 o0 b)→St P S σ env objs nx a w→(ph=true→w=w0)→(k=true→Mod (MN S.s0 N) w0 w)→wpTree P ops Q (fun w'=>Mod (MN S.s0 N) w0 w') r a w
def inN (N:List Nat):List Ob→Bool
 | []=>true
 | (k,so)::r=>match isOwnM so with
   | true=>match memB N k with
     | true=>inN N r
     | false=>false
   | false=>false
theorem inN_own {N:List Nat} {σ2:Sg}:∀ {tk:List Ob},inN N tk=true→∀ b,owns σ2 tk b→∃ k v,memB N k=true∧σ2 k=some v∧blkO v=some b
 | [],_,b,hb=>hb.elim
 | (k,so)::r,h,b,hb=>by
   unfold inN at h
   split at h
   · rename_i ho
     split at h
     · rename_i hm
       rcases hb with hb|hb
       · obtain ⟨v,h1,h2⟩:=(own_blkO ho).1 hb
         exact ⟨k,v,hm,h1,h2⟩
       · exact inN_own h b hb
     · cases h
   · cases h
variable (P) in
def loudN (cs:List (Nat×Ctr)) (n:Nat) (N:List Nat) (o:Oper) (env:Env) (objs:List Ob) (nx:Nat) (K:KS):Prop:=match o.op with
 | .call c=>match c with
   | { callee:=.value (.func f),args:=as,argTypes:=_ }=>match nth (TabC.cl P) f,evs P env as.toList with
     | some true,some ss=>match noTups ss with
       | true=>callsN (inN N) cs f n o.dst ss env objs nx K
       | false=>False
     | _,_=>False
   | _=>False
 | _=>False
variable (P) in
def loudS (H:Cfg) (all:List Oper) (o0:List Ob) (N:List Nat) (o:Oper) (need:Bool) (r:Ord) (ph k:Bool) (K:KS) (env:Env) (objs:List Ob) (nx:Nat):Prop:=vcGuard all H.n o env (fun env=>match kAnd k (orB (keptB H.cs o.op) (stN P env o0 objs N o.op)) with
 | true=>vcEff P H.cs H.n o env objs nx (OrdK P H all o0 N r false true K)
 | false=>match need with
   | true=>match k with
     | true=>loudN P H.cs H.n N o env objs nx (OrdK P H all o0 N r false true K)
     | false=>False
   | false=>vcEff P H.cs H.n o env objs nx (OrdK P H all o0 N r false false K)) (fun env=>match impB need k with
   | true=>OrdK P H all o0 N r ph k K env objs nx
   | false=>False)
structure Both (p q:Prop):Prop where
 l:p
 r:q
variable (P) in
def ordS (H:Cfg) (all:List Oper) (o0:List Ob) (N:List Nat) (r:Ord) (ph k:Bool) (K:KS) (env:Env) (objs:List Ob) (nx:Nat):Prop:=match r with
 | .nil=>K env objs nx
 | .one i kind need r=>match opAt all i with
   | none=>False
   | some o=>match isSeal P H.vs env o with
     | true=>ValS (OrdK P H all o0 N (.one i kind need r) ph k K env objs nx)
     | false=>match kind with
     | 0=>vcGuard all H.n o env (fun env=>dstK H.n o.dst fun d=>evSl P env objs nx o.op fun s objs nx=>OrdK P H all o0 N r ph k K ((d,s)::env) objs nx) (fun env=>OrdK P H all o0 N r ph k K env objs nx)
     | 1=>vcGuard all H.n o env (fun env=>match ldSep P env o0 N o.op with
       | true=>match ph with
         | true=>dstK H.n o.dst fun d=>evLd P env objs o.op fun s=>OrdK P H all o0 N r true k K ((d,s)::env) objs nx
         | false=>dstK H.n o.dst fun d=>evLd2 P env o0 o.op fun s=>OrdK P H all o0 N r false k K ((d,s)::env) objs nx
       | false=>False) (fun env=>OrdK P H all o0 N r ph k K env objs nx)
     | _=>loudS P H all o0 N o need r ph k K env objs nx
 | .alt i need r t=>match opAt all i with
   | none=>False
   | some o=>Both (loudS P H all o0 N o need r ph k K env objs nx) (OrdK P H all o0 N t ph k K env objs nx)
theorem loudS_sound {H:Cfg} {o0:List Ob} {N:List Nat} {o:Oper} {need:Bool} {r:Ord} {ph k:Bool} {K:KS} {Q:Exit→Act→World→Prop} {ops:Array Oper} {i:Nat} (h:loudS P H ops.toList o0 N o need r ph k K env objs nx) (ho:opAt ops.toList i=some o) (hcs:CsOk P H.cs) (hn:H.n=S.n) (hN:nOk o0 N=true)
   (hK:∀ env objs nx,K env objs nx→Pr P S env objs nx (Q .normal)) {w0:World} {e0:Env} {a0:Act} (hst0:St P S S.s0 e0 o0 S.nn a0 w0) (hS:S.w0=w0∧∀ b,S.M0 b→owns S.s0 o0 b) (hst:St P S σ env objs nx a w) (hph:ph=true→w=w0) (hk:k=true→Mod (MN S.s0 N) w0 w) :
   wpTree P ops Q (fun w'=>Mod (MN S.s0 N) w0 w') (.one i 2 need r) a w:=by
 unfold loudS at h;rw [hn] at h;obtain h0:=guard_sound h hst;clear h;rcases h0 with ⟨env',h,hst',hw⟩|⟨env',h,hst',hw⟩
 · refine tree_loud ho hw fun X hX=>?_
   have plain:∀ k2:Bool,vcEff P H.cs S.n o env' objs nx (OrdK P H ops.toList o0 N r false k2 K)→(need=true→k2=true)→(k2=true→k=true∧keptB H.cs o.op=true)→o.wp P a w X Q:=by
     intro k2 h hk1 hk2;refine vcEff_sound hcs h σ a w hst' X Q fun σ' e' o' n' a' w' h1 h2 h3=>hX _ _ ⟨fun hn=>?_,?_⟩
     · obtain ⟨e1,e2⟩:=hk2 (hk1 hn)
       exact (hk e1).trans ((h3 e2).mono fun _ x=>x.elim)
     · refine h1.h hcs hn rfl hN hK σ' a' w' w0 e0 a0 hst0 hS h2 (fun e=>by cases e) (fun e=>?_)
       obtain ⟨e1,e2⟩:=hk2 e;exact (hk e1).trans ((h3 e2).mono fun _ x=>x.elim)
   split at h
   · rename_i hkk
     have hkt:k=true:=by cases k<;>simp [kAnd] at hkk ⊢
     subst hkt
     cases hkp:keptB H.cs o.op with
     | true=>exact plain true h (fun _=>rfl) (fun _=>⟨rfl,hkp⟩)
     | false =>
       have hs:stN P env' o0 objs N o.op=true:=by simpa [kAnd,hkp,orB] using hkk
       have hwp:=stN_sound hs hN hst0 hS hst' (hk rfl) (vcEff_sound hcs h σ a w hst' (fun a' w'=>∃ σ' e' o' n',OrdK P H ops.toList o0 N r false true K e' o' n'∧St P S σ' e' o' n' a' w') Q fun σ' e' o' n' a' w' h1 h2 _=>⟨σ',e',o',n',h1,h2⟩)
       refine Oper.wp_mono (fun a' w' h'=>?_) hwp
       obtain ⟨⟨σ',e',o',n',h1,h2⟩,h3⟩:=h';have hmm:=h3;exact hX _ _ ⟨fun _=>hmm,h1.h hcs hn rfl hN hK σ' a' w' w0 e0 a0 hst0 hS h2 (fun e=>by cases e) (fun _=>hmm)⟩
   · cases need with
     | true =>
       cases k with
       | false=>exact h.elim
       | true =>
       simp only at h
       unfold loudN at h
       split at h
       · rename_i c hop
         split at h
         · split at h
           · rename_i hf ha
             split at h
             · rename_i hnt
               refine callsN_sound hop hf ha hnt hcs h X Q σ a w hst' fun σ' e' o' n' a' w' h1 h2 hx=>?_
               obtain ⟨σ2,tk,hin,hm,hb⟩:=hx;have hmm:Mod (MN S.s0 N) w0 w':=(hk rfl).step hm fun b hbb=>.inl (by
                 obtain ⟨k,v,hk1,hk2,hk3⟩:=inN_own hin b hbb;obtain ⟨so',hso',ho'⟩:=nOk_spec hN k hk1;have hnamed:∃ v,S.s0 k=some v:=by
                   rcases (lk_holds hst0 hso').named with ⟨a,e⟩|h'
                   · subst e;simp [isOwnM] at ho'
                   · exact h'
                 obtain ⟨u',hu'⟩:=hnamed;exact ⟨k,v,hk1,hb k (name_lt hst0 hu') v hk2,hk3⟩)
               exact hX _ _ ⟨fun _=>hmm,h1.h hcs hn rfl hN hK σ' a' w' w0 e0 a0 hst0 hS h2 (fun e=>by cases e) (fun _=>hmm)⟩
             · exact h.elim
           · exact h.elim
         · exact h.elim
       · exact h.elim
     | false=>exact plain false h (fun e=>by cases e) (fun e=>by cases e)
 · split at h
   · exact tree_skip ho hw (h.h hcs hn rfl hN hK σ _ w w0 e0 a0 hst0 hS hst' hph hk)
   · exact h.elim
theorem OrdK.unf {H:Cfg} {all:List Oper} {o0:List Ob} {N:List Nat} {r:Ord} {ph k:Bool} {K:KS} (h:ordS P H all o0 N r ph k K env objs nx):OrdK P H all o0 N r ph k K env objs nx:=⟨fun {S Q ops} hcs hn ha hN hK=>by
 subst ha
 match r,h with
 | .nil,h=>exact fun σ a w w0 e0 a0 hst0 _ hst _ _=>hK _ _ _ h σ a w hst
 | .one i kind need r,h =>
   simp only [ordS] at h;intro σ a w w0 e0 a0 hst0 hS hst hph hk
   split at h
   · exact h.elim
   · rename_i o ho
     split at h
     · exact h.h.h hcs hn rfl hN hK σ a w w0 e0 a0 hst0 hS hst hph hk
     split at h
     · rw [hn] at h
       rcases guard_sound h hst with ⟨env',h,hst',hw⟩|⟨env',h,hst',hw⟩
       · obtain ⟨d,hd,hlt,h⟩:=dstK_spec h
         obtain ⟨s,v,σ',o',n',h1,h2,h3,h4⟩:=evSl_sound (P:=P) (S:=S) h σ a w hst';refine tree_pure ho hw h4 ?_;rw [hd];exact h1.h hcs hn rfl hN hK σ' _ w w0 e0 a0 hst0 hS (h2.put hlt h3) hph hk
       · exact tree_skip ho hw (h.h hcs hn rfl hN hK σ _ w w0 e0 a0 hst0 hS hst' hph hk)
     · rw [hn] at h
       rcases guard_sound h hst with ⟨env',h,hst',hw⟩|⟨env',h,hst',hw⟩
       · split at h
         · rename_i hsep
           split at h
           · obtain ⟨d,hd,hlt,h⟩:=dstK_spec h
             obtain ⟨s,v,h1,h2,h3⟩:=evLd_sound (P:=P) (S:=S) (nx:=nx) h σ a w hst';have hww:=hph rfl;subst hww;refine tree_load ho hw (ldSep_sound hsep hN hst0 hst' h3) ?_;rw [hd];exact h1.h hcs hn rfl hN hK σ _ w w e0 a0 hst0 hS (hst'.put hlt h2) (fun _=>rfl) hk
           · obtain ⟨d,hd,hlt,h⟩:=dstK_spec h
             obtain ⟨s,v,h1,h2,h3⟩:=evLd2_sound (P:=P) (S:=S) h hst0 hst';refine tree_load ho hw (ldSep_sound hsep hN hst0 hst' h3) ?_;rw [hd];exact h1.h hcs hn rfl hN hK σ _ w w0 e0 a0 hst0 hS (hst'.put hlt h2) (fun e=>by cases e) hk
         · exact h.elim
       · exact tree_skip ho hw (h.h hcs hn rfl hN hK σ _ w w0 e0 a0 hst0 hS hst' hph hk)
     · rename_i hk0 hk1
       have h2:=loudS_sound (Q:=Q) h ho hcs hn hN hK hst0 hS hst hph hk
       match kind,h2,hk0,hk1 with
       | 0,_,hk0,_=>exact absurd rfl hk0
       | 1,_,_,hk1=>exact absurd rfl hk1
       | m+2,h2,_,_=>exact h2
 | .alt i need r t,h =>
   simp only [ordS] at h;intro σ a w w0 e0 a0 hst0 hS hst hph hk
   split at h
   · exact h.elim
   · rename_i o ho
     exact tree_alt (loudS_sound (Q:=Q) h.l ho hcs hn hN hK hst0 hS hst hph hk) (h.r.h hcs hn rfl hN hK σ a w w0 e0 a0 hst0 hS hst hph hk)⟩
end
inductive Way
 | normal
 | ret
 | exit (i:Nat)
abbrev KW:=Way→KS
abbrev Draw:=Nat×List Nat×List Nat×Ord×List Nat
def lkD:List Draw→Nat→Option (List Nat×List Nat×Ord×List Nat)
 | [],_=>none
 | (k,t,l,o)::r,n=>match Nat.beq k n with
   | true=>some (t,l,o)
   | false=>lkD r n
def drawsOk (dr:List Draw):Code→Bool
 | .region id ops true=>match lkD dr id with
   | some (t,l,o,_)=>Region.noSelect ops&&(o.depth == ops.size)&&treeOk ops t l o (Array.replicate ops.size false) true []
   | none=>false
 | .region _ _ false=>true
 | .seq a b=>drawsOk dr a&&drawsOk dr b
 | .cond _ a b=>drawsOk dr a&&drawsOk dr b
 | .block _ c=>drawsOk dr c
 | .scope c=>drawsOk dr c
 | .loop c=>drawsOk dr c
 | .rangeFunc _ _ a b=>drawsOk dr a&&drawsOk dr b
 | _=>true
section
variable {P:Program} [TabC P] {S:Sig} {σ:Sg} {env:Env} {objs:List Ob} {nx:Nat} {o:Oper} {a:Act} {w:World}
structure FitE (env:Env) (ρ:Rn) (objs:List Ob) (nx:Nat) (E:Env) (K:KF):Prop where
 h:∀ {P:Program} [TabC P],∃ ρ' objs' nx',K ρ' objs' nx'∧Rn.le ρ ρ'∧∀ S σ a w,St P S σ env objs nx a w→∃ σ',Sg.le σ σ'∧St P S σ' env objs' nx' a w∧Later w (S.A σ objs) w (S.A σ' objs') ∧
   ∀ t s,(t,s)∈E→s.hv w (S.A σ' objs') (σ'.via ρ') (a.tmps.getD t undef)
def fitES (env:Env) (ρ:Rn) (objs:List Ob) (nx:Nat) (E:Env) (K:KF):Prop:=match E with
 | []=>K ρ objs nx
 | (t,e)::r=>match lk env t with
   | some s=>fitV ρ objs nx e s fun ρ objs nx=>FitE env ρ objs nx r K
   | none=>False
theorem FitE.unf {E:Env} {ρ:Rn} {K:KF} (h:fitES env ρ objs nx E K):FitE env ρ objs nx E K:=⟨fun {P} _=>by
 match E,h with
 | [],h=>exact ⟨ρ,objs,nx,h,Rn.le.refl _,fun S σ a w hst=>⟨σ,Sg.le.refl _,hst,Later.refl _ _,fun t s hm=>by cases hm⟩⟩
 | (t,e)::r,h =>
   simp only [fitES] at h
   split at h
   · rename_i s hs
     obtain ⟨ρ1,o1,n1,h,f1⟩:=fitV_sound (P:=P) h;obtain ⟨ρ2,o2,n2,h,l2,f2⟩:=h.h (P:=P);refine ⟨ρ2,o2,n2,h,f1.1.trans l2,fun S σ a w hst=>?_⟩
     obtain ⟨σ1,le1,s1,t1,p1⟩:=f1.2 S env σ a w hst;obtain ⟨σ2,le2,s2,t2,p2⟩:=f2 S σ1 a w s1;refine ⟨σ2,le1.trans le2,s2,t1.trans t2,fun t' s' hm=>?_⟩
     rcases List.mem_cons.1 hm with he|hm
     · cases he
       exact ((p1 _ (hst.slots t s hs)).later t2).names (via_le le2 l2)
     · exact p2 t' s' hm
   · exact h.elim⟩
def idB (nn:Nat):Rn→Bool
 | []=>true
 | (j,k)::r=>match Nat.blt j nn with
   | true=>match Nat.beq j k with
     | true=>idB nn r
     | false=>false
   | false=>idB nn r
theorem idB_spec {nn:Nat}:∀ {ρ:Rn},idB nn ρ=true→∀ j k,j<nn→lkN ρ j=some k→j=k
 | [],_,j,k,_,h=>by cases h
 | (i,n)::r,hb,j,k,hj,h=>by
   unfold lkN at h;unfold idB at hb
   split at h
   · rename_i he
     obtain rfl:=Nat.eq_of_beq_eq_true he
     cases h
     have hlt:Nat.blt i nn=true:=by simpa [Nat.blt_eq] using hj
     rw [hlt] at hb
     simp only at hb
     split at hb
     · rename_i hq;exact Nat.eq_of_beq_eq_true hq
     · cases hb
   · refine idB_spec (ρ:=r) ?_ j k hj h
     split at hb
     · split at hb
       · exact hb
       · cases hb
     · exact hb
def Into (nn:Nat) (env:Env) (objs:List Ob) (nx:Nat) (E:Env) (O:List Ob) (N:Nat):Prop :=
 FitE env [] objs nx E fun ρ objs nx=>FitOs ρ [] objs nx O fun ρ tk rest nx=>match rnB N ρ,idB nn ρ,Nat.ble nn N with
   | true,true,true=>True
   | _,_,_=>False
theorem Into.sound {E:Env} {O:List Ob} {N:Nat} (h:Into S.nn env objs nx E O N) (hst:St P S σ env objs nx a w):∃ σ',St P S σ' E O N a w:=by
 obtain ⟨ρ1,o1,n1,h,_,f1⟩:=h.h (P:=P);obtain ⟨ρ,tn,rest,n2,h,l2,f2⟩:=h.h (P:=P)
 split at h
 · rename_i hrn hid hnN
   obtain ⟨σ1,le1,s1,t1,p1⟩:=f1 S σ a w hst;obtain ⟨σ2,le2,s2,t2,p2⟩:=f2 S env σ1 a w s1;simp only [List.append_nil] at s2 t2 p2;have hd:=Disj_append.1 s2.obs.disj;have hown:∀ b,owns (σ2.via ρ) O b↔owns σ2 tn b:=p2.owns;have hle:∀ b,owns (σ2.via ρ) O b→owns σ2 (tn.reverse++rest) b:=fun b hb=>by rw [owns_append];exact .inl ((owns_rev b).2 ((hown b).1 hb))
   have hl:Later w (S.A σ2 (tn.reverse++rest)) w (S.A (σ2.via ρ) O):=Later.own fun b hb=>hb.imp id (hle b)
   refine ⟨σ2.via ρ,{ slots:=fun t s ht=>?_,dom:=fun k hk=>by unfold Sg.via;rw [rnB_spec hrn k hk],size:=s2.size,defers:=s2.defers,obs:=⟨fun o ho=>(p2.holds o ho).later hl (fun _ _=>rfl),p2.disj (Disj_perm (List.reverse_perm tn) hd.1),fun b hb=>s2.obs.lt b (hle b hb)⟩,hist:=s2.hist,own0:=fun b hb=>s2.own0 b (hle b hb),a0:=s2.a0,mks:=s2.mks,glob:=s2.glob.later hl,base:=fun k hk v hv=>?_,nnx:=Nat.le_of_ble_eq_true hnN }⟩
   · exact (((p1 t s (lk_mem ht)).later t2).names (via_le le2 l2)).later hl
   · unfold Sg.via at hv
     split at hv
     · rename_i k' hk'
       obtain rfl:=idB_spec hid k k' hk hk';exact s2.base _ hk v hv
     · cases hv
 · exact h.elim
def idRn:Nat→Rn
 | 0=>[]
 | n+1=>(n,n)::idRn n
theorem idRn_spec:∀ (n j:Nat),j<n→lkN (idRn n) j=some j
 | 0,j,h=>absurd h (by omega)
 | n+1,j,h=>by
   unfold idRn lkN
   split
   · rename_i hb;obtain rfl:=Nat.eq_of_beq_eq_true hb;rfl
   · rename_i hb
     refine idRn_spec n j ?_
     have:n≠j:=fun e=>by rw [e,Nat.beq_refl] at hb;cases hb
     omega
def Into0 (nn:Nat) (objs:List Ob) (nx:Nat) (O:List Ob) (N:Nat):Prop :=
 FitOs (idRn nn) [] objs nx O fun ρ tk rest nx=>match rnB N ρ,idB nn ρ,Nat.ble nn N with
   | true,true,true=>True
   | _,_,_=>False
theorem Into0.sound {O:List Ob} {N:Nat} (h:Into0 S.nn objs nx O N) (hst:St P S σ env objs nx a w):∃ σ',St P S σ' [] O N a w:=by
 obtain ⟨ρ,tn,rest,n2,h,l2,f2⟩:=h.h (P:=P)
 split at h
 · rename_i hrn hid hnN
   obtain ⟨σ2,le2,s2,t2,p2⟩:=f2 S env σ a w hst;simp only [List.append_nil] at s2 t2 p2;have hd:=Disj_append.1 s2.obs.disj;have hown:∀ b,owns (σ2.via ρ) O b↔owns σ2 tn b:=p2.owns;have hle:∀ b,owns (σ2.via ρ) O b→owns σ2 (tn.reverse++rest) b:=fun b hb=>by rw [owns_append];exact .inl ((owns_rev b).2 ((hown b).1 hb))
   have hl:Later w (S.A σ2 (tn.reverse++rest)) w (S.A (σ2.via ρ) O):=Later.own fun b hb=>hb.imp id (hle b)
   refine ⟨σ2.via ρ,{ slots:=fun t s ht=>by simp [lk] at ht,dom:=fun k hk=>by unfold Sg.via;rw [rnB_spec hrn k hk],size:=s2.size,defers:=s2.defers,obs:=⟨fun o ho=>(p2.holds o ho).later hl (fun _ _=>rfl),p2.disj (Disj_perm (List.reverse_perm tn) hd.1),fun b hb=>s2.obs.lt b (hle b hb)⟩,hist:=s2.hist,own0:=fun b hb=>s2.own0 b (hle b hb),a0:=s2.a0,mks:=s2.mks,glob:=s2.glob.later hl,base:=fun k hk v hv=>?_,nnx:=Nat.le_of_ble_eq_true hnN }⟩
   · unfold Sg.via at hv
     split at hv
     · rename_i k' hk'
       obtain rfl:=idB_spec hid k k' hk hk';exact s2.base _ hk v hv
     · cases hv
 · exact h.elim
def asgO:List Oper→List Nat→List Nat
 | [],r=>r
 | o::l,r=>match o.dst with
   | some d=>d::asgO l r
   | none=>asgO l r
def asgC:Code→List Nat→List Nat
 | .region _ ops _,r=>asgO ops.toList r
 | .seq a b,r=>asgC a (asgC b r)
 | .cond _ a b,r=>asgC a (asgC b r)
 | .block _ c,r=>asgC c r
 | .label _,r=>r
 | .loop c,r=>asgC c r
 | .rangeFunc _ ps a b,r=>ps.toList++asgC a (asgC b r)
 | .scope c,r=>asgC c r
 | _,r=>r
def natsK:List Nat→(List Nat→Prop)→Prop
 | [],K=>K []
 | k::r,K=>natsK r fun l=>K (k::l)
theorem natsK_k:∀ {l:List Nat} {K:List Nat→Prop},natsK l K→K l
 | [],K,h=>h
 | k::r,K,h=>natsK_k (l:=r) (K:=fun l=>K (k::l)) h
def keepS:SV→Bool
 | .own _=>false
 | .rptr _ _ _ _=>false
 | .cptr _ _ _=>false
 | .bsl _ _ _ _=>false
 | .undef=>false
 | .tup _=>false
 | _=>true
def pruneK (ks:List Nat):Env→(Env→Prop)→Prop
 | [],K=>K []
 | (t,s)::r,K=>match memB ks t with
   | true=>pruneK ks r K
   | false=>match keepS s with
     | true=>pruneK (t::ks) r fun l=>K ((t,s)::l)
     | false=>pruneK (t::ks) r K
theorem pruneK_k:∀ {env:Env} {ks:List Nat} {K:Env→Prop},pruneK ks env K→∃ L,K L
 | [],ks,K,h=>⟨_,h⟩
 | (t,s)::r,ks,K,h=>by
   unfold pruneK at h
   split at h
   · exact pruneK_k h
   · split at h
     · obtain ⟨L,h⟩:=pruneK_k h;exact ⟨_,h⟩
     · exact pruneK_k h
def stillK (c:Code) (env:Env) (K:Env→Prop):Prop:=natsK (asgC c []) fun ks=>pruneK ks env K
theorem stillK_k {c:Code} {env:Env} {K:Env→Prop} (h:stillK c env K):∃ L,K L:=pruneK_k (natsK_k (K:=fun ks=>pruneK ks env K) h)
def catE:Env→Env→Env
 | [],L=>L
 | x::r,L=>x::catE r L
def seqK (Y:Env→List Ob→Nat→KW→Prop) (K:KW):KW:=fun way env objs nx=>match way with
 | .normal=>Y env objs nx K
 | .ret=>K .ret env objs nx
 | .exit i=>K (.exit i) env objs nx
theorem seqK_n {Y:Env→List Ob→Nat→KW→Prop} {K:KW} {env:Env} {objs:List Ob} {nx:Nat} (h:Y env objs nx K):seqK Y K .normal env objs nx:=h
theorem seqK_r {Y:Env→List Ob→Nat→KW→Prop} {K:KW} {env:Env} {objs:List Ob} {nx:Nat} (h:K .ret env objs nx):seqK Y K .ret env objs nx:=h
theorem seqK_e {Y:Env→List Ob→Nat→KW→Prop} {K:KW} {env:Env} {objs:List Ob} {nx i:Nat} (h:K (.exit i) env objs nx):seqK Y K (.exit i) env objs nx:=h
def blockK (id:Nat) (K:KW):KW:=fun way env objs nx=>match way with
 | .normal=>K .normal env objs nx
 | .ret=>K .ret env objs nx
 | .exit i=>match Nat.beq i id with
   | true=>K .normal env objs nx
   | false=>K (.exit i) env objs nx
theorem blockK_n {id:Nat} {K:KW} {env:Env} {objs:List Ob} {nx:Nat} (h:K .normal env objs nx):blockK id K .normal env objs nx:=h
theorem blockK_r {id:Nat} {K:KW} {env:Env} {objs:List Ob} {nx:Nat} (h:K .ret env objs nx):blockK id K .ret env objs nx:=h
theorem blockK_e {id:Nat} {K:KW} {env:Env} {objs:List Ob} {nx i:Nat} (h:match Nat.beq i id with
   | true=>K .normal env objs nx
   | false=>K (.exit i) env objs nx):blockK id K (.exit i) env objs nx:=h
def loopK (nn:Nat) {I:Type} (Φ:I→Prop) (E:I→Env) (O:I→List Ob) (N:Nat) (m:I→Nat) (i:I) (K:KW):KW:=fun way env objs n=>match way with
 | .normal=>∃ j,(m j<m i∧Φ j)∧Into nn env objs n (E j) (O j) N
 | .ret=>K .ret env objs n
 | .exit id=>K (.exit id) env objs n
theorem loopK_n {nn:Nat} {I:Type} {Φ:I→Prop} {E:I→Env} {O:I→List Ob} {N:Nat} {m:I→Nat} {i:I} {K:KW} {env:Env} {objs:List Ob} {n:Nat} (h:∃ j,(m j<m i∧Φ j)∧Into nn env objs n (E j) (O j) N):loopK nn Φ E O N m i K .normal env objs n:=h
theorem loopK_r {nn:Nat} {I:Type} {Φ:I→Prop} {E:I→Env} {O:I→List Ob} {N:Nat} {m:I→Nat} {i:I} {K:KW} {env:Env} {objs:List Ob} {n:Nat} (h:K .ret env objs n):loopK nn Φ E O N m i K .ret env objs n:=h
theorem loopK_e {nn:Nat} {I:Type} {Φ:I→Prop} {E:I→Env} {O:I→List Ob} {N:Nat} {m:I→Nat} {i:I} {K:KW} {env:Env} {objs:List Ob} {n id:Nat} (h:K (.exit id) env objs n):loopK nn Φ E O N m i K (.exit id) env objs n:=h
def cutK (nn:Nat) {I:Type} (Φ:I→Prop) (E:I→Env) (O:I→List Ob) (N:Nat) (K:KW):KW:=fun way env objs n=>match way with
 | .normal=>∃ j,Φ j∧Into nn env objs n (E j) (O j) N
 | .ret=>K .ret env objs n
 | .exit id=>K (.exit id) env objs n
theorem cutK_n {nn:Nat} {I:Type} {Φ:I→Prop} {E:I→Env} {O:I→List Ob} {N:Nat} {K:KW} {env:Env} {objs:List Ob} {n:Nat} (h:∃ j,Φ j∧Into nn env objs n (E j) (O j) N):cutK nn Φ E O N K .normal env objs n:=h
theorem cutK_r {nn:Nat} {I:Type} {Φ:I→Prop} {E:I→Env} {O:I→List Ob} {N:Nat} {K:KW} {env:Env} {objs:List Ob} {n:Nat} (h:K .ret env objs n):cutK nn Φ E O N K .ret env objs n:=h
theorem cutK_e {nn:Nat} {I:Type} {Φ:I→Prop} {E:I→Env} {O:I→List Ob} {N:Nat} {K:KW} {env:Env} {objs:List Ob} {n id:Nat} (h:K (.exit id) env objs n):cutK nn Φ E O N K (.exit id) env objs n:=h
inductive LoopS (nn:Nat) (B:Env→List Ob→Nat→KW→Prop) (L:Env) (env:Env) (objs:List Ob) (nx:Nat) (K:KW):Prop
 | mk {I:Type} (Φ:I→Prop) (E:I→Env) (O:I→List Ob) (N:Nat) (m:I→Nat) (i0:I) (h0:Φ i0) (hin:Into nn env objs nx (E i0) (O i0) N)
   (round:∀ i,Φ i→B (E i) (O i) N (loopK nn Φ E O N m i K))
inductive CutS (nn:Nat) (B:Env→List Ob→Nat→KW→Prop) (C:Env→List Ob→Nat→KW→Prop) (L:Env) (env:Env) (objs:List Ob) (nx:Nat) (K:KW):Prop
 | mk {I:Type} (Φ:I→Prop) (E:I→Env) (O:I→List Ob) (N:Nat)
   (first:B env objs nx (cutK nn Φ E O N K))
   (rest:∀ i,Φ i→C (E i) (O i) N K)
theorem LoopS.auto {nn:Nat} {B:Env→List Ob→Nat→KW→Prop} {L env:Env} {objs:List Ob} {nx:Nat} {K:KW} {I:Type} (Φ:I→Prop) (E:I→Env) (O:I→List Ob) (m:I→Nat) (i0:I) (h0:Φ i0) (hin:Into nn env objs nx (catE (E i0) L) (O i0) nx)
   (round:∀ i,Φ i→B (catE (E i) L) (O i) nx (loopK nn Φ (fun i=>catE (E i) L) O nx m i K)):LoopS nn B L env objs nx K:=.mk Φ (fun i=>catE (E i) L) O nx m i0 h0 hin round
theorem LoopS.autoN {nn:Nat} {B:Env→List Ob→Nat→KW→Prop} {L env:Env} {objs:List Ob} {nx:Nat} {K:KW} {I:Type} (Φ:I→Prop) (E:I→Env) (O:I→List Ob) (N:Nat) (m:I→Nat) (i0:I) (h0:Φ i0) (hin:Into nn env objs nx (catE (E i0) L) (O i0) N)
   (round:∀ i,Φ i→B (catE (E i) L) (O i) N (loopK nn Φ (fun i=>catE (E i) L) O N m i K)):LoopS nn B L env objs nx K:=.mk Φ (fun i=>catE (E i) L) O N m i0 h0 hin round
theorem CutS.auto {nn:Nat} {B C:Env→List Ob→Nat→KW→Prop} {L env:Env} {objs:List Ob} {nx:Nat} {K:KW} {I:Type} (Φ:I→Prop) (E:I→Env) (O:I→List Ob) (N:Nat)
   (first:B env objs nx (cutK nn Φ (fun i=>catE (E i) L) O N K))
   (rest:∀ i,Φ i→C (catE (E i) L) (O i) N K):CutS nn B C L env objs nx K:=.mk Φ (fun i=>catE (E i) L) O N first rest
def cutQ (H:Cfg):Code→Bool
 | .cond (.tmp t) _ _=>memB H.cut t
 | .block id _=>memB H.cutb id
 | .region id _ _=>memB H.cutr id
 | .seq _ y=>cutQ H y
 | _=>false
def exW:Way→Exit
 | .normal=>.normal
 | .ret=>.ret
 | .exit i=>.exit i
def PanicQ (Q:Exit→Act→World→Prop):Prop:=∀ c d v a w,Q (.panic c) (a.put d v) w→Q (.panic c) a w
def ownPs:List SV→List Nat
 | []=>[]
 | .own m::r=>m::ownPs r
 | _::r=>ownPs r
def ownB (objs:List Ob) (k:Nat):List Nat:=match lk objs k with
 | some (.box _ ps)=>ownPs ps
 | _=>[]
def ownPs2 (objs:List Ob):List SV→List Nat
 | []=>[]
 | .own m::r=>m::ownPs2 objs r
 | .ptr k 0::r=>k::(ownB objs k++ownPs2 objs r)
 | _::r=>ownPs2 objs r
def ownB2 (objs:List Ob) (k:Nat):List Nat:=match lk objs k with
 | some (.box _ ps)=>ownPs2 objs ps
 | _=>[]
def nmE2 (env:Env) (objs:List Ob):List Nat→Option (List Nat)
 | []=>some []
 | t::r=>match Nat.ble 1000000 t with
   | false=>match lk env t with
     | some s=>match nmS s with
       | some k=>match nmE2 env objs r with
         | some l=>some (k::l)
         | none=>none
       | none=>none
     | none=>none
   | true=>match lk env (t % 1000000) with
     | some s=>match nmS s with
       | some k=>match nmE2 env objs r with
         | some l=>match Nat.ble 2000000 t with
           | true=>some (k::(ownB2 objs k++l))
           | false=>some (k::(ownB objs k++l))
         | none=>none
       | none=>none
     | none=>none
def fenceOf:Option Nat→Fence
 | none=>Fence.wide
 | some l=>Fence.wide.inRound l
def noDefer:List Oper→Bool
 | []=>true
 | o::r=>match o.op with
   | .defer _=>false
   | _=>noDefer r
def rdOk:Code→Bool
 | .skip=>true
 | .region _ ops false=>noDefer ops.toList
 | .seq a b=>rdOk a&&rdOk b
 | .cond _ a b=>rdOk a&&rdOk b
 | .block _ c=>rdOk c
 | .ret=>true
 | .exit _=>true
 | .label _=>true
 | _=>false
structure Sig.Le (S S':Sig):Prop where
 w0:S'.w0=S.w0
 M0:S'.M0=S.M0
 n:S'.n=S.n
 s0:S'.s0=S.s0
 nn:S'.nn=S.nn
 a0:∀ b,S.A0 b→S'.A0 b
 new:∀ b,S'.A0 b→S.A0 b∨S.w0.heap.size≤b
 ds:∀ D∈S'.ds,D∈S.ds∨S.w0.heap.size≤D
 nod:S.ds.Nodup→S'.ds.Nodup
theorem Sig.Le.refl (S:Sig):S.Le S:=⟨rfl,rfl,rfl,rfl,rfl,fun _ h=>h,fun _ h=>.inl h,fun _ h=>.inl h,fun h=>h⟩
theorem Sig.Le.trans {S S' S'':Sig} (h:S.Le S') (k:S'.Le S''):S.Le S'' :=
 ⟨k.w0.trans h.w0,k.M0.trans h.M0,k.n.trans h.n,k.s0.trans h.s0,k.nn.trans h.nn,fun b hb=>k.a0 b (h.a0 b hb),fun b hb=>(k.new b hb).elim (h.new b) (fun x=>.inr (h.w0▸x)),fun D hD=>(k.ds D hD).elim (h.ds D) (fun x=>.inr (h.w0▸x)),fun x=>k.nod (h.nod x)⟩
variable (P) in
structure Vc (H:Cfg) (c:Code) (env:Env) (objs:List Ob) (nx:Nat) (K:KW):Prop where
 h:∀ {S:Sig} {Q:Exit→Act→World→Prop} (rd:Option Nat),CsOk P H.cs→H.n=S.n→H.nn=S.nn→drawsOk H.dr c=true→(rd.isSome=true→rdOk c=true)→PanicQ Q→(∀ S',S.Le S'→∀ way env objs nx,K way env objs nx→Pr P S' env objs nx (Q (exW way)))→Pr P S env objs nx (c.wpIn (fenceOf rd) 0 P Q)
end
attribute [irreducible] seqK blockK loopK cutK
end Go.Proofs.YtfljmihdeimahaaGreatDoor
