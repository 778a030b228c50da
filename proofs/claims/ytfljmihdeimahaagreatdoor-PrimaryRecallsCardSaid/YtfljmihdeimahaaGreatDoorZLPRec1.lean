import Derived.OrdersHeld
import Derived.WalkKit
import Derived.Laws.OwnMore
import Derived.Laws.AppendOwnNone
import Derived.Lib.Hide
import Derived.Laws.StructEq
import Derived.DeepKeys
import Derived.ChangeKeysEq
namespace Go.Proofs.YtfljmihdeimahaaGreatDoor
set_option linter.all false
section
variable {P:Program} {ops:Array Oper} {Q:Exit→Act→World→Prop} {md:Region.Mode} {S:World→Prop} {T L:List Nat}
def dep (md:Region.Mode) (ops:Array Oper):Nat→Nat→Nat→Bool
 | 0,_,_=>false
 | fuel+1,j,i=>match ops[j]? with
   | some o=>o.after.any fun e=>Region.binds md e&&(e.on == i||dep md ops fuel e.on i)
   | none=>false
def needS (md:Region.Mode) (ops:Array Oper) (T:List Nat) (j:Nat):Bool :=
 T.any fun i=>i != j&&!dep md ops ops.size j i
def Closed (md:Region.Mode) (ops:Array Oper) (listed:Array Bool):Prop :=
 ∀ (j:Nat) (o:Oper),ops[j]?=some o→listed.getD j false=true→∀ e∈o.after,Region.binds md e=true→listed.getD e.on false=true
theorem Closed.dep {listed:Array Bool} (h:Closed md ops listed):∀ (fuel j i:Nat),(∀ o,ops[j]?=some o→∀ e∈o.after,Region.binds md e=true→listed.getD e.on false=true)→dep md ops fuel j i=true→listed.getD i false=true
 | 0,_,_,_,hd=>by cases hd
 | fuel+1,j,i,hj,hd=>by
   unfold Go.Proofs.YtfljmihdeimahaaGreatDoor.dep at hd
   split at hd
   · rename_i o ho
     rw [Array.any_eq_true'] at hd;obtain ⟨e,he,h2⟩:=hd;simp only [Bool.and_eq_true,Bool.or_eq_true,beq_iff_eq] at h2;rcases h2.2 with rfl|h3
     · exact hj o ho e he h2.1
     · exact Closed.dep h fuel e.on i (fun o' ho'=>h e.on o' ho' (hj o ho e he h2.1)) h3
   · cases hd
theorem getD_set_true {listed:Array Bool} {i j:Nat} (h:(listed.setIfInBounds i true).getD j false=true):j=i∨listed.getD j false=true:=by
 by_cases hij:i=j
 · exact .inl hij.symm
 · refine .inr ?_
   simp only [Array.getD_eq_getD_getElem?] at h ⊢
   rwa [Array.getElem?_setIfInBounds_ne hij] at h
theorem getD_set_mono {listed:Array Bool} {i j:Nat} (h:listed.getD j false=true):(listed.setIfInBounds i true).getD j false=true:=by
 simp only [Array.getD_eq_getD_getElem?] at h ⊢
 by_cases hij:i=j
 · subst hij
   rcases Nat.lt_or_ge i listed.size with h'|h'
   · simp [h']
   · simp [Array.getElem?_eq_none h'] at h
 · rwa [Array.getElem?_setIfInBounds_ne hij]
theorem Closed.set {listed:Array Bool} (h:Closed md ops listed) {i:Nat} (hi:i∈Region.ready md ops listed):Closed md ops (listed.setIfInBounds i true):=by
 obtain ⟨_,o,ho,hall⟩:=mem_ready.1 hi;intro j oj hoj hj e he hb;rcases getD_set_true hj with rfl|hj
 · rw [ho] at hoj;cases hoj;exact getD_set_mono (hall e he hb)
 · exact getD_set_mono (h j oj hoj hj e he hb)
def wpAnyT (P:Program) (md:Region.Mode) (ops:Array Oper) (Q:Exit→Act→World→Prop) (S:World→Prop) (T L:List Nat):Nat→Array Bool→Act→World→Prop
 | 0,listed,a,w=>Region.ready md ops listed=[]∧Q .normal a w
 | fuel+1,listed,a,w =>
   (Region.ready md ops listed=[]→Q .normal a w) ∧
   ∀ i∈Region.ready md ops listed,wpOp P ops Q i (fun a' w'=>((L.contains i=false→w'=w)∧(needS md ops T i=true→S w∨L.contains i=true→S w'))∧wpAnyT P md ops Q S T L fuel (listed.setIfInBounds i true) a' w') a w
theorem wpAny_of_T:∀ (fuel:Nat) (listed:Array Bool) (a:Act) (w:World),wpAnyT P md ops Q S T L fuel listed a w→wpAny P md ops Q fuel listed a w
 | 0,_,_,_,h=>h
 | fuel+1,_,_,_,h=>⟨h.1,fun i hi=>wpOp_mono (fun a' w' h'=>wpAny_of_T fuel _ a' w' h'.2) (h.2 i hi)⟩
theorem wpAnyT_first {S':World→Prop} {i:Nat} {oi:Oper} {v:Value} (hi:ops[i]?=some oi) (hsel:∀ (j:Nat) (o:Oper) cs b,ops[j]?=some o→o.op≠.select cs b)
   (hQ:∀ c a w,Q (.panic c) (a.put oi.dst v) w→Q (.panic c) a w) (hL:L.contains i=false)
   (hneed:∀ j w',j≠i→L.contains j=true→dep md ops ops.size j i=false→(needS md ops T j=true→S w')→S' w') :
   ∀ (fuel:Nat) (listed:Array Bool) (a:Act) (w:World),
     (∀ j oj,ops[j]?=some oj→j≠i→listed.getD j true=false→(∀ e∈oj.after,Region.binds md e=true→e.on≠i)→oi.apart ops oj=true)→Closed md ops listed →
     i∈Region.ready md ops listed→YieldsIf P ops S' oi v a→S' w →
     wpAnyT P md ops Q S T L fuel (listed.setIfInBounds i true) (a.put oi.dst v) w→wpAnyT P md ops Q S T L (fuel+1) listed a w:=by
 intro fuel;have hown:∀ w:World,(L.contains i=false→w=w)∧(needS md ops T i=true→S w∨L.contains i=true→S w):=fun w=>⟨fun _=>rfl,fun _ h=>h.elim id (fun h=>by rw [hL] at h;cases h)⟩
 induction fuel with
 | zero =>
   intro listed a w _ _ hr hy hS H;refine ⟨fun h=>(by rw [h] at hr;cases hr),fun j hj=>?_⟩
   by_cases hji:j=i
   · subst hji;exact hy.wpOp hi hS ⟨hown w,H⟩
   · have:=ready_mono hj hji
     rw [H.1] at this
     cases this
 | succ fuel ih =>
   intro listed a w hfree hcl hr hy hS H;refine ⟨fun h=>(by rw [h] at hr;cases hr),fun j hj=>?_⟩
   by_cases hji:j=i
   · subst hji;exact hy.wpOp hi hS ⟨hown w,H⟩
   · have h1:=H.2 j (ready_mono hj hji)
     obtain ⟨hjun,oj,hoj,hall⟩:=mem_ready.1 hj;have hnot:∀ e∈oj.after,Region.binds md e=true→e.on≠i:=fun e he hb heq=>by
       have h1:=hall e he hb;have h0:=(mem_ready.1 hr).1;rw [heq] at h1;rcases Nat.lt_or_ge i listed.size with h'|h'
       · simp [h'] at h0 h1;rw [h0] at h1;cases h1
       · simp [Array.getElem?_eq_none h'] at h1
     have h2:=wpOp_putIf hoj (hfree j oj hoj hji hjun hnot) (fun cs b=>hsel i oi cs b hi) (fun cs b=>hsel j oj cs b hoj) hQ hy h1
     have hfree':∀ k ok,ops[k]?=some ok→k≠i→(listed.setIfInBounds j true).getD k true=false →
         (∀ e∈ok.after,Region.binds md e=true→e.on≠i)→oi.apart ops ok=true:=fun k ok hk hki hun hno=>by
       refine hfree k ok hk hki ?_ hno
       by_cases hjk:j=k
       · subst hjk;exact hjun
       · rw [getD_set_ne true hjk] at hun;exact hun
     refine wpOp_mono (fun a' w' h3=>⟨h3.2.1,ih (listed.setIfInBounds j true) a' w' hfree' (hcl.set hj) (ready_mono hr (Ne.symm hji)) h3.1 ?_ ?_⟩) h2
     · cases hLj:L.contains j with
       | false=>rw [h3.2.1.1 hLj];exact hS
       | true =>
         refine hneed j w' hji hLj ?_ (fun hn=>h3.2.1.2 hn (.inr hLj))
         rw [Bool.eq_false_iff];intro hd;have h1:=hcl.dep _ _ _ (fun o ho=>by rw [hoj] at ho;cases ho;exact hall) hd
         have h0:=(mem_ready.1 hr).1;rcases Nat.lt_or_ge i listed.size with h'|h'
         · simp [h'] at h0 h1;rw [h0] at h1;cases h1
         · simp [Array.getElem?_eq_none h'] at h1
     · rw [Array.setIfInBounds_comm _ _ hji]
       exact h3.2.2
theorem needS_of {i j:Nat} (hT:i∈T) (hji:j≠i) (h:dep md ops ops.size j i=false):needS md ops T j=true:=by
 unfold needS;rw [List.any_eq_true];refine ⟨i,hT,?_⟩;simp only [Bool.and_eq_true,bne_iff_ne,ne_eq,Bool.not_eq_true'];exact ⟨fun e=>hji e.symm,h⟩
def opAt:List Oper→Nat→Option Oper
 | [],_=>none
 | o::_,0=>some o
 | _::l,i+1=>opAt l i
theorem opAt_eq:∀ (l:List Oper) (i:Nat),opAt l i=l[i]?
 | [],_=>by simp [opAt]
 | _::_,0=>by simp [opAt]
 | _::l,i+1=>by simp [opAt,opAt_eq l i]
theorem opAt_spec {i:Nat} {o:Oper} (h:opAt ops.toList i=some o):ops[i]?=some o:=by
 rw [opAt_eq] at h;simpa using h
inductive OT where
 | nil
 | one (i k:Nat) (need:Bool) (r:OT)
 | alt (i:Nat) (need:Bool) (r o:OT)
def OT.depth:OT→Nat
 | .nil=>0
 | .one _ _ _ r=>r.depth+1
 | .alt _ _ r _=>r.depth+1
def wpTree (P:Program) (ops:Array Oper) (Q:Exit→Act→World→Prop) (S:World→Prop):OT→Act→World→Prop
 | .nil,a,w=>Q .normal a w
 | .one i k need r,a,w=>∃ o,ops[i]?=some o ∧
   if Region.wanted o (yielded ops a.tmps)=true then
     match k with
     | 0=>∃ v,(∀ w',(execOp a.eval o).run P w'=.ok (.value v) w')∧wpTree P ops Q S r (a.put o.dst v) w
     | 1=>∃ v,(∀ w',S w'→(execOp a.eval o).run P w'=.ok (.value v) w')∧wpTree P ops Q S r (a.put o.dst v) w
     | _=>o.wp P a w (fun a' w'=>(need=true→S w')∧wpTree P ops Q S r a' w') Q
   else wpTree P ops Q S r (a.put o.dst undef) w
 | .alt i need r o,a,w=>(∃ op,ops[i]?=some op ∧
   if Region.wanted op (yielded ops a.tmps)=true then op.wp P a w (fun a' w'=>(need=true→S w')∧wpTree P ops Q S r a' w') Q
   else wpTree P ops Q S r (a.put op.dst undef) w)∧wpTree P ops Q S o a w
def treeOk (ops:Array Oper) (T L:List Nat):OT→Array Bool→Bool→List Nat→Bool
 | .nil,listed,_,seen=>(Region.ready .any ops listed).isEmpty&&seen.isEmpty
 | .one i k need r,listed,hasS,seen =>
   (match k with
    | 0=>seen.isEmpty&&(Region.free .any ops listed i&&(Region.ready .any ops listed).contains i&&!L.contains i)
    | 1=>seen.isEmpty&&(hasS&&Region.free .any ops listed i&&(Region.ready .any ops listed).contains i&&T.contains i&&!L.contains i)
    | _=>((Region.ready .any ops listed).all fun j=>j == i||seen.contains j)&&((Region.ready .any ops listed).contains i&&L.contains i&&(!need||hasS)&&(need||!needS .any ops T i))) &&
   treeOk ops T L r (listed.setIfInBounds i true) (match k with|0=>hasS|1=>hasS|_=>need) []
 | .alt i need r o,listed,hasS,seen =>
   (((Region.ready .any ops listed).contains i&&L.contains i&&(!need||hasS)&&(need||!needS .any ops T i))&&(o.depth == r.depth+1)) &&
   (treeOk ops T L r (listed.setIfInBounds i true) need []&&treeOk ops T L o listed hasS (i::seen))
theorem loud_step {i:Nat} {o:Oper} {need hasS:Bool} {listed:Array Bool} {a:Act} {w:World} {n:Nat} {X:Act→World→Prop} (ho:ops[i]?=some o)
   (hc:((Region.ready .any ops listed).contains i&&L.contains i&&(!need||hasS)&&(need||!needS .any ops T i))=true) (hS:hasS=true→S w)
   (hX:∀ a' w',(need=true→S w')→X a' w'→wpAnyT P .any ops Q S T L n (listed.setIfInBounds i true) a' w')
   (h:if Region.wanted o (yielded ops a.tmps)=true then o.wp P a w (fun a' w'=>(need=true→S w')∧X a' w') Q else X (a.put o.dst undef) w) :
   wpOp P ops Q i (fun a' w'=>((L.contains i=false→w'=w)∧(needS .any ops T i=true→S w∨L.contains i=true→S w'))∧wpAnyT P .any ops Q S T L n (listed.setIfInBounds i true) a' w') a w:=by
 simp only [Bool.and_eq_true,Bool.or_eq_true,Bool.not_eq_true'] at hc;unfold wpOp
 by_cases hw:Region.wanted o (yielded ops a.tmps)=true
 · rw [if_pos hw] at h
   simp only [ho,hw,if_true];refine .inl (Oper.wp_mono (fun a' w' h'=>?_) h)
   refine ⟨⟨fun hl=>(by rw [hc.1.1.2] at hl;cases hl),fun hn _=>?_⟩,hX a' w' h'.1 h'.2⟩
   rcases hc.2 with h1|h1
   · exact h'.1 h1
   · rw [hn] at h1;cases h1
 · rw [if_neg hw] at h
   have hw':Region.wanted o (yielded ops a.tmps)=false:=by simpa using hw
   simp only [ho,hw',Bool.false_eq_true,if_false];have hSn:need=true→S w:=fun hn=>hS (by rcases hc.1.2 with h1|h1;rw [hn] at h1;cases h1;exact h1)
   refine ⟨⟨fun hl=>(by rw [hc.1.1.2] at hl;cases hl),fun hn _=>?_⟩,hX _ _ hSn h⟩
   rcases hc.2 with h1|h1
   · exact hSn h1
   · rw [hn] at h1;cases h1
theorem wpAnyT_of_tree (hs:Region.noSelect ops=true) (hQ:∀ c d v a w,Q (.panic c) (a.put d v) w→Q (.panic c) a w):∀ (t:OT) (listed:Array Bool) (hasS:Bool) (seen:List Nat) (a:Act) (w:World),treeOk ops T L t listed hasS seen=true→Closed .any ops listed→(hasS=true→S w) →
     wpTree P ops Q S t a w→(seen=[]→wpAnyT P .any ops Q S T L t.depth listed a w)∧∀ m,t.depth=m+1→∀ j∈Region.ready .any ops listed,j∉seen →
       wpOp P ops Q j (fun a' w'=>((L.contains j=false→w'=w)∧(needS .any ops T j=true→S w∨L.contains j=true→S w'))∧wpAnyT P .any ops Q S T L m (listed.setIfInBounds j true) a' w') a w
 | .nil,listed,_,seen,a,w,hc,_,_,h=>by
   simp only [treeOk,Bool.and_eq_true,List.isEmpty_iff] at hc;exact ⟨fun _=>⟨hc.1,h⟩,fun m hm=>by cases hm⟩
 | .one i 0 need r,listed,hasS,seen,a,w,hc,hcl,hS,h=>by
   obtain ⟨o,ho,h⟩:=h;unfold treeOk at hc;rw [Bool.and_eq_true] at hc;obtain ⟨hc1,hc2⟩:=hc;simp only [Bool.and_eq_true,Bool.not_eq_true',List.isEmpty_iff] at hc1;obtain ⟨rfl,hc1⟩:=hc1;have main:wpAnyT P .any ops Q S T L (r.depth+1) listed a w:=by
     by_cases hw:Region.wanted o (yielded ops a.tmps)=true
     · rw [if_pos hw] at h
       obtain ⟨v,hv,h⟩:=h;exact wpAnyT_first (S':=fun _=>True) ho (Region.noSelect_spec hs) (fun c a w=>hQ c _ _ a w) hc1.2 (fun _ _ _ _ _ _=>trivial) _ _ _ _
         (Region.free_spec ho hc1.1.1) hcl (by simpa using hc1.1.2) (.inl ⟨hw,fun w' _=>hv w'⟩) trivial ((wpAnyT_of_tree hs hQ r _ hasS [] _ _ hc2 (hcl.set (by simpa using hc1.1.2)) hS h).1 rfl)
     · rw [if_neg hw] at h
       have hw':Region.wanted o (yielded ops a.tmps)=false:=by simpa using hw
       exact wpAnyT_first (S':=fun _=>True) ho (Region.noSelect_spec hs) (fun c a w=>hQ c _ _ a w) hc1.2 (fun _ _ _ _ _ _=>trivial) _ _ _ _
         (Region.free_spec ho hc1.1.1) hcl (by simpa using hc1.1.2) (.inr ⟨hw',rfl⟩) trivial ((wpAnyT_of_tree hs hQ r _ hasS [] _ _ hc2 (hcl.set (by simpa using hc1.1.2)) hS h).1 rfl)
   exact ⟨fun _=>main,fun m hm j hj _=>by cases hm;exact main.2 j hj⟩
 | .one i 1 need r,listed,hasS,seen,a,w,hc,hcl,hS,h=>by
   obtain ⟨o,ho,h⟩:=h;unfold treeOk at hc;rw [Bool.and_eq_true] at hc;obtain ⟨hc1,hc2⟩:=hc;simp only [Bool.and_eq_true,Bool.not_eq_true',List.isEmpty_iff] at hc1;obtain ⟨rfl,hc1⟩:=hc1;have main:wpAnyT P .any ops Q S T L (r.depth+1) listed a w:=by
     by_cases hw:Region.wanted o (yielded ops a.tmps)=true
     · rw [if_pos hw] at h
       obtain ⟨v,hv,h⟩:=h;exact wpAnyT_first (S':=S) ho (Region.noSelect_spec hs) (fun c a w=>hQ c _ _ a w) hc1.2 (fun j w' hj _ hn hh=>hh (needS_of (by simpa using hc1.1.2) hj hn)) _ _ _ _
         (Region.free_spec ho hc1.1.1.1.2) hcl (by simpa using hc1.1.1.2) (.inl ⟨hw,hv⟩) (hS hc1.1.1.1.1) ((wpAnyT_of_tree hs hQ r _ hasS [] _ _ hc2 (hcl.set (by simpa using hc1.1.1.2)) hS h).1 rfl)
     · rw [if_neg hw] at h
       have hw':Region.wanted o (yielded ops a.tmps)=false:=by simpa using hw
       exact wpAnyT_first (S':=fun _=>True) ho (Region.noSelect_spec hs) (fun c a w=>hQ c _ _ a w) hc1.2 (fun _ _ _ _ _ _=>trivial) _ _ _ _
         (Region.free_spec ho hc1.1.1.1.2) hcl (by simpa using hc1.1.1.2) (.inr ⟨hw',rfl⟩) trivial ((wpAnyT_of_tree hs hQ r _ hasS [] _ _ hc2 (hcl.set (by simpa using hc1.1.1.2)) hS h).1 rfl)
   exact ⟨fun _=>main,fun m hm j hj _=>by cases hm;exact main.2 j hj⟩
 | .one i (k+2) need r,listed,hasS,seen,a,w,hc,hcl,hS,h=>by
   obtain ⟨o,ho,h⟩:=h;unfold treeOk at hc;rw [Bool.and_eq_true] at hc;obtain ⟨hc1,hc2⟩:=hc
   replace hc1:(((Region.ready .any ops listed).all fun j=>j == i||seen.contains j)&&((Region.ready .any ops listed).contains i&&L.contains i&&(!need||hasS)&&(need||!needS .any ops T i)))=true:=hc1
   rw [Bool.and_eq_true] at hc1;obtain ⟨hall,hc1⟩:=hc1;have hci:=hc1;simp only [Bool.and_eq_true] at hci;have hi:i∈Region.ready .any ops listed:=by simpa using hci.1.1.1
   have two:∀ m,r.depth+1=m+1→∀ j∈Region.ready .any ops listed,j∉seen →
       wpOp P ops Q j (fun a' w'=>((L.contains j=false→w'=w)∧(needS .any ops T j=true→S w∨L.contains j=true→S w'))∧wpAnyT P .any ops Q S T L m (listed.setIfInBounds j true) a' w') a w:=fun m hm j hj hjs=>by
     cases hm
     have hji:j=i:=by
       have:=List.all_eq_true.1 hall j hj
       simp only [Bool.or_eq_true,beq_iff_eq,List.contains_iff_mem] at this;exact this.resolve_right hjs
     subst hji;exact loud_step ho hc1 hS (fun a' w' hn hx=>(wpAnyT_of_tree hs hQ r _ need [] a' w' hc2 (hcl.set hi) hn hx).1 rfl) h
   exact ⟨fun e=>⟨fun h0=>(by rw [h0] at hi;cases hi),fun j hj=>two r.depth rfl j hj (by rw [e];simp)⟩,two⟩
 | .alt i need r o,listed,hasS,seen,a,w,hc,hcl,hS,h=>by
   obtain ⟨⟨op,ho,h⟩,h2⟩:=h;unfold treeOk at hc;rw [Bool.and_eq_true,Bool.and_eq_true] at hc;obtain ⟨⟨hc1,hdep⟩,hc2⟩:=hc;rw [Bool.and_eq_true] at hc2;obtain ⟨hc2,hc3⟩:=hc2;have hdep':o.depth=r.depth+1:=by simpa using hdep
   have hci:=hc1;simp only [Bool.and_eq_true] at hci;have hi:i∈Region.ready .any ops listed:=by simpa using hci.1.1.1
   have two:∀ m,r.depth+1=m+1→∀ j∈Region.ready .any ops listed,j∉seen →
       wpOp P ops Q j (fun a' w'=>((L.contains j=false→w'=w)∧(needS .any ops T j=true→S w∨L.contains j=true→S w'))∧wpAnyT P .any ops Q S T L m (listed.setIfInBounds j true) a' w') a w:=fun m hm j hj hjs=>by
     cases hm
     by_cases hji:j=i
     · subst hji
       exact loud_step ho hc1 hS (fun a' w' hn hx=>(wpAnyT_of_tree hs hQ r _ need [] a' w' hc2 (hcl.set hi) hn hx).1 rfl) h
     · exact (wpAnyT_of_tree hs hQ o _ hasS (i::seen) a w hc3 hcl hS h2).2 r.depth hdep' j hj (by simp [hji,hjs])
   exact ⟨fun e=>⟨fun h0=>(by rw [h0] at hi;cases hi),fun j hj=>two r.depth rfl j hj (by rw [e];simp)⟩,two⟩
theorem wp_region_tree {id:Nat} {a:Act} {w:World} (S:World→Prop) (T L:List Nat) (t:OT) (hm:P.follows .mixedOrders=true)
   (hs:Region.noSelect ops=true) (hl:t.depth=ops.size) (hc:treeOk ops T L t (Array.replicate ops.size false) true []=true)
   (hQ:∀ c d v a w,Q (.panic c) (a.put d v) w→Q (.panic c) a w) (hS:S w.drew)
   (h:wpTree P ops Q S t a w.drew):(Code.region id ops true).wp P Q a w:=by
 refine wp_region_any hm (wpAny_of_T (S:=S) (T:=T) (L:=L) _ _ _ _ ?_)
 have:=(wpAnyT_of_tree hs hQ t _ true [] _ _ hc (fun j o _ hj=>by simp [Array.getD_eq_getD_getElem?,Array.getElem?_replicate] at hj;split at hj<;>simp_all) (fun _=>hS) h).1 rfl
 rw [hl] at this;exact this
theorem tree_pure {i:Nat} {need:Bool} {r:OT} {o:Oper} {v:Value} {a:Act} {w:World} (ho:opAt ops.toList i=some o) (hw:Region.wanted o (yielded ops a.tmps)=true)
   (hv:∀ w',(execOp a.eval o).run P w'=.ok (.value v) w') (h:wpTree P ops Q S r (a.put o.dst v) w):wpTree P ops Q S (.one i 0 need r) a w :=
 ⟨o,opAt_spec ho,by rw [if_pos hw];exact ⟨v,hv,h⟩⟩
theorem tree_load {i:Nat} {need:Bool} {r:OT} {o:Oper} {v:Value} {a:Act} {w:World} (ho:opAt ops.toList i=some o) (hw:Region.wanted o (yielded ops a.tmps)=true)
   (hv:∀ w',S w'→(execOp a.eval o).run P w'=.ok (.value v) w') (h:wpTree P ops Q S r (a.put o.dst v) w):wpTree P ops Q S (.one i 1 need r) a w :=
 ⟨o,opAt_spec ho,by rw [if_pos hw];exact ⟨v,hv,h⟩⟩
theorem tree_loud {i:Nat} {need:Bool} {r:OT} {o:Oper} {a:Act} {w:World} (ho:opAt ops.toList i=some o) (hw:Region.wanted o (yielded ops a.tmps)=true)
   (h:∀ K:Act→World→Prop,(∀ a' w',((need=true→S w')∧wpTree P ops Q S r a' w')→K a' w')→o.wp P a w K Q):wpTree P ops Q S (.one i 2 need r) a w :=
 ⟨o,opAt_spec ho,by rw [if_pos hw];exact h _ (fun _ _ h=>h)⟩
theorem tree_skip {i k:Nat} {need:Bool} {r:OT} {o:Oper} {a:Act} {w:World} (ho:opAt ops.toList i=some o) (hw:Region.wanted o (yielded ops a.tmps)=false)
   (h:wpTree P ops Q S r (a.put o.dst undef) w):wpTree P ops Q S (.one i k need r) a w :=
 ⟨o,opAt_spec ho,by rw [if_neg (by rw [hw];simp)];exact h⟩
theorem tree_alt {i:Nat} {need:Bool} {r t:OT} {a:Act} {w:World} (h:wpTree P ops Q S (.one i 2 need r) a w) (h2:wpTree P ops Q S t a w):wpTree P ops Q S (.alt i need r t) a w:=⟨h,h2⟩
end
end Go.Proofs.YtfljmihdeimahaaGreatDoor
namespace Go.Proofs.YtfljmihdeimahaaGreatDoor
set_option linter.all false
open Go.RowKit
abbrev Own:=Nat→Prop
abbrev Sg:=Nat→Option Value
abbrev sg0:Sg:=fun _=>none
structure Later (w:World) (A:Own) (w':World) (A':Own):Prop where
 size:w.heap.size≤w'.heap.size
 keep:∀ b,b<w.heap.size→¬ A b→w'.heap[b]?=w.heap[b]?∧¬ A' b
theorem Later.refl (w:World) (A:Own):Later w A w A:=⟨Nat.le_refl _,fun _ _ h=>⟨rfl,h⟩⟩
theorem Later.trans {w w' w'':World} {A A' A'':Own} (h:Later w A w' A') (k:Later w' A' w'' A''):Later w A w'' A'' :=
 ⟨Nat.le_trans h.size k.size,fun b hb hA=>⟨((k.keep b (Nat.lt_of_lt_of_le hb h.size) (h.keep b hb hA).2).1).trans (h.keep b hb hA).1,(k.keep b (Nat.lt_of_lt_of_le hb h.size) (h.keep b hb hA).2).2⟩⟩
theorem Later.own {w:World} {A A':Own} (h:∀ b,A' b→A b):Later w A w A':=⟨Nat.le_refl _,fun b _ hb=>⟨rfl,fun hx=>hb (h b hx)⟩⟩
structure Mod (M:Own) (w w':World):Prop where
 os:w'.os=w.os
 tape:w'.tape=w.tape
 output:w'.output=w.output
 size:w.heap.size≤w'.heap.size
 block:∀ k,k<w.heap.size→¬ M k→w'.heap[k]?=w.heap[k]?
theorem Mod.refl (M:Own) (w:World):Mod M w w:=⟨rfl,rfl,rfl,Nat.le_refl _,fun _ _ _=>rfl⟩
theorem Mod.trans {M:Own} {a b c:World} (h:Mod M a b) (k:Mod M b c):Mod M a c :=
 ⟨k.os.trans h.os,k.tape.trans h.tape,k.output.trans h.output,Nat.le_trans h.size k.size,fun i hi hm=>(k.block i (Nat.lt_of_lt_of_le hi h.size) hm).trans (h.block i hi hm)⟩
abbrev Kept (w w':World):Prop:=Mod (fun _=>False) w w'
theorem Mod.mono {M M':Own} {w w':World} (h:Mod M w w') (hM:∀ b,M b→M' b):Mod M' w w':=⟨h.os,h.tape,h.output,h.size,fun k hk hm=>h.block k hk (fun x=>hm (hM k x))⟩
theorem Mod.step {M M':Own} {a b c:World} (h:Mod M a b) (k:Mod M' b c) (hM:∀ i,M' i→M i∨a.heap.size≤i):Mod M a c :=
 ⟨k.os.trans h.os,k.tape.trans h.tape,k.output.trans h.output,Nat.le_trans h.size k.size,fun i hi hm =>
   (k.block i (Nat.lt_of_lt_of_le hi h.size) (fun x=>(hM i x).elim hm (fun y=>absurd hi (by omega)))).trans (h.block i hi hm)⟩
theorem Mod.drew (M:Own) (w:World):Mod M w w.drew:=⟨rfl,rfl,rfl,Nat.le_refl _,fun _ _ _=>rfl⟩
theorem Mod.alloc (M:Own) (w:World) (o:Obj):Mod M w (w.alloc o):=⟨rfl,rfl,rfl,by simp,fun k hk _=>Below.heap_alloc _ _ _ hk⟩
theorem Mod.grown {w w':World} {row:Option Nat} (h:w.grownBy w' row):Mod (fun b=>row=some b) w w' :=
 ⟨h.os,h.tape,h.output,h.size,fun k hk hm=>h.block k hk (fun e=>hm e.symm)⟩
theorem Mod.setRow (w:World) (g:Nat) (C:Array Value):Mod (fun x=>x=g) w (w.setRow g C) :=
 ⟨rfl,rfl,rfl,by simp,fun k _ hk=>setRow_other w g k C hk⟩
theorem Kept.mod {w w':World} (h:Kept w w') (M:Own):Mod M w w':=h.mono (fun _ x=>x.elim)
theorem Kept.later {w w':World} (h:Kept w w') (A:Own) {A':Own} (hA:∀ b,b<w.heap.size→A' b→A b):Later w A w' A' :=
 ⟨h.size,fun b hb hn=>⟨h.block b hb (fun x=>x),fun h'=>hn (hA b hb h')⟩⟩
theorem Mod.later {M:Own} {w w':World} (h:Mod M w w') {A A':Own} (hM:∀ b,M b→A b) (hA:∀ b,b<w.heap.size→A' b→A b):Later w A w' A' :=
 ⟨h.size,fun b hb hn=>⟨h.block b hb (fun x=>hn (hM b x)),fun h'=>hn (hA b hb h')⟩⟩
inductive SV:Type 1
 | bool (b:Bool)
 | dec (p:Prop) (i:Decidable p)
 | int (k:IntKind) (n:Int)
 | u8 (x:BitVec 8)
 | u16 (x:BitVec 16)
 | u32 (x:BitVec 32)
 | u64 (x:BitVec 64)
 | str (s:List (BitVec 8))
 | nilp
 | nils
 | ptr (o off:Nat)
 | own (o:Nat)
 | rptr (o q z off:Nat)
 | cptr (o off q:Nat)
 | bsl (o off lo hi:Nat)
 | fs (z:Nat) {α:Type} (enc:α→List SV) (xs:List α)
 | fpt (ps:List SV)
 | fn (f:Nat)
 | nilf
 | nilm
 | val (v:Value)
 | arr8 {n:Nat} (x:Vector (BitVec 8) n)
 | arr32 {n:Nat} (x:Vector (BitVec 32) n)
 | arrG (z:Nat) {α:Type} (enc:α→List SV) (xs:List α)
 | agg (ps:List SV)
 | tup (vs:List SV)
 | undef
def inR (n:Int):Prop:=-9223372036854775808≤n∧n<9223372036854775808
abbrev bV (k:IntKind) {w:Nat} (x:BitVec w):Value:=.int k (x.toNat:Int)
def baOf (l:List (BitVec 8)):ByteArray:=⟨(l.map UInt8.ofBitVec).toArray⟩
def SV.sz:SV→Nat
 | @SV.arr8 n _=>n
 | @SV.arr32 n _=>n
 | .arrG z _ xs=>xs.length*z
 | _=>1
def szL:List SV→Nat
 | []=>0
 | s::r=>s.sz+szL r
mutual
def SV.hc (w:World) (A:Own):SV→Sg→List Value→Prop
 | .bool b,_,cs=>cs=[.bool b]
 | .dec p i,_,cs=>cs=[.bool (@decide p i)]
 | .int k n,_,cs=>cs=[.int k n]∧(k=.i64→inR n)
 | .u8 x,_,cs=>cs=[bV .u8 x]
 | .u16 x,_,cs=>cs=[bV .u16 x]
 | .u32 x,_,cs=>cs=[bV .u32 x]
 | .u64 x,_,cs=>cs=[bV .u64 x]
 | .str s,_,cs=>cs=[.string (baOf s)]
 | .nilp,_,cs=>cs=[.pointer none]
 | .nils,_,cs=>cs=[.slice none 0 0]
 | .ptr o off,σ,cs=>∃ b c,σ o=some (.pointer (some ⟨b,c,none⟩))∧cs=[.pointer (some ⟨b,c+off,none⟩)]
 | .own o,σ,cs=>∃ v,σ o=some v∧v.oneCell'=true∧cs=[v]
 | .rptr o q z off,σ,cs=>∃ g l c,σ o=some (.slice (some ⟨g,0,none⟩) l c)∧cs=[.pointer (some ⟨g,q*z+off,none⟩)]
 | .cptr o off q,σ,cs=>∃ b c,σ o=some (.pointer (some ⟨b,c,none⟩))∧cs=[.pointer (some ⟨b,c+off+q,none⟩)]
 | .bsl o off lo hi,σ,cs=>∃ b c p k,σ o=some (.pointer (some ⟨b,c,none⟩))∧cs=[.slice (some ⟨b,p,none⟩) (hi - lo) k]∧lo≤hi∧hi - lo≤k∧k≤maxLen∧(lo<hi→p=c+off+lo)
 | .fs z enc xs,_,cs=>∃ a c,cs=[.slice a xs.length c]∧xs.length≤c∧c≤maxLen∧(a=none→xs=[]∧c=0)∧(∀ i (h:i<xs.length),szL (enc xs[i])=z) ∧
     ∀ ad,a=some ad→(xs=[]∨(ad.spot=none∧¬ A ad.block∧∃ C T fr,w.heap[ad.block]?=some (.cells C T fr)∧∀ i (h:i<xs.length),hL w A (enc xs[i]) sg0 ((C.toList.drop (ad.off+i*z)).take z)))
 | .fpt ps,_,cs=>∃ b off,cs=[.pointer (some ⟨b,off,none⟩)]∧¬ A b∧∃ C T fr,w.heap[b]?=some (.cells C T fr)∧hL w A ps sg0 ((C.toList.drop off).take (szL ps))
 | .fn f,_,cs=>cs=[.func (.func f) #[] #[]]
 | .nilf,_,cs=>cs=[.nilFunc]
 | .nilm,_,cs=>cs=[.map none]
 | .val v,_,cs=>cs=[v]∧v.oneCell'=true
 | .arr8 x,_,cs=>cs=x.toList.map (bV .u8)
 | .arr32 x,_,cs=>cs=x.toList.map (bV .u32)
 | .arrG z enc xs,_,cs=>cs.length=xs.length*z∧∀ i (h:i<xs.length),hL w A (enc xs[i]) sg0 ((cs.drop (i*z)).take z)
 | .agg _,_,_=>False
 | .tup _,_,_=>False
 | .undef,_,_=>False
def hL (w:World) (A:Own):List SV→Sg→List Value→Prop
 | [],_,cs=>cs=[]
 | s::r,σ,cs=>∃ a b,cs=a++b∧SV.hc w A s σ a∧hL w A r σ b
end
mutual
theorem SV.hc.later {w w':World} {A A':Own} (hl:Later w A w' A'):∀ (s:SV) (σ:Sg) (cs:List Value),s.hc w A σ cs→s.hc w' A' σ cs
 | .bool b,_,cs,h=>h
 | .dec p i,_,cs,h=>h
 | .int k n,_,cs,h=>h
 | .u8 x,_,cs,h=>h
 | .u16 x,_,cs,h=>h
 | .u32 x,_,cs,h=>h
 | .u64 x,_,cs,h=>h
 | .str s,_,cs,h=>h
 | .nilp,_,cs,h=>h
 | .nils,_,cs,h=>h
 | .ptr o off,σ,cs,h=>h
 | .own o,σ,cs,h=>h
 | .rptr o q z off,σ,cs,h=>h
 | .cptr o off q,σ,cs,h=>h
 | .bsl o off lo hi,σ,cs,h=>h
 | .fs z enc xs,_,cs,⟨a,c,h1,h2,h3,h4,h5,h6⟩=>⟨a,c,h1,h2,h3,h4,h5,fun ad had=>(h6 ad had).imp id fun ⟨g1,g2,C,T,fr,g3,g4⟩ =>
     have hlt:=(Array.getElem?_eq_some_iff.1 g3).1
     ⟨g1,(hl.keep _ hlt g2).2,C,T,fr,((hl.keep _ hlt g2).1).trans g3,fun i hi=>hL.later hl (enc xs[i]) _ _ (g4 i hi)⟩⟩
 | .fpt ps,_,cs,⟨b,off,h1,h2,C,T,fr,h3,h4⟩ =>
     have hlt:=(Array.getElem?_eq_some_iff.1 h3).1
     ⟨b,off,h1,(hl.keep _ hlt h2).2,C,T,fr,((hl.keep _ hlt h2).1).trans h3,hL.later hl ps _ _ h4⟩
 | .fn f,_,cs,h=>h
 | .nilf,_,cs,h=>h
 | .nilm,_,cs,h=>h
 | .val v,_,cs,h=>h
 | .arr8 x,_,cs,h=>h
 | .arr32 x,_,cs,h=>h
 | .arrG z enc xs,σ,cs,⟨h1,h2⟩=>⟨h1,fun i hi=>hL.later hl (enc xs[i]) _ _ (h2 i hi)⟩
theorem hL.later {w w':World} {A A':Own} (hl:Later w A w' A'):∀ (l:List SV) (σ:Sg) (cs:List Value),hL w A l σ cs→hL w' A' l σ cs
 | [],_,cs,h=>h
 | s::r,σ,cs,⟨a,b,h1,h2,h3⟩=>⟨a,b,h1,SV.hc.later hl s σ a h2,hL.later hl r σ b h3⟩
end
theorem SV.hc.len {w:World} {A:Own}:∀ {s:SV} {σ:Sg} {cs:List Value},s.hc w A σ cs→cs.length=s.sz:=by
 intro s σ cs h
 cases s<;>simp only [SV.hc] at h<;>first
   | (subst h;simp [SV.sz])
   | (obtain ⟨h,_⟩:=h;subst h;rfl)
   | exact h.elim
   | (obtain ⟨_,_,_,h⟩:=h;subst h;rfl)
   | (obtain ⟨_,_,_,_,h⟩:=h;subst h;rfl)
   | (obtain ⟨_,_,h,_⟩:=h;subst h;rfl)
   | (obtain ⟨_,_,_,_,_,h,_⟩:=h;subst h;rfl)
   | exact h.1
theorem hL.len {w:World} {A:Own}:∀ {l:List SV} {σ:Sg} {cs:List Value},hL w A l σ cs→cs.length=szL l
 | [],_,cs,h=>by simp only [hL] at h;subst h;rfl
 | s::r,σ,cs,h=>by
   simp only [hL] at h;obtain ⟨a,b,rfl,h1,h2⟩:=h;rw [List.length_append,h1.len,hL.len h2];rfl
theorem mem_chunk {cs:List Value} {n z:Nat} (h:cs.length=n*z) {v:Value} (hv:v∈cs):∃ i,i<n∧v∈(cs.drop (i*z)).take z:=by
 obtain ⟨j,hj,rfl⟩:=List.mem_iff_getElem.1 hv;have hz:0<z:=by
   rcases Nat.eq_zero_or_pos z with h0|h0
   · subst h0;rw [h,Nat.mul_zero] at hj;exact absurd hj (by omega)
   · exact h0
 refine ⟨j / z,?_,?_⟩
 · rw [Nat.div_lt_iff_lt_mul hz];omega
 · have h1:j / z*z≤j:=Nat.div_mul_le_self _ _
   have h2:j<(j / z+1)*z:=by have:=Nat.lt_mul_div_succ j hz;rw [Nat.mul_comm] at this;exact this
   rw [Nat.add_mul,Nat.one_mul] at h2;refine List.mem_iff_getElem.2 ⟨j - j / z*z,by rw [List.length_take,List.length_drop];omega,?_⟩
   rw [List.getElem_take,List.getElem_drop]
   congr 1;omega
mutual
theorem SV.hc.one {w:World} {A:Own}:∀ (s:SV) (σ:Sg) (cs:List Value),s.hc w A σ cs→∀ v∈cs,v.oneCell'=true
 | .bool b,_,cs,h=>by simp only [SV.hc] at h;subst h;simp [Value.oneCell']
 | .dec p i,_,cs,h=>by simp only [SV.hc] at h;subst h;simp [Value.oneCell']
 | .int k n,_,cs,h=>by simp only [SV.hc] at h;obtain ⟨rfl,_⟩:=h;simp [Value.oneCell']
 | .u8 x,_,cs,h=>by simp only [SV.hc] at h;subst h;simp [Value.oneCell']
 | .u16 x,_,cs,h=>by simp only [SV.hc] at h;subst h;simp [Value.oneCell']
 | .u32 x,_,cs,h=>by simp only [SV.hc] at h;subst h;simp [Value.oneCell']
 | .u64 x,_,cs,h=>by simp only [SV.hc] at h;subst h;simp [Value.oneCell']
 | .str s,_,cs,h=>by simp only [SV.hc] at h;subst h;simp [Value.oneCell']
 | .nilp,_,cs,h=>by simp only [SV.hc] at h;subst h;simp [Value.oneCell']
 | .nils,_,cs,h=>by simp only [SV.hc] at h;subst h;simp [Value.oneCell']
 | .ptr o off,σ,cs,h=>by simp only [SV.hc] at h;obtain ⟨_,_,_,rfl⟩:=h;simp [Value.oneCell']
 | .own o,σ,cs,h=>by simp only [SV.hc] at h;obtain ⟨v,_,h1,rfl⟩:=h;simpa using h1
 | .rptr o q z off,σ,cs,h=>by simp only [SV.hc] at h;obtain ⟨_,_,_,_,rfl⟩:=h;simp [Value.oneCell']
 | .cptr o off q,σ,cs,h=>by simp only [SV.hc] at h;obtain ⟨_,_,_,rfl⟩:=h;simp [Value.oneCell']
 | .bsl o off lo hi,σ,cs,h=>by simp only [SV.hc] at h;obtain ⟨_,_,_,_,_,rfl,_⟩:=h;simp [Value.oneCell']
 | .fs z enc xs,_,cs,h=>by simp only [SV.hc] at h;obtain ⟨_,_,rfl,_⟩:=h;simp [Value.oneCell']
 | .fpt ps,_,cs,h=>by simp only [SV.hc] at h;obtain ⟨_,_,rfl,_⟩:=h;simp [Value.oneCell']
 | .fn f,_,cs,h=>by simp only [SV.hc] at h;subst h;simp [Value.oneCell']
 | .nilf,_,cs,h=>by simp only [SV.hc] at h;subst h;simp [Value.oneCell']
 | .nilm,_,cs,h=>by simp only [SV.hc] at h;subst h;simp [Value.oneCell']
 | .val v,_,cs,h=>by simp only [SV.hc] at h;obtain ⟨rfl,h1⟩:=h;simpa using h1
 | .arr8 x,_,cs,h=>by simp only [SV.hc] at h;subst h;intro v hv;obtain ⟨y,_,rfl⟩:=List.mem_map.1 hv;rfl
 | .arr32 x,_,cs,h=>by simp only [SV.hc] at h;subst h;intro v hv;obtain ⟨y,_,rfl⟩:=List.mem_map.1 hv;rfl
 | .arrG z enc xs,σ,cs,h=>by
   simp only [SV.hc] at h;intro v hv;obtain ⟨i,hi,hm⟩:=mem_chunk h.1 hv;exact hL.one (enc xs[i]) _ _ (h.2 i hi) v hm
 | .agg _,_,_,h=>by simp only [SV.hc] at h
 | .tup _,_,_,h=>by simp only [SV.hc] at h
 | .undef,_,_,h=>by simp only [SV.hc] at h
theorem hL.one {w:World} {A:Own}:∀ (l:List SV) (σ:Sg) (cs:List Value),hL w A l σ cs→∀ v∈cs,v.oneCell'=true
 | [],_,cs,h=>by simp only [hL] at h;subst h;simp
 | s::r,σ,cs,h=>by
   simp only [hL] at h;obtain ⟨a,b,rfl,h1,h2⟩:=h;intro v hv;rcases List.mem_append.1 hv with hv|hv
   · exact SV.hc.one s σ a h1 v hv
   · exact hL.one r σ b h2 v hv
end
def Sg.le (σ σ':Sg):Prop:=∀ k v,σ k=some v→σ' k=some v
theorem Sg.le.refl (σ:Sg):Sg.le σ σ:=fun _ _ h=>h
theorem Sg.le.trans {a b c:Sg} (h:Sg.le a b) (k:Sg.le b c):Sg.le a c:=fun n v e=>k n v (h n v e)
mutual
theorem SV.hc.names {w:World} {A:Own}:∀ (s:SV) {σ σ':Sg} (cs:List Value),Sg.le σ σ'→s.hc w A σ cs→s.hc w A σ' cs
 | .bool b,_,_,cs,_,h=>h
 | .dec p i,_,_,cs,_,h=>h
 | .int k n,_,_,cs,_,h=>h
 | .u8 x,_,_,cs,_,h=>h
 | .u16 x,_,_,cs,_,h=>h
 | .u32 x,_,_,cs,_,h=>h
 | .u64 x,_,_,cs,_,h=>h
 | .str s,_,_,cs,_,h=>h
 | .nilp,_,_,cs,_,h=>h
 | .nils,_,_,cs,_,h=>h
 | .ptr o off,_,_,cs,hs,⟨b,c,h1,h2⟩=>⟨b,c,hs _ _ h1,h2⟩
 | .own o,_,_,cs,hs,⟨v,h1,h2⟩=>⟨v,hs _ _ h1,h2⟩
 | .rptr o q z off,_,_,cs,hs,⟨g,l,c,h1,h2⟩=>⟨g,l,c,hs _ _ h1,h2⟩
 | .cptr o off q,_,_,cs,hs,⟨b,c,h1,h2⟩=>⟨b,c,hs _ _ h1,h2⟩
 | .bsl o off lo hi,_,_,cs,hs,⟨b,c,p,k,h1,h2⟩=>⟨b,c,p,k,hs _ _ h1,h2⟩
 | .fs z enc xs,_,_,cs,_,h=>h
 | .fpt ps,_,_,cs,_,h=>h
 | .fn f,_,_,cs,_,h=>h
 | .nilf,_,_,cs,_,h=>h
 | .nilm,_,_,cs,_,h=>h
 | .val v,_,_,cs,_,h=>h
 | .arr8 x,_,_,cs,_,h=>h
 | .arr32 x,_,_,cs,_,h=>h
 | .arrG z enc xs,_,_,cs,hs,h=>h
theorem hL.names {w:World} {A:Own}:∀ (l:List SV) {σ σ':Sg} (cs:List Value),Sg.le σ σ'→hL w A l σ cs→hL w A l σ' cs
 | [],_,_,cs,_,h=>h
 | s::r,_,_,cs,hs,⟨a,b,h1,h2,h3⟩=>⟨a,b,h1,SV.hc.names s a hs h2,hL.names r b hs h3⟩
end
theorem hL.append {w:World} {A:Own} {σ:Sg}:∀ {l m:List SV} {cs ds:List Value},hL w A l σ cs→hL w A m σ ds→hL w A (l++m) σ (cs++ds)
 | [],m,cs,ds,h,k=>by simp only [hL] at h;subst h;exact k
 | s::r,m,cs,ds,h,k=>by
   simp only [hL] at h;obtain ⟨a,b,rfl,h1,h2⟩:=h;simp only [List.cons_append,hL];exact ⟨a,b++ds,by rw [List.append_assoc],h1,hL.append h2 k⟩
theorem hL.split {w:World} {A:Own} {σ:Sg}:∀ {l m:List SV} {cs:List Value},hL w A (l++m) σ cs→∃ a b,cs=a++b∧hL w A l σ a∧hL w A m σ b
 | [],m,cs,h=>⟨[],cs,rfl,by simp only [hL],h⟩
 | s::r,m,cs,h=>by
   simp only [List.cons_append,hL] at h;obtain ⟨a,b,rfl,h1,h2⟩:=h;obtain ⟨x,y,rfl,h3,h4⟩:=hL.split (l:=r) h2;exact ⟨a++x,y,by rw [List.append_assoc],by simp only [hL];exact ⟨a,x,rfl,h1,h3⟩,h4⟩
theorem hL.single {w:World} {A:Own} {σ:Sg} {s:SV} {cs:List Value}:hL w A [s] σ cs↔s.hc w A σ cs:=by
 simp only [hL];exact ⟨fun ⟨a,b,h,h1,h2⟩=>by subst h2;rw [h,List.append_nil];exact h1,fun h=>⟨cs,[],by simp,h,rfl⟩⟩
def SV.h1 (w:World) (A:Own) (σ:Sg):SV→Value→Prop
 | .agg ps,v=>∃ cs,v=.agg cs.toArray∧hL w A ps σ cs
 | .undef,_=>True
 | s,v=>s.hc w A σ [v]
def hvs (w:World) (A:Own) (σ:Sg):List SV→List Value→Prop
 | [],l=>l=[]
 | s::r,l=>∃ v m,l=v::m∧s.h1 w A σ v∧hvs w A σ r m
def SV.hv (w:World) (A:Own) (σ:Sg):SV→Value→Prop
 | .tup vs,v=>∃ l,v=.tuple l.toArray∧hvs w A σ vs l
 | s,v=>s.h1 w A σ v
theorem SV.h1.later {w w':World} {A A':Own} {σ:Sg} (hl:Later w A w' A') {s:SV} {v:Value} (h:s.h1 w A σ v):s.h1 w' A' σ v:=by
 cases s<;>first|exact SV.hc.later hl _ σ [v] h|trivial|skip
 obtain ⟨cs,h1,h2⟩:=h;exact ⟨cs,h1,hL.later hl _ _ _ h2⟩
theorem hvs.later {w w':World} {A A':Own} {σ:Sg} (hl:Later w A w' A'):∀ {l:List SV} {vs:List Value},hvs w A σ l vs→hvs w' A' σ l vs
 | [],_,h=>h
 | s::r,_,⟨v,m,h1,h2,h3⟩=>⟨v,m,h1,h2.later hl,hvs.later hl h3⟩
theorem SV.hv.later {w w':World} {A A':Own} {σ:Sg} (hl:Later w A w' A') {s:SV} {v:Value} (h:s.hv w A σ v):s.hv w' A' σ v:=by
 cases s with
 | tup vs=>obtain ⟨l,h1,h2⟩:=h;exact ⟨l,h1,h2.later hl⟩
 | _=>(simp only [SV.hv] at h ⊢;exact SV.h1.later hl h)
theorem SV.h1.names {w:World} {A:Own} {σ σ':Sg} (hs:Sg.le σ σ') {s:SV} {v:Value} (h:s.h1 w A σ v):s.h1 w A σ' v:=by
 cases s<;>first|exact SV.hc.names _ [v] hs h|trivial|skip
 obtain ⟨cs,h1,h2⟩:=h;exact ⟨cs,h1,hL.names _ _ hs h2⟩
theorem hvs.names {w:World} {A:Own} {σ σ':Sg} (hs:Sg.le σ σ'):∀ {l:List SV} {vs:List Value},hvs w A σ l vs→hvs w A σ' l vs
 | [],_,h=>h
 | s::r,_,⟨v,m,h1,h2,h3⟩=>⟨v,m,h1,h2.names hs,hvs.names hs h3⟩
theorem SV.hv.names {w:World} {A:Own} {σ σ':Sg} (hs:Sg.le σ σ') {s:SV} {v:Value} (h:s.hv w A σ v):s.hv w A σ' v:=by
 cases s with
 | tup vs=>obtain ⟨l,h1,h2⟩:=h;exact ⟨l,h1,h2.names hs⟩
 | _=>(simp only [SV.hv] at h ⊢;exact SV.h1.names hs h)
def hE (w:World) (A:Own) (σ:Sg):List (List SV)→List Value→Prop
 | [],cs=>cs=[]
 | e::r,cs=>∃ c rest,cs=c++rest∧hL w A e σ c∧hE w A σ r rest
theorem hE.later {w w':World} {A A':Own} {σ:Sg} (hl:Later w A w' A'):∀ {l:List (List SV)} {cs:List Value},hE w A σ l cs→hE w' A' σ l cs
 | [],cs,h=>h
 | e::r,cs,⟨c,rest,h,h1,hr⟩=>⟨c,rest,h,hL.later hl _ _ _ h1,hE.later hl hr⟩
theorem hE.names {w:World} {A:Own} {σ σ':Sg} (hs:Sg.le σ σ'):∀ {l:List (List SV)} {cs:List Value},hE w A σ l cs→hE w A σ' l cs
 | [],cs,h=>h
 | e::r,cs,⟨c,rest,h,h1,hr⟩=>⟨c,rest,h,hL.names _ _ hs h1,hE.names hs hr⟩
theorem hE.one {w:World} {A:Own} {σ:Sg}:∀ {l:List (List SV)} {cs:List Value},hE w A σ l cs→∀ v∈cs,v.oneCell'=true
 | [],cs,h=>by simp only [hE] at h;simp [h]
 | e::r,cs,⟨c,rest,h,h1,hr⟩=>by
   intro v hv;rw [h] at hv;rcases List.mem_append.1 hv with hv|hv
   · exact hL.one _ _ _ h1 v hv
   · exact hE.one hr v hv
theorem hE.len {w:World} {A:Own} {σ:Sg} {z:Nat}:∀ {l:List (List SV)} {cs:List Value},(∀ e∈l,szL e=z)→hE w A σ l cs→cs.length=l.length*z
 | [],cs,_,h=>by simp only [hE] at h;simp [h]
 | e::r,cs,hz,⟨c,rest,h,h1,hr⟩=>by
   rw [h,List.length_append,h1.len,hE.len (fun e he=>hz e (List.mem_cons_of_mem _ he)) hr,hz e (by simp),List.length_cons,Nat.add_mul];omega
theorem hE.append {w:World} {A:Own} {σ:Sg}:∀ {l m:List (List SV)} {cs ds:List Value},hE w A σ l cs→hE w A σ m ds→hE w A σ (l++m) (cs++ds)
 | [],m,cs,ds,h,k=>by simp only [hE] at h;subst h;exact k
 | e::r,m,cs,ds,⟨c,rest,h,h1,hr⟩,k=>⟨c,rest++ds,by rw [h,List.append_assoc],h1,hE.append hr k⟩
theorem hE.get {w:World} {A:Own} {σ:Sg} {z:Nat}:∀ {l:List (List SV)} {cs:List Value} {i:Nat} {e:List SV},hE w A σ l cs→(∀ e∈l,szL e=z)→l[i]?=some e→hL w A e σ ((cs.drop (i*z)).take z)
 | [],cs,i,e,h,_,hi=>by simp at hi
 | e0::r,cs,0,e,⟨c,rest,h,h1,hr⟩,hz,hi=>by
   simp only [List.getElem?_cons_zero,Option.some.injEq] at hi;subst hi
   have:c.length=z:=by rw [h1.len];exact hz _ (by simp)
   simp only [Nat.zero_mul,List.drop_zero];rw [h,← this,List.take_left];exact h1
 | e0::r,cs,i+1,e,⟨c,rest,h,h1,hr⟩,hz,hi=>by
   simp only [List.getElem?_cons_succ] at hi
   have:c.length=z:=by rw [h1.len];exact hz _ (by simp)
   have:=hE.get hr (fun e he=>hz e (List.mem_cons_of_mem _ he)) hi
   rw [h,Nat.add_mul,Nat.one_mul,Nat.add_comm,← List.drop_drop];rename_i hc;rw [show (c++rest).drop z=rest by rw [← hc,List.drop_left]]
   exact this
theorem hE.of {w:World} {A:Own} {σ:Sg} {z:Nat}:∀ {l:List (List SV)} {cs:List Value},cs.length=l.length*z→(∀ i e,l[i]?=some e→hL w A e σ ((cs.drop (i*z)).take z))→hE w A σ l cs
 | [],cs,h,_=>by simp only [hE];exact List.eq_nil_of_length_eq_zero (by simpa using h)
 | e::r,cs,h,hi=>by
   rw [List.length_cons,Nat.add_mul,Nat.one_mul] at h;refine ⟨cs.take z,cs.drop z,(List.take_append_drop _ _).symm,by simpa using hi 0 e rfl,hE.of (z:=z) (by rw [List.length_drop];omega) fun i e' he=>?_⟩
   have:=hi (i+1) e' (by simpa using he)
   rw [Nat.add_mul,Nat.one_mul,Nat.add_comm,← List.drop_drop] at this;exact this
structure AO where
 own:Own
 holds:World→Own→Prop
 plain:Prop
 lt:∀ {w A b},holds w A→own b→b<w.heap.size
 later:∀ {w A w' A'},holds w A→Later w A w' A'→(∀ b,own b→w'.heap[b]?=w.heap[b]?)→holds w' A'
 any:∀ {w A A'},plain→holds w A→holds w A'
inductive SO:Type 1
 | box (T:Nat) (ps:List SV)
 | row (e z:Nat) {α:Type} (enc:α→List SV) (xs:List α)
 | lits (e z:Nat) (els:List (List SV))
 | fbox (T:Nat) (ps:List SV)
 | frow (z:Nat) {α:Type} (enc:α→List SV) (xs:List α)
 | nrow
 | mp (k e:Nat) {κ ν:Type} (inst:DecidableEq κ) (ek:κ→SV) (ev:ν→SV) (l:List (κ×ν))
 | ab (a:AO)
abbrev Ob:=Nat×SO
def blkO:Value→Option Nat
 | .pointer (some a)=>some a.block
 | .slice (some a) _ _=>some a.block
 | .map (some b)=>some b
 | _=>none
def SO.own (σ:Sg) (k:Nat):SO→Own
 | .ab a=>a.own
 | .fbox _ _=>fun _=>False
 | .frow _ _ _=>fun _=>False
 | _=>fun b=>∃ v,σ k=some v∧blkO v=some b
def rowH (w:World) (A:Own) (σ:Sg) (k e z:Nat) (els:List (List SV)):Prop :=
 ∃ v cs,σ k=some v∧(∀ e∈els,szL e=z)∧els.length≤140737488355328∧hE w A sg0 els cs∧w.ownsRow 0 e z v els.length cs
def mE (w:World) (A:Own) {κ ν:Type} (ek:κ→SV) (ev:ν→SV):List (κ×ν)→List MapEntry→Prop
 | [],es=>es=[]
 | p::r,es=>∃ e t,es=e::t∧(ek p.1).hv w A sg0 e.key∧(ev p.2).hv w A sg0 e.val∧mE w A ek ev r t
def mapH (w:World) (A:Own) (σ:Sg) (k:Nat) {κ ν:Type} (ek:κ→SV) (ev:ν→SV) (l:List (κ×ν)):Prop :=
 ∃ b es clock,σ k=some (.map (some b))∧w.heap[b]?=some (.map es clock)∧mE w A ek ev l es.toList∧(l.map Prod.fst).Nodup∧l.length≤140737488355328
theorem mE.later {w w':World} {A A':Own} (hl:Later w A w' A') {κ ν:Type} {ek:κ→SV} {ev:ν→SV}:∀ {l:List (κ×ν)} {es:List MapEntry},mE w A ek ev l es→mE w' A' ek ev l es
 | [],es,h=>h
 | p::r,es,⟨e,t,h1,h2,h3,h4⟩=>⟨e,t,h1,h2.later hl,h3.later hl,h4.later hl⟩
def SO.holds (w:World) (A:Own) (σ:Sg) (k:Nat):SO→Prop
 | .box T ps=>∃ b cs,σ k=some (.pointer (some ⟨b,0,none⟩))∧w.heap[b]?=some (.cells cs.toArray T (0,0))∧hL w A ps σ cs
 | .row e z enc xs=>rowH w A σ k e z (xs.map enc)
 | .lits e z els=>rowH w A σ k e z els
 | .fbox T ps=>∃ v,σ k=some v∧(SV.fpt ps).hc w A sg0 [v]∧∃ b,v=.pointer (some ⟨b,0,none⟩)
 | .frow z enc xs=>∃ v,σ k=some v∧(SV.fs z enc xs).hc w A sg0 [v]
 | .nrow=>σ k=some (.slice none 0 0)
 | .mp _ _ _ ek ev l=>mapH w A σ k ek ev l
 | .ab a=>a.holds w A
def owns (σ:Sg):List Ob→Own
 | []=>fun _=>False
 | o::r=>fun b=>o.2.own σ o.1 b∨owns σ r b
def Disj (σ:Sg):List Ob→Prop
 | []=>True
 | o::r=>(∀ b,o.2.own σ o.1 b→¬ owns σ r b)∧Disj σ r
structure Obs (σ:Sg) (A0:Own) (objs:List Ob) (w:World):Prop where
 holds:∀ o∈objs,o.2.holds w (fun b=>A0 b∨owns σ objs b) σ o.1
 disj:Disj σ objs
 lt:∀ b,owns σ objs b→b<w.heap.size∧¬ A0 b
theorem own_blk {w:World} {e:TypeId} {z:Nat} {v:Value} {n:Nat} {cs:List Value} (h:w.ownsRow 0 e z v n cs):blkO v=v.ownBlock∧v.oneCell'=true:=by
 rcases h.2 with ⟨rfl,_⟩|⟨g,cap,cur,rfl,_⟩<;>exact ⟨rfl,rfl⟩
theorem rowH.lt {w:World} {A:Own} {σ:Sg} {k e z:Nat} {els:List (List SV)} (h:rowH w A σ k e z els) {b:Nat} {v:Value} (hv:σ k=some v) (hb:blkO v=some b):b<w.heap.size:=by
 obtain ⟨u,cs,h1,_,_,_,ho⟩:=h;rw [hv] at h1;cases h1;rw [(own_blk ho).1] at hb;exact (ho.lt b hb).2
theorem SO.own_lt {w:World} {A:Own} {σ:Sg} {k:Nat} {o:SO} (h:o.holds w A σ k):∀ b,o.own σ k b→b<w.heap.size:=by
 intro b hb
 cases o with
 | box T ps =>
   obtain ⟨c,cs,h1,h2,_⟩:=h;obtain ⟨v,hv,hb⟩:=hb;rw [h1] at hv;cases hv;cases hb;exact (Array.getElem?_eq_some_iff.1 h2).1
 | row e z enc xs=>obtain ⟨v,hv,hb⟩:=hb;exact rowH.lt h hv hb
 | lits e z els=>obtain ⟨v,hv,hb⟩:=hb;exact rowH.lt h hv hb
 | fbox T ps=>exact hb.elim
 | frow z enc xs=>exact hb.elim
 | nrow=>obtain ⟨v,hv,hb⟩:=hb;simp only [SO.holds] at h;rw [h] at hv;cases hv;cases hb
 | mp _ _ _ ek ev l =>
   obtain ⟨c,es,clock,h1,h2,_⟩:=h;obtain ⟨v,hv,hb⟩:=hb;rw [h1] at hv;cases hv;cases hb;exact (Array.getElem?_eq_some_iff.1 h2).1
 | ab a=>exact a.lt h hb
theorem rowH.later {w w':World} {A A':Own} {σ:Sg} {k e z:Nat} {els:List (List SV)} (h:rowH w A σ k e z els) (hl:Later w A w' A') (hb:∀ b v,σ k=some v→blkO v=some b→w'.heap[b]?=w.heap[b]?):rowH w' A' σ k e z els:=by
 obtain ⟨v,cs,hv,h1,h2,h3,ho⟩:=h;refine ⟨v,cs,hv,h1,h2,h3.later hl,ho.1,?_⟩;rcases ho.2 with hn|⟨g,cap,cur,rfl,hb0,hg,rest⟩
 · exact .inl hn
 · exact .inr ⟨g,cap,cur,rfl,hb0,(hb g _ hv rfl).trans hg,rest⟩
theorem SO.holds.later {w w':World} {A A':Own} {σ:Sg} {k:Nat} {o:SO} (h:o.holds w A σ k) (hl:Later w A w' A') (hb:∀ b,o.own σ k b→w'.heap[b]?=w.heap[b]?):o.holds w' A' σ k:=by
 cases o with
 | box T ps =>
   obtain ⟨b,cs,h1,h2,h3⟩:=h;exact ⟨b,cs,h1,(hb b ⟨_,h1,rfl⟩).trans h2,hL.later hl _ _ _ h3⟩
 | row e z enc xs=>exact rowH.later h hl (fun b v hv hk=>hb b ⟨v,hv,hk⟩)
 | lits e z els=>exact rowH.later h hl (fun b v hv hk=>hb b ⟨v,hv,hk⟩)
 | fbox T ps=>obtain ⟨v,h1,h2,h3⟩:=h;exact ⟨v,h1,SV.hc.later hl _ _ _ h2,h3⟩
 | frow z enc xs=>obtain ⟨v,h1,h2⟩:=h;exact ⟨v,h1,SV.hc.later hl _ _ _ h2⟩
 | nrow=>exact h
 | mp _ _ _ ek ev l =>
   obtain ⟨c,es,clock,h1,h2,h3,h4,h5⟩:=h;exact ⟨c,es,clock,h1,(hb c ⟨_,h1,rfl⟩).trans h2,h3.later hl,h4,h5⟩
 | ab a=>exact a.later h hl hb
theorem owns_mem {σ:Sg} {objs:List Ob} {o:Ob} (ho:o∈objs) {b:Nat} (hb:o.2.own σ o.1 b):owns σ objs b:=by
 induction objs with
 | nil=>cases ho
 | cons p r ih =>
   rcases List.mem_cons.1 ho with rfl|h
   · exact .inl hb
   · exact .inr (ih h)
theorem owns_append {σ:Sg}:∀ (l m:List Ob) (b:Nat),owns σ (l++m) b↔owns σ l b∨owns σ m b
 | [],m,b=>by simp [owns]
 | o::r,m,b=>by simp only [List.cons_append,owns,owns_append r m b,or_assoc]
theorem owns_iff {σ:Sg}:∀ (l:List Ob) (b:Nat),owns σ l b↔∃ o∈l,o.2.own σ o.1 b
 | [],b=>by simp [owns]
 | o::r,b=>by simp [owns,owns_iff r b]
theorem Disj_append {σ:Sg}:∀ {l m:List Ob},Disj σ (l++m)↔Disj σ l∧Disj σ m∧∀ b,owns σ l b→¬ owns σ m b
 | [],m=>by simp [Disj,owns]
 | o::r,m=>by
   simp only [List.cons_append,Disj,owns,Disj_append (l:=r),owns_append,not_or]
   constructor
   · rintro ⟨h1,h2,h3,h4⟩
     exact ⟨⟨fun b hb=>(h1 b hb).1,h2⟩,h3,fun b hb=>hb.elim (fun x=>(h1 b x).2) (h4 b)⟩
   · rintro ⟨⟨h1,h2⟩,h3,h4⟩
     exact ⟨fun b hb=>⟨h1 b hb,h4 b (.inl hb)⟩,h2,h3,fun b hb=>h4 b (.inr hb)⟩
inductive SetO:List Ob→Ob→Ob→List Ob→Prop
 | here {o o':Ob} {r:List Ob}:SetO (o::r) o o' (o'::r)
 | there {x o o':Ob} {r r':List Ob} (h:SetO r o o' r'):SetO (x::r) o o' (x::r')
theorem SetO.split {l m:List Ob} {o o':Ob} (h:SetO l o o' m):∃ a b,l=a++o::b∧m=a++o'::b:=by
 induction h with
 | here=>exact ⟨[],_,rfl,rfl⟩
 | there _ ih=>obtain ⟨a,b,rfl,rfl⟩:=ih;exact ⟨_::a,b,rfl,rfl⟩
theorem SetO.mem {l m:List Ob} {o o':Ob} (h:SetO l o o' m):o∈l:=by
 obtain ⟨a,b,rfl,_⟩:=h.split;simp
theorem SetO.owns_iff {σ:Sg} {l m:List Ob} {o o':Ob} (h:SetO l o o' m):∃ R:Own,(∀ b,owns σ l b↔R b∨o.2.own σ o.1 b)∧(∀ b,owns σ m b↔R b∨o'.2.own σ o'.1 b)∧(Disj σ l→∀ b,R b→¬ o.2.own σ o.1 b):=by
 obtain ⟨a,b,rfl,rfl⟩:=h.split;refine ⟨fun x=>owns σ a x∨owns σ b x,fun x=>?_,fun x=>?_,fun hd x hx=>?_⟩
 · simp only [owns_append,owns];exact ⟨fun h=>h.elim (fun x=>.inl (.inl x)) (fun h=>h.elim .inr (fun x=>.inl (.inr x))),fun h=>h.elim (fun h=>h.elim .inl (fun x=>.inr (.inr x))) (fun x=>.inr (.inl x))⟩
 · simp only [owns_append,owns];exact ⟨fun h=>h.elim (fun x=>.inl (.inl x)) (fun h=>h.elim .inr (fun x=>.inl (.inr x))),fun h=>h.elim (fun h=>h.elim .inl (fun x=>.inr (.inr x))) (fun x=>.inr (.inl x))⟩
 · rw [Disj_append] at hd
   intro ho;rcases hx with hx|hx
   · exact hd.2.2 x hx (.inl ho)
   · exact hd.2.1.1 x ho hx
inductive Take:List Ob→Ob→List Ob→Prop
 | here {o:Ob} {r:List Ob}:Take (o::r) o r
 | there {x o:Ob} {r r':List Ob} (h:Take r o r'):Take (x::r) o (x::r')
theorem Take.perm {l r:List Ob} {o:Ob} (h:Take l o r):List.Perm l (o::r):=by
 induction h with
 | here=>exact List.Perm.refl _
 | there _ ih=>exact (List.Perm.cons _ ih).trans (List.Perm.swap _ _ _)
theorem owns_perm {σ:Sg} {l m:List Ob} (h:List.Perm l m) (b:Nat):owns σ l b↔owns σ m b:=by
 rw [owns_iff,owns_iff];exact ⟨fun ⟨o,ho,hb⟩=>⟨o,h.mem_iff.1 ho,hb⟩,fun ⟨o,ho,hb⟩=>⟨o,h.mem_iff.2 ho,hb⟩⟩
theorem Disj_perm {σ:Sg} {l m:List Ob} (h:List.Perm l m):Disj σ l→Disj σ m:=by
 induction h with
 | nil=>exact id
 | cons x hp ih=>exact fun ⟨h1,h2⟩=>⟨fun b hb hx=>h1 b hb ((owns_perm hp b).2 hx),ih h2⟩
 | swap x y l=>exact fun ⟨h1,h2,h3⟩=>⟨fun b hb hx=>hx.elim (fun hy=>h1 b hy (.inl hb)) (h2 b hb),fun b hb hx=>h1 b hb (.inr hx),h3⟩
 | trans _ _ ih1 ih2=>exact fun h=>ih2 (ih1 h)
theorem ownsA_perm {A0:Own} {σ:Sg} {l m:List Ob} (h:List.Perm l m) {w:World}:Later w (fun b=>A0 b∨owns σ l b) w (fun b=>A0 b∨owns σ m b) :=
 Later.own fun b hx=>hx.imp id (owns_perm h b).2
theorem Obs.perm {A0:Own} {σ:Sg} {l m:List Ob} {w:World} (h:Obs σ A0 l w) (hp:List.Perm l m):Obs σ A0 m w :=
 ⟨fun o ho=>(h.holds o (hp.mem_iff.2 ho)).later (ownsA_perm hp) (fun _ _=>rfl),Disj_perm hp h.disj,fun b hb=>h.lt b ((owns_perm hp b).2 hb)⟩
theorem Obs.sub {A0:Own} {σ:Sg} {objs objs':List Ob} {w:World} (h:Obs σ A0 objs w) (hs:List.Sublist objs' objs):Obs σ A0 objs' w:=by
 have hle:∀ b,owns σ objs' b→owns σ objs b:=fun b hb=>by
   rw [owns_iff] at hb ⊢;obtain ⟨o,ho,hb⟩:=hb;exact ⟨o,hs.subset ho,hb⟩
 refine ⟨fun r hr=>(h.holds r (hs.subset hr)).later (Later.own fun b hx=>hx.imp id (hle b)) (fun _ _=>rfl),?_,fun x hx=>h.lt x (hle x hx)⟩
 have hd:=h.disj;clear hle h
 induction hs with
 | slnil=>trivial
 | cons _ _ ih=>exact ih hd.2
 | cons_cons a hs ih=>exact ⟨fun b hb hx=>hd.1 b hb (by rw [owns_iff] at hx ⊢;obtain ⟨o,ho,hb⟩:=hx;exact ⟨o,hs.subset ho,hb⟩),ih hd.2⟩
theorem Obs.tail {A0:Own} {σ:Sg} {o:Ob} {r:List Ob} {w:World} (h:Obs σ A0 (o::r) w):Obs σ A0 r w:=h.sub (List.sublist_cons_self _ _)
theorem rowH.names {w:World} {A:Own} {σ σ':Sg} {k e z:Nat} {els:List (List SV)} (hs:Sg.le σ σ') (h:rowH w A σ k e z els):rowH w A σ' k e z els:=by
 obtain ⟨v,cs,h1,h2,h3,h4,h5⟩:=h;exact ⟨v,cs,hs _ _ h1,h2,h3,h4,h5⟩
theorem SO.holds.names {w:World} {A:Own} {σ σ':Sg} (hs:Sg.le σ σ') {k:Nat} {o:SO} (h:o.holds w A σ k):o.holds w A σ' k:=by
 cases o with
 | box T ps=>obtain ⟨b,cs,h1,h2,h3⟩:=h;exact ⟨b,cs,hs _ _ h1,h2,hL.names _ _ hs h3⟩
 | row e z enc xs=>exact rowH.names hs h
 | lits e z els=>exact rowH.names hs h
 | fbox T ps=>obtain ⟨v,h1,h2⟩:=h;exact ⟨v,hs _ _ h1,h2⟩
 | frow z enc xs=>obtain ⟨v,h1,h2⟩:=h;exact ⟨v,hs _ _ h1,h2⟩
 | nrow=>exact hs _ _ h
 | mp _ _ _ ek ev l=>obtain ⟨c,es,clock,h1,h2⟩:=h;exact ⟨c,es,clock,hs _ _ h1,h2⟩
 | ab a=>exact h
theorem SO.holds.named {w:World} {A:Own} {σ:Sg} {k:Nat} {o:SO} (h:o.holds w A σ k):(∃ a,o=.ab a)∨∃ v,σ k=some v:=by
 cases o with
 | box T ps=>obtain ⟨b,cs,h1,_⟩:=h;exact .inr ⟨_,h1⟩
 | row e z enc xs=>obtain ⟨v,cs,h1,_⟩:=h;exact .inr ⟨_,h1⟩
 | lits e z els=>obtain ⟨v,cs,h1,_⟩:=h;exact .inr ⟨_,h1⟩
 | fbox T ps=>obtain ⟨v,h1,h2⟩:=h;exact .inr ⟨v,h1⟩
 | frow z enc xs=>obtain ⟨v,h1,h2⟩:=h;exact .inr ⟨v,h1⟩
 | nrow=>exact .inr ⟨_,h⟩
 | mp _ _ _ ek ev l=>obtain ⟨c,es,clock,h1,_⟩:=h;exact .inr ⟨_,h1⟩
 | ab a=>exact .inl ⟨a,rfl⟩
theorem SO.own_names {w:World} {A:Own} {σ σ':Sg} (hs:Sg.le σ σ') {k:Nat} {o:SO} (h:o.holds w A σ k) (b:Nat):o.own σ' k b↔o.own σ k b:=by
 rcases h.named with ⟨a,rfl⟩|⟨v,hv⟩
 · exact Iff.rfl
 · have hv':=hs _ _ hv
   cases o<;>simp only [SO.own,hv,hv']
theorem owns_names {A:Own} {w:World} {σ σ':Sg} (hs:Sg.le σ σ') {objs:List Ob} (h:∀ o∈objs,o.2.holds w A σ o.1) (b:Nat):owns σ' objs b↔owns σ objs b:=by
 rw [owns_iff,owns_iff];exact ⟨fun ⟨o,ho,hb⟩=>⟨o,ho,(SO.own_names hs (h o ho) b).1 hb⟩,fun ⟨o,ho,hb⟩=>⟨o,ho,(SO.own_names hs (h o ho) b).2 hb⟩⟩
theorem Disj_names {A:Own} {w:World} {σ σ':Sg} (hs:Sg.le σ σ'):∀ {objs:List Ob},(∀ o∈objs,o.2.holds w A σ o.1)→Disj σ objs→Disj σ' objs
 | [],_,_=>trivial
 | o::r,h,⟨h1,h2⟩=>⟨fun b hb hx=>h1 b ((SO.own_names hs (h o (by simp)) b).1 hb) ((owns_names hs (fun o ho=>h o (List.mem_cons_of_mem _ ho)) b).1 hx),Disj_names hs (fun o ho=>h o (List.mem_cons_of_mem _ ho)) h2⟩
theorem Obs.names {A0:Own} {σ σ':Sg} {objs:List Ob} {w:World} (hs:Sg.le σ σ') (h:Obs σ A0 objs w):Obs σ' A0 objs w :=
 ⟨fun o ho=>((h.holds o ho).names hs).later (Later.own fun b hx=>hx.imp id (owns_names hs h.holds b).1) (fun _ _=>rfl),Disj_names hs h.holds h.disj,fun b hb=>h.lt b ((owns_names hs h.holds b).1 hb)⟩
def Sg.set (σ:Sg) (k:Nat) (v:Value):Sg:=fun n=>if n=k then some v else σ n
theorem Sg.le_set {σ:Sg} {k:Nat} {v:Value} (h:σ k=none):Sg.le σ (σ.set k v):=fun n u e=>by
 unfold Sg.set
 split
 · rename_i hn;subst hn;rw [h] at e;cases e
 · exact e
theorem Sg.set_self (σ:Sg) (k:Nat) (v:Value):σ.set k v k=some v:=by simp [Sg.set]
theorem Obs.set {A0:Own} {σ:Sg} {objs objs':List Ob} {w w':World} {p q:Ob} (h:Obs σ A0 objs w) (hs:SetO objs p q objs') (hm:Mod (p.2.own σ p.1) w w')
   (hq:q.2.holds w' (fun b=>A0 b∨owns σ objs' b) σ q.1) (hqo:∀ b,q.2.own σ q.1 b→p.2.own σ p.1 b∨w.heap.size≤b) (hA:∀ b,A0 b→b<w.heap.size):Obs σ A0 objs' w':=by
 obtain ⟨R,h1,h2,h3⟩:=hs.owns_iff (σ:=σ);have hqlt:=SO.own_lt hq;have hlat:Later w (fun b=>A0 b∨owns σ objs b) w' (fun b=>A0 b∨owns σ objs' b) :=
   hm.later (fun b hb=>.inr ((h1 b).2 (.inr hb))) (fun b hb hx=>hx.imp id fun hx=>by
     rcases (h2 b).1 hx with h|h
     · exact (h1 b).2 (.inl h)
     · rcases hqo b h with h|h
       · exact (h1 b).2 (.inr h)
       · omega)
 obtain ⟨a,b,rfl,rfl⟩:=hs.split;have hd:=h.disj;have hRq:∀ x,(owns σ a x∨owns σ b x)→¬ q.2.own σ q.1 x:=fun x hx hq'=>by
   have hxl:x<w.heap.size:=(h.lt x (by rw [owns_append];exact hx.imp id .inr)).1
   rcases hqo x hq' with h'|h'
   · rw [Disj_append] at hd
     rcases hx with hx|hx
     · exact hd.2.2 x hx (.inl h')
     · exact hd.2.1.1 x h' hx
   · omega
 refine ⟨fun r hr=>?_,?_,fun x hx=>?_⟩
 · rcases List.mem_append.1 hr with hr|hr
   · refine (h.holds r (List.mem_append_left _ hr)).later hlat fun x hx=>hm.block x ((h.lt x (by rw [owns_append];exact .inl (owns_mem hr hx))).1) fun hp=>?_
     rw [Disj_append] at hd;exact hd.2.2 x (owns_mem hr hx) (.inl hp)
   · rcases List.mem_cons.1 hr with rfl|hr
     · exact hq
     · refine (h.holds r (List.mem_append_right _ (List.mem_cons_of_mem _ hr))).later hlat fun x hx=>hm.block x ((h.lt x (by rw [owns_append];exact .inr (.inr (owns_mem hr hx)))).1) fun hp=>?_
       rw [Disj_append] at hd;exact hd.2.1.1 x hp (owns_mem hr hx)
 · rw [Disj_append] at hd ⊢
   exact ⟨hd.1,⟨fun x hx hb=>hRq x (.inr hb) hx,hd.2.1.2⟩,fun x hx hc=>hc.elim (hRq x (.inl hx)) (fun hb=>hd.2.2 x hx (.inr hb))⟩
 · rw [owns_append] at hx
   have old:owns σ a x∨owns σ b x→x<w'.heap.size∧¬ A0 x:=fun hh =>
     have:=h.lt x (by rw [owns_append];exact hh.imp id .inr)
     ⟨Nat.lt_of_lt_of_le this.1 hm.size,this.2⟩
   rcases hx with hx|hx|hx
   · exact old (.inl hx)
   · refine ⟨hqlt x hx,fun hA0=>?_⟩
     rcases hqo x hx with h'|h'
     · exact (h.lt x (by rw [owns_append];exact .inr (.inl h'))).2 hA0
     · have:=hA x hA0;omega
   · exact old (.inr hx)
theorem Obs.cons {A0:Own} {σ:Sg} {objs:List Ob} {w w':World} {q:Ob} (h:Obs σ A0 objs w) (hm:Kept w w')
   (hq:q.2.holds w' (fun b=>A0 b∨owns σ (q::objs) b) σ q.1) (hqo:∀ b,q.2.own σ q.1 b→w.heap.size≤b) (hA:∀ b,A0 b→b<w.heap.size):Obs σ A0 (q::objs) w':=by
 have hqlt:=SO.own_lt hq;have hlat:Later w (fun b=>A0 b∨owns σ objs b) w' (fun b=>A0 b∨owns σ (q::objs) b) :=
   hm.later _ fun b hb hx=>hx.imp id fun hx=>by
     rcases hx with h|h
     · have:=hqo b h;omega
     · exact h
 refine ⟨fun r hr=>?_,⟨fun x hx hb=>?_,h.disj⟩,fun x hx=>?_⟩
 · rcases List.mem_cons.1 hr with rfl|hr
   · exact hq
   · exact (h.holds r hr).later hlat fun x hx=>hm.block x ((h.lt x (owns_mem hr hx)).1) (fun y=>y)
 · have:=(h.lt x hb).1;have:=hqo x hx;omega
 · rcases hx with hx|hx
   · exact ⟨hqlt x hx,fun hA0=>by have:=hA x hA0;have:=hqo x hx;omega⟩
   · exact ⟨Nat.lt_of_lt_of_le (h.lt x hx).1 hm.size,(h.lt x hx).2⟩
inductive TK where
 | bool|int (k:IntKind)|str|ptr (e:Nat)|sl (e:Nat)|st (fs:List (Nat×Nat))|ar (n e:Nat)|map (k e:Nat)|oth
structure TI where
 k:TK
 size:Nat
 bytes:Nat
def TI.row (i:TI):Bool:=match i.k with
 | .st _=>true
 | .ar _ _=>true
 | _=>false
def nth {α:Type}:List α→Nat→Option α
 | [],_=>none
 | a::_,0=>some a
 | _::l,i+1=>nth l i
theorem nth_eq {α:Type}:∀ (l:List α) (i:Nat),nth l i=l[i]?
 | [],_=>by simp [nth]
 | _::_,0=>by simp [nth]
 | _::l,i+1=>by simp [nth,nth_eq l i]
def tkB:TK→TypeDesc→Bool
 | .bool,.bool=>true
 | .int k,.int k'=>decide (k=k')
 | .str,.string=>true
 | .ptr e,.pointer e'=>decide (e=e')
 | .sl e,.slice e'=>decide (e=e')
 | .st fs,.struct gs=>decide (gs.toList.map (fun f=>(f.offset,f.type))=fs)
 | .ar n e,.array n' e'=>decide (n=n')&&decide (e=e')
 | .map k e,.map k' e'=>decide (k=k')&&decide (e=e')
 | .oth,.struct _=>false
 | .oth,.array _ _=>false
 | .oth,_=>true
 | _,_=>false
def tiB (P:Program) (t:Nat) (i:TI):Bool :=
 match P.info? t,P.underlying t with
 | some inf,some d=>decide (inf.size=i.size)&&decide (inf.bytes=i.bytes)&&tkB i.k d&&(match d with|.struct gs=>gs.toList.all (fun f=>(P.info? f.type).isSome)|.array _ e=>(P.info? e).isSome|_=>true)
 | _,_=>false
def tabB (P:Program) (tab:List TI):Bool:=(List.range tab.length).all fun t=>match nth tab t with|some i=>tiB P t i|none=>false
def app2 {α:Type 1}:List α→List α→Option (List α)
 | [],b=>some b
 | c::r,b=>match app2 r b with
   | some x=>some (c::x)
   | none=>none
theorem app2_eq {α:Type 1}:∀ {a b c:List α},app2 a b=some c→c=a++b
 | [],b,c,h=>by simp [app2] at h;exact h.symm
 | x::r,b,c,h=>by
   unfold app2 at h
   split at h
   · rename_i y hy
     simp only [Option.some.injEq] at h;rw [← h,app2_eq hy];rfl
   · cases h
def zeroFs (f:Nat→Option (List SV)):List Nat→Option (List SV)
 | []=>some []
 | e::r=>match f e,zeroFs f r with
   | some a,some b=>app2 a b
   | _,_=>none
def zeroOf (tab:List TI):Nat→Nat→Option (List SV)
 | 0,_=>none
 | fuel+1,t=>match nth tab t with
   | none=>none
   | some i=>match i.k with
     | .bool=>some [.bool false]
     | .int .u8=>some [.u8 0#8]
     | .int .u16=>some [.u16 0#16]
     | .int .u32=>some [.u32 0#32]
     | .int .u64=>some [.u64 0#64]
     | .int k=>some [.int k 0]
     | .str=>some [.str []]
     | .ptr _=>some [.nilp]
     | .sl _=>some [.nils]
     | .map _ _=>some [.nilm]
     | .st fs=>zeroFs (zeroOf tab fuel) (fs.map (·.2))
     | .ar n e=>match nth tab e with
       | some ie=>match ie.k with
         | .int .u8=>some [.arr8 (Vector.replicate n 0#8)]
         | .int .u32=>some [.arr32 (Vector.replicate n 0#32)]
         | _=>zeroFs (zeroOf tab fuel) (List.replicate n e)
       | none=>none
     | .oth=>none
def beqV:Value→Value→Bool
 | .bool a,.bool b=>a == b
 | .int k a,.int k' b=>decide (k=k')&&decide (a=b)
 | .string a,.string b=>decide (a.data=b.data)
 | .pointer none,.pointer none=>true
 | .slice none n c,.slice none n' c'=>decide (n=n')&&decide (c=c')
 | .map none,.map none=>true
 | _,_=>false
theorem beqV_eq {a b:Value} (h:beqV a b=true):a=b:=by
 unfold beqV at h
 split at h<;>simp_all
 exact ByteArray.ext h
def beqL:List Value→List Value→Bool
 | [],[]=>true
 | a::r,b::s=>beqV a b&&beqL r s
 | _,_=>false
theorem beqL_eq:∀ {l m:List Value},beqL l m=true→l=m
 | [],[],_=>rfl
 | a::r,b::s,h=>by
   simp only [beqL,Bool.and_eq_true] at h;rw [beqV_eq h.1,beqL_eq h.2]
 | [],_::_,h=>by simp [beqL] at h
 | _::_,[],h=>by simp [beqL] at h
def SV.lit:SV→Option (List Value)
 | .bool b=>some [.bool b]
 | .int k (.ofNat 0)=>some [.int k 0]
 | .u8 x=>some [bV .u8 x]
 | .u16 x=>some [bV .u16 x]
 | .u32 x=>some [bV .u32 x]
 | .u64 x=>some [bV .u64 x]
 | .str s=>some [.string (baOf s)]
 | .nilp=>some [.pointer none]
 | .nils=>some [.slice none 0 0]
 | .nilm=>some [.map none]
 | .arr8 x=>some (x.toList.map (bV .u8))
 | .arr32 x=>some (x.toList.map (bV .u32))
 | _=>none
def litL:List SV→Option (List Value)
 | []=>some []
 | s::r=>match s.lit,litL r with
   | some a,some b=>some (a++b)
   | _,_=>none
theorem SV.lit_hc {s:SV} {cs:List Value} (h:s.lit=some cs) (w:World) (A:Own) (σ:Sg):s.hc w A σ cs:=by
 unfold SV.lit at h
 split at h<;>simp only [Option.some.injEq,reduceCtorEq] at h<;>subst h<;>simp only [SV.hc]
 exact ⟨rfl,fun _=>⟨by decide,by decide⟩⟩
theorem litL_hL:∀ {l:List SV} {cs:List Value},litL l=some cs→∀ (w:World) (A:Own) (σ:Sg),hL w A l σ cs
 | [],cs,h,w,A,σ=>by simp only [litL,Option.some.injEq] at h;subst h;simp only [hL]
 | s::r,cs,h,w,A,σ=>by
   unfold litL at h
   split at h
   · rename_i a b ha hb
     simp only [Option.some.injEq] at h;subst h;simp only [hL];exact ⟨a,b,rfl,SV.lit_hc ha w A σ,litL_hL hb w A σ⟩
   · cases h
def zB (P:Program) (tab:List TI):Bool:=(List.range tab.length).all fun t=>match zeroOf tab 9 t with
 | some c=>match (P.info? t).bind (·.zero),litL c with
   | some z,some l=>beqL z.cells.toList l&&((P.info? t).map (·.size) == some (szL c))
   | _,_=>false
 | none=>true
def callB (P:Program) (f:Nat):Bool:=match P.funcs[f]? with
 | some fn => !(fn.name == "runtime.NumGoroutine") && fn.body.isSome
 | none=>false
def callsB (P:Program) (l:List Bool):Bool:=(List.range l.length).all fun f=>match nth l f with
 | some true=>callB P f
 | _=>true
def eqOkB (P : Program) (t : Nat) : Bool := !P.stoodInHeld t && (P.fieldsOf t).toList.all (fun f => decide (f.name ≠ "_")) && !P.eqGuardType P.depth t
class TabC (P:Program) where
 cl:List Bool
 clok:callsB P cl=true
 tab:List TI
 ok:tabB P tab=true
 zok:zB P tab=true
 mix:P.follows .mixedOrders=true
 gl:List (Nat×List SV)
 eqs:List Nat
 eqok:eqs.all (eqOkB P)=true
section
variable {P:Program} [TabC P]
abbrev ty (P:Program) [TabC P] (t:Nat):Option TI:=nth (TabC.tab P) t
theorem ty_spec {t:Nat} {i:TI} (h:ty P t=some i):∃ inf d,P.info? t=some inf∧P.underlying t=some d∧inf.size=i.size∧inf.bytes=i.bytes∧tkB i.k d=true∧(match d with|.struct gs=>gs.toList.all (fun f=>(P.info? f.type).isSome)|.array _ e=>(P.info? e).isSome|_=>true)=true:=by
 have hl:t<(TabC.tab P).length:=by
   rw [ty,nth_eq] at h;exact (List.getElem?_eq_some_iff.1 h).1
 have h1:=List.all_eq_true.1 (TabC.ok (P:=P)) t (by simpa using hl)
 unfold ty at h;simp only [h,tiB] at h1
 split at h1
 · rename_i inf d hi hd
   simp only [Bool.and_eq_true,decide_eq_true_eq] at h1;exact ⟨inf,d,hi,hd,h1.1.1.1,h1.1.1.2,h1.1.2,h1.2⟩
 · cases h1
theorem zero_spec {t:Nat} {c:List SV} (h:zeroOf (TabC.tab P) 9 t=some c):∃ inf z,P.info? t=some inf∧inf.zero=some z∧inf.size=szL c∧∀ (w:World) (A:Own) (σ:Sg),hL w A c σ z.cells.toList:=by
 have hl:t<(TabC.tab P).length:=by
   unfold zeroOf at h
   split at h
   · cases h
   · rename_i i hi
     rw [nth_eq] at hi;exact (List.getElem?_eq_some_iff.1 hi).1
 have h1:=List.all_eq_true.1 (TabC.zok (P:=P)) t (by simpa using hl)
 simp only [h] at h1
 split at h1
 · rename_i z l hz hl2
   cases hi:P.info? t with
   | none=>simp [hi] at hz
   | some inf =>
     simp only [hi,Option.bind_some] at hz;simp only [hi,Option.map_some,Bool.and_eq_true,beq_iff_eq,Option.some.injEq] at h1;exact ⟨inf,z,rfl,hz,h1.2,fun w A σ=>by rw [beqL_eq h1.1];exact litL_hL hl2 w A σ⟩
 · cases h1
theorem call_spec {f : Nat} (h : nth (TabC.cl P) f = some true) : ∃ fn, P.funcs[f]? = some fn ∧ (fn.name == "runtime.NumGoroutine") = false ∧ fn.body.isSome = true := by
 have hl:f<(TabC.cl P).length:=by
   rw [nth_eq] at h;exact (List.getElem?_eq_some_iff.1 h).1
 have h1:=List.all_eq_true.1 (TabC.clok (P:=P)) f (by simpa using hl)
 simp only [h,callB] at h1
 split at h1
 · rename_i fn hf
   simp only [Bool.and_eq_true,Bool.not_eq_true'] at h1;exact ⟨fn,hf,h1.1,h1.2⟩
 · cases h1
theorem ty_struct {t:Nat} {i:TI} {fs:List (Nat×Nat)} (h:ty P t=some i) (hk:i.k=.st fs):∃ gs,P.underlying t=some (.struct gs)∧gs.toList.map (fun f=>(f.offset,f.type))=fs:=by
 obtain ⟨inf,d,_,hd,_,_,hb,_⟩:=ty_spec h;rw [hk] at hb
 cases d<;>simp [tkB] at hb
 exact ⟨_,hd,hb⟩
theorem ty_array {t:Nat} {i:TI} {n e:Nat} (h:ty P t=some i) (hk:i.k=.ar n e):P.underlying t=some (.array n e):=by
 obtain ⟨inf,d,_,hd,_,_,hb,_⟩:=ty_spec h;rw [hk] at hb
 cases d<;>simp [tkB] at hb
 obtain ⟨rfl,rfl⟩:=hb;exact hd
theorem ty_slice {t:Nat} {i:TI} {e:Nat} (h:ty P t=some i) (hk:i.k=.sl e):P.underlying t=some (.slice e):=by
 obtain ⟨inf,d,_,hd,_,_,hb,_⟩:=ty_spec h;rw [hk] at hb
 cases d<;>simp [tkB] at hb
 subst hb;exact hd
theorem ty_int {t:Nat} {i:TI} {k:IntKind} (h:ty P t=some i) (hk:i.k=.int k):P.underlying t=some (.int k):=by
 obtain ⟨inf,d,_,hd,_,_,hb,_⟩:=ty_spec h;rw [hk] at hb
 cases d<;>simp [tkB] at hb
 subst hb;exact hd
theorem ty_str {t:Nat} {i:TI} (h:ty P t=some i) (hk:i.k=.str):P.underlying t=some .string:=by
 obtain ⟨inf,d,_,hd,_,_,hb,_⟩:=ty_spec h;rw [hk] at hb
 cases d<;>simp [tkB] at hb
 exact hd
theorem ty_ptr {t:Nat} {i:TI} {e:Nat} (h:ty P t=some i) (hk:i.k=.ptr e):P.underlying t=some (.pointer e):=by
 obtain ⟨inf,d,_,hd,_,_,hb,_⟩:=ty_spec h;rw [hk] at hb
 cases d<;>simp [tkB] at hb
 subst hb;exact hd
theorem ty_row {t:Nat} {i:TI} (h:ty P t=some i):∃ d,P.underlying t=some d∧(match d with|.struct _|.array _ _=>true|_=>false)=i.row:=by
 obtain ⟨inf,d,_,hd,_,_,hb,_⟩:=ty_spec h;refine ⟨d,hd,?_⟩;obtain ⟨k,s,b⟩:=i
 cases k<;>cases d<;>simp [tkB] at hb<;>rfl
theorem run_sizeOf' {t:Nat} {i:TI} (h:ty P t=some i) (w:World):(sizeOf t).run P w=.ok i.size w:=by
 obtain ⟨inf,d,hi,_,hs,_,_,_⟩:=ty_spec h
 simp [sizeOf,typeInfo,hi,hs]
theorem run_isAgg' {t:Nat} {i:TI} (h:ty P t=some i) (w:World):(isAgg t).run P w=.ok i.row w:=by
 obtain ⟨d,hd,hr⟩:=ty_row h;rw [← hr];simp only [isAgg,Sem.run_bind,run_underlying hd,Result.andThen_ok]
 cases d<;>rfl
end
section
variable {P:Program} [TabC P] {ev:Operand→Value} {o:Oper}
def bitsI (op:BinOp) (k:IntKind) (a b:Int):Int :=
 match op with
 | .and=>k.wrap (BitVec.ofInt k.bits a &&& BitVec.ofInt k.bits b).toNat
 | .or=>k.wrap (BitVec.ofInt k.bits a ||| BitVec.ofInt k.bits b).toNat
 | .xor=>k.wrap (BitVec.ofInt k.bits a ^^^ BitVec.ofInt k.bits b).toNat
 | _=>k.wrap (BitVec.ofInt k.bits a &&& ~~~ BitVec.ofInt k.bits b).toNat
def intOp (op:BinOp) (k:IntKind) (a b:Int):Option Value :=
 match op with
 | .add=>some (.int k (k.wrap (a+b)))
 | .sub=>some (.int k (k.wrap (a - b)))
 | .mul=>some (.int k (k.wrap (a*b)))
 | .and=>some (.int k (bitsI .and k a b))
 | .or=>some (.int k (bitsI .or k a b))
 | .xor=>some (.int k (bitsI .xor k a b))
 | .andNot=>some (.int k (bitsI .andNot k a b))
 | .eql=>some (.bool (decide (a=b)))
 | .neq=>some (.bool (!decide (a=b)))
 | .lss=>some (.bool (decide (a<b)))
 | .leq=>some (.bool (decide (a≤b)))
 | .gtr=>some (.bool (decide (b<a)))
 | .geq=>some (.bool (decide (b≤a)))
 | _=>none
theorem run_eqGuard_plain {op:BinOp} {t:TypeId} {x y:Operand} {a b:Value} (w:World) (h:∀ cs ds,¬ (a=.agg cs∧b=.agg ds)) (h2:¬ (a=.nilIface∧b=.nilIface)):(eqGuard op t x y a b).run P w=.ok () w:=by
 unfold eqGuard
 cases op<;>cases a<;>cases b<;>simp_all
theorem rn_int {op:BinOp} {t t':TypeId} {x y:Operand} {k:IntKind} {a b:Int} {v:Value} (ho:o.op=.binOp op t x y t') (hx:ev x=.int k a) (hy:ev y=.int k b) (hv:intOp op k a b=some v):∀ w',(execOp ev o).run P w'=.ok (.value v) w':=fun w'=>by
 have hg:∀ w',(eqGuard op t x y (.int k a) (.int k b)).run P w'=.ok () w':=fun w'=>run_eqGuard_plain (P:=P) (op:=op) (t:=t) (x:=x) (y:=y) w' (fun _ _ h=>by cases h.1) (fun h=>by cases h.1)
 · simp only [execOp,ho,hx,hy,Sem.run_bind,hg,Result.andThen_ok]
   cases op<;>simp [intOp] at hv<;>subst hv<;>simp [binOp,Op.intArith,Op.intBits,Op.intCmp,bitsI]
   all_goals first|rfl|(rw [Bool.eq_iff_iff];simp)
theorem rn_quo {t t':TypeId} {x y:Operand} {k:IntKind} {a b:Int} (ho:o.op=.binOp .quo t x y t') (hx:ev x=.int k a) (hy:ev y=.int k b) (hb:b≠0):∀ w',(execOp ev o).run P w'=.ok (.value (.int k (k.wrap (a.tdiv b)))) w':=fun w'=>by
 simp only [execOp,ho,hx,hy,Sem.run_bind,run_eqGuard_plain (P:=P) (op:=.quo) (t:=t) (x:=x) (y:=y) (a:=.int k a) (b:=.int k b) w' (fun _ _ h=>by cases h.1) (fun h=>by cases h.1),Result.andThen_ok]
 simp [binOp,Op.intDiv,hb]
theorem rn_rem {t t':TypeId} {x y:Operand} {k:IntKind} {a b:Int} (ho:o.op=.binOp .rem t x y t') (hx:ev x=.int k a) (hy:ev y=.int k b) (hb:b≠0):∀ w',(execOp ev o).run P w'=.ok (.value (.int k (a.tmod b))) w':=fun w'=>by
 simp only [execOp,ho,hx,hy,Sem.run_bind,run_eqGuard_plain (P:=P) (op:=.rem) (t:=t) (x:=x) (y:=y) (a:=.int k a) (b:=.int k b) w' (fun _ _ h=>by cases h.1) (fun h=>by cases h.1),Result.andThen_ok]
 simp [binOp,Op.intDiv,hb]
theorem rn_shl {t t':TypeId} {x y:Operand} {k k':IntKind} {a b:Int} (ho:o.op=.binOp .shl t x y t') (hx:ev x=.int k a) (hy:ev y=.int k' b) (hb:0≤b):∀ w',(execOp ev o).run P w'=.ok (.value (.int k (k.wrap (a*2^(min b.toNat k.bits))))) w':=fun w'=>by
 simp only [execOp,ho,hx,hy,Sem.run_bind,run_eqGuard_plain (P:=P) (op:=.shl) (t:=t) (x:=x) (y:=y) (a:=.int k a) (b:=.int k' b) w' (fun _ _ h=>by cases h.1) (fun h=>by cases h.1),Result.andThen_ok]
 simp [binOp,Op.shift,Int.not_lt.2 hb]
theorem rn_shr {t t':TypeId} {x y:Operand} {k k':IntKind} {a b:Int} (ho:o.op=.binOp .shr t x y t') (hx:ev x=.int k a) (hy:ev y=.int k' b) (hb:0≤b):∀ w',(execOp ev o).run P w'=.ok (.value (.int k (a.fdiv (2^(min b.toNat k.bits))))) w':=fun w'=>by
 simp only [execOp,ho,hx,hy,Sem.run_bind,run_eqGuard_plain (P:=P) (op:=.shr) (t:=t) (x:=x) (y:=y) (a:=.int k a) (b:=.int k' b) w' (fun _ _ h=>by cases h.1) (fun h=>by cases h.1),Result.andThen_ok]
 simp [binOp,Op.shift,Int.not_lt.2 hb]
theorem rn_not {t:TypeId} {x:Operand} {b:Bool} (ho:o.op=.unOp .not t x) (hx:ev x=.bool b):∀ w',(execOp ev o).run P w'=.ok (.value (.bool (!b))) w':=fun w'=>by
 simp [execOp,ho,hx,Op.unary]
theorem rn_neg {t:TypeId} {x:Operand} {k:IntKind} {a:Int} (ho:o.op=.unOp .neg t x) (hx:ev x=.int k a):∀ w',(execOp ev o).run P w'=.ok (.value (.int k (k.wrap (0 - a)))) w':=fun w'=>by
 simp [execOp,ho,hx,Op.unary,Op.intArith]
theorem rn_xor1 {t:TypeId} {x:Operand} {k:IntKind} {a:Int} (ho:o.op=.unOp .xor t x) (hx:ev x=.int k a):∀ w',(execOp ev o).run P w'=.ok (.value (.int k (bitsI .xor k (if k.signed then -1 else k.max) a))) w':=fun w'=>by
 simp [execOp,ho,hx,Op.unary,Op.intBits,bitsI]
theorem rn_nilCheck {x:Operand} {ad:Addr} (ho:o.op=.nilCheck x) (hx:ev x=.pointer (some ad)):∀ w',(execOp ev o).run P w'=.ok (.value (.pointer (some ad))) w':=fun w'=>by
 simp [execOp,ho,hx]
theorem rn_eqNil {t t':TypeId} {x y:Operand} {p:Option Addr} {i:TI} {e:Nat} (ho:o.op=.binOp .eql t x y t') (hx:ev x=.pointer p) (hy:ev y=.pointer none) (ht:ty P t=some i) (hk:i.k=.ptr e):∀ w',(execOp ev o).run P w'=.ok (.value (.bool p.isNone)) w':=fun w'=>by
 simp only [execOp,ho,hx,hy,Sem.run_bind,run_eqGuard_plain (P:=P) (op:=.eql) (t:=t) (x:=x) (y:=y) (a:=.pointer p) (b:=.pointer none) w' (fun _ _ h=>by cases h.1) (fun h=>by cases h.1),Result.andThen_ok]
 have he:∀ d:Nat,(Op.equalIn (d+1) t (.pointer p) (.pointer none)).run P w'=.ok p.isNone w':=fun d=>by
   cases p<;>simp [Op.equalIn,run_underlying (ty_ptr ht hk)]
 cases p<;>(simp only [binOp];simp [Op.equal,Op.maxDepth,he 9999])
theorem rn_neNil {t t':TypeId} {x y:Operand} {p:Option Addr} {i:TI} {e:Nat} (ho:o.op=.binOp .neq t x y t') (hx:ev x=.pointer p) (hy:ev y=.pointer none) (ht:ty P t=some i) (hk:i.k=.ptr e):∀ w',(execOp ev o).run P w'=.ok (.value (.bool (!p.isNone))) w':=fun w'=>by
 simp only [execOp,ho,hx,hy,Sem.run_bind,run_eqGuard_plain (P:=P) (op:=.neq) (t:=t) (x:=x) (y:=y) (a:=.pointer p) (b:=.pointer none) w' (fun _ _ h=>by cases h.1) (fun h=>by cases h.1),Result.andThen_ok]
 have he:∀ d:Nat,(Op.equalIn (d+1) t (.pointer p) (.pointer none)).run P w'=.ok p.isNone w':=fun d=>by
   cases p<;>simp [Op.equalIn,run_underlying (ty_ptr ht hk)]
 cases p<;>(simp only [binOp];simp [Op.equal,Op.maxDepth,he 9999])
theorem rn_fieldAddr {T f:Nat} {x:Operand} {b off fo ft:Nat} {i j:TI} {fl:List (Nat×Nat)} (ho:o.op=.fieldAddr T x f) (hx:ev x=.pointer (some ⟨b,off,none⟩))
   (ht:ty P T=some i) (hk:i.k=.st fl) (hf:nth fl f=some (fo,ft)) (hj:ty P ft=some j) (hz:Nat.beq j.size 0=false):∀ w',(execOp ev o).run P w'=.ok (.value (.pointer (some ⟨b,off+fo,none⟩))) w':=fun w'=>by
 obtain ⟨gs,hu,hm⟩:=ty_struct ht hk;rw [nth_eq,← hm,List.getElem?_map] at hf
 cases hg:gs.toList[f]? with
 | none=>simp [hg] at hf
 | some g =>
   simp only [hg,Option.map_some,Option.some.injEq,Prod.mk.injEq] at hf;obtain ⟨rfl,rfl⟩:=hf;have hg':gs[f]?=some g:=by simpa using hg
   have hz':j.size≠0:=fun e=>by rw [e] at hz;cases hz
   simp [execOp,ho,hx,Instr.fieldAt,run_underlying hu,hg',Instr.sureAddr,fieldPlace,run_sizeOf' hj,hz',Addr.add]
   try (split<;>simp_all)
theorem rn_indexAddr {T:Nat} {x ix:Operand} {b off n e:Nat} {k:IntKind} {m:Int} {i j:TI} (ho:o.op=.indexAddr T x ix) (hx:ev x=.pointer (some ⟨b,off,none⟩)) (hi:ev ix=.int k m)
   (ht:ty P T=some i) (hk:i.k=.ar n e) (hj:ty P e=some j) (h0:0≤m) (h1:m<n):∀ w',(execOp ev o).run P w'=.ok (.value (.pointer (some ⟨b,off+m.toNat*j.size,none⟩))) w':=fun w'=>by
 simp [execOp,ho,hx,hi,Instr.indexAt,asIntOf,run_underlying (ty_array ht hk),Instr.sureAddr,run_sizeOf' hj,h0,h1,Addr.add]
 try (split<;>simp_all)
def bwOp (op:BinOp) {w:Nat} (a b:BitVec w):Option (BitVec w) :=
 match op with
 | .add=>some (a+b)
 | .sub=>some (a - b)
 | .mul=>some (a*b)
 | .and=>some (a &&& b)
 | .or=>some (a ||| b)
 | .xor=>some (a ^^^ b)
 | .andNot=>some (a &&& ~~~ b)
 | _=>none
def bwCmp (op:BinOp) {w:Nat} (a b:BitVec w):Option Bool :=
 match op with
 | .eql=>some (decide (a=b))
 | .neq=>some (!decide (a=b))
 | .lss=>some (decide (a.toNat<b.toNat))
 | .leq=>some (decide (a.toNat≤b.toNat))
 | .gtr=>some (decide (b.toNat<a.toNat))
 | .geq=>some (decide (b.toNat≤a.toNat))
 | _=>none
theorem wrap_uns {k:IntKind} (hk:k.signed=false) {w:Nat} (hw:k.bits=w) (n:Int):k.wrap n=((BitVec.ofInt w n).toNat:Int):=by
 subst hw
 cases k<;>simp [IntKind.signed] at hk<;>simp [IntKind.wrap,IntKind.signed,IntKind.bits,BitVec.toNat_ofInt]<;>omega
theorem rn_ubin {op:BinOp} {t t':TypeId} {x y:Operand} {k:IntKind} {w:Nat} {a b:Value} {A B C:BitVec w} (ho:o.op=.binOp op t x y t') (hx:ev x=a) (hy:ev y=b) (hk:k.signed=false) (hw:k.bits=w) (hA:a=bV k A) (hB:b=bV k B) (hC:bwOp op A B=some C):∀ w',(execOp ev o).run P w'=.ok (.value (bV k C)) w':=fun w'=>by
 subst hA hB hw;have key:intOp op k (A.toNat:Int) (B.toNat:Int)=some (bV k C):=by
   have hA':BitVec.ofInt k.bits (A.toNat:Int)=A:=by simp
   have hB':BitVec.ofInt k.bits (B.toNat:Int)=B:=by simp
   have hlt:∀ D:BitVec k.bits,k.wrap (D.toNat:Int)=(D.toNat:Int):=fun D=>by rw [wrap_uns hk rfl];simp
   cases op<;>simp only [bwOp,Option.some.injEq,reduceCtorEq] at hC<;>subst hC<;>simp only [intOp,bitsI,hA',hB',hlt,bV,Option.some.injEq,Value.int.injEq,true_and]
   · rw [wrap_uns hk rfl,BitVec.ofInt_add,hA',hB']
   · rw [wrap_uns hk rfl,Int.sub_eq_add_neg,BitVec.ofInt_add,BitVec.ofInt_neg,hA',hB',BitVec.sub_eq_add_neg]
   · rw [wrap_uns hk rfl,BitVec.ofInt_mul,hA',hB']
 exact rn_int ho hx hy key w'
theorem rn_ucmp {op:BinOp} {t t':TypeId} {x y:Operand} {k:IntKind} {w:Nat} {a b:Value} {A B:BitVec w} {c:Bool} (ho:o.op=.binOp op t x y t') (hx:ev x=a) (hy:ev y=b) (hw:k.bits=w) (hA:a=bV k A) (hB:b=bV k B) (hC:bwCmp op A B=some c):∀ w',(execOp ev o).run P w'=.ok (.value (.bool c)) w':=fun w'=>by
 subst hA hB hw;have key:intOp op k (A.toNat:Int) (B.toNat:Int)=some (.bool c):=by
   have h1:((A.toNat:Int)=(B.toNat:Int))↔A=B:=by rw [Int.natCast_inj];exact BitVec.toNat_inj
   cases op<;>simp only [bwCmp,Option.some.injEq,reduceCtorEq] at hC<;>subst hC<;>simp [intOp,h1]
 exact rn_int ho hx hy key w'
theorem rn_uquo {t t':TypeId} {x y:Operand} {k:IntKind} {w:Nat} {a b:Value} {A B:BitVec w} (ho:o.op=.binOp .quo t x y t') (hx:ev x=a) (hy:ev y=b) (hk:k.signed=false) (hw:k.bits=w) (hA:a=bV k A) (hB:b=bV k B) (hb:B≠0):∀ w',(execOp ev o).run P w'=.ok (.value (bV k (A / B))) w':=fun w'=>by
 subst hA hB hw;have hb':(B.toNat:Int)≠0:=fun e=>hb (BitVec.eq_of_toNat_eq (by simpa using e))
 have:=rn_quo (P:=P) ho hx hy hb' w'
 rw [show k.wrap ((A.toNat:Int).tdiv (B.toNat:Int))=((A / B).toNat:Int) by
   have e:=Int.natCast_ediv A.toNat B.toNat;have h1:=(A / B).isLt;rw [BitVec.toNat_udiv] at h1;rw [wrap_uns hk rfl,Int.tdiv_eq_ediv_of_nonneg (by omega),← e,BitVec.ofInt_natCast,BitVec.toNat_ofNat,BitVec.toNat_udiv,Nat.mod_eq_of_lt h1]] at this
 exact this
theorem rn_urem {t t':TypeId} {x y:Operand} {k:IntKind} {w:Nat} {a b:Value} {A B:BitVec w} (ho:o.op=.binOp .rem t x y t') (hx:ev x=a) (hy:ev y=b) (hw:k.bits=w) (hA:a=bV k A) (hB:b=bV k B) (hb:B≠0):∀ w',(execOp ev o).run P w'=.ok (.value (bV k (A % B))) w':=fun w'=>by
 subst hA hB hw;have hb':(B.toNat:Int)≠0:=fun e=>hb (BitVec.eq_of_toNat_eq (by simpa using e))
 have:=rn_rem (P:=P) ho hx hy hb' w'
 rw [show ((A.toNat:Int).tmod (B.toNat:Int))=((A % B).toNat:Int) by
   rw [Int.tmod_eq_emod_of_nonneg (by omega),← Int.natCast_emod,BitVec.toNat_umod]] at this
 exact this
theorem rn_ushl {t t':TypeId} {x y:Operand} {k k':IntKind} {w:Nat} {a:Value} {A:BitVec w} {b:Int} (ho:o.op=.binOp .shl t x y t') (hx:ev x=a) (hy:ev y=.int k' b) (hk:k.signed=false) (hw:k.bits=w) (hA:a=bV k A) (hb:0≤b):∀ w',(execOp ev o).run P w'=.ok (.value (bV k (A <<< b.toNat))) w':=fun w'=>by
 subst hA hw
 have:=rn_shl (P:=P) ho hx hy hb w'
 rw [show k.wrap ((A.toNat:Int)*2^(min b.toNat k.bits))=((A <<< b.toNat).toNat:Int) by
   rw [wrap_uns hk rfl]
   congr 1
   rw [show ((A.toNat:Int)*2^(min b.toNat k.bits))=((A.toNat*2^(min b.toNat k.bits):Nat):Int) by push_cast;rfl]
   rw [BitVec.ofInt_natCast,BitVec.toNat_ofNat,BitVec.toNat_shiftLeft,Nat.shiftLeft_eq];rcases Nat.le_total b.toNat k.bits with h|h
   · rw [Nat.min_eq_left h]
   · rw [Nat.min_eq_right h]
     obtain ⟨d,hd⟩:=Nat.exists_eq_add_of_le h;rw [hd,Nat.pow_add,← Nat.mul_assoc,Nat.mul_right_comm,Nat.mul_mod_left,Nat.mul_mod_left]] at this
 exact this
theorem rn_ushr {t t':TypeId} {x y:Operand} {k k':IntKind} {w:Nat} {a:Value} {A:BitVec w} {b:Int} (ho:o.op=.binOp .shr t x y t') (hx:ev x=a) (hy:ev y=.int k' b) (hw:k.bits=w) (hA:a=bV k A) (hb:0≤b):∀ w',(execOp ev o).run P w'=.ok (.value (bV k (A >>> b.toNat))) w':=fun w'=>by
 subst hA hw
 have:=rn_shr (P:=P) ho hx hy hb w'
 rw [show (A.toNat:Int).fdiv (2^(min b.toNat k.bits))=((A >>> b.toNat).toNat:Int) by
   rw [BitVec.toNat_ushiftRight,Nat.shiftRight_eq_div_pow];rw [Int.fdiv_eq_ediv_of_nonneg _ (Int.le_of_lt (Int.pow_pos (by decide)))]
   rw [show ((2:Int)^(min b.toNat k.bits))=((2^(min b.toNat k.bits):Nat):Int) by push_cast;rfl]
   rw [← Int.natCast_ediv]
   congr 1
   rcases Nat.le_total b.toNat k.bits with h|h
   · rw [Nat.min_eq_left h]
   · rw [Nat.min_eq_right h,Nat.div_eq_of_lt A.isLt,Nat.div_eq_of_lt (Nat.lt_of_lt_of_le A.isLt (Nat.pow_le_pow_right (by omega) h))]] at this
 exact this
theorem rn_unot {t:TypeId} {x:Operand} {k:IntKind} {w:Nat} {a:Value} {A:BitVec w} (ho:o.op=.unOp .xor t x) (hx:ev x=a) (hk:k.signed=false) (hw:k.bits=w) (hA:a=bV k A):∀ w',(execOp ev o).run P w'=.ok (.value (bV k (~~~ A))) w':=fun w'=>by
 subst hA hw
 have:=rn_xor1 (P:=P) ho hx w'
 rw [show bitsI .xor k (if k.signed=true then -1 else k.max) (A.toNat:Int)=((~~~ A).toNat:Int) by
   have hA':BitVec.ofInt k.bits (A.toNat:Int)=A:=by simp
   simp only [bitsI,hk,Bool.false_eq_true,if_false,hA'];have hm:BitVec.ofInt k.bits k.max=BitVec.allOnes k.bits:=by cases k<;>simp [IntKind.signed] at hk<;>decide
   rw [hm,BitVec.allOnes_xor];rw [wrap_uns hk rfl,BitVec.ofInt_natCast,BitVec.ofNat_toNat,BitVec.setWidth_eq]] at this
 exact this
theorem rn_uneg {t:TypeId} {x:Operand} {k:IntKind} {w:Nat} {a:Value} {A:BitVec w} (ho:o.op=.unOp .neg t x) (hx:ev x=a) (hk:k.signed=false) (hw:k.bits=w) (hA:a=bV k A):∀ w',(execOp ev o).run P w'=.ok (.value (bV k (-A))) w':=fun w'=>by
 subst hA hw
 have:=rn_neg (P:=P) ho hx w'
 rw [wrap_uns hk rfl,Int.zero_sub,BitVec.ofInt_neg,BitVec.ofInt_natCast,BitVec.ofNat_toNat,BitVec.setWidth_eq] at this;exact this
theorem wrap_i64 {n:Int} (h0:-9223372036854775808≤n) (h1:n<9223372036854775808):IntKind.i64.wrap n=n:=by
 simp [IntKind.wrap,IntKind.signed,IntKind.bits,Int.bmod];omega
theorem rn_max {x y:Operand} {k:IntKind} {a b:Int} {ts:Array TypeId} (ho:o.op=.call { callee:=.builtin .max,args:=#[x,y],argTypes:=ts }) (hx:ev x=.int k a) (hy:ev y=.int k b):∀ w',(execOp ev o).run P w'=.ok (.value (.int k (max a b))) w':=fun w'=>by
 simp [execOp,ho,resolve,invoke,builtin,hx,hy,Builtin.max_,Builtin.max2]
 split<;>omega
theorem rn_min {x y:Operand} {k:IntKind} {a b:Int} {ts:Array TypeId} (ho:o.op=.call { callee:=.builtin .min,args:=#[x,y],argTypes:=ts }) (hx:ev x=.int k a) (hy:ev y=.int k b):∀ w',(execOp ev o).run P w'=.ok (.value (.int k (min a b))) w':=fun w'=>by
 simp [execOp,ho,resolve,invoke,builtin,hx,hy,Builtin.min_,Builtin.min2]
 split<;>omega
end
def lk {α:Type 1}:List (Nat×α)→Nat→Option α
 | [],_=>none
 | (k,v)::r,t=>match Nat.beq k t with
   | true=>some v
   | false=>lk r t
theorem lk_mem {α:Type 1}:∀ {l:List (Nat×α)} {t:Nat} {v:α},lk l t=some v→(t,v)∈l
 | [],_,_,h=>by simp [lk] at h
 | (k,u)::r,t,v,h=>by
   unfold lk at h
   split at h
   · rename_i hb
     have:=Nat.eq_of_beq_eq_true hb
     subst this;cases h;simp
   · exact List.mem_cons_of_mem _ (lk_mem h)
structure Sig where
 A0:Own
 M0:Own
 w0:World
 n:Nat
 s0:Sg
 nn:Nat
 ds:List Nat
abbrev mkD (D:Nat):Deferred:={ target:=.collected D,args:=#[] }
abbrev Sig.A (S:Sig) (σ:Sg) (objs:List Ob):Own:=fun b=>S.A0 b∨owns σ objs b
abbrev Env:=List (Nat×SV)
def Glob (P:Program) [TabC P] (w:World) (A:Own):Prop:=∀ g ps,(g,ps)∈TabC.gl P→(SV.fpt ps).hc w A sg0 [.pointer (some ⟨g,0,none⟩)]∧∃ C T fr,w.heap[g]?=some (.cells C T fr)∧C.size=szL ps
theorem Glob.later {P:Program} [TabC P] {w w':World} {A A':Own} (h:Glob P w A) (hl:Later w A w' A'):Glob P w' A':=fun g ps hg=>by
 obtain ⟨h1,C,T,fr,h2,h3⟩:=h g ps hg;refine ⟨SV.hc.later hl _ _ _ h1,C,T,fr,?_,h3⟩;simp only [SV.hc] at h1;obtain ⟨b,off,e,hb,_⟩:=h1;simp only [List.cons.injEq,Value.pointer.injEq,Option.some.injEq,Addr.mk.injEq,and_true] at e;obtain ⟨rfl,_⟩:=e;exact ((hl.keep _ (Array.getElem?_eq_some_iff.1 h2).1 hb).1).trans h2
structure St (P:Program) [TabC P] (S:Sig) (σ:Sg) (env:Env) (objs:List Ob) (nx:Nat) (a:Act) (w:World):Prop where
 slots:∀ t s,lk env t=some s→s.hv w (S.A σ objs) σ (a.tmps.getD t undef)
 dom:∀ k,nx≤k→σ k=none
 size:a.tmps.size=S.n
 defers:a.defers=S.ds.map mkD
 obs:Obs σ S.A0 objs w
 hist:Mod S.M0 S.w0 w
 own0:∀ b,owns σ objs b→S.M0 b∨S.w0.heap.size≤b
 a0:∀ b,S.A0 b→b<w.heap.size
 mks:∀ D∈S.ds,S.A0 D∧w.heap[D]?=some (.deferred (some []))
 glob:Glob P w (S.A σ objs)
 base:∀ k,k<S.nn→∀ v,σ k=some v→S.s0 k=some v
 nnx:S.nn≤nx
section
variable {P:Program} [TabC P] {S:Sig} {σ:Sg} {env:Env} {objs:List Ob} {nx:Nat} {o:Oper}
def Pr (P:Program) [TabC P] (S:Sig) (env:Env) (objs:List Ob) (nx:Nat) (X:Act→World→Prop):Prop:=∀ σ a w,St P S σ env objs nx a w→X a w
theorem St.a0lt {a:Act} {w:World} (h:St P S σ env objs nx a w):∀ b,S.A0 b→b<w.heap.size:=h.a0
def cst:Value→Option SV
 | .int .u8 (.ofNat n)=>match Nat.blt n 256 with
   | true=>some (.u8 (BitVec.ofNat 8 n))
   | false=>none
 | .int .u16 (.ofNat n)=>match Nat.blt n 65536 with
   | true=>some (.u16 (BitVec.ofNat 16 n))
   | false=>none
 | .int .u32 (.ofNat n)=>match Nat.blt n 4294967296 with
   | true=>some (.u32 (BitVec.ofNat 32 n))
   | false=>none
 | .int .u64 (.ofNat n)=>match Nat.blt n 18446744073709551616 with
   | true=>some (.u64 (BitVec.ofNat 64 n))
   | false=>none
 | .int .i64 n=>match n with
   | .ofNat m=>match Nat.blt m 9223372036854775808 with
     | true=>some (.int .i64 n)
     | false=>none
   | .negSucc m=>match Nat.blt m 9223372036854775808 with
     | true=>some (.int .i64 n)
     | false=>none
 | .bool b=>some (.bool b)
 | .string s=>some (.str (s.data.toList.map (·.toBitVec)))
 | .pointer none=>some .nilp
 | .slice none 0 0=>some .nils
 | .map none=>some .nilm
 | .nilFunc=>some .nilf
 | .func (.func f) ⟨[]⟩ ⟨[]⟩=>some (.fn f)
 | .nilIface=>some (.val .nilIface)
 | _=>none
theorem baOf_toList (s:ByteArray):baOf (s.data.toList.map (·.toBitVec))=s:=by
 apply ByteArray.ext
 have:(UInt8.ofBitVec∘fun x:UInt8=>x.toBitVec)=id:=by funext x;rfl
 simp [baOf,this]
theorem cst_spec {v:Value} {s:SV} (h:cst v=some s) (w:World) (A:Own) (σ:Sg):s.hv w A σ v:=by
 have key:∀ {n m:Nat},Nat.blt n m=true→n<m:=fun h=>by simpa [Nat.blt_eq] using h
 unfold cst at h
 split at h
 · split at h<;>cases h
   rename_i hn;have:=key hn
   simp [SV.hv,SV.h1,SV.hc,Nat.mod_eq_of_lt this]
 · split at h<;>cases h
   rename_i hn;have:=key hn
   simp [SV.hv,SV.h1,SV.hc,Nat.mod_eq_of_lt this]
 · split at h<;>cases h
   rename_i hn;have:=key hn
   simp [SV.hv,SV.h1,SV.hc,Nat.mod_eq_of_lt this]
 · split at h<;>cases h
   rename_i hn;have:=key hn
   simp [SV.hv,SV.h1,SV.hc,Nat.mod_eq_of_lt this]
 · split at h
   · split at h<;>cases h
     rename_i hm;have:=key hm;simp only [SV.hv,SV.h1,SV.hc,true_and,inR,Int.ofNat_eq_natCast];exact fun _=>⟨by omega,by omega⟩
   · split at h<;>cases h
     rename_i hm;have:=key hm;simp only [SV.hv,SV.h1,SV.hc,true_and];exact fun _=>⟨by omega,by omega⟩
 · cases h;simp [SV.hv,SV.h1,SV.hc]
 · cases h;simp [SV.hv,SV.h1,SV.hc,baOf_toList]
 · cases h;simp [SV.hv,SV.h1,SV.hc]
 · cases h;simp [SV.hv,SV.h1,SV.hc]
 · cases h;simp [SV.hv,SV.h1,SV.hc]
 · cases h;simp [SV.hv,SV.h1,SV.hc]
 · cases h;simp [SV.hv,SV.h1,SV.hc]
 · cases h;simp [SV.hv,SV.h1,SV.hc,Value.oneCell']
 · cases h
variable (P) in
def evx (env:Env):Operand→Option SV
 | .tmp t=>lk env t
 | .const v=>cst v
 | .global g=>match lk (TabC.gl P) g with
   | some ps=>some (.fpt ps)
   | none=>none
 | .func f=>some (.fn f)
theorem St.ev {a:Act} {w:World} (h:St P S σ env objs nx a w) {x:Operand} {s:SV} (hx:evx P env x=some s):s.hv w (S.A σ objs) σ (a.eval x):=by
 cases x with
 | tmp t=>exact h.slots t s hx
 | const v=>exact cst_spec hx _ _ _
 | global g =>
   simp only [evx] at hx
   split at hx
   · rename_i ps hp
     cases hx
     exact (h.glob g ps (lk_mem hp)).1
   · cases hx
 | func f=>simp only [evx,Option.some.injEq] at hx;subst hx;simp [SV.hv,SV.h1,SV.hc,Act.eval]
theorem St.put {a:Act} {w:World} (h:St P S σ env objs nx a w) {d:Nat} {s:SV} {v:Value} (hd:d<S.n) (hv:s.hv w (S.A σ objs) σ v) :
   St P S σ ((d,s)::env) objs nx (a.put (some d) v) w :=
 { slots:=fun t u hu=>by
     unfold lk at hu
     split at hu
     · rename_i hb
       have:d=t:=Nat.eq_of_beq_eq_true hb
       subst this;cases hu
       have:d<a.tmps.size:=by rw [h.size];exact hd
       simpa [Act.put,this] using hv
     · rename_i hb
       have hne:d≠t:=fun e=>by rw [e,Nat.beq_refl] at hb;cases hb
       have:=h.slots t u hu
       simp only [Act.put,Array.getD_eq_getD_getElem?] at this ⊢;rw [Array.getElem?_setIfInBounds_ne hne];exact this
   dom:=h.dom,size:=by simpa [Act.put] using h.size,defers:=h.defers,obs:=h.obs,hist:=h.hist,own0:=h.own0,a0:=h.a0,mks:=h.mks,glob:=h.glob,base:=h.base,nnx:=h.nnx }
theorem St.reenv {env':Env} {a a':Act} {w:World} (h:St P S σ env objs nx a w) (h':∀ t s,lk env' t=some s→s.hv w (S.A σ objs) σ (a'.tmps.getD t undef)) (hs:a'.tmps.size=S.n) (hd:a'.defers=S.ds.map mkD):St P S σ env' objs nx a' w :=
 { slots:=h',dom:=h.dom,size:=hs,defers:=hd,obs:=h.obs,hist:=h.hist,own0:=h.own0,a0:=h.a0,mks:=h.mks,glob:=h.glob,base:=h.base,nnx:=h.nnx }
theorem St.upd {M:Own} {objs':List Ob} {a:Act} {w w':World} (h:St P S σ env objs nx a w) (hm:Mod M w w') (hM:∀ b,M b→owns σ objs b)
   (ho:∀ b,owns σ objs' b→owns σ objs b∨w.heap.size≤b) (hobs:Obs σ S.A0 objs' w'):St P S σ env objs' nx a w' :=
 have hl:Later w (S.A σ objs) w' (S.A σ objs'):=hm.later (fun b hb=>.inr (hM b hb)) (fun b hb hx=>hx.imp id fun hx=>(ho b hx).resolve_right (by omega))
 { slots:=fun t s hs=>(h.slots t s hs).later hl,dom:=h.dom,size:=h.size,defers:=h.defers,obs:=hobs
   hist:=h.hist.step hm fun b hb=>h.own0 b (hM b hb)
   own0:=fun b hb=>(ho b hb).elim (h.own0 b) (fun x=>.inr (Nat.le_trans h.hist.size x))
   a0:=fun b hb=>Nat.lt_of_lt_of_le (h.a0 b hb) hm.size
   mks:=fun D hD=>⟨(h.mks D hD).1,(hm.block D (h.a0 D (h.mks D hD).1) fun hM'=>(h.obs.lt D (hM D hM')).2 (h.mks D hD).1).trans (h.mks D hD).2⟩
   glob:=h.glob.later hl,base:=h.base,nnx:=h.nnx }
theorem St.lat {M:Own} {objs':List Ob} {a:Act} {w w':World} (_h:St P S σ env objs nx a w) (hm:Mod M w w') (hM:∀ b,M b→owns σ objs b)
   (ho:∀ b,owns σ objs' b→owns σ objs b∨w.heap.size≤b):Later w (S.A σ objs) w' (S.A σ objs') :=
 hm.later (fun b hb=>.inr (hM b hb)) (fun b hb hx=>hx.imp id fun hx=>(ho b hx).resolve_right (by omega))
theorem St.drewW {a:Act} {w:World} (h:St P S σ env objs nx a w):St P S σ env objs nx a w.drew:=by
 refine h.upd (M:=fun _=>False) (Mod.drew _ w) (fun _ x=>x.elim) (fun b hb=>.inl hb) ?_
 exact ⟨fun o ho=>(h.obs.holds o ho).later ((Mod.drew (fun _=>False) w).later (fun _ x=>x.elim) (fun _ _ x=>x)) (fun _ _=>rfl),h.obs.disj,h.obs.lt⟩
theorem St.names {σ':Sg} {nx':Nat} {a:Act} {w:World} (h:St P S σ env objs nx a w) (hs:Sg.le σ σ') (hd:∀ k,nx'≤k→σ' k=none) (hb:∀ k,k<S.nn→∀ v,σ' k=some v→S.s0 k=some v) (hn:S.nn≤nx'):St P S σ' env objs nx' a w :=
 have hA:∀ b,owns σ' objs b↔owns σ objs b:=owns_names hs h.obs.holds;have hl:Later w (S.A σ objs) w (S.A σ' objs):=Later.own fun b hx=>hx.imp id (hA b).1
 { slots:=fun t s ht=>((h.slots t s ht).later hl).names hs,dom:=hd,size:=h.size,defers:=h.defers,obs:=h.obs.names hs,hist:=h.hist
   own0:=fun b hb=>h.own0 b ((hA b).1 hb),a0:=h.a0,mks:=h.mks,glob:=h.glob.later hl,base:=hb,nnx:=hn }
theorem St.name {a:Act} {w:World} (h:St P S σ env objs nx a w) (v:Value):St P S (σ.set nx v) env objs (nx+1) a w :=
 h.names (Sg.le_set (h.dom nx (Nat.le_refl _))) (fun k hk=>by
   unfold Sg.set;rw [if_neg (by omega)]
   exact h.dom k (by omega)) (fun k hk u hu=>by
   have:=h.nnx
   unfold Sg.set at hu;rw [if_neg (by omega)] at hu
   exact h.base k hk u hu) (by have:=h.nnx;omega)
theorem St.nx_le {nx':Nat} {a:Act} {w:World} (h:St P S σ env objs nx a w) (hn:nx≤nx'):St P S σ env objs nx' a w :=
 { h with dom:=fun k hk=>h.dom k (Nat.le_trans hn hk),nnx:=Nat.le_trans h.nnx hn }
structure Side (p K:Prop):Prop where
 h:p
 k:K
structure Fork (p K1 K2:Prop):Prop where
 t:p→K1
 f:¬ p→K2
def frc (v:SV) (K:SV→Prop):Prop:=match v with
 | .bool b=>K (.bool b)
 | .dec p i=>K (.dec p i)
 | .int k n=>K (.int k n)
 | .u8 x=>K (.u8 x)
 | .u16 x=>K (.u16 x)
 | .u32 x=>K (.u32 x)
 | .u64 x=>K (.u64 x)
 | .str s=>K (.str s)
 | .nilp=>K .nilp
 | .nils=>K .nils
 | .ptr o off=>K (.ptr o off)
 | .own o=>K (.own o)
 | .rptr o q z off=>K (.rptr o q z off)
 | .cptr o off q=>K (.cptr o off q)
 | .bsl o off lo hi=>K (.bsl o off lo hi)
 | .fs z e xs=>K (.fs z e xs)
 | .fpt ps=>K (.fpt ps)
 | .fn f=>K (.fn f)
 | .nilf=>K .nilf
 | .nilm=>K .nilm
 | .val v=>K (.val v)
 | .arr8 x=>K (.arr8 x)
 | .arr32 x=>K (.arr32 x)
 | .arrG z e xs=>K (.arrG z e xs)
 | .agg ps=>K (.agg ps)
 | .tup vs=>K (.tup vs)
 | .undef=>K .undef
theorem frc_k {v:SV} {K:SV→Prop} (h:frc v K):K v:=by cases v<;>exact h
def frcL:List SV→(List SV→Prop)→Prop
 | [],K=>K []
 | s::r,K=>frc s fun s=>frcL r fun r=>K (s::r)
theorem frcL_k:∀ {l:List SV} {K:List SV→Prop},frcL l K→K l
 | [],K,h=>h
 | s::r,K,h=>frcL_k (l:=r) (K:=fun r=>K (s::r)) (frc_k (K:=fun s=>frcL r fun r=>K (s::r)) h)
def frcLL:List (List SV)→(List (List SV)→Prop)→Prop
 | [],K=>K []
 | s::r,K=>frcL s fun s=>frcLL r fun r=>K (s::r)
theorem frcLL_k:∀ {l:List (List SV)} {K:List (List SV)→Prop},frcLL l K→K l
 | [],K,h=>h
 | s::r,K,h=>frcLL_k (l:=r) (frcL_k (K:=fun s=>frcLL r fun r=>K (s::r)) h)
def frcA (v:SV) (K:SV→Prop):Prop:=match v with
 | .agg ps=>frcL ps fun ps=>K (.agg ps)
 | .fpt ps=>frcL ps fun ps=>K (.fpt ps)
 | v=>frc v K
theorem frcA_k {v:SV} {K:SV→Prop} (h:frcA v K):K v:=by
 unfold frcA at h
 split at h
 · exact frcL_k (K:=fun ps=>K (.agg ps)) h
 · exact frcL_k (K:=fun ps=>K (.fpt ps)) h
 · exact frc_k h
variable (P) in
def PureK (S:Sig) (env:Env) (objs:List Ob) (nx:Nat) (o:Oper) (K:SV→Prop):Prop :=
 ∀ σ a w,St P S σ env objs nx a w→∃ s v,K s∧s.hv w (S.A σ objs) σ v∧∀ w',(execOp a.eval o).run P w'=.ok (.value v) w'
variable (P) in
def LoadK (S:Sig) (env:Env) (objs:List Ob) (nx:Nat) (o:Oper) (K:SV→Prop):Prop :=
 ∀ σ a w,St P S σ env objs nx a w→∃ s v,K s∧s.hv w (S.A σ objs) σ v∧∀ w',Kept w w'→(execOp a.eval o).run P w'=.ok (.value v) w'
theorem PureK.load {K:SV→Prop} (h:PureK P S env objs nx o K):LoadK P S env objs nx o K:=fun σ a w hst=>by
 obtain ⟨s,v,h1,h2,h3⟩:=h σ a w hst;exact ⟨s,v,h1,h2,fun w' _=>h3 w'⟩
theorem PureK.mk {s:SV} {K:SV→Prop} (hk:K s) (h:∀ σ a w,St P S σ env objs nx a w→∃ v,s.hv w (S.A σ objs) σ v∧∀ w',(execOp a.eval o).run P w'=.ok (.value v) w'):PureK P S env objs nx o K:=fun σ a w hst=>by
 obtain ⟨v,h1,h2⟩:=h σ a w hst;exact ⟨s,v,hk,h1,h2⟩
theorem PureK.fork {p:Prop} {K1 K2 K:SV→Prop} (h1:p→PureK P S env objs nx o K) (h2:¬ p→PureK P S env objs nx o K):PureK P S env objs nx o K:=by
 by_cases hp:p
 · exact h1 hp
 · exact h2 hp
end
structure DP where
 p:Prop
 i:Decidable p
abbrev DP.sv (d:DP):SV:=.dec d.p d.i
def cmpI (op:BinOp) (a b:Int):Option DP:=match op with
 | .eql=>some ⟨a=b,inferInstance⟩
 | .neq=>some ⟨¬ a=b,inferInstance⟩
 | .lss=>some ⟨a<b,inferInstance⟩
 | .leq=>some ⟨a≤b,inferInstance⟩
 | .gtr=>some ⟨b<a,inferInstance⟩
 | .geq=>some ⟨b≤a,inferInstance⟩
 | _=>none
def evI (op:BinOp) (a b:Int) (K:SV→Prop):Prop:=match op with
 | .add=>Side (inR a→inR b→inR (a+b)) (K (.int .i64 (a+b)))
 | .sub=>Side (inR a→inR b→inR (a - b)) (K (.int .i64 (a - b)))
 | .mul=>Side (inR a→inR b→inR (a*b)) (K (.int .i64 (a*b)))
 | .quo=>Side (0≤a∧0<b) (K (.int .i64 (a / b)))
 | .rem=>Side (0≤a∧0<b) (K (.int .i64 (a % b)))
 | .and=>Side (0≤a∧0≤b) (K (.int .i64 ((a.toNat &&& b.toNat:Nat):Int)))
 | .or=>Side (0≤a∧0≤b) (K (.int .i64 ((a.toNat ||| b.toNat:Nat):Int)))
 | .xor=>Side (0≤a∧0≤b) (K (.int .i64 ((a.toNat ^^^ b.toNat:Nat):Int)))
 | op=>match cmpI op a b with
   | some ⟨p,i⟩=>K (.dec p i)
   | none=>False
def evISh (op:BinOp) (a b:Int) (K:SV→Prop):Prop:=match op with
 | .shl=>Side (0≤b∧b<64∧inR (a*2^b.toNat)) (K (.int .i64 (a*2^b.toNat)))
 | .shr=>Side (0≤b∧b<64) (K (.int .i64 (a / 2^b.toNat)))
 | _=>False
def cmpU (op:BinOp) {w:Nat} (a b:BitVec w):Option DP:=match op with
 | .eql=>some ⟨a=b,inferInstance⟩
 | .neq=>some ⟨¬ a=b,inferInstance⟩
 | .lss=>some ⟨a.toNat<b.toNat,inferInstance⟩
 | .leq=>some ⟨a.toNat≤b.toNat,inferInstance⟩
 | .gtr=>some ⟨b.toNat<a.toNat,inferInstance⟩
 | .geq=>some ⟨b.toNat≤a.toNat,inferInstance⟩
 | _=>none
def evU (op:BinOp) {w:Nat} (a b:BitVec w) (K:SV→Prop) (C:BitVec w→SV):Prop:=match op with
 | .add=>K (C (a+b))
 | .sub=>K (C (a - b))
 | .mul=>K (C (a*b))
 | .and=>K (C (a &&& b))
 | .or=>K (C (a ||| b))
 | .xor=>K (C (a ^^^ b))
 | .andNot=>K (C (a &&& ~~~ b))
 | .quo=>Side (b≠0#w) (K (C (a / b)))
 | .rem=>Side (b≠0#w) (K (C (a % b)))
 | op=>match cmpU op a b with
   | some ⟨p,i⟩=>K (.dec p i)
   | none=>False
def evUSh (op:BinOp) {w:Nat} (a:BitVec w) (n:Nat) (K:SV→Prop) (C:BitVec w→SV):Prop:=match op with
 | .shl=>K (C (a <<< n))
 | .shr=>K (C (a >>> n))
 | _=>False
def isSh:BinOp→Bool
 | .shl=>true
 | .shr=>true
 | _=>false
def cntK (s:SV) (K:Nat→Prop):Prop:=match s with
 | .int _ n=>Side (0≤n) (K n.toNat)
 | .u8 x=>K x.toNat
 | .u16 x=>K x.toNat
 | .u32 x=>K x.toNat
 | .u64 x=>K x.toNat
 | _=>False
def asP:SV→Option DP
 | .bool b=>some ⟨b=true,inferInstance⟩
 | .dec p i=>some ⟨p,i⟩
 | _=>none
def notNil:SV→Bool
 | .ptr _ _=>true
 | .rptr _ _ _ _=>true
 | .cptr _ _ _=>true
 | .fpt _=>true
 | _=>false
def isNil:SV→Bool
 | .nilp=>true
 | _=>false
def notD:DP→DP
 | ⟨p,i⟩=>⟨¬ p,@instDecidableNot p i⟩
theorem baOf_inj {a b:List (BitVec 8)} (h:baOf a=baOf b):a=b:=by
 simp only [baOf,ByteArray.mk.injEq,List.toArray_eq_toArray_eq] at h
 first
   | exact (List.map_inj_right (fun x y h=>by cases h;rfl)).1 h
   | skip
section
variable {P:Program} [TabC P] {S:Sig} {σ:Sg} {env:Env} {objs:List Ob} {nx:Nat} {o:Oper} {a:Act} {w:World} {x y:Operand} {K:SV→Prop}
theorem hvI {A:Own} {k:IntKind} {n:Int} {v:Value}:(SV.int k n).hv w A σ v↔v=.int k n∧(k=.i64→inR n):=by
 simp [SV.hv,SV.h1,SV.hc]
theorem hvB {A:Own} {b:Bool} {v:Value}:(SV.bool b).hv w A σ v↔v=.bool b:=by simp [SV.hv,SV.h1,SV.hc]
theorem hvD {A:Own} {p:Prop} {i:Decidable p} {v:Value}:(SV.dec p i).hv w A σ v↔v=.bool (@decide p i):=by simp [SV.hv,SV.h1,SV.hc]
theorem hv8 {A:Own} {n:BitVec 8} {v:Value}:(SV.u8 n).hv w A σ v↔v=bV .u8 n:=by simp [SV.hv,SV.h1,SV.hc]
theorem hv16 {A:Own} {n:BitVec 16} {v:Value}:(SV.u16 n).hv w A σ v↔v=bV .u16 n:=by simp [SV.hv,SV.h1,SV.hc]
theorem hv32 {A:Own} {n:BitVec 32} {v:Value}:(SV.u32 n).hv w A σ v↔v=bV .u32 n:=by simp [SV.hv,SV.h1,SV.hc]
theorem hv64 {A:Own} {n:BitVec 64} {v:Value}:(SV.u64 n).hv w A σ v↔v=bV .u64 n:=by simp [SV.hv,SV.h1,SV.hc]
theorem hvS {A:Own} {s:List (BitVec 8)} {v:Value}:(SV.str s).hv w A σ v↔v=.string (baOf s):=by simp [SV.hv,SV.h1,SV.hc]
theorem evI_sound {op:BinOp} {t t':TypeId} {m n:Int} (ho:o.op=.binOp op t x y t') (hx:evx P env x=some (.int .i64 m)) (hy:evx P env y=some (.int .i64 n)) (h:evI op m n K):PureK P S env objs nx o K:=by
 have get:∀ {σ a w},St P S σ env objs nx a w→(a.eval x=.int .i64 m∧inR m)∧(a.eval y=.int .i64 n∧inR n):=fun hst =>
   have h1:=hvI.1 (hst.ev hx);have h2:=hvI.1 (hst.ev hy)
   ⟨⟨h1.1,h1.2 rfl⟩,⟨h2.1,h2.2 rfl⟩⟩
 have wr:∀ {z:Int},inR z→IntKind.i64.wrap z=z:=fun h=>wrap_i64 h.1 h.2
 have bits:∀ {z:Int},inR z→0≤z→BitVec.ofInt 64 z=BitVec.ofNat 64 z.toNat:=fun {z} _ h0=>by
   obtain ⟨k,rfl⟩:=Int.eq_ofNat_of_zero_le h0;simp
 have cmp:∀ {d:DP},cmpI op m n=some d→K d.sv→PureK P S env objs nx o K:=fun {d} hd hk=>by
   refine PureK.mk hk fun σ a w hst=>⟨.bool (@decide d.p d.i),hvD.2 rfl,?_⟩
   obtain ⟨⟨h1,_⟩,h2,_⟩:=get hst;refine rn_int ho h1 h2 ?_
   cases op<;>simp only [cmpI,Option.some.injEq,reduceCtorEq] at hd<;>subst hd<;>simp [intOp]
 unfold evI at h
 split at h
 · refine PureK.mk h.k fun σ a w hst=>?_
   obtain ⟨⟨h1,r1⟩,h2,r2⟩:=get hst;have hr:=h.h r1 r2;exact ⟨_,hvI.2 ⟨rfl,fun _=>hr⟩,rn_int ho h1 h2 (by simp only [intOp,wr hr])⟩
 · refine PureK.mk h.k fun σ a w hst=>?_
   obtain ⟨⟨h1,r1⟩,h2,r2⟩:=get hst;have hr:=h.h r1 r2;exact ⟨_,hvI.2 ⟨rfl,fun _=>hr⟩,rn_int ho h1 h2 (by simp only [intOp,wr hr])⟩
 · refine PureK.mk h.k fun σ a w hst=>?_
   obtain ⟨⟨h1,r1⟩,h2,r2⟩:=get hst;have hr:=h.h r1 r2;exact ⟨_,hvI.2 ⟨rfl,fun _=>hr⟩,rn_int ho h1 h2 (by simp only [intOp,wr hr])⟩
 · refine PureK.mk h.k fun σ a w hst=>?_
   obtain ⟨⟨h1,r1⟩,h2,r2⟩:=get hst;obtain ⟨h0,h3⟩:=h.h;have e1:m / n≤m:=Int.ediv_le_self _ h0;have e2:0≤m / n:=Int.ediv_nonneg h0 (by omega)
   have hr:inR (m / n):=⟨by omega,by have:=r1.2;omega⟩
   refine ⟨_,hvI.2 ⟨rfl,fun _=>hr⟩,?_⟩
   have:=rn_quo (P:=P) ho h1 h2 (by omega)
   rwa [Int.tdiv_eq_ediv_of_nonneg h0,wr hr] at this
 · refine PureK.mk h.k fun σ a w hst=>?_
   obtain ⟨⟨h1,r1⟩,h2,r2⟩:=get hst;obtain ⟨h0,h3⟩:=h.h;have e1:m % n<n:=Int.emod_lt_of_pos _ h3;have e2:0≤m % n:=Int.emod_nonneg _ (by omega)
   have hr:inR (m % n):=⟨by omega,by have:=r2.2;omega⟩
   refine ⟨_,hvI.2 ⟨rfl,fun _=>hr⟩,?_⟩
   have:=rn_rem (P:=P) ho h1 h2 (by omega)
   rwa [Int.tmod_eq_emod_of_nonneg h0] at this
 · refine PureK.mk h.k fun σ a w hst=>?_
   obtain ⟨⟨h1,r1⟩,h2,r2⟩:=get hst;obtain ⟨h0,h3⟩:=h.h;have hle:m.toNat &&& n.toNat≤m.toNat:=Nat.and_le_left;have hr:inR ((m.toNat &&& n.toNat:Nat):Int):=⟨by omega,by have:=r1.2;omega⟩
   refine ⟨_,hvI.2 ⟨rfl,fun _=>hr⟩,rn_int ho h1 h2 ?_⟩
   have hlt:m.toNat &&& n.toNat<2^64:=by have:=r1.2;omega
   have key:(BitVec.ofInt 64 m &&& BitVec.ofInt 64 n).toNat=m.toNat &&& n.toNat:=by
     rw [bits r1 h0,bits r2 h3,BitVec.toNat_and,BitVec.toNat_ofNat,BitVec.toNat_ofNat,Nat.mod_eq_of_lt (by have:=r1.2;omega),Nat.mod_eq_of_lt (by have:=r2.2;omega)]
   show some (Value.int .i64 (IntKind.i64.wrap ((BitVec.ofInt 64 m &&& BitVec.ofInt 64 n).toNat:Int)))=_;rw [key,wr hr]
 · refine PureK.mk h.k fun σ a w hst=>?_
   obtain ⟨⟨h1,r1⟩,h2,r2⟩:=get hst;obtain ⟨h0,h3⟩:=h.h;have hlt:m.toNat ||| n.toNat<2^63:=Nat.or_lt_two_pow (by have:=r1.2;omega) (by have:=r2.2;omega)
   have hr:inR ((m.toNat ||| n.toNat:Nat):Int):=⟨by omega,by omega⟩
   refine ⟨_,hvI.2 ⟨rfl,fun _=>hr⟩,rn_int ho h1 h2 ?_⟩
   have key:(BitVec.ofInt 64 m ||| BitVec.ofInt 64 n).toNat=m.toNat ||| n.toNat:=by
     rw [bits r1 h0,bits r2 h3,BitVec.toNat_or,BitVec.toNat_ofNat,BitVec.toNat_ofNat,Nat.mod_eq_of_lt (by have:=r1.2;omega),Nat.mod_eq_of_lt (by have:=r2.2;omega)]
   show some (Value.int .i64 (IntKind.i64.wrap ((BitVec.ofInt 64 m ||| BitVec.ofInt 64 n).toNat:Int)))=_;rw [key,wr hr]
 · refine PureK.mk h.k fun σ a w hst=>?_
   obtain ⟨⟨h1,r1⟩,h2,r2⟩:=get hst;obtain ⟨h0,h3⟩:=h.h;have hlt:m.toNat ^^^ n.toNat<2^63:=Nat.xor_lt_two_pow (by have:=r1.2;omega) (by have:=r2.2;omega)
   have hr:inR ((m.toNat ^^^ n.toNat:Nat):Int):=⟨by omega,by omega⟩
   refine ⟨_,hvI.2 ⟨rfl,fun _=>hr⟩,rn_int ho h1 h2 ?_⟩
   have key:(BitVec.ofInt 64 m ^^^ BitVec.ofInt 64 n).toNat=m.toNat ^^^ n.toNat:=by
     rw [bits r1 h0,bits r2 h3,BitVec.toNat_xor,BitVec.toNat_ofNat,BitVec.toNat_ofNat,Nat.mod_eq_of_lt (by have:=r1.2;omega),Nat.mod_eq_of_lt (by have:=r2.2;omega)]
   show some (Value.int .i64 (IntKind.i64.wrap ((BitVec.ofInt 64 m ^^^ BitVec.ofInt 64 n).toNat:Int)))=_;rw [key,wr hr]
 · split at h
   · rename_i d hd;exact cmp hd h
   · exact h.elim
theorem evISh_sound {op:BinOp} {t t':TypeId} {m n:Int} {k':IntKind} (ho:o.op=.binOp op t x y t') (hx:evx P env x=some (.int .i64 m)) (hy:∀ {σ a w},St P S σ env objs nx a w→a.eval y=.int k' n) (h:evISh op m n K):PureK P S env objs nx o K:=by
 unfold evISh at h
 split at h
 · refine PureK.mk h.k fun σ a w hst=>?_
   obtain ⟨h0,h1,hr⟩:=h.h;refine ⟨_,hvI.2 ⟨rfl,fun _=>hr⟩,?_⟩
   have:=rn_shl (P:=P) ho (hvI.1 (hst.ev hx)).1 (hy hst) h0
   rwa [show min n.toNat IntKind.i64.bits=n.toNat by simp [IntKind.bits];omega,wrap_i64 hr.1 hr.2] at this
 · refine PureK.mk h.k fun σ a w hst=>?_
   obtain ⟨h0,h1⟩:=h.h;have r1:=(hvI.1 (hst.ev hx)).2 rfl;have hp:(0:Int)<2^n.toNat:=Int.pow_pos (by decide)
   have hr:inR (m / 2^n.toNat):=by
     rcases Int.le_total 0 m with h|h
     · exact ⟨by have:=Int.ediv_nonneg h (Int.le_of_lt hp);omega,by have:=Int.ediv_le_self (2^n.toNat) h;have:=r1.2;omega⟩
     · have h2:m≤m / 2^n.toNat:=by
         rw [Int.le_ediv_iff_mul_le hp]
         have:m*2^n.toNat≤m*1:=Int.mul_le_mul_of_nonpos_left h (by omega)
         omega
       have h3:m / 2^n.toNat≤0:=by
         have:=Int.ediv_le_ediv hp h;simpa using this
       exact ⟨by have:=r1.1;omega,by omega⟩
   refine ⟨_,hvI.2 ⟨rfl,fun _=>hr⟩,?_⟩
   have:=rn_shr (P:=P) ho (hvI.1 (hst.ev hx)).1 (hy hst) h0
   rwa [show min n.toNat IntKind.i64.bits=n.toNat by simp [IntKind.bits];omega,Int.fdiv_eq_ediv_of_nonneg _ (Int.le_of_lt hp)] at this
 · exact h.elim
theorem evU_sound {op:BinOp} {t t':TypeId} {k:IntKind} {wd:Nat} {m n:BitVec wd} {C:BitVec wd→SV} (hs:k.signed=false) (hw:k.bits=wd) (hC:∀ {w A σ} (z:BitVec wd) v,(C z).hv w A σ v↔v=bV k z) (ho:o.op=.binOp op t x y t')
   (hx:evx P env x=some (C m)) (hy:evx P env y=some (C n)) (h:evU op m n K C):PureK P S env objs nx o K:=by
 have get:∀ {σ a w},St P S σ env objs nx a w→a.eval x=bV k m∧a.eval y=bV k n:=fun hst=>⟨(hC _ _).1 (hst.ev hx),(hC _ _).1 (hst.ev hy)⟩
 have bin:∀ {z:BitVec wd},bwOp op m n=some z→K (C z)→PureK P S env objs nx o K:=fun {z} hz hk =>
   PureK.mk hk fun σ a w hst=>⟨_,(hC _ _).2 rfl,rn_ubin ho rfl rfl hs hw (get hst).1 (get hst).2 hz⟩
 have cmp:∀ {d:DP},cmpU op m n=some d→K d.sv→PureK P S env objs nx o K:=fun {d} hd hk=>by
   refine PureK.mk hk fun σ a w hst=>⟨.bool (@decide d.p d.i),hvD.2 rfl,rn_ucmp ho rfl rfl hw (get hst).1 (get hst).2 ?_⟩
   cases op<;>simp only [cmpU,Option.some.injEq,reduceCtorEq] at hd<;>subst hd<;>simp [bwCmp]
 unfold evU at h
 split at h
 · exact bin rfl h
 · exact bin rfl h
 · exact bin rfl h
 · exact bin rfl h
 · exact bin rfl h
 · exact bin rfl h
 · exact bin rfl h
 · exact PureK.mk h.k fun σ a w hst=>⟨_,(hC _ _).2 rfl,rn_uquo ho rfl rfl hs hw (get hst).1 (get hst).2 h.h⟩
 · exact PureK.mk h.k fun σ a w hst=>⟨_,(hC _ _).2 rfl,rn_urem ho rfl rfl hw (get hst).1 (get hst).2 h.h⟩
 · split at h
   · rename_i d hd;exact cmp hd h
   · exact h.elim
theorem evUSh_sound {op:BinOp} {t t':TypeId} {k k':IntKind} {wd:Nat} {m:BitVec wd} {n:Nat} {C:BitVec wd→SV} (hs:k.signed=false) (hw:k.bits=wd) (hC:∀ {w A σ} (z:BitVec wd) v,(C z).hv w A σ v↔v=bV k z) (ho:o.op=.binOp op t x y t')
   (hx:evx P env x=some (C m)) (hy:∀ {σ a w},St P S σ env objs nx a w→∃ z:Int,a.eval y=.int k' z∧0≤z∧z.toNat=n) (h:evUSh op m n K C):PureK P S env objs nx o K:=by
 unfold evUSh at h
 split at h
 · refine PureK.mk h fun σ a w hst=>?_
   obtain ⟨z,h1,h2,rfl⟩:=hy hst;exact ⟨_,(hC _ _).2 rfl,rn_ushl ho rfl h1 hs hw ((hC _ _).1 (hst.ev hx)) h2⟩
 · refine PureK.mk h fun σ a w hst=>?_
   obtain ⟨z,h1,h2,rfl⟩:=hy hst;exact ⟨_,(hC _ _).2 rfl,rn_ushr ho rfl h1 hw ((hC _ _).1 (hst.ev hx)) h2⟩
 · exact h.elim
end
section
variable {P:Program} [TabC P] {S:Sig} {σ:Sg} {env:Env} {objs:List Ob} {nx:Nat} {o:Oper} {a:Act} {w:World} {x y:Operand} {K:SV→Prop}
def asB:SV→Option Bool
 | .bool b=>some b
 | .dec p i=>some (@decide p i)
 | _=>none
theorem asB_spec {s:SV} {b:Bool} (h:asB s=some b) (w:World) (A:Own) (σ:Sg) (v:Value):s.hv w A σ v↔v=.bool b:=by
 cases s<;>simp only [asB,reduceCtorEq,Option.some.injEq] at h<;>subst h
 · exact hvB
 · exact hvD
def evEq (op:BinOp) (d:Option DP) (K:SV→Prop):Prop:=match d with
 | some ⟨p,i⟩=>match op with
   | .eql=>K (.dec p i)
   | .neq=>K (.dec (¬ p) (@instDecidableNot p i))
   | _=>False
 | none=>False
def evSh (op:BinOp) (s:SV) (n:Nat) (K:SV→Prop):Prop:=match s with
 | .u8 x=>evUSh op x n K .u8
 | .u16 x=>evUSh op x n K .u16
 | .u32 x=>evUSh op x n K .u32
 | .u64 x=>evUSh op x n K .u64
 | .int .i64 x=>evISh op x n K
 | _=>False
def evSlNil (op:BinOp) (s:SV) (K:SV→Prop):Prop:=match s with
 | .nils=>match op with
   | .eql=>K (.bool true)
   | .neq=>K (.bool false)
   | _=>False
 | .fs z enc xs=>match op with
   | .eql=>∀ b:Bool,(b=true→xs.length=0)→K (.bool b)
   | .neq=>∀ b:Bool,(b=true→xs.length=0)→K (.bool (!b))
   | _=>False
 | _=>False
variable (P) in
def evBin (op:BinOp) (T:Nat) (s u:SV) (K:SV→Prop):Prop:=match isSh op with
 | true=>cntK u fun n=>evSh op s n K
 | false=>match s with
   | .int .i64 m=>match u with
     | .int .i64 n=>evI op m n K
     | _=>False
   | .u8 m=>match u with
     | .u8 n=>evU op m n K .u8
     | _=>False
   | .u16 m=>match u with
     | .u16 n=>evU op m n K .u16
     | _=>False
   | .u32 m=>match u with
     | .u32 n=>evU op m n K .u32
     | _=>False
   | .u64 m=>match u with
     | .u64 n=>evU op m n K .u64
     | _=>False
   | .str m=>match u with
     | .str n=>match op with
       | .add=>Side (m.length+n.length<9223372036854775808) (K (.str (m++n)))
       | op=>evEq op (some ⟨m=n,inferInstance⟩) K
     | _=>False
   | s=>match ty P T with
     | some ⟨.bool,_,_⟩=>match asB s with
       | some b=>match asB u with
         | some c=>evEq op (some ⟨b=c,inferInstance⟩) K
         | none=>False
       | none=>False
     | some ⟨.ptr _,_,_⟩=>match isNil s,isNil u,notNil s,notNil u with
       | true,true,_,_=>match op with
         | .eql=>K (.bool true)
         | .neq=>K (.bool false)
         | _=>False
       | false,true,true,_=>match op with
         | .eql=>K (.bool false)
         | .neq=>K (.bool true)
         | _=>False
       | _,_,_,_=>False
     | some ⟨.sl _,_,_⟩=>match u with
       | .nils=>evSlNil op s K
       | _=>False
     | _=>False
theorem cnt_sound {s:SV} {K:Nat→Prop} (hx:evx P env y=some s) (h:cntK s K):∃ n k',K n∧∀ {σ a w},St P S σ env objs nx a w→∃ z:Int,a.eval y=.int k' z∧0≤z∧z.toNat=n:=by
 unfold cntK at h
 split at h
 · exact ⟨_,_,h.k,fun hst=>⟨_,(hvI.1 (hst.ev hx)).1,h.h,rfl⟩⟩
 · exact ⟨_,.u8,h,fun hst=>⟨_,hv8.1 (hst.ev hx),by omega,by simp⟩⟩
 · exact ⟨_,.u16,h,fun hst=>⟨_,hv16.1 (hst.ev hx),by omega,by simp⟩⟩
 · exact ⟨_,.u32,h,fun hst=>⟨_,hv32.1 (hst.ev hx),by omega,by simp⟩⟩
 · exact ⟨_,.u64,h,fun hst=>⟨_,hv64.1 (hst.ev hx),by omega,by simp⟩⟩
 · exact h.elim
theorem PureK.any {K:SV→Prop} (h:∀ σ a w,St P S σ env objs nx a w→PureK P S env objs nx o K):PureK P S env objs nx o K:=fun σ a w hst=>h σ a w hst σ a w hst
def plainV:Value→Bool
 | .bool _|.pointer _|.slice _ _ _|.map _|.func _ _ _|.nilFunc|.agg _=>true
 | _=>false
theorem run_eqB {op:BinOp} {t t':TypeId} {ev:Operand→Value} {u v:Value} {r:Bool} (ho:o.op=.binOp op t x y t') (hx:ev x=u) (hy:ev y=v) (h:∀ cs ds,¬ (u=.agg cs∧v=.agg ds)) (h2:¬ (u=.nilIface∧v=.nilIface))
   (hop:op=.eql∨op=.neq) (he:∀ w' d,(Op.equalIn (d+1) t u v).run P w'=.ok r w') (hf:plainV u=true:=by rfl) :
   ∀ w',(execOp ev o).run P w'=.ok (.value (.bool (if op=.eql then r else !r))) w':=fun w'=>by
 have he':(Op.equal t u v).run P w'=.ok r w':=he w' 9999;simp only [execOp,ho,hx,hy,Sem.run_bind,run_eqGuard_plain (P:=P) (op:=op) (t:=t) (x:=x) (y:=y) w' h h2,Result.andThen_ok];rcases hop with rfl|rfl
 · cases u<;>simp only [plainV,reduceCtorEq] at hf<;>cases v<;>simp [binOp,he']
 · cases u<;>simp only [plainV,reduceCtorEq] at hf<;>cases v<;>simp [binOp,he']
theorem baOf_size (m:List (BitVec 8)):(baOf m).size=m.length:=by simp [baOf,ByteArray.size]
theorem baOf_append (m n:List (BitVec 8)):baOf m++baOf n=baOf (m++n):=by
 apply ByteArray.ext
 simp [baOf]
theorem rn_str {op:BinOp} {t t':TypeId} {ev:Operand→Value} {m n:List (BitVec 8)} {v:Value} (ho:o.op=.binOp op t x y t') (hx:ev x=.string (baOf m)) (hy:ev y=.string (baOf n)) (hv:∀ w',(Op.stringOp op (baOf m) (baOf n)).run P w'=.ok v w'):∀ w',(execOp ev o).run P w'=.ok (.value v) w':=fun w'=>by
 simp only [execOp,ho,hx,hy,Sem.run_bind,run_eqGuard_plain (P:=P) (op:=op) (t:=t) (x:=x) (y:=y) (a:=.string (baOf m)) (b:=.string (baOf n)) w' (fun _ _ h=>by cases h.1) (fun h=>by cases h.1),Result.andThen_ok]
 cases op<;>simp [binOp,hv w']
theorem evEq_sound {op:BinOp} {d:Option DP} {K:SV→Prop} (h:evEq op d K):∃ d',d=some d'∧((op=.eql∧K d'.sv)∨(op=.neq∧K (notD d').sv)):=by
 unfold evEq at h
 split at h
 · rename_i p i
   split at h
   · exact ⟨⟨p,i⟩,rfl,.inl ⟨rfl,h⟩⟩
   · exact ⟨⟨p,i⟩,rfl,.inr ⟨rfl,h⟩⟩
   · exact h.elim
 · exact h.elim
theorem run_slNil' {T et:TypeId} {i:TI} (ht:ty P T=some i) (hk:i.k=.sl et) {ad:Option Addr} {l c:Nat} (hn:ad=none→l=0∧c=0):∀ w' d,(Op.equalIn (d+1) T (.slice ad l c) (.slice none 0 0)).run P w'=.ok ad.isNone w':=fun w' d=>by
 cases ad with
 | none=>obtain ⟨rfl,rfl⟩:=hn rfl;simp [Op.equalIn,run_underlying (ty_slice ht hk)]
 | some _=>simp [Op.equalIn,run_underlying (ty_slice ht hk)]
theorem ty_bool {T:TypeId} {i:TI} (ht:ty P T=some i) (hk:i.k=.bool):P.underlying T=some .bool:=by
 obtain ⟨inf,d,_,hd,_,_,hb,_⟩:=ty_spec ht;rw [hk] at hb
 cases d<;>simp [tkB] at hb;exact hd
theorem notD_dec (d:DP):@decide (notD d).p (notD d).i=!@decide d.p d.i:=by
 obtain ⟨p,i⟩:=d
 cases i<;>rfl
theorem evBool_sound {op:BinOp} {T T':TypeId} {s u:SV} {i:TI} {b c:Bool} (ho:o.op=.binOp op T x y T') (hx:evx P env x=some s) (hy:evx P env y=some u) (ht:ty P T=some i) (hk:i.k=.bool)
   (hs:asB s=some b) (hu:asB u=some c) (h:evEq op (some ⟨b=c,inferInstance⟩) K):PureK P S env objs nx o K:=by
 obtain ⟨d,hd,hcase⟩:=evEq_sound h
 cases hd
 have he:∀ w' d,(Op.equalIn (d+1) T (.bool b) (.bool c)).run P w'=.ok (b == c) w':=fun w' d=>by
   simp [Op.equalIn,run_underlying (ty_bool ht hk)]
 have hbc:(b == c)=decide (b=c):=by cases b<;>cases c<;>rfl
 rcases hcase with ⟨rfl,hk⟩|⟨rfl,hk⟩
 · refine PureK.mk hk fun σ a w hst=>⟨_,hvD.2 rfl,?_⟩
   have:=run_eqB (P:=P) ho ((asB_spec hs _ _ _ _).1 (hst.ev hx)) ((asB_spec hu _ _ _ _).1 (hst.ev hy)) (fun _ _ h=>by cases h.1) (fun h=>by cases h.1) (.inl rfl) he
   simpa [hbc] using this
 · refine PureK.mk hk fun σ a w hst=>⟨.bool (!decide (b=c)),hvD.2 (by rw [notD_dec]),?_⟩
   have:=run_eqB (P:=P) ho ((asB_spec hs _ _ _ _).1 (hst.ev hx)) ((asB_spec hu _ _ _ _).1 (hst.ev hy)) (fun _ _ h=>by cases h.1) (fun h=>by cases h.1) (.inr rfl) he
   simpa [hbc] using this
theorem notNil_spec {A:Own} {s:SV} (h:notNil s=true) {v:Value} (hv:s.hv w A σ v):∃ p,v=.pointer (some p):=by
 cases s<;>simp only [notNil,reduceCtorEq] at h<;>simp only [SV.hv,SV.h1,SV.hc] at hv
 · obtain ⟨b,c,_,e⟩:=hv;simp at e;exact ⟨_,e⟩
 · obtain ⟨g,l,c,_,e⟩:=hv;simp at e;exact ⟨_,e⟩
 · obtain ⟨b,c,_,e⟩:=hv;simp at e;exact ⟨_,e⟩
 · obtain ⟨b,c,e,_⟩:=hv;simp at e;exact ⟨_,e⟩
theorem evSlNil_sound {op:BinOp} {T T' et:TypeId} {s:SV} {i:TI} (ho:o.op=.binOp op T x y T') (hx:evx P env x=some s) (hy:evx P env y=some .nils) (ht:ty P T=some i) (hk:i.k=.sl et) (h:evSlNil op s K):PureK P S env objs nx o K:=by
 have hyn:∀ {σ a w},St P S σ env objs nx a w→a.eval y=.slice none 0 0:=fun hst=>by
   have:=hst.ev hy;simpa [SV.hv,SV.h1,SV.hc] using this
 unfold evSlNil at h
 split at h
 · have hxn:∀ {σ a w},St P S σ env objs nx a w→a.eval x=.slice none 0 0:=fun hst=>by
     have:=hst.ev hx;simpa [SV.hv,SV.h1,SV.hc] using this
   split at h
   · refine PureK.mk h fun σ a w hst=>⟨_,hvB.2 rfl,?_⟩
     have:=run_eqB (P:=P) ho (hxn hst) (hyn hst) (fun _ _ h=>by cases h.1) (fun h=>by cases h.1) (.inl rfl) (run_slNil' ht hk (fun _=>⟨rfl,rfl⟩))
     simpa using this
   · refine PureK.mk h fun σ a w hst=>⟨_,hvB.2 rfl,?_⟩
     have:=run_eqB (P:=P) ho (hxn hst) (hyn hst) (fun _ _ h=>by cases h.1) (fun h=>by cases h.1) (.inr rfl) (run_slNil' ht hk (fun _=>⟨rfl,rfl⟩))
     simpa using this
   · exact h.elim
 · rename_i z α enc xs
   split at h
   · intro σ a w hst
     have h1:=hst.ev hx;simp only [SV.hv,SV.h1,SV.hc] at h1;obtain ⟨ad,c,e1,_,_,hn,_⟩:=h1;simp only [List.cons.injEq,and_true] at e1;refine ⟨_,_,h ad.isNone (fun hz=>?_),hvB.2 rfl,?_⟩
     · cases ad with
       | none=>rw [(hn rfl).1];rfl
       | some _=>cases hz
     · have:=run_eqB (P:=P) ho e1 (hyn hst) (fun _ _ h=>by cases h.1) (fun h=>by cases h.1) (.inl rfl) (run_slNil' ht hk (fun e=>⟨by rw [(hn e).1];rfl,(hn e).2⟩))
       simpa using this
   · intro σ a w hst
     have h1:=hst.ev hx;simp only [SV.hv,SV.h1,SV.hc] at h1;obtain ⟨ad,c,e1,_,_,hn,_⟩:=h1;simp only [List.cons.injEq,and_true] at e1;refine ⟨_,_,h ad.isNone (fun hz=>?_),hvB.2 rfl,?_⟩
     · cases ad with
       | none=>rw [(hn rfl).1];rfl
       | some _=>cases hz
     · have:=run_eqB (P:=P) ho e1 (hyn hst) (fun _ _ h=>by cases h.1) (fun h=>by cases h.1) (.inr rfl) (run_slNil' ht hk (fun e=>⟨by rw [(hn e).1];rfl,(hn e).2⟩))
       simpa using this
   · exact h.elim
 · exact h.elim
theorem evBin_sound {op:BinOp} {T T':TypeId} {s u:SV} (ho:o.op=.binOp op T x y T') (hx:evx P env x=some s) (hy:evx P env y=some u) (h:evBin P op T s u K):PureK P S env objs nx o K:=by
 have strE:∀ {m n:List (BitVec 8)},s=.str m→u=.str n→evEq op (some ⟨m=n,inferInstance⟩) K→PureK P S env objs nx o K:=by
   intro m n hs hu h0;subst hs hu;obtain ⟨d',hd,hcase⟩:=evEq_sound h0
   cases hd
   have heq:((baOf m).toList == (baOf n).toList)=decide (m=n):=by
     have hl:∀ m,(baOf m).toList=m.map UInt8.ofBitVec:=fun m=>by rw [ByteArray.toList_eq];simp [baOf]
     rw [hl,hl,Bool.eq_iff_iff,beq_iff_eq,decide_eq_true_eq];exact List.map_inj_right (fun x y h=>by cases h;rfl)
   rcases hcase with ⟨rfl,hk⟩|⟨rfl,hk⟩
   · refine PureK.mk hk fun σ a w hst=>⟨_,hvD.2 rfl,rn_str ho (hvS.1 (hst.ev hx)) (hvS.1 (hst.ev hy)) fun w'=>?_⟩
     simp [Op.stringOp,heq]
   · refine PureK.mk hk fun σ a w hst=>⟨.bool (!decide (m=n)),hvD.2 (by rw [notD_dec]),rn_str ho (hvS.1 (hst.ev hx)) (hvS.1 (hst.ev hy)) fun w'=>?_⟩
     simp [Op.stringOp,heq]
 unfold evBin at h
 split at h
 · obtain ⟨n,k',hk,hc⟩:=cnt_sound (S:=S) (objs:=objs) (nx:=nx) hy h
   unfold evSh at hk
   split at hk
   · exact evUSh_sound (k:=.u8) (k':=k') rfl rfl (fun z v=>hv8) ho hx hc hk
   · exact evUSh_sound (k:=.u16) (k':=k') rfl rfl (fun z v=>hv16) ho hx hc hk
   · exact evUSh_sound (k:=.u32) (k':=k') rfl rfl (fun z v=>hv32) ho hx hc hk
   · exact evUSh_sound (k:=.u64) (k':=k') rfl rfl (fun z v=>hv64) ho hx hc hk
   · exact evISh_sound (k':=k') ho hx (fun hst=>by obtain ⟨z,h1,h2,h3⟩:=hc hst;rw [h1,← h3,Int.toNat_of_nonneg h2]) hk
   · exact hk.elim
 · split at h
   · split at h
     · exact evI_sound ho hx hy h
     · exact h.elim
   · split at h
     · exact evU_sound (k:=.u8) rfl rfl (fun z v=>hv8) ho hx hy h
     · exact h.elim
   · split at h
     · exact evU_sound (k:=.u16) rfl rfl (fun z v=>hv16) ho hx hy h
     · exact h.elim
   · split at h
     · exact evU_sound (k:=.u32) rfl rfl (fun z v=>hv32) ho hx hy h
     · exact h.elim
   · split at h
     · exact evU_sound (k:=.u64) rfl rfl (fun z v=>hv64) ho hx hy h
     · exact h.elim
   · split at h
     · split at h
       · refine PureK.mk h.k fun σ a w hst=>⟨_,hvS.2 rfl,rn_str ho (hvS.1 (hst.ev hx)) (hvS.1 (hst.ev hy)) fun w'=>?_⟩
         have:=h.h
         simp [Op.stringOp,baOf_size,baOf_append,IntKind.max,IntKind.signed,IntKind.bits]
         omega
       · exact strE rfl rfl h
     · exact h.elim
   · split at h
     · rename_i ht
       split at h
       · rename_i hb
         split at h
         · rename_i hc;exact evBool_sound ho hx hy ht rfl hb hc h
         · exact h.elim
       · exact h.elim
     · rename_i e _ _ ht
       have nilV:∀ {s:SV} {A:Own} {w:World} {σ:Sg} {v:Value},isNil s=true→s.hv w A σ v→v=.pointer none:=fun {s A w σ v} hn hv=>by
         cases s<;>simp only [isNil,reduceCtorEq] at hn<;>simpa [SV.hv,SV.h1,SV.hc] using hv
       split at h
       · rename_i h1 h2
         split at h
         · refine PureK.mk h fun σ a w hst=>⟨_,hvB.2 rfl,?_⟩
           exact rn_eqNil (p:=none) ho (nilV h1 (hst.ev hx)) (nilV h2 (hst.ev hy)) ht rfl
         · refine PureK.mk h fun σ a w hst=>⟨_,hvB.2 rfl,?_⟩
           exact rn_neNil (p:=none) ho (nilV h1 (hst.ev hx)) (nilV h2 (hst.ev hy)) ht rfl
         · exact h.elim
       · rename_i h1 h2 h3
         have nn:∀ {σ a w},St P S σ env objs nx a w→∃ p,a.eval x=.pointer (some p):=fun hst=>notNil_spec h3 (hst.ev hx)
         split at h
         · refine PureK.mk h fun σ a w hst=>⟨_,hvB.2 rfl,?_⟩
           obtain ⟨p,hp⟩:=nn hst;exact rn_eqNil (p:=some p) ho hp (nilV h2 (hst.ev hy)) ht rfl
         · refine PureK.mk h fun σ a w hst=>⟨_,hvB.2 rfl,?_⟩
           obtain ⟨p,hp⟩:=nn hst;exact rn_neNil (p:=some p) ho hp (nilV h2 (hst.ev hy)) ht rfl
         · exact h.elim
       · exact h.elim
     · rename_i ht
       split at h
       · exact evSlNil_sound ho hx hy ht rfl h
       · exact h.elim
     · exact h.elim
end
inductive Idx (p:Prop) (K:p→Prop):Prop
 | mk (h:p) (k:K h)
inductive Ex {α:Type} (p:α→Prop) (K:α→Prop):Prop
 | mk (a:α) (h:p a) (k:K a)
abbrev eB (x:BitVec 8):List SV:=[.u8 x]
def szC {β:Type 1} (s:SV) (f:Nat→β):β:=match s with
 | @SV.arr8 n _=>f n
 | @SV.arr32 n _=>f n
 | .arrG z _ xs=>f (xs.length*z)
 | _=>f 1
theorem szC_eq {β:Type 1} (s:SV) (f:Nat→β):szC s f=f s.sz:=by cases s<;>rfl
def szB (s:SV) (f:Nat→Bool):Bool:=match s with
 | @SV.arr8 n _=>f n
 | @SV.arr32 n _=>f n
 | .arrG z _ xs=>f (xs.length*z)
 | _=>f 1
theorem szB_eq (s:SV) (f:Nat→Bool):szB s f=f s.sz:=by cases s<;>rfl
def sizQ:List SV→Nat→Bool
 | [],n=>Nat.beq 0 n
 | s::r,n=>szB s fun k=>match Nat.ble k n with
   | true=>sizQ r (n - k)
   | false=>false
theorem sizQ_eq:∀ (l:List SV) (n:Nat),sizQ l n=Nat.beq (szL l) n
 | [],n=>rfl
 | s::r,n=>by
   unfold sizQ;rw [szB_eq];have e:∀ a b:Nat,Nat.beq a b=decide (a=b):=fun a b=>by
     by_cases h:a=b
     · subst h;simp
     · rw [decide_eq_false h];cases hb:Nat.beq a b
       · rfl
       · exact absurd (Nat.eq_of_beq_eq_true hb) h
   cases hb:Nat.ble s.sz n with
   | true =>
     have:=Nat.le_of_ble_eq_true hb
     simp only
     rw [sizQ_eq r (n - s.sz),e,e];simp only [szL];exact decide_eq_decide.2 (by omega)
   | false =>
     have hn:¬ s.sz≤n:=fun h=>by rw [Nat.ble_eq_true_of_le h] at hb;cases hb
     simp only
     rw [e];simp only [szL];exact (decide_eq_false (by omega)).symm
theorem sizQ_spec {l:List SV} {n:Nat} (h:sizQ l n=true):szL l=n:=Nat.eq_of_beq_eq_true (by rw [← sizQ_eq];exact h)
def takeP:List SV→Nat→Option (List SV×List SV)
 | l,0=>some ([],l)
 | [],_+1=>none
 | s::r,n+1=>szC s fun k=>match Nat.ble k (n+1) with
   | true=>match takeP r (n+1 - k) with
     | some (a,b)=>some (s::a,b)
     | none=>none
   | false=>none
theorem takeP_spec:∀ {l:List SV} {n:Nat} {a b:List SV},takeP l n=some (a,b)→l=a++b∧szL a=n
 | l,0,a,b,h=>by cases l<;>(simp [takeP] at h;obtain ⟨rfl,rfl⟩:=h;exact ⟨rfl,rfl⟩)
 | [],n+1,a,b,h=>by simp [takeP] at h
 | s::r,n+1,a,b,h=>by
   unfold takeP at h;rw [szC_eq] at h
   split at h
   · rename_i hb
     split at h
     · rename_i a' b' h'
       have:=takeP_spec h'
       simp only [Option.some.injEq,Prod.mk.injEq] at h;obtain ⟨rfl,rfl⟩:=h;have hb':=Nat.le_of_ble_eq_true hb;exact ⟨by rw [this.1];rfl,by simp only [szL,this.2];omega⟩
     · cases h
   · cases h
def partP (l:List SV) (off size:Nat):Option (List SV×List SV×List SV) :=
 match takeP l off with
 | some (a,r)=>match takeP r size with
   | some (m,z)=>some (a,m,z)
   | none=>none
 | none=>none
theorem partP_spec {l:List SV} {off size:Nat} {a m z:List SV} (h:partP l off size=some (a,m,z)):l=a++(m++z)∧szL a=off∧szL m=size:=by
 unfold partP at h
 split at h
 · rename_i a' r h1
   split at h
   · rename_i m' z' h2
     simp only [Option.some.injEq,Prod.mk.injEq] at h;obtain ⟨rfl,rfl,rfl⟩:=h;have e1:=takeP_spec h1;have e2:=takeP_spec h2;exact ⟨by rw [e1.1,e2.1],e1.2,e2.2⟩
   · cases h
 · cases h
theorem szL_append:∀ a b:List SV,szL (a++b)=szL a+szL b
 | [],b=>by simp [szL]
 | c::r,b=>by simp [szL,szL_append r b,Nat.add_assoc]
theorem take_drop_part {L:List Value} {a n i m:Nat} (h:i+m≤n):(((L.drop a).take n).drop i).take m=(L.drop (a+i)).take m:=by
 rw [List.drop_take,List.take_take,List.drop_drop,Nat.min_eq_left (by omega)]
theorem hL.part {w:World} {A:Own} {σ:Sg} {l a m z:List SV} {off size:Nat} {cs:List Value} (h:hL w A l σ cs) (hp:partP l off size=some (a,m,z)):hL w A m σ ((cs.drop off).take size)∧szL m=size∧off+size≤szL l∧cs.length=szL l:=by
 obtain ⟨rfl,h1,h2⟩:=partP_spec hp;have hlen:=h.len;obtain ⟨x,y,rfl,hx,hy⟩:=hL.split h;obtain ⟨x1,x2,rfl,hx1,hx2⟩:=hL.split hy;have e1:=hx.len;have e2:=hx1.len;refine ⟨?_,h2,by simp only [szL_append];omega,hlen⟩
 rw [← h1,← e1,← h2,← e2,List.drop_left,List.take_left];exact hx1
def svK (row:Bool) (m:List SV) (K:SV→Prop):Prop:=match row with
 | true=>frcL m fun m=>K (.agg m)
 | false=>match m with
   | [s]=>frc s K
   | _=>False
def vOf:Bool→List Value→Value
 | true,l=>.agg l.toArray
 | false,l=>l.headD undef
theorem svK_sound {row:Bool} {m:List SV} {K:SV→Prop} (h:svK row m K) (h1:(row||Nat.beq (szL m) 1)=true):∃ s,K s∧∀ {w A σ cs},hL w A m σ cs→s.hv w A σ (vOf row cs):=by
 cases row with
 | true=>simp only [svK] at h;exact ⟨_,frcL_k h,fun hc=>⟨_,rfl,hc⟩⟩
 | false =>
   simp only [svK] at h;simp only [Bool.false_or] at h1;have h1':=Nat.eq_of_beq_eq_true h1
   split at h
   · rename_i s
     refine ⟨s,frc_k h,fun {w A σ cs} hc=>?_⟩
     have hlen:=hc.len;rw [h1'] at hlen;obtain ⟨v,rfl⟩:=List.length_eq_one_iff.1 hlen
     have:=hL.single.1 hc
     cases s<;>first|exact this|(simp only [SV.hc] at this)
   · exact h.elim
section
variable {P:Program} [TabC P] {S:Sig} {σ:Sg} {env:Env} {objs:List Ob} {nx:Nat} {o:Oper} {a:Act} {w:World} {x y:Operand} {K:SV→Prop}
theorem lk_holds {k:Nat} {so:SO} (h:St P S σ env objs nx a w) (hk:lk objs k=some so):so.holds w (S.A σ objs) σ k:=h.obs.holds (k,so) (lk_mem hk)
theorem run_loadVar_at {T:Nat} {i:TI} (ht:ty P T=some i) (h1:(i.row||Nat.beq i.size 1)=true) {w:World} {b off:Nat} {C:Array Value} {t':TypeId} {fr:Nat×Nat}
   (hg:w.heap[b]?=some (.cells C t' fr)) {l:List Value} (hl:(C.toList.drop off).take i.size=l) (hs:l.length=i.size):(loadVar T ⟨b,off,none⟩).run P w=.ok (vOf i.row l) w:=by
 have hc:∀ j v,l[j]?=some v→w.cell? ((⟨b,off,none⟩:Addr).add j)=some v:=fun j v hv=>by
   have hadd:(⟨b,off,none⟩:Addr).add j=⟨b,off+j,none⟩:=by unfold Addr.add;split<;>simp_all
   rw [hadd,cell_of_row w b (off+j) C t' fr hg];rw [← hl,List.getElem?_take] at hv
   split at hv
   · rw [List.getElem?_drop] at hv;simpa using hv
   · cases hv
 simp only [loadVar,Sem.run_bind,run_isAgg' ht,Result.andThen_ok]
 cases hr:i.row with
 | true =>
   have:=run_loadCells_list (P:=P) w ⟨b,off,none⟩ l hc
   simp [run_sizeOf' ht,← hs,this,vOf]
 | false =>
   simp only [hr,Bool.false_or] at h1;have h1':=Nat.eq_of_beq_eq_true h1
   match l,hs with
   | [v],_ =>
     have:=hc 0 v rfl
     simp only [Addr.add,if_true] at this
     simp [load,Sem.run,this,vOf]
   | [],hs=>simp [h1'] at hs
   | _::_::_,hs=>simp [h1'] at hs
theorem load_at {T:Nat} {j:TI} {m:List SV} (ho:o.op=.load T x) (ht:ty P T=some j) (h1:(j.row||Nat.beq j.size 1)=true) (hz:szL m=j.size) (h:svK j.row m K)
   (hp:∀ {σ a w},St P S σ env objs nx a w→∃ b off C t fr σ',a.eval x=.pointer (some ⟨b,off,none⟩)∧w.heap[b]?=some (.cells C t fr)∧hL w (S.A σ objs) m σ' ((C.toList.drop off).take j.size)∧(∀ cs,hL w (S.A σ objs) m σ' cs→hL w (S.A σ objs) m σ cs)):LoadK P S env objs nx o K:=by
 obtain ⟨s,hk,hs⟩:=svK_sound h (by rw [hz];exact h1)
 intro σ a w hst;obtain ⟨b,off,C,t,fr,σ',e1,e2,e3,e4⟩:=hp hst;have hb:b<w.heap.size:=(Array.getElem?_eq_some_iff.1 e2).1;refine ⟨s,_,hk,hs (e4 _ e3),fun w' hkp=>?_⟩
 have:=run_loadVar_at (P:=P) ht h1 (w:=w') ((hkp.block b hb (fun y=>y)).trans e2) rfl (by rw [e3.len,hz])
 simp only [execOp,ho,e1,Instr.loadAt,Instr.sureAddr,Sem.run_bind,Sem.run_pure,Result.andThen_ok,this]
def rowB (j:TI):Bool:=match j.row with
 | true=>true
 | false=>Nat.beq j.size 1
theorem rowB_spec {j:TI} (h:rowB j=true):(j.row||Nat.beq j.size 1)=true:=by
 unfold rowB at h;split at h<;>simp_all
theorem hL.of0 {w:World} {A:Own} {l:List SV} {cs:List Value} (σ:Sg) (h:hL w A l sg0 cs):hL w A l σ cs:=hL.names l cs (fun k v e=>by cases e) h
theorem rowH.form {w:World} {A:Own} {σ:Sg} {k e z q:Nat} {els:List (List SV)} (h:rowH w A σ k e z els) (hq:q<els.length) :
   ∃ g cap cur,σ k=some (.slice (some ⟨g,0,none⟩) els.length cap)∧w.heap[g]?=some (.cells cur e (0,0))∧els.length≤cap∧cap≤maxLen∧cur.size=cap*z∧hE w A sg0 els (cur.toList.take (els.length*z))∧(∀ e∈els,szL e=z):=by
 obtain ⟨v,cs,h0,h1,h2,h3,ho⟩:=h;rcases ho.2 with ⟨rfl,hn⟩|⟨g,cap,cur,rfl,hb0,hg,hn,hc,hs,ht⟩
 · omega
 · exact ⟨g,cap,cur,h0,hg,hn,hc,hs,by rw [ht];exact h3,h1⟩
theorem rowH.len {w:World} {A:Own} {σ:Sg} {k e z:Nat} {els:List (List SV)} (h:rowH w A σ k e z els):∃ ad c,σ k=some (.slice ad els.length c):=by
 obtain ⟨v,cs,h0,h1,h2,h3,ho⟩:=h;rcases ho.2 with ⟨rfl,hn⟩|⟨g,cap,cur,rfl,_⟩
 · exact ⟨none,0,by rw [h0,hn]⟩
 · exact ⟨_,_,h0⟩
def ldParts (j:TI) (ps:List SV) (off:Nat) (K:SV→Prop):Prop:=match partP ps off j.size with
 | some (_,m,_)=>svK j.row m K
 | none=>False
def ldCell (ps:List SV) (off q:Nat) (K:SV→Prop):Prop:=match takeP ps off with
 | some (_,.arr8 (n:=n) x::_)=>Idx (q<n) fun h=>K (.u8 x[q])
 | some (_,.arr32 (n:=n) x::_)=>Idx (q<n) fun h=>K (.u32 x[q])
 | _=>False
variable (P) in
def evLoad (objs:List Ob) (T:Nat) (s:SV) (K:SV→Prop):Prop:=match ty P T with
 | some j=>match rowB j with
   | true=>match s with
     | .ptr k off=>match lk objs k with
       | some (.box _ ps)=>ldParts j ps off K
       | some (.fbox _ ps)=>ldParts j ps off K
       | _=>False
     | .cptr k off q=>match Nat.beq j.size 1,j.row with
       | true,false=>match lk objs k with
         | some (.box _ ps)=>ldCell ps off q K
         | some (.fbox _ ps)=>ldCell ps off q K
         | _=>False
       | _,_=>False
     | .rptr k q z off=>match lk objs k with
       | some (.row _ z' enc xs)=>match Nat.beq z z' with
         | true=>Idx (q<xs.length) fun h=>ldParts j (enc xs[q]) off K
         | false=>False
       | some (.lits _ z' els)=>match Nat.beq z z',nth' els q with
         | true,some ps=>ldParts j ps off K
         | _,_=>False
       | _=>False
     | .fpt ps=>match sizQ ps j.size with
       | true=>svK j.row ps K
       | false=>False
     | _=>False
   | false=>False
 | none=>False
where nth' {α:Type 1}:List α→Nat→Option α
 | [],_=>none
 | a::_,0=>some a
 | _::l,i+1=>nth' l i
theorem nth'_eq {α:Type 1}:∀ (l:List α) (i:Nat),evLoad.nth' l i=l[i]?
 | [],_=>by simp [evLoad.nth']
 | _::_,0=>by simp [evLoad.nth']
 | _::l,i+1=>by simp [evLoad.nth',nth'_eq l i]
theorem ptr_ev {k off:Nat} (hx:evx P env x=some (.ptr k off)) {σ a w} (h:St P S σ env objs nx a w):∃ b c,σ k=some (.pointer (some ⟨b,c,none⟩))∧a.eval x=.pointer (some ⟨b,c+off,none⟩):=by
 have:=h.ev hx
 simp only [SV.hv,SV.h1,SV.hc,List.cons.injEq,and_true] at this;exact this
theorem cptr_ev {k off q:Nat} (hx:evx P env x=some (.cptr k off q)) {σ a w} (h:St P S σ env objs nx a w):∃ b c,σ k=some (.pointer (some ⟨b,c,none⟩))∧a.eval x=.pointer (some ⟨b,c+off+q,none⟩):=by
 have:=h.ev hx
 simp only [SV.hv,SV.h1,SV.hc,List.cons.injEq,and_true] at this;exact this
theorem rptr_ev {k q z off:Nat} (hx:evx P env x=some (.rptr k q z off)) {σ a w} (h:St P S σ env objs nx a w):∃ g l c,σ k=some (.slice (some ⟨g,0,none⟩) l c)∧a.eval x=.pointer (some ⟨g,q*z+off,none⟩):=by
 have:=h.ev hx
 simp only [SV.hv,SV.h1,SV.hc,List.cons.injEq,and_true] at this;exact this
theorem fpt_ev {ps:List SV} (hx:evx P env x=some (.fpt ps)) {σ a w} (h:St P S σ env objs nx a w):∃ b off,a.eval x=.pointer (some ⟨b,off,none⟩)∧¬ (S.A σ objs) b∧∃ C T fr,w.heap[b]?=some (.cells C T fr)∧hL w (S.A σ objs) ps sg0 ((C.toList.drop off).take (szL ps)):=by
 have:=h.ev hx
 simp only [SV.hv,SV.h1,SV.hc,List.cons.injEq,and_true] at this;exact this
theorem box_cells {k:Nat} {so:SO} {T:Nat} {ps:List SV} (hso:so=.box T ps∨so=.fbox T ps) (hk:lk objs k=some so) {σ a w} (h:St P S σ env objs nx a w) :
   ∃ b C t fr σ',σ k=some (.pointer (some ⟨b,0,none⟩))∧w.heap[b]?=some (.cells C t fr)∧hL w (S.A σ objs) ps σ' (C.toList.take (szL ps))∧(∀ m cs,hL w (S.A σ objs) m σ' cs→hL w (S.A σ objs) m σ cs):=by
 have hh:=lk_holds h hk;rcases hso with rfl|rfl
 · obtain ⟨b,cs,h1,h2,h3⟩:=hh
   exact ⟨b,_,T,(0,0),σ,h1,h2,by rw [← h3.len];simpa using h3,fun _ _ h=>h⟩
 · obtain ⟨v,h1,h2,b,rfl⟩:=hh
   simp only [SV.hc] at h2;obtain ⟨b',off,e,_,C,t,fr,h3,h4⟩:=h2;simp only [List.cons.injEq,Value.pointer.injEq,Option.some.injEq,Addr.mk.injEq,and_true] at e;obtain ⟨rfl,rfl⟩:=e;exact ⟨b,C,t,fr,sg0,h1,h3,by simpa using h4,fun m cs h=>h.of0 _⟩
theorem evLoad_sound {T:Nat} {s:SV} (ho:o.op=.load T x) (hx:evx P env x=some s) (h:evLoad P objs T s K):LoadK P S env objs nx o K:=by
 unfold evLoad at h
 split at h
 · rename_i j ht
   split at h
   · rename_i hrow
     have h1:=rowB_spec hrow;have parts:∀ {ps:List SV} {off:Nat},ldParts j ps off K→(∀ {σ a w},St P S σ env objs nx a w→∃ b p C t fr σ',a.eval x=.pointer (some ⟨b,p+off,none⟩)∧w.heap[b]?=some (.cells C t fr)∧hL w (S.A σ objs) ps σ' ((C.toList.drop p).take (szL ps))∧(∀ m cs,hL w (S.A σ objs) m σ' cs→hL w (S.A σ objs) m σ cs))→LoadK P S env objs nx o K:=by
       intro ps off hl hp;unfold ldParts at hl
       split at hl
       · rename_i pa m z hpart
         refine load_at ho ht h1 (partP_spec hpart).2.2 hl fun hst=>?_
         obtain ⟨b,p,C,t,fr,σ',e1,e2,e3,e4⟩:=hp hst;obtain ⟨f1,f2,f3,f4⟩:=e3.part hpart;refine ⟨b,p+off,C,t,fr,σ',e1,e2,?_,e4 m⟩
         rwa [take_drop_part f3] at f1
       · exact hl.elim
     have cell:∀ {ps:List SV} {off q:Nat} {k:Nat} {so:SO} {TT:Nat},(Nat.beq j.size 1=true)→j.row=false→ldCell ps off q K→evx P env x=some (.cptr k off q)→lk objs k=some so→(so=.box TT ps∨so=.fbox TT ps)→LoadK P S env objs nx o K:=by
       intro ps off q k so TT hz1 hr hl hx hk hso;have hz1':=Nat.eq_of_beq_eq_true hz1;have go:∀ {n:Nat} {rest a:List SV} {u v:SV} {f:Nat→Value},takeP ps off=some (a,u::rest)→u.sz=n→q<n→(∀ {w A σ cs},u.hc w A σ cs→∀ i,i<n→cs[i]?=some (f i))→(∀ {w A σ},v.hc w A σ [f q])→(∀ {w A σ b},v.hv w A σ b↔v.hc w A σ [b])→K v→LoadK P S env objs nx o K:=by
         intro n rest a0 u v f htk hsz hq hf hv hvv hk0 σ a w hst;obtain ⟨b,C,t,fr,σ',e1,e2,e3,_⟩:=box_cells hso hk hst;obtain ⟨b',c',e1',e4⟩:=cptr_ev hx hst;rw [e1] at e1';cases e1';obtain ⟨e5,e6⟩:=takeP_spec htk;rw [e5] at e3;have hl3:=e3.len;obtain ⟨c1,c2,hc,hc1,hc2⟩:=hL.split e3;simp only [hL] at hc2;obtain ⟨d1,d2,rfl,hd1,hd2⟩:=hc2;have hc1l:=hc1.len;have hd1l:=hd1.len;have hcell:C[off+q]?=some (f q):=by
           have h0:(C.toList.take (szL (a0++u::rest)))[off+q]?=some (f q):=by
             rw [hc,List.getElem?_append_right (by omega),List.getElem?_append_left (by omega)]
             rw [show off+q - c1.length=q by omega]
             exact hf hd1 q hq
           rw [List.getElem?_take] at h0
           split at h0
           · simpa using h0
           · cases h0
         have hb:b<w.heap.size:=(Array.getElem?_eq_some_iff.1 e2).1;refine ⟨v,f q,hk0,hvv.2 hv,fun w' hkp=>?_⟩
         have hcl:(C.toList.drop (off+q)).take j.size=[f q]:=by
           rw [hz1']
           apply List.ext_getElem?
           intro i;rw [List.getElem?_take]
           split
           · have:i=0:=by omega
             subst this;rw [List.getElem?_drop];simpa using hcell
           · rw [List.getElem?_eq_none (by simp;omega)]
         have:=run_loadVar_at (P:=P) ht h1 (w:=w') ((hkp.block b hb (fun y=>y)).trans e2) hcl (by simp [hz1'])
         simp only [Nat.zero_add] at e4;simp only [execOp,ho,e4,Instr.loadAt,Instr.sureAddr,Sem.run_bind,Sem.run_pure,Result.andThen_ok,this,hr,vOf,List.headD]
       unfold ldCell at hl
       split at hl
       · rename_i n x0 _ htk
         obtain ⟨hq,hk0⟩:=hl;exact go (f:=fun i=>if h:i<n then bV .u8 x0[i] else undef) htk rfl hq (fun hc i hi=>by have hi:i<n:=hi;simp only [SV.hc] at hc;subst hc;simp [hi]) (by simp [SV.hc,hq]) (by simp [SV.hv,SV.h1]) hk0
       · rename_i n x0 _ htk
         obtain ⟨hq,hk0⟩:=hl;exact go (f:=fun i=>if h:i<n then bV .u32 x0[i] else undef) htk rfl hq (fun hc i hi=>by have hi:i<n:=hi;simp only [SV.hc] at hc;subst hc;simp [hi]) (by simp [SV.hc,hq]) (by simp [SV.hv,SV.h1]) hk0
       · exact hl.elim
     have box:∀ {k off:Nat} {so:SO} {TT:Nat} {ps:List SV},evx P env x=some (.ptr k off)→lk objs k=some so→(so=.box TT ps∨so=.fbox TT ps)→ldParts j ps off K→LoadK P S env objs nx o K:=by
       intro k off so TT ps hx hk hso hl;refine parts hl fun hst=>?_
       obtain ⟨b,C,t,fr,σ',e1,e2,e3,e4⟩:=box_cells hso hk hst;obtain ⟨b',c',e1',e5⟩:=ptr_ev hx hst;rw [e1] at e1';cases e1';exact ⟨b,0,C,t,fr,σ',e5,e2,by simpa using e3,e4⟩
     have row:∀ {k q z off:Nat} {e:Nat} {els:List (List SV)} {ps:List SV},evx P env x=some (.rptr k q z off)→(∀ {σ a w},St P S σ env objs nx a w→rowH w (S.A σ objs) σ k e z els)→els[q]?=some ps→ldParts j ps off K→LoadK P S env objs nx o K:=by
       intro k q z off e els ps hx hk hq hl;refine parts hl fun hst=>?_
       have hq':q<els.length:=(List.getElem?_eq_some_iff.1 hq).1;obtain ⟨g,cap,cur,f1,f2,f3,f4,f5,f6,f7⟩:=(hk hst).form hq';obtain ⟨g',l,c,e1,e2⟩:=rptr_ev hx hst;rw [f1] at e1;cases e1;have f8:=f6.get f7 hq;have hsz:szL ps=z:=f7 _ (List.mem_of_getElem? hq);refine ⟨g,q*z,cur,e,(0,0),sg0,e2,f2,?_,fun m cs h=>h.of0 _⟩
       have hmul:(q+1)*z≤els.length*z:=Nat.mul_le_mul_right _ hq';rw [Nat.add_mul,Nat.one_mul] at hmul;rw [List.drop_take,List.take_take,Nat.min_eq_left (by omega)] at f8
       rw [hsz];exact f8
     split at h
     · split at h
       · rename_i hk;exact box hx hk (.inl rfl) h
       · rename_i hk;exact box hx hk (.inr rfl) h
       · exact h.elim
     · split at h
       · rename_i hz1 hr
         split at h
         · rename_i hk;exact cell hz1 hr h hx hk (.inl rfl)
         · rename_i hk;exact cell hz1 hr h hx hk (.inr rfl)
         · exact h.elim
       · exact h.elim
     · split at h
       · rename_i e z' α enc xs hk
         split at h
         · rename_i hz
           obtain rfl:=Nat.eq_of_beq_eq_true hz;obtain ⟨hq,h⟩:=h;exact row hx (fun hst=>lk_holds hst hk) (by simp [hq]) h
         · exact h.elim
       · rename_i e z' els hk
         split at h
         · rename_i hz hn
           obtain rfl:=Nat.eq_of_beq_eq_true hz;rw [nth'_eq] at hn;exact row hx (fun hst=>lk_holds hst hk) hn h
         · exact h.elim
       · exact h.elim
     · rename_i ps
       split at h
       · rename_i hz
         refine load_at ho ht h1 (sizQ_spec hz) h fun hst=>?_
         obtain ⟨b,off,e1,e2,C,t,fr,e3,e4⟩:=fpt_ev hx hst;exact ⟨b,off,C,t,fr,sg0,e1,e3,by rw [← sizQ_spec hz];exact e4,fun cs h=>h.of0 _⟩
       · exact h.elim
     · exact h.elim
   · exact h.elim
 · exact h.elim
end
section
variable {P:Program} [TabC P] {S:Sig} {σ:Sg} {env:Env} {objs:List Ob} {nx:Nat} {o:Oper} {a:Act} {w:World} {x y:Operand} {K:SV→Prop}
theorem addr_add (b off k:Nat):(⟨b,off,none⟩:Addr).add k=⟨b,off+k,none⟩:=by unfold Addr.add;split<;>simp_all
variable (P) in
def evFld (T f:Nat) (K:Nat→TI→Prop):Prop:=match ty P T with
 | some ⟨.st fl,_,_⟩=>match nth fl f with
   | some (fo,ft)=>match ty P ft with
     | some j=>K fo j
     | none=>False
   | none=>False
 | _=>False
theorem evFld_spec {T f:Nat} {K:Nat→TI→Prop} (h:evFld P T f K):∃ i fl fo ft j,ty P T=some i∧i.k=.st fl∧nth fl f=some (fo,ft)∧ty P ft=some j∧K fo j:=by
 unfold evFld at h
 split at h
 · rename_i fl s b hT
   split at h
   · rename_i fo ft hf
     split at h
     · rename_i j hj;exact ⟨_,fl,fo,ft,j,hT,rfl,hf,hj,h⟩
     · exact h.elim
   · exact h.elim
 · exact h.elim
variable (P) in
def evFieldAddr (T f:Nat) (s:SV) (K:SV→Prop):Prop:=evFld P T f fun fo j=>match Nat.beq j.size 0 with
 | true=>False
 | false=>match s with
   | .ptr k off=>K (.ptr k (off+fo))
   | .rptr k q z off=>K (.rptr k q z (off+fo))
   | .fpt ps=>match partP ps fo j.size with
     | some (_,m,_)=>K (.fpt m)
     | none=>False
   | _=>False
theorem fpt_part {A:Own} {ps pa m z:List SV} {off size:Nat} (hp:partP ps off size=some (pa,m,z)) {b p:Nat} (h:(SV.fpt ps).hc w A sg0 [.pointer (some ⟨b,p,none⟩)]):(SV.fpt m).hc w A sg0 [.pointer (some ⟨b,p+off,none⟩)]:=by
 simp only [SV.hc] at h ⊢;obtain ⟨b',p',h0,hA,C,T,fr,hg,ht⟩:=h;simp only [List.cons.injEq,Value.pointer.injEq,Option.some.injEq,Addr.mk.injEq,and_true] at h0;obtain ⟨rfl,rfl⟩:=h0;obtain ⟨h1,h2,h3,_⟩:=ht.part hp;refine ⟨b,p+off,rfl,hA,C,T,fr,hg,?_⟩;rw [take_drop_part h3] at h1;rw [h2];exact h1
theorem evFieldAddr_sound {T f:Nat} {s:SV} (ho:o.op=.fieldAddr T x f) (hx:evx P env x=some s) (h:evFieldAddr P T f s K):PureK P S env objs nx o K:=by
 obtain ⟨i,fl,fo,ft,j,hT,hk,hf,hj,h⟩:=evFld_spec h
 split at h
 · exact h.elim
 · rename_i hz
   split at h
   · refine PureK.mk h fun σ a w hst=>?_
     obtain ⟨b,c,h1,h2⟩:=ptr_ev hx hst;exact ⟨_,⟨b,c,h1,rfl⟩,by rw [← Nat.add_assoc];exact rn_fieldAddr ho h2 hT hk hf hj hz⟩
   · refine PureK.mk h fun σ a w hst=>?_
     obtain ⟨g,l,c,h1,h2⟩:=rptr_ev hx hst;exact ⟨_,⟨g,l,c,h1,rfl⟩,by rw [← Nat.add_assoc];exact rn_fieldAddr ho h2 hT hk hf hj hz⟩
   · rename_i ps
     split at h
     · rename_i pa m z hp
       refine PureK.mk h fun σ a w hst=>?_
       have hh:=hst.ev hx;simp only [SV.hv,SV.h1] at hh;obtain ⟨b,off,h2,_⟩:=fpt_ev hx hst;rw [h2] at hh;exact ⟨_,fpt_part hp hh,rn_fieldAddr ho h2 hT hk hf hj hz⟩
     · exact h.elim
   · exact h.elim
theorem run_part {ps pa m z:List SV} {off:Nat} {t:TypeId} {j:TI} {cs:List Value} {A:Own} {σ:Sg} (hj:ty P t=some j) (h1:rowB j=true) (hp:partP ps off j.size=some (pa,m,z)) (hc:hL w A ps σ cs) (w':World) :
   (part t cs.toArray off).run P w'=.ok (vOf j.row ((cs.drop off).take j.size)) w':=by
 obtain ⟨e1,e2,e3,e4⟩:=hc.part hp;have e5:=e1.len;simp only [part,Sem.run_bind,run_isAgg' hj,Result.andThen_ok]
 cases hr:j.row with
 | true =>
   simp only [if_true,Sem.run_bind,run_sizeOf' hj,Result.andThen_ok,Sem.run_pure,vOf]
   congr 2
   apply Array.ext'
   simp only [Array.toList_extract,List.extract_eq_drop_take];rw [Nat.add_sub_cancel_left]
 | false =>
   have:=rowB_spec h1
   rw [hr,Bool.false_or] at this;have h1':=Nat.eq_of_beq_eq_true this;have hlt:off<cs.length:=by omega
   have:(cs.drop off).take j.size=[cs[off]]:=by
     rw [h1',List.drop_eq_getElem_cons hlt];rfl
   simp [this,vOf,hlt]
theorem run_partL {off:Nat} {t:TypeId} {j:TI} {cs:List Value} (hj:ty P t=some j) (h1:rowB j=true) (hl:off+j.size≤cs.length) (w':World) :
   (part t cs.toArray off).run P w'=.ok (vOf j.row ((cs.drop off).take j.size)) w':=by
 simp only [part,Sem.run_bind,run_isAgg' hj,Result.andThen_ok]
 cases hr:j.row with
 | true =>
   simp only [if_true,Sem.run_bind,run_sizeOf' hj,Result.andThen_ok,Sem.run_pure,vOf]
   congr 2
   apply Array.ext'
   simp only [Array.toList_extract,List.extract_eq_drop_take];rw [Nat.add_sub_cancel_left]
 | false =>
   have:=rowB_spec h1
   rw [hr,Bool.false_or] at this;have h1':=Nat.eq_of_beq_eq_true this;have hlt:off<cs.length:=by omega
   have:(cs.drop off).take j.size=[cs[off]]:=by
     rw [h1',List.drop_eq_getElem_cons hlt];rfl
   simp [this,vOf,hlt]
variable (P) in
def evField (T f:Nat) (s:SV) (K:SV→Prop):Prop:=evFld P T f fun fo j=>match rowB j with
 | true=>match s with
   | .agg ps=>ldParts j ps fo K
   | _=>False
 | false=>False
theorem evField_sound {T f:Nat} {s:SV} (ho:o.op=.field T x f) (hx:evx P env x=some s) (h:evField P T f s K):PureK P S env objs nx o K:=by
 obtain ⟨i,fl,fo,ft,j,hT,hk,hf,hj,h⟩:=evFld_spec h
 split at h
 · rename_i hrow
   split at h
   · rename_i ps
     unfold ldParts at h
     split at h
     · rename_i pa m z hp
       obtain ⟨s,hK,hs⟩:=svK_sound h (by rw [(partP_spec hp).2.2];exact rowB_spec hrow)
       refine PureK.mk hK fun σ a w hst=>?_
       have hh:=hst.ev hx;obtain ⟨cs,h1,h2⟩:=hh;obtain ⟨gs,hu,hm⟩:=ty_struct hT hk;rw [nth_eq,← hm,List.getElem?_map] at hf
       cases hg:gs.toList[f]? with
       | none=>simp [hg] at hf
       | some g =>
         simp only [hg,Option.map_some,Option.some.injEq,Prod.mk.injEq] at hf;obtain ⟨rfl,rfl⟩:=hf;have hg':gs[f]?=some g:=by simpa using hg
         refine ⟨_,hs (h2.part hp).1,fun w'=>?_⟩
         simp only [execOp,ho,h1,Instr.field,Sem.run_bind,run_underlying hu,Result.andThen_ok,hg',asAgg,Sem.run_pure,run_part hj hrow hp h2 w']
     · exact h.elim
   · exact h.elim
 · exact h.elim
def ixI:SV→Option Int
 | .int _ n=>some n
 | .u8 x=>some (x.toNat:Int)
 | .u16 x=>some (x.toNat:Int)
 | .u32 x=>some (x.toNat:Int)
 | .u64 x=>some (x.toNat:Int)
 | _=>none
theorem ixI_spec {s:SV} {m:Int} (h:ixI s=some m) (hx:evx P env x=some s) {σ a w} (hst:St P S σ env objs nx a w):∃ k,a.eval x=.int k m:=by
 have hh:=hst.ev hx
 cases s<;>simp only [ixI,reduceCtorEq,Option.some.injEq] at h<;>subst h
 · exact ⟨_,(hvI.1 hh).1⟩
 · exact ⟨_,hv8.1 hh⟩
 · exact ⟨_,hv16.1 hh⟩
 · exact ⟨_,hv32.1 hh⟩
 · exact ⟨_,hv64.1 hh⟩
def litN:Int→Option Nat
 | .ofNat n=>some n
 | _=>none
theorem litN_spec {m:Int} {n:Nat} (h:litN m=some n):m=n:=by unfold litN at h;split at h<;>simp at h;subst h;rfl
def isCh:TK→Bool
 | .int .u8=>true
 | .int .u32=>true
 | _=>false
def idxArr (n:Nat) (j:TI) (s:SV) (m:Int) (K:SV→Prop):Prop:=match s with
 | .ptr k off=>match Nat.beq j.size 1,isCh j.k with
   | true,true=>Side (0≤m∧m<n) (K (.cptr k off m.toNat))
   | _,_=>match litN m with
     | some q=>match Nat.blt q n with
       | true=>K (.ptr k (off+q*j.size))
       | false=>False
     | none=>False
 | .fpt [.arr8 (n:=n') v]=>match Nat.beq j.size 1,Nat.ble n' n with
   | true,true=>Idx (0≤m∧m.toNat<n') fun h=>K (.fpt [.u8 (v[m.toNat]'h.2)])
   | _,_=>False
 | .fpt [.arr32 (n:=n') v]=>match Nat.beq j.size 1,Nat.ble n' n with
   | true,true=>Idx (0≤m∧m.toNat<n') fun h=>K (.fpt [.u32 (v[m.toNat]'h.2)])
   | _,_=>False
 | .fpt [.arrG z enc xs]=>match Nat.beq z j.size with
   | true=>Idx (0≤m∧m.toNat<xs.length∧m<n) fun h=>frcL (enc (xs[m.toNat]'h.2.1)) fun ps=>Side (szL ps=z) (K (.fpt ps))
   | false=>False
 | .fpt ps=>match litN m with
   | some q=>match Nat.blt q n,partP ps (q*j.size) j.size with
     | true,some (_,r,_)=>K (.fpt r)
     | _,_=>False
   | none=>False
 | _=>False
def idxSl (objs:List Ob) (j:TI) (s:SV) (m:Int) (K:SV→Prop):Prop:=match s with
 | .own k=>match lk objs k with
   | some (.row _ z enc xs)=>match Nat.beq z j.size with
     | true=>Side (0≤m∧m<xs.length) (K (.rptr k m.toNat z 0))
     | false=>False
   | some (.frow z enc xs)=>match Nat.beq z j.size with
     | true=>Idx (0≤m∧m.toNat<xs.length) fun h=>frcL (enc (xs[m.toNat]'h.2)) fun ps=>K (.fpt ps)
     | false=>False
   | some (.lits _ z els)=>match Nat.beq z j.size,litN m with
     | true,some q=>match Nat.blt q els.length with
       | true=>K (.rptr k q z 0)
       | false=>False
     | _,_=>False
   | _=>False
 | .fs z enc xs=>match Nat.beq z j.size with
   | true=>Idx (0≤m∧m.toNat<xs.length) fun h=>frcL (enc (xs[m.toNat]'h.2)) fun ps=>K (.fpt ps)
   | false=>False
 | .bsl k off lo hi=>match Nat.beq j.size 1 with
   | true=>Side (0≤m∧m<hi - lo) (K (.cptr k off (lo+m.toNat)))
   | false=>False
 | _=>False
variable (P) in
def evIndexAddr (objs:List Ob) (T:Nat) (s:SV) (ix:SV) (K:SV→Prop):Prop:=match ixI ix with
 | some m=>match ty P T with
   | some ⟨.ar n e,_,_⟩=>match ty P e with
     | some j=>idxArr n j s m K
     | none=>False
   | some ⟨.sl e,_,_⟩=>match ty P e with
     | some j=>idxSl objs j s m K
     | none=>False
   | _=>False
 | none=>False
theorem fs_index {z:Nat} {α:Type} {enc:α→List SV} {xs:List α} {T et:Nat} {ix:Operand} {m:Int} {i j:TI} (ho:o.op=.indexAddr T x ix) (hi:∀ {σ a w},St P S σ env objs nx a w→∃ k,a.eval ix=.int k m)
   (hx:∀ {σ a w},St P S σ env objs nx a w→∃ v,a.eval x=v∧(SV.fs z enc xs).hc w (S.A σ objs) sg0 [v]) (ht:ty P T=some i) (hk:i.k=.sl et) (hj:ty P et=some j) (hz:Nat.beq z j.size=true) (hq:0≤m∧m.toNat<xs.length) (h:K (.fpt (enc (xs[m.toNat]'hq.2)))):PureK P S env objs nx o K:=by
 refine PureK.mk h fun σ a w hst=>?_
 obtain ⟨k,hi⟩:=hi hst;obtain ⟨v,h0,hc⟩:=hx hst;simp only [SV.hc,List.cons.injEq,and_true] at hc;obtain ⟨ad,c,rfl,h1,h2,h3,h4,h5⟩:=hc;have hz':=Nat.eq_of_beq_eq_true hz
 cases ad with
 | none=>rw [(h3 rfl).1] at hq;exact absurd hq.2 (by simp)
 | some ad =>
   have hcase:=h5 ad rfl;obtain ⟨b,p,sp⟩:=ad;rcases hcase with rfl|⟨hsp,hA,C,T',fr,hg,he⟩
   · exact absurd hq.2 (by simp)
   · simp only at hsp;subst hsp
     refine ⟨.pointer (some ⟨b,p+m.toNat*z,none⟩),?_,fun w'=>?_⟩
     · simp only [SV.hv,SV.h1,SV.hc]
       refine ⟨b,p+m.toNat*z,rfl,hA,C,T',fr,hg,?_⟩
       have:=he m.toNat hq.2
       rwa [h4 m.toNat hq.2]
     · have hm:m<xs.length:=by omega
       simp [execOp,ho,h0,hi,Instr.indexAt,asIntOf,run_underlying (ty_slice ht hk),run_sizeOf' hj,addr_add,← hz',hq.1,hm]
theorem fs_ev {z:Nat} {α:Type} {enc:α→List SV} {xs:List α} (hx:evx P env x=some (.fs z enc xs)) {σ a w} (hst:St P S σ env objs nx a w):∃ v,a.eval x=v∧(SV.fs z enc xs).hc w (S.A σ objs) sg0 [v]:=⟨_,rfl,hst.ev hx⟩
theorem own_ev {k:Nat} (hx:evx P env x=some (.own k)) {σ a w} (hst:St P S σ env objs nx a w):σ k=some (a.eval x):=by
 have:=hst.ev hx
 simp only [SV.hv,SV.h1,SV.hc,List.cons.injEq,and_true] at this;obtain ⟨v,h1,_,h2⟩:=this;rw [h2];exact h1
theorem frow_ev {k z:Nat} {α:Type} {enc:α→List SV} {xs:List α} (hx:evx P env x=some (.own k)) (hk:lk objs k=some (.frow z enc xs)) {σ a w} (hst:St P S σ env objs nx a w):∃ v,a.eval x=v∧(SV.fs z enc xs).hc w (S.A σ objs) sg0 [v]:=by
 obtain ⟨v,h1,h2⟩:=lk_holds hst hk;rw [own_ev hx hst] at h1;cases h1;exact ⟨_,rfl,h2⟩
theorem row_index {k z q et e:Nat} {T:Nat} {ix:Operand} {m:Int} {i j:TI} {els:List (List SV)} (ho:o.op=.indexAddr T x ix) (hi:∀ {σ a w},St P S σ env objs nx a w→∃ k,a.eval ix=.int k m) (hx:evx P env x=some (.own k))
   (hr:∀ {σ a w},St P S σ env objs nx a w→rowH w (S.A σ objs) σ k e z els) (ht:ty P T=some i) (hk:i.k=.sl et) (hj:ty P et=some j) (hz:Nat.beq z j.size=true) (hq:m=(q:Int)) (hq2:q<els.length) (h:K (.rptr k q z 0)):PureK P S env objs nx o K:=by
 refine PureK.mk h fun σ a w hst=>?_
 obtain ⟨k',hi⟩:=hi hst;obtain ⟨g,cap,cur,f1,f2,f3,f4,f5,f6,f7⟩:=(hr hst).form hq2;have hz':=Nat.eq_of_beq_eq_true hz;subst hq;refine ⟨.pointer (some ⟨g,q*z+0,none⟩),⟨g,_,cap,f1,rfl⟩,fun w'=>?_⟩
 have h0':a.eval x=.slice (some ⟨g,0,none⟩) els.length cap:=by
   have:=own_ev hx hst
   rw [f1] at this;exact (Option.some.inj this).symm
 simp [execOp,ho,h0',hi,Instr.indexAt,asIntOf,run_underlying (ty_slice ht hk),run_sizeOf' hj,addr_add,← hz',hq2]
theorem evIndexAddr_sound {T:Nat} {s ix:SV} {ixo:Operand} (ho:o.op=.indexAddr T x ixo) (hx:evx P env x=some s) (hix:evx P env ixo=some ix) (h:evIndexAddr P objs T s ix K):PureK P S env objs nx o K:=by
 unfold evIndexAddr at h
 split at h
 · rename_i m hm
   have hi:∀ {σ a w},St P S σ env objs nx a w→∃ k,a.eval ixo=.int k m:=fun hst=>ixI_spec hm hix hst
   split at h
   · rename_i n e s1 b1 hT
     split at h
     · rename_i j hj
       have arr:∀ {q:Nat} {k off:Nat},m=(q:Int)→q<n→evx P env x=some (.ptr k off)→K (.ptr k (off+q*j.size))→PureK P S env objs nx o K:=by
         intro q k off hmq hq hx hK;refine PureK.mk hK fun σ a w hst=>?_
         obtain ⟨b,c,h1,h2⟩:=ptr_ev hx hst;obtain ⟨k',hi⟩:=hi hst;subst hmq;exact ⟨_,⟨b,c,h1,rfl⟩,by have:=rn_indexAddr (P:=P) ho h2 hi hT rfl hj (by omega) (by omega);simpa [Nat.add_assoc] using this⟩
       have arrC:∀ {k off:Nat},0≤m∧m<n→evx P env x=some (.ptr k off)→(∃ kk,j.k=.int kk)→j.size=1→K (.cptr k off m.toNat)→PureK P S env objs nx o K:=by
         intro k off hm2 hx _ hz hK;refine PureK.mk hK fun σ a w hst=>?_
         obtain ⟨b,c,h1,h2⟩:=ptr_ev hx hst;obtain ⟨k',hi⟩:=hi hst;exact ⟨_,⟨b,c,h1,rfl⟩,by have:=rn_indexAddr (P:=P) ho h2 hi hT rfl hj hm2.1 hm2.2;simpa [hz] using this⟩
       have chunk:∀ {u r:SV} {f:Nat→Value} {n':Nat},0≤m∧m.toNat<n'→n'≤n→j.size=1→evx P env x=some (.fpt [u])→u.sz=n'→r.sz=1→(∀ {w A σ cs},u.hc w A σ cs→∀ i,i<n'→cs[i]?=some (f i))→(∀ {w A σ},r.hc w A σ [f m.toNat])→K (.fpt [r])→PureK P S env objs nx o K:=by
         intro u r f n' hm2 hnn hz1 hx hsz hrsz hf hr hK;refine PureK.mk hK fun σ a w hst=>?_
         obtain ⟨b,off,h2,hA,C,t,fr,hg,hc⟩:=fpt_ev hx hst;obtain ⟨k',hi⟩:=hi hst;refine ⟨.pointer (some ⟨b,off+m.toNat,none⟩),?_,?_⟩
         · simp only [SV.hv,SV.h1,SV.hc]
           refine ⟨b,_,rfl,hA,C,t,fr,hg,?_⟩;rw [hL.single] at hc;have hcl:=hc.len;have hcm:=hf hc m.toNat hm2.2
           have:(C.toList.drop (off+m.toNat)).take (szL [r])=[f m.toNat]:=by
             simp only [szL,hrsz,Nat.add_zero]
             apply List.ext_getElem?
             intro i;rw [List.getElem?_take]
             split
             · have:i=0:=by omega
               subst this;rw [List.getElem?_drop];rw [List.getElem?_take] at hcm
               split at hcm
               · rw [List.getElem?_drop] at hcm;simpa using hcm
               · cases hcm
             · rw [List.getElem?_eq_none (by simp;omega)]
           rw [this,hL.single];exact hr
         · have:=rn_indexAddr (P:=P) ho h2 hi hT rfl hj hm2.1 (by omega);simpa [hz1] using this
       have fp:∀ {ps r pa z:List SV} {q:Nat},m=(q:Int)→evx P env x=some (.fpt ps)→partP ps (q*j.size) j.size=some (pa,r,z)→q<n→K (.fpt r)→PureK P S env objs nx o K:=by
         intro ps r pa z q hmq hx hp hq hK;refine PureK.mk hK fun σ a w hst=>?_
         have hh:=hst.ev hx;simp only [SV.hv,SV.h1] at hh;obtain ⟨b,off,h2,_⟩:=fpt_ev hx hst;rw [h2] at hh;obtain ⟨k',hi⟩:=hi hst;subst hmq;exact ⟨_,fpt_part hp hh,by have:=rn_indexAddr (P:=P) ho h2 hi hT rfl hj (by omega) (by omega);simpa using this⟩
       unfold idxArr at h
       split at h
       · split at h
         · rename_i hz hch
           exact arrC h.h hx (by cases hk:j.k<;>simp [isCh,hk] at hch;exact ⟨_,rfl⟩) (Nat.eq_of_beq_eq_true hz) h.k
         · split at h
           · rename_i q hq
             split at h
             · rename_i hlt
               exact arr (litN_spec hq) (by simpa [Nat.blt_eq] using hlt) hx h
             · exact h.elim
           · exact h.elim
       · rename_i n' v
         split at h
         · rename_i hz hle
           obtain ⟨hq,h⟩:=h;exact chunk (f:=fun i=>if h:i<n' then bV .u8 v[i] else undef) hq (Nat.le_of_ble_eq_true hle) (Nat.eq_of_beq_eq_true hz) hx rfl rfl (fun hc i hi=>by have hi:i<n':=hi;simp only [SV.hc] at hc;subst hc;simp [hi]) (by simp [SV.hc,hq.2]) h
         · exact h.elim
       · rename_i n' v
         split at h
         · rename_i hz hle
           obtain ⟨hq,h⟩:=h;exact chunk (f:=fun i=>if h:i<n' then bV .u32 v[i] else undef) hq (Nat.le_of_ble_eq_true hle) (Nat.eq_of_beq_eq_true hz) hx rfl rfl (fun hc i hi=>by have hi:i<n':=hi;simp only [SV.hc] at hc;subst hc;simp [hi]) (by simp [SV.hc,hq.2]) h
         · exact h.elim
       · rename_i z α enc xs
         split at h
         · rename_i hz
           obtain ⟨hq,h⟩:=h;have h:=frcL_k (K:=fun ps=>Side (szL ps=z) (K (.fpt ps))) h
           refine PureK.mk h.k fun σ a w hst=>?_
           obtain ⟨b,off,h2,hA,C,t,fr,hg,hc⟩:=fpt_ev hx hst;obtain ⟨k',hi⟩:=hi hst;have hz':=Nat.eq_of_beq_eq_true hz;refine ⟨.pointer (some ⟨b,off+m.toNat*z,none⟩),?_,?_⟩
           · simp only [SV.hv,SV.h1,SV.hc]
             refine ⟨b,_,rfl,hA,C,t,fr,hg,?_⟩;rw [hL.single] at hc;simp only [SV.hc] at hc;have hcc:=hc.2 m.toNat hq.2.1;rw [h.h];have hmul:(m.toNat+1)*z≤xs.length*z:=Nat.mul_le_mul_right _ hq.2.1;rw [Nat.add_mul,Nat.one_mul] at hmul
             rwa [take_drop_part (by simp only [szL,SV.sz,Nat.add_zero];omega)] at hcc
           · have:=rn_indexAddr (P:=P) ho h2 hi hT rfl hj hq.1 hq.2.2;simpa [hz'] using this
         · exact h.elim
       · split at h
         · rename_i q hq
           split at h
           · rename_i hlt hp
             exact fp (litN_spec hq) hx hp (by simpa [Nat.blt_eq] using hlt) h
           · exact h.elim
         · exact h.elim
       · exact h.elim
     · exact h.elim
   · rename_i e s1 b1 hT
     split at h
     · rename_i j hj
       unfold idxSl at h
       split at h
       · split at h
         · rename_i k e z α enc xs hk
           split at h
           · rename_i hz
             exact row_index ho hi hx (fun hst=>lk_holds hst hk) hT rfl hj hz (Int.toNat_of_nonneg h.h.1).symm (by have:=h.h;simp;omega) h.k
           · exact h.elim
         · rename_i k z α enc xs hk
           split at h
           · rename_i hz
             obtain ⟨hq,h⟩:=h;exact fs_index ho hi (fun hst=>frow_ev hx hk hst) hT rfl hj hz hq (frcL_k (K:=fun ps=>K (.fpt ps)) h)
           · exact h.elim
         · rename_i k e z els hk
           split at h
           · rename_i q hz hq
             split at h
             · rename_i hlt
               exact row_index ho hi hx (fun hst=>lk_holds hst hk) hT rfl hj hz (litN_spec hq) (by simpa [Nat.blt_eq] using hlt) h
             · exact h.elim
           · exact h.elim
         · exact h.elim
       · split at h
         · rename_i hz
           obtain ⟨hq,h⟩:=h;exact fs_index ho hi (fun hst=>fs_ev hx hst) hT rfl hj hz hq (frcL_k (K:=fun ps=>K (.fpt ps)) h)
         · exact h.elim
       · rename_i k off lo hi'
         split at h
         · rename_i hz
           refine PureK.mk h.k fun σ a w hst=>?_
           have hh:=hst.ev hx;simp only [SV.hv,SV.h1,SV.hc,List.cons.injEq,and_true] at hh;obtain ⟨b,c,p,cap,h1,h2,h3,h4,h5,h6⟩:=hh;obtain ⟨k',hi⟩:=hi hst;have hb:=h.h;have hp:=h6 (by omega)
           have hm1:m<((hi' - lo:Nat):Int):=by omega
           refine ⟨.pointer (some ⟨b,c+off+(lo+m.toNat),none⟩),⟨b,c,h1,rfl⟩,fun w'=>?_⟩
           have hz':=Nat.eq_of_beq_eq_true hz
           simp [execOp,ho,h2,hi,Instr.indexAt,asIntOf,run_underlying (ty_slice hT rfl),run_sizeOf' hj,addr_add,hz',hb.1,hm1,hp,Nat.add_assoc]
         · exact h.elim
       · exact h.elim
     · exact h.elim
   · exact h.elim
 · exact h.elim
end
section
variable {P:Program} [TabC P] {S:Sig} {σ:Sg} {env:Env} {objs:List Ob} {nx:Nat} {o:Oper} {a:Act} {w:World} {x y:Operand} {K:SV→Prop}
def evPick (c s u:SV) (K:SV→Prop):Prop:=match c with
 | .bool true=>frc s K
 | .bool false=>frc u K
 | .dec p i=>match u with
   | .bool false=>match asP s with
     | some ⟨q,j⟩=>K (.dec (p∧q) (@instDecidableAnd p q i j))
     | none=>False
   | u=>match s with
     | .bool true=>match asP u with
       | some ⟨q,j⟩=>K (.dec (p∨q) (@instDecidableOr p q i j))
       | none=>False
     | s=>Fork p (frc s K) (frc u K)
 | _=>False
theorem asP_spec {s:SV} {d:DP} (h:asP s=some d) (w:World) (A:Own) (σ:Sg) (v:Value):s.hv w A σ v↔v=.bool (@decide d.p d.i):=by
 cases s<;>simp only [asP,reduceCtorEq,Option.some.injEq] at h<;>subst h
 · rw [hvB];simp
 · exact hvD
theorem rn_pick {c x y:Operand} {ev:Operand→Value} {b:Bool} {u v:Value} (ho:o.op=.pick c x y) (hc:ev c=.bool b) (hx:ev x=u) (hy:ev y=v):∀ w',(execOp ev o).run P w'=.ok (.value (if b then u else v)) w':=fun w'=>by
 cases b<;>simp [execOp,ho,hc,hx,hy,asBool]
theorem evPick_sound {c:Operand} {sc s u:SV} (ho:o.op=.pick c x y) (hc:evx P env c=some sc) (hx:evx P env x=some s) (hy:evx P env y=some u) (h:evPick sc s u K):PureK P S env objs nx o K:=by
 have lit:∀ {b:Bool},(∀ {σ a w},St P S σ env objs nx a w→a.eval c=.bool b)→K (if b then s else u)→PureK P S env objs nx o K:=fun {b} hb hk =>
   PureK.mk hk fun σ a w hst=>⟨if b then a.eval x else a.eval y,(by cases b with|true=>exact hst.ev hx|false=>exact hst.ev hy),rn_pick ho (hb hst) rfl rfl⟩
 unfold evPick at h
 split at h
 · exact lit (b:=true) (fun hst=>hvB.1 (hst.ev hc)) (frc_k h)
 · exact lit (b:=false) (fun hst=>hvB.1 (hst.ev hc)) (frc_k h)
 · rename_i p i
   have hcv:∀ {σ a w},St P S σ env objs nx a w→a.eval c=.bool (@decide p i):=fun hst=>hvD.1 (hst.ev hc)
   have fork:Fork p (frc s K) (frc u K)→PureK P S env objs nx o K:=fun h=>PureK.fork (K1:=K) (K2:=K) (p:=p)
     (fun hp=>lit (b:=true) (fun hst=>by rw [hcv hst];simp [hp]) (frc_k (h.t hp))) (fun hp=>lit (b:=false) (fun hst=>by rw [hcv hst];simp [hp]) (frc_k (h.f hp)))
   split at h
   · split at h
     · rename_i q j hd
       refine PureK.mk h fun σ a w hst=>⟨_,hvD.2 rfl,?_⟩
       have:=rn_pick (P:=P) ho (hcv hst) ((asP_spec hd _ _ _ _).1 (hst.ev hx)) (hvB.1 (hst.ev hy))
       rw [show (if @decide p i=true then Value.bool (@decide q j) else .bool false)=.bool (@decide (p∧q) (@instDecidableAnd p q i j)) by
         by_cases hp:p<;>simp [hp]] at this
       exact this
     · exact h.elim
   · split at h
     · split at h
       · rename_i q j hd
         refine PureK.mk h fun σ a w hst=>⟨_,hvD.2 rfl,?_⟩
         have:=rn_pick (P:=P) ho (hcv hst) (hvB.1 (hst.ev hx)) ((asP_spec hd _ _ _ _).1 (hst.ev hy))
         rw [show (if @decide p i=true then Value.bool true else .bool (@decide q j))=.bool (@decide (p∨q) (@instDecidableOr p q i j)) by
           by_cases hp:p<;>simp [hp]] at this
         exact this
       · exact h.elim
     · exact fork h
 · exact h.elim
theorem evMove_sound {s:SV} (ho:o.op=.move x∨o.op=.assign x) (hx:evx P env x=some s) (h:frc s K):PureK P S env objs nx o K :=
 PureK.mk (frc_k h) fun σ a w hst=>⟨a.eval x,hst.ev hx,fun w'=>by rcases ho with ho|ho<;>simp [execOp,ho]⟩
def evUn (op:UnOp) (s:SV) (K:SV→Prop):Prop:=match op with
 | .not=>match s with
   | .bool b=>K (.bool (!b))
   | .dec p i=>K (.dec (¬ p) (@instDecidableNot p i))
   | _=>False
 | .neg=>match s with
   | .int .i64 n=>Side (inR n→inR (-n)) (K (.int .i64 (-n)))
   | .u64 v=>K (.u64 (-v))
   | _=>False
 | .xor=>match s with
   | .u8 v=>K (.u8 (~~~ v))
   | .u16 v=>K (.u16 (~~~ v))
   | .u32 v=>K (.u32 (~~~ v))
   | .u64 v=>K (.u64 (~~~ v))
   | _=>False
 | _=>False
theorem evUn_sound {op:UnOp} {T:TypeId} {s:SV} (ho:o.op=.unOp op T x) (hx:evx P env x=some s) (h:evUn op s K):PureK P S env objs nx o K:=by
 unfold evUn at h
 split at h
 · split at h
   · exact PureK.mk h fun σ a w hst=>⟨_,hvB.2 rfl,rn_not ho (hvB.1 (hst.ev hx))⟩
   · exact PureK.mk h fun σ a w hst=>⟨_,hvD.2 (by rw [← notD_dec ⟨_,_⟩];rfl),rn_not ho (hvD.1 (hst.ev hx))⟩
   · exact h.elim
 · split at h
   · refine PureK.mk h.k fun σ a w hst=>?_
     have h1:=hvI.1 (hst.ev hx);have hr:=h.h (h1.2 rfl);refine ⟨_,hvI.2 ⟨rfl,fun _=>hr⟩,?_⟩
     have:=rn_neg (P:=P) ho h1.1
     rwa [Int.zero_sub,wrap_i64 hr.1 hr.2] at this
   · exact PureK.mk h fun σ a w hst=>⟨_,hv64.2 rfl,rn_uneg ho rfl rfl rfl (hv64.1 (hst.ev hx))⟩
   · exact h.elim
 · split at h
   · exact PureK.mk h fun σ a w hst=>⟨_,hv8.2 rfl,rn_unot ho rfl rfl rfl (hv8.1 (hst.ev hx))⟩
   · exact PureK.mk h fun σ a w hst=>⟨_,hv16.2 rfl,rn_unot ho rfl rfl rfl (hv16.1 (hst.ev hx))⟩
   · exact PureK.mk h fun σ a w hst=>⟨_,hv32.2 rfl,rn_unot ho rfl rfl rfl (hv32.1 (hst.ev hx))⟩
   · exact PureK.mk h fun σ a w hst=>⟨_,hv64.2 rfl,rn_unot ho rfl rfl rfl (hv64.1 (hst.ev hx))⟩
   · exact h.elim
 · exact h.elim
def cvI (kd:IntKind) (n:Int) (K:SV→Prop):Prop:=match kd with
 | .i64=>K (.int .i64 n)
 | .u8=>K (.u8 (BitVec.ofInt 8 n))
 | .u16=>K (.u16 (BitVec.ofInt 16 n))
 | .u32=>K (.u32 (BitVec.ofInt 32 n))
 | .u64=>K (.u64 (BitVec.ofInt 64 n))
 | _=>False
def cvU (kd:IntKind) {w:Nat} (v:BitVec w) (K:SV→Prop):Prop:=match kd with
 | .i64=>match Nat.ble w 32 with
   | true=>K (.int .i64 v.toNat)
   | false=>Side (v.toNat<9223372036854775808) (K (.int .i64 v.toNat))
 | .u8=>K (.u8 (v.setWidth 8))
 | .u16=>K (.u16 (v.setWidth 16))
 | .u32=>K (.u32 (v.setWidth 32))
 | .u64=>K (.u64 (v.setWidth 64))
 | _=>False
variable (P) in
def evConv (src dst:Nat) (s:SV) (K:SV→Prop):Prop:=match ty P src,ty P dst with
 | some ⟨.int ks,_,_⟩,some ⟨.int kd,_,_⟩=>match s with
   | .int .i64 n=>cvI kd n K
   | .u8 v=>cvU kd v K
   | .u16 v=>cvU kd v K
   | .u32 v=>cvU kd v K
   | .u64 v=>cvU kd v K
   | _=>False
 | some ⟨.str,_,_⟩,some ⟨.str,_,_⟩=>match s with
   | .str l=>K (.str l)
   | _=>False
 | _,_=>False
theorem cvU_sound {src dst:TypeId} {ks kd:IntKind} {wd:Nat} {v:BitVec wd} {C:SV} {i j:TI} (ho:o.op=.convert src dst x) (hx:evx P env x=some C) (hC:∀ {w A σ} u,C.hv w A σ u↔u=bV ks v) (hs:ty P src=some j) (hd:ty P dst=some i) (hk:i.k=.int kd) (hj:∃ k',j.k=.int k') (h:cvU kd v K):PureK P S env objs nx o K:=by
 obtain ⟨k',hj⟩:=hj;have conv:∀ {σ a w},St P S σ env objs nx a w→∀ w',(execOp a.eval o).run P w'=.ok (.value (.int kd (kd.wrap (v.toNat:Int)))) w':=fun hst w'=>by
   have e:=(hC _).1 (hst.ev hx)
   simp [execOp,ho,e,convert,run_underlying (ty_int hs hj),run_underlying (ty_int hd hk),Conv.intToInt]
 have uns:∀ {q:Nat} {u:BitVec q},kd.signed=false→kd.bits=q→u=v.setWidth q→kd.wrap (v.toNat:Int)=(u.toNat:Int):=fun {q u} h1 h2 h3=>by
   subst h3 h2;rw [wrap_uns h1 rfl,BitVec.ofInt_natCast];simp
 have sgn:v.toNat<9223372036854775808→kd=.i64→K (.int .i64 v.toNat)→PureK P S env objs nx o K:=fun hlt e hK=>by
   subst e;have hr:inR (v.toNat:Int):=⟨by omega,by omega⟩
   refine PureK.mk hK fun σ a w hst=>⟨_,hvI.2 ⟨rfl,fun _=>hr⟩,?_⟩
   have:=conv hst
   rwa [wrap_i64 hr.1 hr.2] at this
 unfold cvU at h
 split at h
 · split at h
   · rename_i hle
     have h1:=v.isLt;have h2:2^wd≤2^32:=Nat.pow_le_pow_right (by omega) (Nat.le_of_ble_eq_true hle)
     exact sgn (by omega) rfl h
   · exact sgn h.h rfl h.k
 · refine PureK.mk h fun σ a w hst=>⟨_,hv8.2 rfl,?_⟩
   have:=conv hst;rwa [uns (u:=v.setWidth 8) rfl rfl rfl] at this
 · refine PureK.mk h fun σ a w hst=>⟨_,hv16.2 rfl,?_⟩
   have:=conv hst;rwa [uns (u:=v.setWidth 16) rfl rfl rfl] at this
 · refine PureK.mk h fun σ a w hst=>⟨_,hv32.2 rfl,?_⟩
   have:=conv hst;rwa [uns (u:=v.setWidth 32) rfl rfl rfl] at this
 · refine PureK.mk h fun σ a w hst=>⟨_,hv64.2 rfl,?_⟩
   have:=conv hst;rwa [uns (u:=v.setWidth 64) rfl rfl rfl] at this
 · exact h.elim
theorem evConv_sound {src dst:TypeId} {s:SV} (ho:o.op=.convert src dst x) (hx:evx P env x=some s) (h:evConv P src dst s K):PureK P S env objs nx o K:=by
 unfold evConv at h
 split at h
 · rename_i ks _ _ kd _ _ hs hd
   split at h
   · rename_i n
     have conv:∀ {σ a w},St P S σ env objs nx a w→∀ w',(execOp a.eval o).run P w'=.ok (.value (.int kd (kd.wrap n))) w':=fun hst w'=>by
       have e:=(hvI.1 (hst.ev hx)).1
       simp [execOp,ho,e,convert,run_underlying (ty_int hs rfl),run_underlying (ty_int hd rfl),Conv.intToInt]
     unfold cvI at h
     split at h
     · refine PureK.mk h fun σ a w hst=>?_
       have hr:=(hvI.1 (hst.ev hx)).2 rfl;refine ⟨_,hvI.2 ⟨rfl,fun _=>hr⟩,?_⟩
       have:=conv hst;rwa [wrap_i64 hr.1 hr.2] at this
     · refine PureK.mk h fun σ a w hst=>⟨_,hv8.2 rfl,?_⟩
       have:=conv hst;rwa [wrap_uns (w:=8) rfl rfl] at this
     · refine PureK.mk h fun σ a w hst=>⟨_,hv16.2 rfl,?_⟩
       have:=conv hst;rwa [wrap_uns (w:=16) rfl rfl] at this
     · refine PureK.mk h fun σ a w hst=>⟨_,hv32.2 rfl,?_⟩
       have:=conv hst;rwa [wrap_uns (w:=32) rfl rfl] at this
     · refine PureK.mk h fun σ a w hst=>⟨_,hv64.2 rfl,?_⟩
       have:=conv hst;rwa [wrap_uns (w:=64) rfl rfl] at this
     · exact h.elim
   · exact cvU_sound (ks:=.u8) ho hx (fun u=>hv8) hs hd rfl ⟨_,rfl⟩ h
   · exact cvU_sound (ks:=.u16) ho hx (fun u=>hv16) hs hd rfl ⟨_,rfl⟩ h
   · exact cvU_sound (ks:=.u32) ho hx (fun u=>hv32) hs hd rfl ⟨_,rfl⟩ h
   · exact cvU_sound (ks:=.u64) ho hx (fun u=>hv64) hs hd rfl ⟨_,rfl⟩ h
   · exact h.elim
 · rename_i hs hd
   split at h
   · refine PureK.mk h fun σ a w hst=>⟨_,hvS.2 rfl,fun w'=>?_⟩
     have e:=hvS.1 (hst.ev hx)
     simp [execOp,ho,e,convert,run_underlying (ty_str hs rfl),run_underlying (ty_str hd rfl)]
   · exact h.elim
 · exact h.elim
theorem hvs_get {A:Own}:∀ {l:List SV} {vs:List Value} {i:Nat} {s:SV},hvs w A σ l vs→evLoad.nth' l i=some s→∃ v,vs[i]?=some v∧s.h1 w A σ v
 | [],_,i,s,_,h=>by simp [evLoad.nth'] at h
 | u::r,_,0,s,⟨v,m,h1,h2,h3⟩,h=>by simp [evLoad.nth'] at h;subst h;subst h1;exact ⟨v,rfl,h2⟩
 | u::r,_,i+1,s,⟨v,m,h1,h2,h3⟩,h=>by
   simp only [evLoad.nth'] at h;obtain ⟨v',h4,h5⟩:=hvs_get h3 h;subst h1;exact ⟨v',by simpa using h4,h5⟩
def evExtract (s:SV) (i:Nat) (K:SV→Prop):Prop:=match s with
 | .tup vs=>match evLoad.nth' vs i with
   | some (.tup _)=>False
   | some u=>frcA u K
   | none=>False
 | _=>False
theorem evExtract_sound {s:SV} {i:Nat} (ho:o.op=.extract x i) (hx:evx P env x=some s) (h:evExtract s i K):PureK P S env objs nx o K:=by
 unfold evExtract at h
 split at h
 · split at h
   · exact h.elim
   · rename_i vs u hne hn
     refine PureK.mk (frcA_k h) fun σ a w hst=>?_
     obtain ⟨l,h1,h2⟩:=hst.ev hx;obtain ⟨v,h3,h4⟩:=hvs_get h2 hn;refine ⟨v,?_,fun w'=>by simp [execOp,ho,h1,Instr.extract,h3]⟩
     cases u<;>first|exact h4|skip
     exact (hne _ rfl).elim
   · exact h.elim
 · exact h.elim
theorem evNilCheck_sound {s:SV} (ho:o.op=.nilCheck x) (hx:evx P env x=some s) (hn:notNil s=true) (h:K s):PureK P S env objs nx o K:=by
 refine PureK.mk h fun σ a w hst=>?_
 obtain ⟨p,hp⟩:=notNil_spec hn (hst.ev hx);refine ⟨.pointer (some p),by rw [← hp];exact hst.ev hx,rn_nilCheck ho hp⟩
variable (P) in
def evLen (objs:List Ob) (T:Nat) (s:SV) (K:SV→Prop):Prop:=match ty P T with
 | some ⟨.sl _,_,_⟩=>match s with
   | .own k=>match lk objs k with
     | some (.row _ _ _ xs)=>K (.int .i64 xs.length)
     | some (.frow _ _ xs)=>K (.int .i64 xs.length)
     | some (.lits _ _ els)=>K (.int .i64 els.length)
     | _=>False
   | .fs _ _ xs=>K (.int .i64 xs.length)
   | .nils=>K (.int .i64 0)
   | .bsl _ _ lo hi=>K (.int .i64 (hi - lo:Nat))
   | _=>False
 | some ⟨.str,_,_⟩=>match s with
   | .str l=>Side (l.length<9223372036854775808) (K (.int .i64 l.length))
   | _=>False
 | some ⟨.ar n _,_,_⟩=>match Nat.blt n 9223372036854775808 with
   | true=>K (.int .i64 n)
   | false=>False
 | _=>False
theorem len_sl {T et:TypeId} {i:TI} {n:Nat} (ho:o.op=.call { callee:=.builtin .len,args:=#[x],argTypes:=#[T] }) (ht:ty P T=some i) (hk:i.k=.sl et) (hn:∀ {σ a w},St P S σ env objs nx a w→(∃ ad c,a.eval x=.slice ad n c)∧n≤9223372036854775807) (h:K (.int .i64 n)):PureK P S env objs nx o K:=by
 refine PureK.mk h fun σ a w hst=>?_
 obtain ⟨⟨ad,c,h1⟩,h2⟩:=hn hst;exact ⟨.int .i64 n,hvI.2 ⟨rfl,fun _=>⟨by omega,by omega⟩⟩,fun w'=>by simp [execOp,ho,resolve,invoke,builtin,h1,Builtin.len_,run_underlying (ty_slice ht hk),goInt]⟩
theorem rowH.len' {A:Own} {k e z:Nat} {els:List (List SV)} (h:rowH w A σ k e z els):els.length≤9223372036854775807:=by
 obtain ⟨v,cs,_,_,h2,_⟩:=h;exact Nat.le_trans h2 (by decide)
theorem evLen_sound {T:TypeId} {s:SV} (ho:o.op=.call { callee:=.builtin .len,args:=#[x],argTypes:=#[T] }) (hx:evx P env x=some s) (h:evLen P objs T s K):PureK P S env objs nx o K:=by
 unfold evLen at h
 split at h
 · rename_i ht
   split at h
   · split at h
     · rename_i hk
       refine len_sl ho ht rfl (fun hst=>?_) h
       have hh:=lk_holds hst hk;obtain ⟨ad,c,h1⟩:=rowH.len hh;rw [own_ev hx hst] at h1;rw [List.length_map] at h1;exact ⟨⟨ad,c,Option.some.inj h1⟩,by have:=rowH.len' hh;simpa using this⟩
     · rename_i hk
       refine len_sl ho ht rfl (fun hst=>?_) h
       obtain ⟨v,h1,h2⟩:=frow_ev hx hk hst;simp only [SV.hc,List.cons.injEq,and_true] at h2;obtain ⟨ad,c,rfl,h3,h4,_⟩:=h2
       exact ⟨⟨ad, c, h1⟩, by have : maxLen ≤ 9223372036854775807 := by decide
                              omega⟩
     · rename_i hk
       refine len_sl ho ht rfl (fun hst=>?_) h
       have hh:=lk_holds hst hk;obtain ⟨ad,c,h1⟩:=rowH.len hh;rw [own_ev hx hst] at h1;exact ⟨⟨ad,c,Option.some.inj h1⟩,rowH.len' hh⟩
     · exact h.elim
   · refine len_sl ho ht rfl (fun hst=>?_) h
     obtain ⟨v,h1,h2⟩:=fs_ev hx hst;simp only [SV.hc,List.cons.injEq,and_true] at h2;obtain ⟨ad,c,rfl,h3,h4,_⟩:=h2
     exact ⟨⟨ad, c, h1⟩, by have : maxLen ≤ 9223372036854775807 := by decide
                            omega⟩
   · refine len_sl (n:=0) ho ht rfl (fun hst=>?_) h
     have:=hst.ev hx
     simp only [SV.hv,SV.h1,SV.hc,List.cons.injEq,and_true] at this;exact ⟨⟨none,0,this⟩,by omega⟩
   · refine len_sl ho ht rfl (fun hst=>?_) h
     have:=hst.ev hx
     simp only [SV.hv,SV.h1,SV.hc,List.cons.injEq,and_true] at this;obtain ⟨b,c,p,k,_,h1,h2,h3,h4,_⟩:=this
     exact ⟨⟨_, _, h1⟩, by have : maxLen ≤ 9223372036854775807 := by decide
                           omega⟩
   · exact h.elim
 · rename_i ht
   split at h
   · rename_i l
     refine PureK.mk h.k fun σ a w hst=>?_
     have h1:=hvS.1 (hst.ev hx);refine ⟨.int .i64 l.length,hvI.2 ⟨rfl,fun _=>⟨by omega,by have:=h.h;omega⟩⟩,fun w'=>?_⟩
     simp [execOp,ho,resolve,invoke,builtin,h1,Builtin.len_,run_underlying (ty_str ht rfl),goInt,baOf_size]
   · exact h.elim
 · rename_i n e _ _ ht
   split at h
   · rename_i hlt
     have hlt':n<9223372036854775808:=by simpa [Nat.blt_eq] using hlt
     refine PureK.mk h fun σ a w hst=>⟨.int .i64 n,hvI.2 ⟨rfl,fun _=>⟨by omega,by omega⟩⟩,fun w'=>?_⟩
     simp [execOp,ho,resolve,invoke,builtin,Builtin.len_,run_underlying (ty_array ht rfl),goInt]
   · exact h.elim
 · exact h.elim
end
section
variable {P:Program} [TabC P] {S:Sig} {σ:Sg} {env:Env} {objs:List Ob} {nx:Nat} {o:Oper} {a:Act} {w:World} {x y:Operand} {K:SV→Prop}
def cutL {α:Type} (xs:List α):Option Int→Option Int→List α
 | none,none=>xs
 | some a,none=>xs.drop a.toNat
 | none,some b=>xs.take b.toNat
 | some a,some b=>(xs.take b.toNat).drop a.toNat
def loI:Option Int→Int
 | none=>0
 | some a=>a
def hiI (n:Nat):Option Int→Int
 | none=>n
 | some b=>b
theorem cutL_eq {α:Type} (xs:List α) (l h:Option Int):cutL xs l h=(xs.take (hiI xs.length h).toNat).drop (loI l).toNat:=by
 cases l<;>cases h<;>simp [cutL,loI,hiI]
def cutS (n:Nat) (l h m:Option Int):Prop:=match m with
 | none=>match l,h with
   | none,none=>True
   | some a,none=>0≤a∧a≤n
   | none,some b=>0≤b∧b≤n
   | some a,some b=>0≤a∧a≤b∧b≤n
 | some c=>0≤loI l∧loI l≤hiI n h∧hiI n h≤c∧c≤n
theorem cutS_spec {n:Nat} {l h m:Option Int} (hc:cutS n l h m):0≤loI l∧loI l≤hiI n h∧hiI n h≤n∧∀ c,m=some c→hiI n h≤c∧c≤n:=by
 cases m with
 | none=>cases l<;>cases h<;>simp only [cutS,loI,hiI] at hc ⊢<;>refine ⟨by omega,by omega,by omega,fun c h=>by cases h⟩
 | some c =>
   simp only [cutS] at hc;refine ⟨hc.1,hc.2.1,by omega,fun c' h=>?_⟩
   cases h;exact ⟨hc.2.2.1,hc.2.2.2⟩
variable (P) in
def bndE (env:Env):Option Operand→Option (Option Int)
 | none=>some none
 | some x=>match evx P env x with
   | some s=>match ixI s with
     | some n=>some (some n)
     | none=>none
   | none=>none
def BndV (v:Option Value) (n:Option Int):Prop:=(v=none∧n=none)∨∃ k i,v=some (.int k i)∧n=some i
theorem bndE_spec {x:Option Operand} {n:Option Int} (h:bndE P env x=some n) {σ a w} (hst:St P S σ env objs nx a w):BndV (x.map a.eval) n:=by
 unfold bndE at h
 split at h
 · cases h;exact .inl ⟨rfl,rfl⟩
 · split at h
   · rename_i s hs
     split at h
     · rename_i m hm
       cases h
       obtain ⟨k,hk⟩:=ixI_spec hm hs hst;exact .inr ⟨k,m,by simp [hk],rfl⟩
     · cases h
   · cases h
theorem run_bound {k:IntKind} {i:Int} {y:Nat} (h0:0≤i) (h1:i≤y) (code:BoundsCode) (w':World):(Instr.sliceBound (.int k i) y code).run P w'=.ok i.toNat w':=by
 simp [Instr.sliceBound,asIntOf,h0,h1]
theorem run_bounds {sl:Bool} {n c:Nat} {lo hi mx:Option Value} {l h m:Option Int} (hlo:BndV lo l) (hhi:BndV hi h) (hmx:BndV mx m) (hm:mx=none∨hi≠none) (h0:0≤loI l) (h1:loI l≤hiI n h) (h2:hiI n h≤hiI c m) (h3:hiI c m≤c) (w':World) :
   (Instr.sliceBounds sl n c lo hi mx).run P w'=.ok ((loI l).toNat,(hiI n h).toNat,(hiI c m).toNat) w':=by
 rcases hmx with ⟨rfl,rfl⟩|⟨km,im,rfl,rfl⟩
 · simp only [hiI] at h2
   rcases hhi with ⟨rfl,rfl⟩|⟨kh,ih,rfl,rfl⟩
   · rcases hlo with ⟨rfl,rfl⟩|⟨kl,il,rfl,rfl⟩
     · simp [Instr.sliceBounds,loI,hiI]
     · simp only [loI,hiI] at h0 h1 ⊢
       have:=run_bound (P:=P) (k:=kl) h0 h1 .sliceB w'
       simp [Instr.sliceBounds,this]
   · simp only [hiI] at h1 h2 h3 ⊢
     have e1:∀ code,(Instr.sliceBound (.int kh ih) c code).run P w'=.ok ih.toNat w':=fun code=>run_bound (P:=P) (k:=kh) (by omega) h2 code w'
     rcases hlo with ⟨rfl,rfl⟩|⟨kl,il,rfl,rfl⟩
     · cases sl<;>simp [Instr.sliceBounds,loI,e1]
     · simp only [loI] at h0 h1 ⊢
       have e2:=run_bound (P:=P) (k:=kl) (y:=ih.toNat) h0 (by omega) .sliceB w'
       cases sl<;>simp [Instr.sliceBounds,e1,e2]
 · simp only [hiI] at h2 h3
   rcases hhi with ⟨rfl,rfl⟩|⟨kh,ih,rfl,rfl⟩
   · rcases hm with h|h
     · cases h
     · exact absurd rfl h
   · simp only [hiI] at h1 h2 h3 ⊢
     have e0:∀ code,(Instr.sliceBound (.int km im) c code).run P w'=.ok im.toNat w':=fun code=>run_bound (P:=P) (k:=km) (by omega) h3 code w'
     have e1:∀ code,(Instr.sliceBound (.int kh ih) im.toNat code).run P w'=.ok ih.toNat w':=fun code=>run_bound (P:=P) (k:=kh) (by omega) (by omega) code w'
     rcases hlo with ⟨rfl,rfl⟩|⟨kl,il,rfl,rfl⟩
     · cases sl<;>simp [Instr.sliceBounds,loI,e0,e1]
     · simp only [loI] at h0 h1 ⊢
       have e2:∀ code,(Instr.sliceBound (.int kl il) ih.toNat code).run P w'=.ok il.toNat w':=fun code=>run_bound (P:=P) (k:=kl) h0 (by omega) code w'
       cases sl<;>simp [Instr.sliceBounds,e0,e1,e2]
theorem fs_cut {A:Own} {z p q c m:Nat} {α:Type} {enc:α→List SV} {xs:List α} {ad:Option Addr} (h:(SV.fs z enc xs).hc w A sg0 [.slice ad xs.length c]) (h1:p≤q) (h2:q≤xs.length) (h3:q≤m) (h4:m≤c) :
   (SV.fs z enc ((xs.take q).drop p)).hc w A sg0 [.slice (if m=p then ad else ad.map (·.add (p*z))) (q - p) (m - p)]:=by
 simp only [SV.hc,List.cons.injEq,and_true] at h ⊢;obtain ⟨ad',c',h0,h5,h6,h7,h8,h9⟩:=h;simp only [Value.slice.injEq,true_and] at h0;obtain ⟨rfl,rfl⟩:=h0;have hlen:((xs.take q).drop p).length=q - p:=by simp;omega
 refine ⟨_,m - p,by rw [hlen],by omega,by omega,fun hn=>?_,fun i hi=>?_,fun ad' had=>?_⟩
 · have:ad=none:=by split at hn<;>simpa using hn
   obtain ⟨rfl,rfl⟩:=h7 this
   simp;omega
 · have e:((xs.take q).drop p)[i]=xs[p+i]'(by omega):=by simp
   rw [e];exact h8 _ _
 · split at had
   · refine .inl ?_
     apply List.eq_nil_of_length_eq_zero;omega
   · cases ad with
     | none=>simp at had
     | some y =>
       simp only [Option.map_some,Option.some.injEq] at had;subst had;have hcase:=h9 y rfl;obtain ⟨g,pp,sp⟩:=y;refine hcase.imp (fun h=>by rw [h];simp) ?_
       rintro ⟨hsp,hA,C,T,fr,hg,he⟩
       simp only at hsp;subst hsp
       rw [addr_add];refine ⟨rfl,hA,C,T,fr,hg,fun i hi=>?_⟩
       have e:((xs.take q).drop p)[i]=xs[p+i]'(by omega):=by simp
       rw [e]
       have:=he (p+i) (by omega)
       rwa [show pp+p*z+i*z=pp+(p+i)*z by rw [Nat.add_mul];omega]
variable (P) in
def evSlice (objs:List Ob) (T:Nat) (s:SV) (l h m:Option Int) (K:SV→Prop):Prop:=match ty P T with
 | some ⟨.sl e,_,_⟩=>match ty P e with
   | some j=>match s with
     | .fs z enc xs=>match Nat.beq z j.size with
       | true=>Side (cutS xs.length l h m) (K (.fs z enc (cutL xs l h)))
       | false=>False
     | .own k=>match lk objs k with
       | some (.frow z enc xs)=>match Nat.beq z j.size with
         | true=>Side (cutS xs.length l h m) (K (.fs z enc (cutL xs l h)))
         | false=>False
       | _=>False
     | .bsl k off p q=>match m with
       | none=>match Nat.beq j.size 1 with
         | true=>Side (0≤loI l∧loI l≤hiI (q - p) h∧hiI (q - p) h≤(q - p:Nat)) (K (.bsl k off (p+(loI l).toNat) (p+(hiI (q - p) h).toNat)))
         | false=>False
       | some _=>False
     | _=>False
   | none=>False
 | some ⟨.str,_,_⟩=>match s,m with
   | .str xs,none=>Side (cutS xs.length l h none) (K (.str (cutL xs l h)))
   | _,_=>False
 | some ⟨.ar n e,_,_⟩=>match ty P e,m with
   | some j,none=>match Nat.beq j.size 1,Nat.ble n 140737488355328 with
     | true,true=>match s with
       | .ptr k off=>Side (cutS n l h none) (K (.bsl k off (loI l).toNat (hiI n h).toNat))
       | .fpt [.arr8 (n:=n') v]=>match Nat.beq n n' with
         | true=>Side (cutS n l h none) (K (.fs 1 eB (cutL v.toList l h)))
         | false=>False
       | _=>False
     | _,_=>False
   | _,_=>False
 | _=>False
theorem slice_fs {T et z:Nat} {α:Type} {enc:α→List SV} {xs:List α} {lo hi mx:Option Operand} {l h m:Option Int} {i j:TI} (ho:o.op=.slice T x lo hi mx) (hl:bndE P env lo=some l) (hh:bndE P env hi=some h) (hm:bndE P env mx=some m) (hmm:mx=none∨hi≠none)
   (hx:∀ {σ a w},St P S σ env objs nx a w→∃ v,a.eval x=v∧(SV.fs z enc xs).hc w (S.A σ objs) sg0 [v]) (ht:ty P T=some i) (hk:i.k=.sl et) (hj:ty P et=some j) (hz:Nat.beq z j.size=true) (hs:cutS xs.length l h m) (hK:K (.fs z enc (cutL xs l h))):PureK P S env objs nx o K:=by
 refine PureK.mk hK fun σ a w hst=>?_
 obtain ⟨v,h0,hc⟩:=hx hst;have hc':=hc;simp only [SV.hc,List.cons.injEq,and_true] at hc';obtain ⟨ad,c,rfl,h1,h2,_⟩:=hc';obtain ⟨s1,s2,s3,s4⟩:=cutS_spec hs;have hz':=Nat.eq_of_beq_eq_true hz;have hmc:hiI xs.length h≤hiI c m∧hiI c m≤c:=by
   cases m with
   | none=>exact ⟨by show hiI xs.length h≤(c:Int);omega,by show (c:Int)≤c;omega⟩
   | some c'=>have:=s4 c' rfl;exact ⟨this.1,by show c'≤(c:Int);omega⟩
 refine ⟨.slice (if (hiI c m).toNat=(loI l).toNat then ad else ad.map (·.add ((loI l).toNat*z))) ((hiI xs.length h).toNat - (loI l).toNat) ((hiI c m).toNat - (loI l).toNat),?_,fun w'=>?_⟩
 · rw [cutL_eq]
   exact fs_cut hc (by omega) (by omega) (by omega) (by omega)
 · have hb:=run_bounds (P:=P) (sl:=true) (n:=xs.length) (c:=c) (bndE_spec hl hst) (bndE_spec hh hst) (bndE_spec hm hst) (by rcases hmm with h|h;exact .inl (by simp [h]);exact .inr (by simpa using h)) s1 s2 hmc.1 hmc.2 w'
   simp [execOp,ho,h0,Instr.sliceAt,Instr.slice,run_underlying (ty_slice ht hk),hb,run_sizeOf' hj,hz']
theorem evSlice_sound {T:TypeId} {s:SV} {lo hi mx:Option Operand} {l h m:Option Int} (ho:o.op=.slice T x lo hi mx) (hx:evx P env x=some s) (hl:bndE P env lo=some l) (hh:bndE P env hi=some h) (hm:bndE P env mx=some m) (hmm:mx=none∨hi≠none) (hK:evSlice P objs T s l h m K):PureK P S env objs nx o K:=by
 have mxn:m=none→mx=none:=fun e=>by
   subst e;unfold bndE at hm
   split at hm
   · rfl
   · split at hm
     · split at hm<;>cases hm
     · cases hm
 unfold evSlice at hK
 split at hK
 · rename_i e _ _ ht
   split at hK
   · rename_i j hj
     split at hK
     · split at hK
       · rename_i hz;exact slice_fs ho hl hh hm hmm (fun hst=>fs_ev hx hst) ht rfl hj hz hK.h hK.k
       · exact hK.elim
     · split at hK
       · rename_i hk
         split at hK
         · rename_i hz;exact slice_fs ho hl hh hm hmm (fun hst=>frow_ev hx hk hst) ht rfl hj hz hK.h hK.k
         · exact hK.elim
       · exact hK.elim
     · rename_i k off p q
       split at hK
       · split at hK
         · rename_i hz
           obtain ⟨s1,s2,s3⟩:=hK.h;have hmx:=mxn rfl;subst hmx;refine PureK.mk hK.k fun σ a w hst=>?_
           have:=hst.ev hx
           simp only [SV.hv,SV.h1,SV.hc,List.cons.injEq,and_true] at this;obtain ⟨b,c,pp,cap,h1,h2,h3,h4,h5,h6⟩:=this;have hz':=Nat.eq_of_beq_eq_true hz;have hb:=run_bounds (P:=P) (sl:=true) (n:=q - p) (c:=cap) (bndE_spec hl hst) (bndE_spec hh hst) (.inl ⟨rfl,rfl⟩) (.inl rfl) s1 s2 (by simp only [hiI] at s3 ⊢;omega) (by simp [hiI]) w
           refine ⟨.slice (if cap=(loI l).toNat then some ⟨b,pp,none⟩ else some ⟨b,pp+(loI l).toNat,none⟩) ((hiI (q - p) h).toNat - (loI l).toNat) (cap - (loI l).toNat),?_,fun w'=>?_⟩
           · simp only [SV.hv,SV.h1,SV.hc,List.cons.injEq,and_true]
             refine ⟨b,c,if cap=(loI l).toNat then pp else pp+(loI l).toNat,cap - (loI l).toNat,h1,?_,by omega,by omega,by omega,fun hlt=>?_⟩
             · rw [show p+(hiI (q - p) h).toNat - (p+(loI l).toNat)=(hiI (q - p) h).toNat - (loI l).toNat by omega]
               split<;>rfl
             · rw [if_neg (by omega),h6 (by omega)];omega
           · have hb:=run_bounds (P:=P) (sl:=true) (n:=q - p) (c:=cap) (bndE_spec hl hst) (bndE_spec hh hst) (.inl ⟨rfl,rfl⟩) (.inl rfl) s1 s2 (by simp only [hiI] at s3 ⊢;omega) (by simp [hiI]) w'
             rw [show hiI cap none=(cap:Int) from rfl,Int.toNat_natCast] at hb;simp only [execOp,ho,h2,Instr.sliceAt,Instr.slice,Sem.run_bind,run_underlying (ty_slice ht rfl),Result.andThen_ok,Option.map_none,hb,run_sizeOf' hj,hz',Nat.mul_one,Sem.run_pure]
             congr 3
             split<;>simp [addr_add]
         · exact hK.elim
       · exact hK.elim
     · exact hK.elim
   · exact hK.elim
 · rename_i ht
   split at hK
   · rename_i xs
     have hmx:=mxn rfl;subst hmx;obtain ⟨s1,s2,s3,_⟩:=cutS_spec hK.h;refine PureK.mk hK.k fun σ a w hst=>⟨_,hvS.2 rfl,fun w'=>?_⟩
     have h1:=hvS.1 (hst.ev hx);have hb:=run_bounds (P:=P) (sl:=false) (n:=xs.length) (c:=xs.length) (bndE_spec hl hst) (bndE_spec hh hst) (.inl ⟨rfl,rfl⟩) (.inl rfl) s1 s2 (by simp only [hiI] at s3 ⊢;omega) (by simp [hiI]) w'
     have hex:(baOf xs).extract (loI l).toNat (hiI xs.length h).toNat=baOf (cutL xs l h):=by
       rw [cutL_eq]
       apply ByteArray.ext
       apply Array.ext'
       simp [baOf,List.map_take,List.map_drop,List.extract_eq_drop_take,List.drop_take]
     simp [execOp,ho,h1,Instr.sliceAt,Instr.slice,run_underlying (ty_str ht rfl),baOf_size,hb,hex]
   · exact hK.elim
 · rename_i n e _ _ ht
   split at hK
   · rename_i j hj
     have hmx:=mxn rfl;subst hmx
     split at hK
     · rename_i hz hn
       have hz':=Nat.eq_of_beq_eq_true hz;have hn':=Nat.le_of_ble_eq_true hn
       split at hK
       · rename_i k off
         obtain ⟨s1,s2,s3,_⟩:=cutS_spec hK.h;refine PureK.mk hK.k fun σ a w hst=>?_
         obtain ⟨b,c,h1,h2⟩:=ptr_ev hx hst;refine ⟨.slice (some (if n=(loI l).toNat then ⟨b,c+off,none⟩ else ⟨b,c+off+(loI l).toNat,none⟩)) ((hiI n h).toNat - (loI l).toNat) (n - (loI l).toNat),?_,fun w'=>?_⟩
         · simp only [SV.hv,SV.h1,SV.hc,List.cons.injEq,and_true]
           refine ⟨b,c,if n=(loI l).toNat then c+off else c+off+(loI l).toNat,n - (loI l).toNat,h1,by split<;>rfl,by omega,by omega,?_,fun hlt=>by rw [if_neg (by omega)]⟩
           have:(140737488355328:Nat)≤maxLen:=by decide
           omega
         · have hb:=run_bounds (P:=P) (sl:=false) (n:=n) (c:=n) (bndE_spec hl hst) (bndE_spec hh hst) (.inl ⟨rfl,rfl⟩) (.inl rfl) s1 s2 (by simp only [hiI] at s3 ⊢;omega) (by simp [hiI]) w'
           rw [show hiI n none=(n:Int) from rfl,Int.toNat_natCast] at hb;simp only [execOp,ho,h2,Instr.sliceAt,Sem.run_bind,run_underlying (ty_array ht rfl),Result.andThen_ok,Option.map_none,Instr.sureAddr,Sem.run_pure,hb,run_sizeOf' hj,hz',Nat.mul_one,addr_add]
       · rename_i n' v
         split at hK
         · rename_i hnn
           obtain rfl:=Nat.eq_of_beq_eq_true hnn;obtain ⟨s1,s2,s3,_⟩:=cutS_spec hK.h;refine PureK.mk hK.k fun σ a w hst=>?_
           obtain ⟨b,off,h2,hA,C,t,fr,hg,hc⟩:=fpt_ev hx hst;have key:(SV.fs 1 eB v.toList).hc w (S.A σ objs) sg0 [.slice (some ⟨b,off,none⟩) v.toList.length n]:=by
             rw [hL.single] at hc;simp only [SV.hc,szL,SV.sz,Nat.add_zero] at hc;simp only [SV.hc,List.cons.injEq,and_true]
             have:(140737488355328:Nat)≤maxLen:=by decide
             refine ⟨some ⟨b,off,none⟩,n,rfl,by simp,by omega,(fun h=>by cases h),fun i hi=>rfl,fun ad had=>?_⟩
             cases had
             refine .inr ⟨rfl,hA,C,t,fr,hg,fun i hi=>?_⟩
             rw [hL.single];simp only [SV.hc,Nat.mul_one];have hi':i<n:=by simpa using hi
             have e:(C.toList.drop (off+i)).take 1=(((C.toList.drop off).take n).drop i).take 1:=by
               rw [take_drop_part (by omega)]
             rw [e,hc]
             apply List.ext_getElem?
             intro q;rcases q with _|q
             · simp [List.getElem?_take,hi']
             · simp [List.getElem?_take]
           have hb:=fun w'=>run_bounds (P:=P) (sl:=false) (n:=n) (c:=n) (bndE_spec hl hst) (bndE_spec hh hst) (.inl ⟨rfl,rfl⟩) (.inl rfl) s1 s2 (by simp only [hiI] at s3 ⊢;omega) (by simp [hiI]) w'
           have hcut:=fs_cut key (p:=(loI l).toNat) (q:=(hiI n h).toNat) (m:=n) (by omega) (by simp;omega) (by omega) (Nat.le_refl _)
           refine ⟨.slice (if n=(loI l).toNat then some ⟨b,off,none⟩ else some ⟨b,off+(loI l).toNat,none⟩) ((hiI n h).toNat - (loI l).toNat) (n - (loI l).toNat),?_,fun w'=>?_⟩
           · rw [cutL_eq]
             simp only [SV.hv,SV.h1];have e:(Option.map (fun x:Addr=>x.add ((loI l).toNat*1)) (some ⟨b,off,none⟩))=some ⟨b,off+(loI l).toNat,none⟩:=by simp [addr_add]
             rw [e] at hcut;exact SV.hc.names (σ:=sg0) (σ':=σ) _ _ (fun k v e=>by cases e) (by simpa using hcut)
           · have hb:=hb w'
             rw [show hiI n none=(n:Int) from rfl,Int.toNat_natCast] at hb;simp only [execOp,ho,h2,Instr.sliceAt,Sem.run_bind,run_underlying (ty_array ht rfl),Result.andThen_ok,Option.map_none,Instr.sureAddr,Sem.run_pure,hb,run_sizeOf' hj,hz',Nat.mul_one,addr_add]
             congr 3
             split<;>rfl
         · exact hK.elim
       · exact hK.elim
     · exact hK.elim
   · exact hK.elim
 · exact hK.elim
end
section
variable {P:Program} [TabC P] {S:Sig} {σ:Sg} {env:Env} {objs:List Ob} {nx:Nat} {o:Oper} {a:Act} {w:World} {x y:Operand} {K:SV→Prop}
variable (P) in
def evIndex (T:Nat) (s:SV) (ix:SV) (K:SV→Prop):Prop:=match ixI ix with
 | some m=>match ty P T with
   | some ⟨.str,_,_⟩=>match s with
     | .str l=>Idx (0≤m∧m.toNat<l.length) fun h=>K (.u8 (l[m.toNat]'h.2))
     | _=>False
   | some ⟨.ar n e,_,_⟩=>match ty P e with
     | some j=>match rowB j with
       | true=>match s with
         | .agg [.arr8 (n:=n') v]=>match Nat.beq j.size 1,j.row,Nat.beq n n' with
           | true,false,true=>Idx (0≤m∧m.toNat<n') fun h=>K (.u8 (v[m.toNat]'h.2))
           | _,_,_=>False
         | .agg [.arr32 (n:=n') v]=>match Nat.beq j.size 1,j.row,Nat.beq n n' with
           | true,false,true=>Idx (0≤m∧m.toNat<n') fun h=>K (.u32 (v[m.toNat]'h.2))
           | _,_,_=>False
         | .agg [.arrG z enc xs]=>match Nat.beq z j.size with
           | true=>Idx (0≤m∧m.toNat<xs.length∧m<n) fun h=>frcL (enc (xs[m.toNat]'h.2.1)) fun ps=>Side (szL ps=j.size) (svK j.row ps K)
           | false=>False
         | .agg ps=>match litN m with
           | some q=>match Nat.blt q n with
             | true=>ldParts j ps (q*j.size) K
             | false=>False
           | none=>False
         | _=>False
       | false=>False
     | none=>False
   | _=>False
 | none=>False
theorem evIndex_sound {T:TypeId} {s ix:SV} {ixo:Operand} (ho:o.op=.index T x ixo) (hx:evx P env x=some s) (hix:evx P env ixo=some ix) (h:evIndex P T s ix K):PureK P S env objs nx o K:=by
 unfold evIndex at h
 split at h
 · rename_i m hm
   have hi:∀ {σ a w},St P S σ env objs nx a w→∃ k,a.eval ixo=.int k m:=fun hst=>ixI_spec hm hix hst
   split at h
   · rename_i ht
     split at h
     · rename_i l
       obtain ⟨hq,h⟩:=h;refine PureK.mk h fun σ a w hst=>⟨_,hv8.2 rfl,fun w'=>?_⟩
       obtain ⟨k,hi⟩:=hi hst;have h1:=hvS.1 (hst.ev hx);have hm1:m<l.length:=by omega
       have e2:(baOf l).size=l.length:=baOf_size l;have e:(baOf l)[m.toNat]'(by rw [e2];exact hq.2)=UInt8.ofBitVec (l[m.toNat]'hq.2):=by
         show (baOf l).data[m.toNat]'(by have:=hq.2;simp [baOf];omega)=_
         simp [baOf]
       simp [execOp,ho,h1,hi,Instr.index,asIntOf,run_underlying (ty_str ht rfl),hq.1,hm1,e2,hq.2]
       rw [e];rfl
     · exact h.elim
   · rename_i n e _ _ ht
     split at h
     · rename_i j hj
       split at h
       · rename_i hrow
         have chunk:∀ {u r:SV} {f:Nat→Value},0≤m∧m.toNat<n→j.size=1→j.row=false→evx P env x=some (.agg [u])→u.sz=n→(∀ {w A σ cs},u.hc w A σ cs→∀ i,i<n→cs[i]?=some (f i))→(∀ {w A σ},r.hv w A σ (f m.toNat))→K r→PureK P S env objs nx o K:=by
           intro u r f hm2 hz1 hr hx hsz hf hv hK;refine PureK.mk hK fun σ a w hst=>⟨_,hv,fun w'=>?_⟩
           obtain ⟨cs,h1,h2⟩:=hst.ev hx;rw [hL.single] at h2;obtain ⟨k,hi⟩:=hi hst;have hcm:=hf h2 m.toNat hm2.2;have hm1:m<n:=by omega
           have hlt:=(List.getElem?_eq_some_iff.1 hcm).1;have h4:cs[m.toNat]=f m.toNat:=(List.getElem?_eq_some_iff.1 hcm).2
           simp [execOp,ho,h1,hi,Instr.index,asIntOf,run_underlying (ty_array ht rfl),hm2.1,hm1,part,run_isAgg' hj,run_sizeOf' hj,hr,hz1,hlt,h4]
         split at h
         · rename_i n' v
           split at h
           · rename_i hz hr hn
             obtain rfl:=Nat.eq_of_beq_eq_true hn;obtain ⟨hq,h⟩:=h;exact chunk (f:=fun i=>if h:i<n then bV .u8 v[i] else undef) hq (Nat.eq_of_beq_eq_true hz) hr hx rfl (fun hc i hi=>by simp only [SV.hc] at hc;subst hc;simp [hi]) (by simp [hv8,hq.2]) h
           · exact h.elim
         · rename_i n' v
           split at h
           · rename_i hz hr hn
             obtain rfl:=Nat.eq_of_beq_eq_true hn;obtain ⟨hq,h⟩:=h;exact chunk (f:=fun i=>if h:i<n then bV .u32 v[i] else undef) hq (Nat.eq_of_beq_eq_true hz) hr hx rfl (fun hc i hi=>by simp only [SV.hc] at hc;subst hc;simp [hi]) (by simp [hv32,hq.2]) h
           · exact h.elim
         · rename_i z α enc xs
           split at h
           · rename_i hz
             obtain rfl:=Nat.eq_of_beq_eq_true hz;obtain ⟨hq,h⟩:=h;obtain ⟨hsz,h⟩:=frcL_k (K:=fun ps=>Side (szL ps=j.size) (svK j.row ps K)) h
             obtain ⟨s,hK,hs⟩:=svK_sound h (by rw [hsz];exact rowB_spec hrow)
             refine PureK.mk hK fun σ a w hst=>?_
             obtain ⟨cs,h1,h2⟩:=hst.ev hx;rw [hL.single] at h2;obtain ⟨k,hi⟩:=hi hst;simp only [SV.hc] at h2;have h3:=h2.2 m.toNat hq.2.1;have hle:m.toNat*j.size+j.size≤cs.length:=by
               rw [h2.1,← Nat.succ_mul];exact Nat.mul_le_mul_right _ hq.2.1
             refine ⟨_,hs (h3.names _ _ (fun _ _ h=>by cases h)),fun w'=>?_⟩
             have:=run_partL hj hrow hle w'
             simp [execOp,ho,h1,hi,Instr.index,asIntOf,run_underlying (ty_array ht rfl),hq.1,hq.2.2,run_sizeOf' hj,this]
           · exact h.elim
         · rename_i ps _ _ _
           split at h
           · rename_i q hq
             split at h
             · rename_i hlt
               have hlt':q<n:=by simpa [Nat.blt_eq] using hlt
               obtain rfl:=litN_spec hq;unfold ldParts at h
               split at h
               · rename_i pa mm z hp
                 obtain ⟨s,hK,hs⟩:=svK_sound h (by rw [(partP_spec hp).2.2];exact rowB_spec hrow)
                 refine PureK.mk hK fun σ a w hst=>?_
                 obtain ⟨cs,h1,h2⟩:=hst.ev hx;obtain ⟨k,hi⟩:=hi hst;refine ⟨_,hs (h2.part hp).1,fun w'=>?_⟩
                 have:=run_part hj hrow hp h2 w'
                 simp [execOp,ho,h1,hi,Instr.index,asIntOf,run_underlying (ty_array ht rfl),hlt',run_sizeOf' hj,this]
               · exact h.elim
             · exact h.elim
           · exact h.elim
         · exact h.elim
       · exact h.elim
     · exact h.elim
   · exact h.elim
 · exact h.elim
def evMM (mx:Bool) (s u:SV) (K:SV→Prop):Prop:=match s,u with
 | .int .i64 m,.int .i64 n=>match mx with
   | true=>K (.int .i64 (max m n))
   | false=>K (.int .i64 (min m n))
 | _,_=>False
theorem evMM_sound {mx:Bool} {ts:Array TypeId} {s u:SV} (ho:o.op=.call { callee:=.builtin (if mx then .max else .min),args:=#[x,y],argTypes:=ts }) (hx:evx P env x=some s) (hy:evx P env y=some u) (h:evMM mx s u K):PureK P S env objs nx o K:=by
 unfold evMM at h
 split at h
 · rename_i m n
   split at h
   · refine PureK.mk h fun σ a w hst=>?_
     have h1:=hvI.1 (hst.ev hx);have h2:=hvI.1 (hst.ev hy);have r1:=h1.2 rfl;have r2:=h2.2 rfl;refine ⟨_,hvI.2 ⟨rfl,fun _=>⟨by have:=r1.1;omega,by have:=r1.2;have:=r2.2;omega⟩⟩,rn_max (by simpa using ho) h1.1 h2.1⟩
   · refine PureK.mk h fun σ a w hst=>?_
     have h1:=hvI.1 (hst.ev hx);have h2:=hvI.1 (hst.ev hy);have r1:=h1.2 rfl;have r2:=h2.2 rfl;refine ⟨_,hvI.2 ⟨rfl,fun _=>⟨by have:=r1.1;have:=r2.1;omega,by have:=r1.2;omega⟩⟩,rn_min (by simpa using ho) h1.1 h2.1⟩
 · exact h.elim
def splice (C:Array Value) (off:Nat) (l:List Value):Array Value:=(C.toList.take off++l++C.toList.drop (off+l.length)).toArray
theorem foldl_spliceL (off:Nat):∀ (l:List Value) (j:Nat) (A B:List Value),A.length=off+j→l.length≤B.length→(l.zipIdx j).foldl (fun cs (c,j)=>cs.setIfInBounds (off+j) c) (A++B).toArray=(A++l++B.drop l.length).toArray
 | [],j,A,B,_,_=>by simp
 | v::r,j,A,[],_,h=>by simp at h
 | v::r,j,A,x::B,hA,h=>by
   simp only [List.zipIdx_cons,List.foldl_cons];have e:(A++x::B).toArray.setIfInBounds (off+j) v=((A++[v])++B).toArray:=by
     simp only [List.setIfInBounds_toArray]
     congr 1
     rw [← hA,List.set_append_right _ _ (Nat.le_refl _)]
     simp
   rw [e,foldl_spliceL off r (j+1) (A++[v]) B (by simp [hA];omega) (by simpa using h)]
   simp
theorem foldl_splice (off:Nat) (l:List Value) (C:Array Value) (h:off+l.length≤C.size):(l.zipIdx 0).foldl (fun cs (c,j)=>cs.setIfInBounds (off+j) c) C=splice C off l:=by
 have h1:=foldl_spliceL off l 0 (C.toList.take off) (C.toList.drop off) (by simp;omega) (by simp;omega)
 rw [List.take_append_drop] at h1;unfold splice;rw [List.drop_drop] at h1;exact h1
theorem fill_cons {place:Nat→Option (Nat×Nat)} {C:Array Value} {i off size:Nat} {v:Value} {l:List Value} {rest:List (Nat×Value)} (hp:place i=some (off,size)) (hv:v.cells.toList=l) (hl:l.length=size) (hf:off+size≤C.size) :
   Instr.fill place C ((i,v)::rest)=Instr.fill place (splice C off l) rest:=by
 have hs:v.cells.size=size:=by rw [← hl,← hv];simp
 have:=foldl_splice off v.cells.toList C (by rw [hv];omega)
 rw [hv] at this;simp only [Instr.fill,hp,hs];rw [if_neg (by simp;omega)]
 congr 1
 rw [← Array.foldl_toList,Array.toList_zipIdx,hv]
 simpa using this
def plc (tab:List TI):TK→Nat→Option (Nat×Nat)
 | .st fl,i=>match nth fl i with
   | some (off,t)=>match nth tab t with
     | some j=>some (off,j.size)
     | none=>none
   | none=>none
 | .ar _ e,i=>match nth tab e with
   | some j=>some (i*j.size,j.size)
   | none=>none
 | _,_=>none
def prt:SV→Option (List SV)
 | .agg ps=>some ps
 | .tup _=>none
 | .undef=>none
 | .arr8 _=>none
 | .arr32 _=>none
 | .arrG _ _ _=>none
 | s=>some [s]
theorem cells_one {v:Value} (h:v.oneCell'=true):v.cells.toList=[v]:=by cases v<;>first|rfl|simp [Value.oneCell'] at h
theorem prt_spec {s:SV} {ps:List SV} (h:prt s=some ps) {A:Own} {v:Value} (hv:s.hv w A σ v):hL w A ps σ v.cells.toList:=by
 have single:prt s=some [s]→s.h1 w A σ v→(∀ qs,s≠.agg qs)→s≠.undef→hL w A [s] σ v.cells.toList:=fun _ h1 h2 h3=>by
   have:s.hc w A σ [v]:=by
     cases s<;>first|exact h1|exact absurd rfl (h2 _)|exact absurd rfl h3
   rw [cells_one (SV.hc.one _ _ _ this v (by simp)),hL.single];exact this
 cases s<;>simp only [prt,reduceCtorEq,Option.some.injEq] at h<;>subst h
 all_goals first
   | (refine single rfl hv (fun qs h=>by cases h) (fun h=>by cases h))
   | (obtain ⟨cs,rfl,h2⟩:=hv;simpa [Value.cells] using h2)
def app3 (a b c:List SV):Option (List SV):=match app2 b c with
 | some x=>app2 a x
 | none=>none
theorem app3_eq {a b c d:List SV} (h:app3 a b c=some d):d=a++(b++c):=by
 unfold app3 at h
 split at h
 · rename_i x hx
   rw [app2_eq h,app2_eq hx]
 · cases h
def setP (ps:List SV) (off size:Nat) (qs:List SV):Option (List SV):=match partP ps off size with
 | some (a,_,z)=>match sizQ qs size with
   | true=>app3 a qs z
   | false=>none
 | none=>none
theorem setP_spec {ps qs ps':List SV} {off size:Nat} (h:setP ps off size qs=some ps') {A:Own} {cs ds:List Value} (hc:hL w A ps σ cs) (hd:hL w A qs σ ds):hL w A ps' σ (cs.take off++ds++cs.drop (off+ds.length))∧ds.length=size∧off+size≤cs.length∧szL ps'=szL ps:=by
 unfold setP at h
 split at h
 · rename_i pa m z hp
   split at h
   · rename_i hb
     have hb':=sizQ_spec hb;obtain rfl:=app3_eq h;obtain ⟨rfl,h1,h2⟩:=partP_spec hp;have hlen:=hc.len;obtain ⟨c1,r,rfl,hc1,hr⟩:=hL.split hc;obtain ⟨c2,c3,rfl,hc2,hc3⟩:=hL.split hr;have e1:=hc1.len;have e2:=hc2.len;have e3:=hd.len;refine ⟨?_,by omega,by simp only [szL_append] at hlen;omega,by simp only [szL_append];omega⟩
     have t:(c1++(c2++c3)).take off=c1:=by rw [← h1,← e1,List.take_left]
     have d:(c1++(c2++c3)).drop (off+ds.length)=c3:=by
       rw [show off+ds.length=c1.length+c2.length by omega,← List.drop_drop,List.drop_left,List.drop_left]
     rw [t,d,List.append_assoc];exact hc1.append (hd.append hc3)
   · cases h
 · cases h
def putP (tab:List TI) (k:TK) (ps:List SV) (i:Nat) (s:SV):Option (List SV):=match ps,s with
 | [@SV.arr8 n v],.u8 x=>match plc tab k i with
   | some (off,1)=>match Nat.beq off i,Nat.blt i n with
     | true,true=>some [.arr8 (v.setIfInBounds i x)]
     | _,_=>none
   | _=>none
 | [@SV.arr32 n v],.u32 x=>match plc tab k i with
   | some (off,1)=>match Nat.beq off i,Nat.blt i n with
     | true,true=>some [.arr32 (v.setIfInBounds i x)]
     | _,_=>none
   | _=>none
 | ps,s=>match plc tab k i,prt s with
   | some (off,size),some qs=>setP ps off size qs
   | _,_=>none
variable (P) in
def putsP (tab:List TI) (k:TK) (env:Env):List SV→List (Nat×Operand)→Option (List SV)
 | ps,[]=>some ps
 | ps,(i,x)::r=>match evx P env x with
   | some s=>match putP tab k ps i s with
     | some ps'=>putsP tab k env ps' r
     | none=>none
   | none=>none
theorem set_chunk {L:List Value} {i:Nat} {v:Value} (h:i<L.length):L.take i++[v]++L.drop (i+[v].length)=L.set i v:=by
 rw [List.set_eq_take_append_cons_drop,if_pos h];simp
theorem putP_spec {k:TK} {ps ps':List SV} {i:Nat} {s:SV} {tab:List TI} (h:putP tab k ps i s=some ps') {A:Own} {C:Array Value} {v:Value} {rest:List (Nat×Value)} (hc:hL w A ps σ C.toList) (hv:s.hv w A σ v) :
   ∃ C',Instr.fill (plc tab k) C ((i,v)::rest)=Instr.fill (plc tab k) C' rest∧hL w A ps' σ C'.toList∧C'.size=C.size:=by
 unfold putP at h
 split at h
 · rename_i n v0 x0
   split at h
   · rename_i off hp
     split at h
     · rename_i hb hlt
       obtain rfl:=Nat.eq_of_beq_eq_true hb;have hlt':off<n:=by simpa [Nat.blt_eq] using hlt
       cases h
       rw [hL.single] at hc;have hsz:=hc.len;simp only [SV.hc] at hc;simp only [SV.sz] at hsz;have hvx:=hv8.1 hv;subst hvx;refine ⟨splice C off [bV .u8 x0],fill_cons hp rfl rfl (by simp at hsz ⊢;omega),?_,?_⟩
       · rw [hL.single];simp only [SV.hc,splice]
         rw [set_chunk (by simp at hsz ⊢;omega),hc,← List.map_set]
         simp [Vector.toList_setIfInBounds]
       · simp [splice];simp at hsz;omega
     · cases h
   · cases h
 · rename_i n v0 x0
   split at h
   · rename_i off hp
     split at h
     · rename_i hb hlt
       obtain rfl:=Nat.eq_of_beq_eq_true hb;have hlt':off<n:=by simpa [Nat.blt_eq] using hlt
       cases h
       rw [hL.single] at hc;have hsz:=hc.len;simp only [SV.hc] at hc;simp only [SV.sz] at hsz;have hvx:=hv32.1 hv;subst hvx;refine ⟨splice C off [bV .u32 x0],fill_cons hp rfl rfl (by simp at hsz ⊢;omega),?_,?_⟩
       · rw [hL.single];simp only [SV.hc,splice]
         rw [set_chunk (by simp at hsz ⊢;omega),hc,← List.map_set]
         simp [Vector.toList_setIfInBounds]
       · simp [splice];simp at hsz;omega
     · cases h
   · cases h
 · split at h
   · rename_i off size qs hp hq
     have hd:=prt_spec hq hv;obtain ⟨h1,h2,h3,h4⟩:=setP_spec h hc hd;refine ⟨splice C off v.cells.toList,fill_cons hp rfl h2 (by simpa using h3),by simpa [splice] using h1,?_⟩
     have:=h1.len;have:=hc.len
     simp [splice] at *;omega
   · cases h
theorem rn_min3 {z:Operand} {ev:Operand→Value} {k:IntKind} {a b c:Int} {ts:Array TypeId} (ho:o.op=.call { callee:=.builtin .min,args:=#[x,y,z],argTypes:=ts }) (hx:ev x=.int k a) (hy:ev y=.int k b) (hz:ev z=.int k c):∀ w',(execOp ev o).run P w'=.ok (.value (.int k (min (min a b) c))) w':=fun w'=>by
 simp [execOp,ho,resolve,invoke,builtin,hx,hy,hz,Builtin.min_,Builtin.min2]
 repeat' split
 all_goals try simp_all [Builtin.min2]
 all_goals try omega
 all_goals (split<;>simp_all<;>omega)
def evMin3 (s u v:SV) (K:SV→Prop):Prop:=match s,u,v with
 | .int .i64 m,.int .i64 n,.int .i64 l=>K (.int .i64 (min (min m n) l))
 | _,_,_=>False
theorem evMin3_sound {z:Operand} {ts:Array TypeId} {s u v:SV} (ho:o.op=.call { callee:=.builtin .min,args:=#[x,y,z],argTypes:=ts }) (hx:evx P env x=some s) (hy:evx P env y=some u) (hz:evx P env z=some v) (h:evMin3 s u v K):PureK P S env objs nx o K:=by
 unfold evMin3 at h
 split at h
 · refine PureK.mk h fun σ a w hst=>?_
   have h1:=hvI.1 (hst.ev hx);have h2:=hvI.1 (hst.ev hy);have h3:=hvI.1 (hst.ev hz);have r1:=h1.2 rfl;have r2:=h2.2 rfl;have r3:=h3.2 rfl;refine ⟨_,hvI.2 ⟨rfl,fun _=>⟨by have:=r1.1;have:=r2.1;have:=r3.1;omega,by have:=r1.2;omega⟩⟩,rn_min3 ho h1.1 h2.1 h3.1⟩
 · exact h.elim
theorem rn_max4 {z q:Operand} {ev:Operand→Value} {k:IntKind} {a b c d:Int} {ts:Array TypeId} (ho:o.op=.call { callee:=.builtin .max,args:=#[x,y,z,q],argTypes:=ts }) (hx:ev x=.int k a) (hy:ev y=.int k b) (hz:ev z=.int k c) (hq:ev q=.int k d):∀ w',(execOp ev o).run P w'=.ok (.value (.int k (max (max (max a b) c) d))) w':=fun w'=>by
 have key:∀ (m n:Int) (w:World),(Builtin.max2 (.int k m) (.int k n)).run P w=.ok (.int k (max m n)) w:=fun m n w=>by
   by_cases h:m<n
   · have e:max m n=n:=by omega
     rw [e];simp [Builtin.max2,h]<;>omega
   · have e:max m n=m:=by omega
     rw [e];simp [Builtin.max2,h]<;>omega
 have e:max a (max b (max c d))=max (max (max a b) c) d:=by omega
 rw [← e]
 simp [execOp,ho,resolve,invoke,builtin,hx,hy,hz,hq,Builtin.max_,key]
 try omega
def evMax4 (s u v t:SV) (K:SV→Prop):Prop:=match s,u,v,t with
 | .int .i64 m,.int .i64 n,.int .i64 l,.int .i64 j=>K (.int .i64 (max (max (max m n) l) j))
 | _,_,_,_=>False
theorem evMax4_sound {z q:Operand} {ts:Array TypeId} {s u v t:SV} (ho:o.op=.call { callee:=.builtin .max,args:=#[x,y,z,q],argTypes:=ts }) (hx:evx P env x=some s) (hy:evx P env y=some u) (hz:evx P env z=some v) (hq:evx P env q=some t) (h:evMax4 s u v t K):PureK P S env objs nx o K:=by
 unfold evMax4 at h
 split at h
 · refine PureK.mk h fun σ a w hst=>?_
   have h1:=hvI.1 (hst.ev hx);have h2:=hvI.1 (hst.ev hy);have h3:=hvI.1 (hst.ev hz);have h4:=hvI.1 (hst.ev hq);have r1:=h1.2 rfl;have r2:=h2.2 rfl;have r3:=h3.2 rfl;have r4:=h4.2 rfl;refine ⟨_,hvI.2 ⟨rfl,fun _=>⟨by have:=r1.1;omega,by have:=r1.2;have:=r2.2;have:=r3.2;have:=r4.2;omega⟩⟩,rn_max4 ho h1.1 h2.1 h3.1 h4.1⟩
 · exact h.elim
end
def KFit:List (Option IntKind)→List Value→Prop
 | [],cs=>cs=[]
 | some k::r,cs=>∃ n rest,cs=.int k n::rest∧KFit r rest
 | none::r,cs=>∃ b rest,cs=.bool b::rest∧KFit r rest
theorem KFit.len:∀ {ks:List (Option IntKind)} {cs:List Value},KFit ks cs→cs.length=ks.length
 | [],cs,h=>by simp only [KFit] at h;rw [h];rfl
 | some k::r,cs,h=>by obtain ⟨n,rest,rfl,h⟩:=h;simp [KFit.len h]
 | none::r,cs,h=>by obtain ⟨n,rest,rfl,h⟩:=h;simp [KFit.len h]
theorem KFit.app:∀ {a b:List (Option IntKind)} {cs:List Value},KFit (a++b) cs→KFit a (cs.take a.length)∧KFit b (cs.drop a.length)
 | [],b,cs,h=>by simpa [KFit] using h
 | some k::r,b,cs,h=>by
   obtain ⟨n,rest,rfl,h⟩:=h;obtain ⟨h1,h2⟩:=KFit.app (a:=r) h;exact ⟨⟨n,_,by simp,h1⟩,by simpa using h2⟩
 | none::r,b,cs,h=>by
   obtain ⟨n,rest,rfl,h⟩:=h;obtain ⟨h1,h2⟩:=KFit.app (a:=r) h;exact ⟨⟨n,_,by simp,h1⟩,by simpa using h2⟩
theorem KFit.mk:∀ {a b:List (Option IntKind)} {cs ds:List Value},KFit a cs→KFit b ds→KFit (a++b) (cs++ds)
 | [],b,cs,ds,h,h2=>by simp only [KFit] at h;subst h;exact h2
 | some k::r,b,cs,ds,h,h2=>by obtain ⟨n,rest,rfl,h⟩:=h;exact ⟨n,_,rfl,KFit.mk h h2⟩
 | none::r,b,cs,ds,h,h2=>by obtain ⟨n,rest,rfl,h⟩:=h;exact ⟨n,_,rfl,KFit.mk h h2⟩
def repL {α:Type}:Nat→List α→List α
 | 0,_=>[]
 | n+1,l=>l++repL n l
theorem repL_len {α:Type} (l:List α):∀ n,(repL n l).length=n*l.length
 | 0=>by simp [repL]
 | n+1=>by simp only [repL,List.length_append,repL_len l n,Nat.add_mul,Nat.one_mul];omega
theorem KFit.rep {ks:List (Option IntKind)}:∀ {n:Nat} {cs:List Value},KFit (repL n ks) cs→∀ i,i<n→KFit ks ((cs.drop (i*ks.length)).take ks.length)
 | 0,cs,h,i,hi=>absurd hi (by omega)
 | n+1,cs,h,i,hi=>by
   obtain ⟨h1,h2⟩:=KFit.app (a:=ks) (b:=repL n ks) h;rcases i with _|i
   · simpa using h1
   · have:=KFit.rep h2 i (by omega)
     rw [List.drop_drop] at this
     rwa [show ks.length+i*ks.length=(i+1)*ks.length by rw [Nat.add_mul,Nat.one_mul];omega] at this
def kindsS (f:Nat→Option (List (Option IntKind))):List (Nat×Nat)→Nat→Option (List (Option IntKind))
 | [],_=>some []
 | (o,t)::r,p=>match Nat.beq o p with
   | true=>match f t with
     | some ks=>match kindsS f r (p+ks.length) with
       | some rest=>some (ks++rest)
       | none=>none
     | none=>none
   | false=>none
section
variable (P:Program) [TabC P]
def memN:List Nat→Nat→Bool
 | [],_=>false
 | k::r,n=>match Nat.beq k n with
   | true=>true
   | false=>memN r n
theorem memN_spec:∀ {l:List Nat} {n:Nat},memN l n=true→n∈l
 | [],_,h=>by cases h
 | k::r,n,h=>by
   unfold memN at h
   split at h
   · rename_i hb;rw [Nat.eq_of_beq_eq_true hb];simp
   · exact List.mem_cons_of_mem _ (memN_spec h)
def kindsT:Nat→Nat→Option (List (Option IntKind))
 | 0,_=>none
 | d+1,t=>match ty P t with
   | some ⟨.bool,1,_⟩=>some [none]
   | some ⟨.int k,1,_⟩=>some [some k]
   | some ⟨.ar n e,z,_⟩=>match kindsT d e with
     | some ks=>match Nat.beq z (repL n ks).length with
       | true=>some (repL n ks)
       | false=>none
     | none=>none
   | some ⟨.st fs,z,_⟩=>match memN (TabC.eqs P) t with
     | true=>match kindsS (kindsT d) fs 0 with
       | some ks=>match Nat.beq z ks.length with
         | true=>some ks
         | false=>none
       | none=>none
     | false=>none
   | _=>none
end
section
variable {P:Program} [TabC P] {w:World}
theorem ty_boolE {t:Nat} {z b:Nat} (h:ty P t=some ⟨.bool,z,b⟩):P.underlying t=some .bool:=by
 obtain ⟨inf,d,_,hd,_,_,hb,_⟩:=ty_spec h
 cases d<;>simp [tkB] at hb
 exact hd
theorem ty_sizeOf {t:Nat} {i:TI} (h:ty P t=some i):P.cellsOf t=i.size:=by
 obtain ⟨inf,d,hi,_,hs,_⟩:=ty_spec h
 simp [Program.cellsOf,hi,hs]
theorem run_part_len {off:Nat} {t:TypeId} {j:TI} {cs:List Value} (hj:ty P t=some j) (h1:(j.row||Nat.beq j.size 1)=true) (hl:off+j.size≤cs.length) :
   (part t cs.toArray off).run P w=.ok (vOf j.row ((cs.drop off).take j.size)) w:=by
 simp only [part,Sem.run_bind,run_isAgg' hj,Result.andThen_ok]
 cases hr:j.row with
 | true =>
   simp only [if_true,Sem.run_bind,run_sizeOf' hj,Result.andThen_ok,Sem.run_pure,vOf]
   congr 2
   apply Array.ext'
   simp only [Array.toList_extract,List.extract_eq_drop_take];rw [Nat.add_sub_cancel_left]
 | false =>
   rw [hr,Bool.false_or] at h1;have h1':=Nat.eq_of_beq_eq_true h1;have hlt:off<cs.length:=by omega
   have:(cs.drop off).take j.size=[cs[off]]:=by
     rw [h1',List.drop_eq_getElem_cons hlt];rfl
   simp [this,vOf,hlt]
def EqAt (P:Program) [TabC P] (w:World) (d t:Nat) (ks:List (Option IntKind)):Prop :=
 ∃ i,ty P t=some i∧i.size=ks.length∧(i.row||Nat.beq i.size 1)=true∧∀ xs ys,KFit ks xs→KFit ks ys→∀ d',d≤d'→∃ r,(Op.equalIn d' t (vOf i.row xs) (vOf i.row ys)).run P w=.ok r w∧(r=true↔xs=ys)
theorem eqItems_run {d e:Nat} {ks:List (Option IntKind)} (h:EqAt P w d e ks) {xs ys:List Value}:∀ {is:List Nat},(∀ i∈is,KFit ks ((xs.drop (i*ks.length)).take ks.length)∧KFit ks ((ys.drop (i*ks.length)).take ks.length)∧i*ks.length+ks.length≤xs.length∧i*ks.length+ks.length≤ys.length)→∀ d',d≤d' →
   ∃ r,(Op.eqItems d' e (P.cellsOf e) xs.toArray ys.toArray is).run P w=.ok r w∧(r=true↔∀ i∈is,(xs.drop (i*ks.length)).take ks.length=(ys.drop (i*ks.length)).take ks.length)
 | [],_,d',hd=>⟨true,by simp [Op.eqItems],by simp⟩
 | i::is,hf,d',hd=>by
   obtain ⟨j,hj,hsz,hrow,heq⟩:=h;obtain ⟨f1,f2,f3,f4⟩:=hf i (by simp)
   obtain ⟨r,hr,hiff⟩:=heq _ _ f1 f2 d' hd;obtain ⟨r',hr',hiff'⟩:=eqItems_run ⟨j,hj,hsz,hrow,heq⟩ (is:=is) (fun k hk=>hf k (List.mem_cons_of_mem _ hk)) d' hd
   have hc:P.cellsOf e=ks.length:=by rw [ty_sizeOf hj,hsz]
   have p1:=run_part_len (w:=w) (cs:=xs) (off:=i*ks.length) hj hrow (by rw [hsz];exact f3)
   have p2:=run_part_len (w:=w) (cs:=ys) (off:=i*ks.length) hj hrow (by rw [hsz];exact f4)
   rw [hsz] at p1 p2;rw [hc] at hr' ⊢;simp only [Op.eqItems,Sem.run_bind,p1,p2,hr,Result.andThen_ok]
   cases r with
   | false=>exact ⟨false,by simp,by simp only [Bool.false_eq_true,false_iff];intro hh;exact absurd (hiff.2 (hh i (by simp))) (by simp)⟩
   | true =>
     refine ⟨r',by simpa using hr',?_⟩
     rw [hiff']
     simp [hiff.1 rfl]
theorem chunks_eq {z:Nat}:∀ {n:Nat} {xs ys:List Value},xs.length=n*z→ys.length=n*z→(∀ i<n,(xs.drop (i*z)).take z=(ys.drop (i*z)).take z)→xs=ys
 | 0,xs,ys,h1,h2,_=>by
   rw [Nat.zero_mul] at h1 h2;rw [List.eq_nil_of_length_eq_zero h1,List.eq_nil_of_length_eq_zero h2]
 | n+1,xs,ys,h1,h2,h=>by
   have h0:=h 0 (by omega)
   simp only [Nat.zero_mul,List.drop_zero] at h0;have e:=chunks_eq (z:=z) (n:=n) (xs:=xs.drop z) (ys:=ys.drop z) (by rw [List.length_drop,h1,Nat.add_mul,Nat.one_mul];omega) (by rw [List.length_drop,h2,Nat.add_mul,Nat.one_mul];omega) (fun i hi=>by
     have:=h (i+1) (by omega)
     rw [List.drop_drop,List.drop_drop]
     rwa [Nat.add_mul,Nat.one_mul,Nat.add_comm] at this)
   rw [← List.take_append_drop z xs,← List.take_append_drop z ys,h0,e]
theorem eqFields_run {d : Nat} {f : Nat → Option (List (Option IntKind))} (hf : ∀ t ks, f t = some ks → EqAt P w d t ks) {xs ys : List Value} : ∀ {gs : List Field} {p : Nat} {ks : List (Option IntKind)}, kindsS f (gs.map (fun g => (g.offset, g.type))) p = some ks → (∀ g ∈ gs, g.name ≠ "_") → KFit ks (xs.drop p) → KFit ks (ys.drop p) → p ≤ xs.length → p ≤ ys.length → ∀ d', d ≤ d' →
   ∃ r,(Op.eqFields d' xs.toArray ys.toArray gs).run P w=.ok r w∧(r=true↔xs.drop p=ys.drop p)
 | [],p,ks,h,hn,hx,hy,px,py,d',hd=>by
   simp only [List.map_nil,kindsS,Option.some.injEq] at h;subst h;simp only [KFit] at hx hy;exact ⟨true,by simp [Op.eqFields],by rw [hx,hy];simp⟩
 | g::gs,p,ks,h,hn,hx,hy,px,py,d',hd=>by
   simp only [List.map_cons,kindsS] at h
   split at h
   · rename_i hp
     have hp':=Nat.eq_of_beq_eq_true hp
     split at h
     · rename_i k1 hk1
       split at h
       · rename_i rest hrest
         simp only [Option.some.injEq] at h;subst h;obtain ⟨j,hj,hsz,hrow,heq⟩:=hf _ _ hk1;obtain ⟨x1,x2⟩:=hx.app;obtain ⟨y1,y2⟩:=hy.app;rw [List.drop_drop] at x2 y2;have lx:=hx.len;have ly:=hy.len;simp only [List.length_drop,List.length_append] at lx ly;have lx1:=x1.len;have ly1:=y1.len;simp only [List.length_take,List.length_drop] at lx1 ly1;obtain ⟨r,hr,hiff⟩:=heq _ _ x1 y1 d' hd;obtain ⟨r',hr',hiff'⟩:=eqFields_run hf (gs:=gs) hrest (fun g hg=>hn g (List.mem_cons_of_mem _ hg)) x2 y2 (by omega) (by omega) d' hd
         have hname : g.name ≠ "_" := hn g (by simp)
         have p1:=run_part_len (w:=w) (cs:=xs) (off:=g.offset) hj hrow (by rw [hsz,hp'];omega)
         have p2:=run_part_len (w:=w) (cs:=ys) (off:=g.offset) hj hrow (by rw [hsz,hp'];omega)
         rw [hsz,hp'] at p1 p2;have hg:Op.eqFields d' xs.toArray ys.toArray (g::gs)=(do
             let a ← part g.type xs.toArray g.offset
             let b ← part g.type ys.toArray g.offset
             let r ← Op.equalIn d' g.type a b
             if (!r)=true then pure false else Op.eqFields d' xs.toArray ys.toArray gs):=by
           simp [Op.eqFields,hname]
         rw [hg];simp only [Sem.run_bind,hp',p1,p2,hr,Result.andThen_ok];have split:∀ (l:List Value),l.drop p=(l.drop p).take k1.length++l.drop (p+k1.length):=fun l=>by
           rw [← List.drop_drop,List.take_append_drop]
         cases r with
         | false =>
           refine ⟨false,by simp,?_⟩
           simp only [Bool.false_eq_true,false_iff];intro hh;rw [hh] at hiff;exact absurd (hiff.2 rfl) (by simp)
         | true =>
           refine ⟨r',by simpa using hr',?_⟩
           rw [hiff'];have e:=hiff.1 rfl
           constructor
           · intro h2;rw [split xs,split ys,e,h2]
           · intro h2
             have:=congrArg (List.drop k1.length) h2
             simpa [List.drop_drop] using this
       · cases h
     · cases h
   · cases h
theorem eq_ok {t : Nat} (h : memN (TabC.eqs P) t = true) : P.stoodInHeld t = false ∧ (∀ f ∈ (P.fieldsOf t).toList, f.name ≠ "_") ∧ P.eqGuardType P.depth t = false := by
 have hok:=List.all_eq_true.1 (TabC.eqok (P:=P)) t (memN_spec h);simp only [eqOkB,Bool.and_eq_true,Bool.not_eq_true',List.all_eq_true,decide_eq_true_eq] at hok;exact ⟨hok.1.1,hok.1.2,hok.2⟩
theorem run_flat:∀ {d t:Nat} {ks:List (Option IntKind)},kindsT P d t=some ks→EqAt P w d t ks
 | 0,_,_,h=>by cases h
 | d+1,t,ks,h=>by
   unfold kindsT at h
   split at h
   · rename_i ht
     cases h
     refine ⟨_,ht,rfl,rfl,fun xs ys hx hy d' hd=>?_⟩
     obtain ⟨a,r1,rfl,h1⟩:=hx;obtain ⟨b,r2,rfl,h2⟩:=hy;simp only [KFit] at h1 h2;subst h1 h2;obtain ⟨d',rfl⟩:∃ q,d'=q+1:=⟨d' - 1,by omega⟩
     refine ⟨a == b,?_,by simp⟩
     simp [vOf,TI.row,Op.equalIn,run_underlying (ty_boolE ht)]
   · rename_i k _ ht
     cases h
     refine ⟨_,ht,rfl,rfl,fun xs ys hx hy d' hd=>?_⟩
     obtain ⟨a,r1,rfl,h1⟩:=hx;obtain ⟨b,r2,rfl,h2⟩:=hy;simp only [KFit] at h1 h2;subst h1 h2;obtain ⟨d',rfl⟩:∃ q,d'=q+1:=⟨d' - 1,by omega⟩
     refine ⟨a == b,?_,by simp⟩
     simp [vOf,TI.row,Op.equalIn,run_underlying (ty_int ht rfl)]
   · rename_i n e z _ ht
     split at h
     · rename_i k1 hk1
       split at h
       · rename_i hz
         cases h
         have hz':=Nat.eq_of_beq_eq_true hz;have ih:=run_flat (d:=d) hk1;refine ⟨_,ht,hz',rfl,fun xs ys hx hy d' hd=>?_⟩
         obtain ⟨d',rfl⟩:∃ q,d'=q+1:=⟨d' - 1,by omega⟩
         obtain ⟨i,hi⟩:∃ i,P.info? e=some i:=by
           obtain ⟨j,hj,_⟩:=ih;obtain ⟨inf,_,hi,_⟩:=ty_spec hj;exact ⟨inf,hi⟩
         have lx:=hx.len;have ly:=hy.len;rw [repL_len] at lx ly;have hmul:∀ i,i<n→i*k1.length+k1.length≤n*k1.length:=fun i hi=>by
           have:=Nat.mul_le_mul_right k1.length (show i+1≤n from hi)
           rwa [Nat.add_mul,Nat.one_mul] at this
         obtain ⟨r,hr,hiff⟩:=eqItems_run ih (xs:=xs) (ys:=ys) (is:=List.range n) (fun i hi=>by
           have hi':=List.mem_range.1 hi;exact ⟨hx.rep i hi',hy.rep i hi',by rw [lx];exact hmul i hi',by rw [ly];exact hmul i hi'⟩) d' (by omega)
         refine ⟨r,?_,hiff.trans ⟨fun hh=>chunks_eq lx ly (fun i hi=>hh i (List.mem_range.2 hi)),fun hh=>by rw [hh];simp⟩⟩
         show (Op.equalIn (d'+1) t (.agg xs.toArray) (.agg ys.toArray)).run P w=_;rw [run_equalIn_array w d' xs.toArray ys.toArray (ty_array ht rfl) hi,hr]
       · cases h
     · cases h
   · rename_i fs z _ ht
     split at h
     · rename_i hm
       split at h
       · rename_i k1 hk1
         split at h
         · rename_i hz
           cases h
           have hz':=Nat.eq_of_beq_eq_true hz;have hok:=eq_ok hm;refine ⟨_,ht,hz',rfl,fun xs ys hx hy d' hd=>?_⟩
           obtain ⟨d',rfl⟩:∃ q,d'=q+1:=⟨d' - 1,by omega⟩
           obtain ⟨gs,hu,hg⟩:=ty_struct ht rfl;have hfo:P.fieldsOf t=gs:=by simp [Program.fieldsOf,hu]
           rw [hfo] at hok;obtain ⟨r,hr,hiff⟩:=eqFields_run (fun t ks h=>run_flat (d:=d) h) (xs:=xs) (ys:=ys) (gs:=gs.toList) (p:=0) (by rw [hg];exact hk1) hok.2.1 (by simpa using hx) (by simpa using hy) (Nat.zero_le _) (Nat.zero_le _) d' (by omega)
           refine ⟨r,?_,by simpa using hiff⟩
           show (Op.equalIn (d'+1) t (.agg xs.toArray) (.agg ys.toArray)).run P w=_;rw [run_equalIn_struct w d' t xs.toArray ys.toArray (by rw [hfo];exact hu) hok.1,hfo,hr]
         · cases h
       · cases h
     · cases h
   · cases h
def kSV:SV→Option (List (Option IntKind))
 | .bool _=>some [none]
 | .dec _ _=>some [none]
 | .int k _=>some [some k]
 | .u8 _=>some [some .u8]
 | .u16 _=>some [some .u16]
 | .u32 _=>some [some .u32]
 | .u64 _=>some [some .u64]
 | @SV.arr8 n _=>some (repL n [some .u8])
 | @SV.arr32 n _=>some (repL n [some .u32])
 | _=>none
def kL:List SV→Option (List (Option IntKind))
 | []=>some []
 | s::r=>match kSV s with
   | some a=>match kL r with
     | some b=>some (a++b)
     | none=>none
   | none=>none
theorem kfit_vec {n w':Nat} {k:IntKind} (x:Vector (BitVec w') n):KFit (repL n [some k]) (x.toList.map (bV k)):=by
 have:∀ (l:List (BitVec w')),KFit (repL l.length [some k]) (l.map (bV k)):=by
   intro l
   induction l with
   | nil=>rfl
   | cons a r ih=>exact ⟨_,_,rfl,ih⟩
 have h:=this x.toList
 rwa [Vector.length_toList] at h
theorem kSV_fit {A:Own} {σ:Sg} {s:SV} {ks:List (Option IntKind)} {cs:List Value} (h:kSV s=some ks) (hc:s.hc w A σ cs):KFit ks cs:=by
 cases s<;>simp only [kSV,Option.some.injEq,reduceCtorEq] at h<;>subst h<;>simp only [SV.hc] at hc
 · subst hc;exact ⟨_,_,rfl,rfl⟩
 · subst hc;exact ⟨_,_,rfl,rfl⟩
 · obtain ⟨rfl,_⟩:=hc;exact ⟨_,_,rfl,rfl⟩
 · subst hc;exact ⟨_,_,rfl,rfl⟩
 · subst hc;exact ⟨_,_,rfl,rfl⟩
 · subst hc;exact ⟨_,_,rfl,rfl⟩
 · subst hc;exact ⟨_,_,rfl,rfl⟩
 · subst hc;exact kfit_vec _
 · subst hc;exact kfit_vec _
theorem kL_fit {A:Own} {σ:Sg}:∀ {l:List SV} {ks:List (Option IntKind)} {cs:List Value},kL l=some ks→hL w A l σ cs→KFit ks cs
 | [],ks,cs,h,hc=>by
   simp only [kL,Option.some.injEq] at h;subst h;simp only [hL] at hc;exact hc
 | s::r,ks,cs,h,hc=>by
   simp only [hL] at hc;obtain ⟨a,b,rfl,h1,h2⟩:=hc;unfold kL at h
   split at h
   · rename_i ka hka
     split at h
     · rename_i kb hkb
       simp only [Option.some.injEq] at h;subst h;exact (kSV_fit hka h1).mk (kL_fit hkb h2)
     · cases h
   · cases h
def eqK (k k':IntKind):Bool:=decide (k=k')
def eqS:SV→SV→Option DP
 | .int k n,.int k' m=>match eqK k k' with
   | true=>some ⟨n=m,inferInstance⟩
   | false=>none
 | .u8 x,.u8 y=>some ⟨x=y,inferInstance⟩
 | .u16 x,.u16 y=>some ⟨x=y,inferInstance⟩
 | .u32 x,.u32 y=>some ⟨x=y,inferInstance⟩
 | .u64 x,.u64 y=>some ⟨x=y,inferInstance⟩
 | @SV.arr8 n x,@SV.arr8 n' y=>match Nat.beq n n' with
   | true=>some ⟨x.toList=y.toList,inferInstance⟩
   | false=>none
 | @SV.arr32 n x,@SV.arr32 n' y=>match Nat.beq n n' with
   | true=>some ⟨x.toList=y.toList,inferInstance⟩
   | false=>none
 | s,u=>match asP s with
   | some ⟨p,_⟩=>match asP u with
     | some ⟨q,_⟩=>some ⟨p↔q,inferInstance⟩
     | none=>none
   | none=>none
theorem asP_hq {A:Own} {σ:Sg} {s:SV} {p:Prop} {i:Decidable p} {cs:List Value} (h:asP s=some ⟨p,i⟩) (hc:s.hc w A σ cs):cs=[.bool (@decide p i)]:=by
 cases s<;>simp only [asP,Option.some.injEq,reduceCtorEq] at h<;>cases h
 · rename_i b;simp only [SV.hc] at hc;rw [hc];cases b<;>rfl
 · simp only [SV.hc] at hc;exact hc
theorem vec_eq {n n' w':Nat} {k:IntKind} {x:Vector (BitVec w') n} {y:Vector (BitVec w') n'}:x.toList.map (bV k)=y.toList.map (bV k)↔x.toList=y.toList:=by
 constructor
 · intro h
   refine List.map_inj_right (f:=bV k) (fun a b hab=>?_) |>.1 h
   simp only [bV,Value.int.injEq,true_and] at hab;exact BitVec.eq_of_toNat_eq (by exact_mod_cast hab)
 · intro h;rw [h]
theorem bV_eq {w':Nat} {k:IntKind} {x y:BitVec w'}:([bV k x]:List Value)=[bV k y]↔x=y:=by
 constructor
 · intro h
   simp only [bV,List.cons.injEq,Value.int.injEq,true_and,and_true] at h;exact BitVec.eq_of_toNat_eq (by exact_mod_cast h)
 · intro h;rw [h]
theorem eqS_spec {A:Own} {σ:Sg} {s u:SV} {q:DP} {cs ds:List Value} (h:eqS s u=some q) (h1:s.hc w A σ cs) (h2:u.hc w A σ ds):cs=ds↔q.p:=by
 unfold eqS at h
 split at h
 · split at h
   · rename_i hk
     cases h
     simp only [eqK,decide_eq_true_eq] at hk;subst hk;simp only [SV.hc] at h1 h2;rw [h1.1,h2.1];simp
   · cases h
 · cases h;simp only [SV.hc] at h1 h2;rw [h1,h2];exact bV_eq
 · cases h;simp only [SV.hc] at h1 h2;rw [h1,h2];exact bV_eq
 · cases h;simp only [SV.hc] at h1 h2;rw [h1,h2];exact bV_eq
 · cases h;simp only [SV.hc] at h1 h2;rw [h1,h2];exact bV_eq
 · split at h
   · cases h;simp only [SV.hc] at h1 h2;rw [h1,h2];exact vec_eq
   · cases h
 · split at h
   · cases h;simp only [SV.hc] at h1 h2;rw [h1,h2];exact vec_eq
   · cases h
 · split at h
   · rename_i p i hp
     split at h
     · rename_i q' i' hq
       cases h
       rw [asP_hq hp h1,asP_hq hq h2]
       simp
     · cases h
   · cases h
theorem asP_sz {s:SV} {q:DP} (h:asP s=some q):s.sz=1:=by cases s<;>simp only [asP,reduceCtorEq] at h<;>rfl
theorem eqS_sz {s u:SV} {q:DP} (h:eqS s u=some q):s.sz=u.sz:=by
 unfold eqS at h
 split at h
 · rfl
 · rfl
 · rfl
 · rfl
 · rfl
 · split at h
   · rename_i hn;exact Nat.eq_of_beq_eq_true hn
   · cases h
 · split at h
   · rename_i hn;exact Nat.eq_of_beq_eq_true hn
   · cases h
 · split at h
   · rename_i hp
     split at h
     · rename_i hq;rw [asP_sz hp,asP_sz hq]
     · cases h
   · cases h
def eqLs:List SV→List SV→Option DP
 | [],m=>match m with
   | []=>some ⟨True,inferInstance⟩
   | _=>none
 | s::r,m=>match m with
   | []=>none
   | u::r'=>match r with
     | []=>match r' with
       | []=>eqS s u
       | _=>none
     | _::_=>match eqS s u with
       | some ⟨p,_⟩=>match eqLs r r' with
         | some ⟨q,_⟩=>some ⟨p∧q,inferInstance⟩
         | none=>none
       | none=>none
theorem eqLs_spec {A:Own} {σ:Sg}:∀ {l m:List SV} {q:DP} {cs ds:List Value},eqLs l m=some q→hL w A l σ cs→hL w A m σ ds→(cs=ds↔q.p)
 | [],m,q,cs,ds,h,h1,h2=>by
   cases m with
   | nil =>
     simp only [eqLs,Option.some.injEq] at h;subst h;simp only [hL] at h1 h2;rw [h1,h2];simp
   | cons u r=>simp [eqLs] at h
 | s::r,m,q,cs,ds,h,h1,h2=>by
   cases m with
   | nil=>simp [eqLs] at h
   | cons u r' =>
     simp only [hL] at h1 h2;obtain ⟨a,b,rfl,h1,h3⟩:=h1;obtain ⟨c,d,rfl,h2,h4⟩:=h2;have split:∀ {p:DP},eqS s u=some p→(a++b=c++d↔p.p∧b=d):=fun {p} hp=>by
       have hl:a.length=c.length:=by rw [h1.len,h2.len,eqS_sz hp]
       rw [← eqS_spec hp h1 h2];exact ⟨fun e=>List.append_inj e hl,fun e=>by rw [e.1,e.2]⟩
     cases r with
     | nil =>
       cases r' with
       | nil =>
         simp only [eqLs] at h;rw [split h];simp only [hL] at h3 h4;rw [h3,h4];simp
       | cons _ _=>simp [eqLs] at h
     | cons s2 r2 =>
       unfold eqLs at h
       simp only at h
       split at h
       · rename_i p _ hp
         split at h
         · rename_i q' _ hq
           cases h
           rw [split hp,eqLs_spec hq h3 h4]
         · cases h
       · cases h
def eqKs:List (Option IntKind)→List (Option IntKind)→Bool
 | [],[]=>true
 | none::r,none::r'=>eqKs r r'
 | some k::r,some k'::r'=>match eqK k k' with
   | true=>eqKs r r'
   | false=>false
 | _,_=>false
theorem eqKs_spec:∀ {a b:List (Option IntKind)},eqKs a b=true→a=b
 | [],[],_=>rfl
 | none::r,none::r',h=>by rw [eqKs_spec (a:=r) (b:=r') h]
 | some k::r,some k'::r',h=>by
   unfold eqKs at h
   split at h
   · rename_i hk
     simp only [eqK,decide_eq_true_eq] at hk;rw [hk,eqKs_spec h]
   · cases h
 | [],_::_,h=>by cases h
 | none::_,[],h=>by cases h
 | some _::_,[],h=>by cases h
 | none::_,some _::_,h=>by cases h
 | some _::_,none::_,h=>by cases h
section
variable {S:Sig} {σ:Sg} {env:Env} {objs:List Ob} {nx:Nat} {o:Oper} {a:Act} {x y:Operand} {K:SV→Prop}
theorem run_eqA {op:BinOp} {t t':TypeId} {ev:Operand→Value} {xs ys:Array Value} {r:Bool} (ho:o.op=.binOp op t x y t') (hx:ev x=.agg xs) (hy:ev y=.agg ys) (hg:P.eqGuardType P.depth t=false)
   (hop:op=.eql∨op=.neq) (he:∀ w',(Op.equal t (.agg xs) (.agg ys)).run P w'=.ok r w') :
   ∀ w',(execOp ev o).run P w'=.ok (.value (.bool (if op=.eql then r else !r))) w':=fun w'=>by
 have hgd:(eqGuard op t x y (.agg xs) (.agg ys)).run P w'=.ok () w':=by
   rcases hop with rfl|rfl<;>simp [eqGuard,hg]
 simp only [execOp,ho,hx,hy,Sem.run_bind,hgd,Result.andThen_ok];rcases hop with rfl|rfl
 · simp [binOp,he w']
 · simp [binOp,he w']
variable (P) in
def evEqA (op:BinOp) (T:Nat) (ps qs:List SV) (K:SV→Prop):Prop:=match memN (TabC.eqs P) T,ty P T with
 | true,some i=>match i.row with
   | true=>match kindsT P 9 T with
     | some k0=>match kL ps,kL qs with
       | some k1,some k2=>match eqKs k0 k1,eqKs k0 k2 with
         | true,true=>evEq op (eqLs ps qs) K
         | _,_=>False
       | _,_=>False
     | none=>False
   | false=>False
 | _,_=>False
theorem evEqA_sound {op:BinOp} {T T':TypeId} {ps qs:List SV} (ho:o.op=.binOp op T x y T') (hx:evx P env x=some (.agg ps)) (hy:evx P env y=some (.agg qs)) (h:evEqA P op T ps qs K):PureK P S env objs nx o K:=by
 unfold evEqA at h
 split at h
 · rename_i i hm hi
   split at h
   · rename_i hrow
     split at h
     · rename_i k0 hk0
       split at h
       · rename_i k1 k2 hk1 hk2
         split at h
         · rename_i e1 e2
           obtain rfl:=eqKs_spec e1;obtain rfl:=eqKs_spec e2;obtain ⟨d,hd,hcase⟩:=evEq_sound h;have hguard:=(eq_ok hm).2.2;have run:∀ {σ a w},St P S σ env objs nx a w→(op=.eql∨op=.neq)→∀ w',(execOp a.eval o).run P w'=.ok (.value (.bool (if op=.eql then @decide d.p d.i else !(@decide d.p d.i)))) w':=by
             intro σ a w hst hop;obtain ⟨cs,e3,c1⟩:=hst.ev hx;obtain ⟨ds,e4,c2⟩:=hst.ev hy;refine run_eqA ho e3 e4 hguard hop fun w'=>?_
             obtain ⟨j,hj,_,_,heq⟩:=run_flat (P:=P) (w:=w') hk0;rw [hi] at hj;cases hj;obtain ⟨r,hr,hiff⟩:=heq _ _ (kL_fit hk1 c1) (kL_fit hk2 c2) 10000 (by omega)
             rw [hrow] at hr
             have:r=@decide d.p d.i:=by
               have h3:=hiff.trans (eqLs_spec hd c1 c2)
               cases r
               · simp only [Bool.false_eq_true,false_iff] at h3
                 exact (@decide_eq_false _ d.i h3).symm
               · exact (@decide_eq_true _ d.i (h3.1 rfl)).symm
             rw [← this];exact hr
           rcases hcase with ⟨rfl,hk⟩|⟨rfl,hk⟩
           · refine PureK.mk hk fun σ a w hst=>⟨_,hvD.2 rfl,?_⟩
             have:=run hst (.inl rfl)
             simpa using this
           · refine PureK.mk hk fun σ a w hst=>⟨.bool (!(@decide d.p d.i)),hvD.2 (by rw [notD_dec]),?_⟩
             have:=run hst (.inr rfl)
             simpa using this
         · exact h.elim
       · exact h.elim
     · exact h.elim
   · exact h.elim
 · exact h.elim
variable (P) in
def evBin2 (op:BinOp) (T:Nat) (s u:SV) (K:SV→Prop):Prop:=match s with
 | .agg ps=>match u with
   | .agg qs=>evEqA P op T ps qs K
   | _=>False
 | s=>evBin P op T s u K
theorem evBin2_sound {op:BinOp} {T T':TypeId} {s u:SV} (ho:o.op=.binOp op T x y T') (hx:evx P env x=some s) (hy:evx P env y=some u) (h:evBin2 P op T s u K):PureK P S env objs nx o K:=by
 unfold evBin2 at h
 split at h
 · split at h
   · exact evEqA_sound ho hx hy h
   · exact h.elim
 · exact evBin_sound ho hx hy h
end
end
end Go.Proofs.YtfljmihdeimahaaGreatDoor
