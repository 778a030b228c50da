import Derived.Test.YtfljmihdeimahaaGreatDoorZLPRec1
import Derived.Great.BuildSlice
import Derived.Lib.AppendStr
import Derived.Laws.MakeOwn
namespace Go.Proofs.YtfljmihdeimahaaGreatDoor
set_option linter.all false
open Go.RowKit
section
variable {P:Program} [TabC P] {S:Sig} {σ:Sg} {env:Env} {objs:List Ob} {nx:Nat} {o:Oper} {a:Act} {w:World} {x y:Operand} {K:SV→Prop}
theorem fill_congr {p q:Nat→Option (Nat×Nat)} (h:∀ i x,p i=some x→q i=some x):∀ (parts:List (Nat×Value)) (C out:Array Value),Instr.fill p C parts=some out→Instr.fill q C parts=some out
 | [],C,out,h0=>h0
 | (i,v)::r,C,out,h0=>by
   unfold Instr.fill at h0 ⊢
   split at h0
   · cases h0
   · rename_i off size hp
     rw [h _ _ hp]
     simp only
     split at h0
     · cases h0
     · rename_i hc
       rw [if_neg hc];exact fill_congr h r _ _ h0
theorem places_some (gs:List Field) (h:∀ f∈gs,(P.info? f.type).isSome=true):∃ pl:List (Nat×Nat),gs.mapM (fun f:Field=>(P.info? f.type).map fun i=>(f.offset,i.size))=some pl∧∀ (i:Nat) (f:Field) (inf:TypeInfo),gs[i]?=some f→P.info? f.type=some inf→pl[i]?=some (f.offset,inf.size):=by
 induction gs with
 | nil=>exact ⟨[],rfl,fun i f inf h=>by simp at h⟩
 | cons g r ih =>
   obtain ⟨pl,h1,h2⟩:=ih (fun f hf=>h f (List.mem_cons_of_mem _ hf))
   obtain ⟨inf,hi⟩:=Option.isSome_iff_exists.1 (h g (by simp))
   refine ⟨(g.offset,inf.size)::pl,by simp [h1,hi],fun i f inf' hf hinf=>?_⟩
   cases i with
   | zero=>simp at hf;subst hf;rw [hi] at hinf;cases hinf;rfl
   | succ i=>simp at hf ⊢;exact h2 i f inf' hf hinf
theorem putsP_spec {k:TK} {tab:List TI}:∀ {parts:List (Nat×Operand)} {ps ps':List SV},putsP P tab k env ps parts=some ps'→∀ {C:Array Value} {σ a w},St P S σ env objs nx a w→hL w (S.A σ objs) ps σ C.toList →
   ∃ C',Instr.fill (plc tab k) C (parts.map fun (i,x)=>(i,a.eval x))=some C'∧hL w (S.A σ objs) ps' σ C'.toList
 | [],ps,ps',h,C,σ,a,w,hst,hc=>by simp only [putsP,Option.some.injEq] at h;subst h;exact ⟨C,rfl,hc⟩
 | (i,x)::r,ps,ps',h,C,σ,a,w,hst,hc=>by
   unfold putsP at h
   split at h
   · rename_i s hs
     split at h
     · rename_i ps1 hp
       obtain ⟨C1,h1,h2,_⟩:=putP_spec (rest:=r.map fun (i,x)=>(i,a.eval x)) hp hc (hst.ev hs)
       obtain ⟨C2,h3,h4⟩:=putsP_spec h hst h2;exact ⟨C2,by rw [List.map_cons,h1,h3],h4⟩
     · cases h
   · cases h
variable (P) in
def evBuild (env:Env) (T:Nat) (parts:List (Nat×Operand)) (K:SV→Prop):Prop:=match ty P T with
 | some i=>match i.row with
   | true=>match zeroOf (TabC.tab P) 9 T with
     | some z=>match putsP P (TabC.tab P) i.k env z parts with
       | some ps=>frcL ps fun ps=>K (.agg ps)
       | none=>False
     | none=>False
   | false=>False
 | none=>False
theorem evBuild_sound {T:TypeId} {parts:Array (Nat×Operand)} (ho:o.op=.build T parts) (h:evBuild P env T parts.toList K):PureK P S env objs nx o K:=by
 unfold evBuild at h
 split at h
 · rename_i i ht
   split at h
   · rename_i hr
     split at h
     · rename_i ck hz
       split at h
       · rename_i ps hput
         refine PureK.mk (frcL_k h) fun σ a w hst=>?_
         obtain ⟨inf,z,hi,hz0,_,hzc⟩:=zero_spec (P:=P) hz;obtain ⟨C',hfill,hC⟩:=putsP_spec hput hst (hzc w (S.A σ objs) σ);refine ⟨.agg C',⟨C'.toList,by simp,hC⟩,fun w'=>?_⟩
         have hb:P.built T (parts.map fun (i,x)=>(i,a.eval x)).toList=some C':=by
           obtain ⟨inf',d,hi',hd,_,_,hb,hall⟩:=ty_spec ht;rw [hi] at hi';cases hi';unfold Program.built;rw [Array.toList_map];obtain ⟨k,sz,by0⟩:=i;have hsize:∀ (t:Nat) (j:TI),nth (TabC.tab P) t=some j→(P.info? t).map (·.size)=some j.size:=fun t j hj=>by
             obtain ⟨inf2,_,h2,_,h3,_,_,_⟩:=ty_spec (P:=P) (t:=t) (i:=j) hj
             simp [h2,h3]
           cases k with
           | st fl =>
             cases d<;>simp [tkB] at hb
             rename_i gs;simp only [hi,hd,hz0];obtain ⟨pl,h1',h2'⟩:=places_some (P:=P) gs.toList (List.all_eq_true.1 hall);simp only [h1'];refine fill_congr (fun i x hx=>?_) _ _ _ (by simpa using hfill)
             simp only [plc] at hx
             split at hx
             · rename_i off t hn
               split at hx
               · rename_i j hj
                 cases hx
                 rw [nth_eq,← hb,List.getElem?_map] at hn
                 cases hg:gs.toList[i]? with
                 | none=>simp [hg] at hn
                 | some f =>
                   simp only [hg,Option.map_some,Option.some.injEq,Prod.mk.injEq] at hn;obtain ⟨rfl,rfl⟩:=hn;have h3:=hsize _ _ hj
                   cases hinf:P.info? f.type with
                   | none=>simp [hinf] at h3
                   | some inf3 =>
                     simp only [hinf,Option.map_some,Option.some.injEq] at h3
                     have:=h2' i f inf3 hg hinf
                     rw [← h3];simpa using this
               · cases hx
             · cases hx
           | ar n e =>
             cases d<;>simp [tkB] at hb
             obtain ⟨rfl,rfl⟩:=hb;obtain ⟨ie,hinf⟩:=Option.isSome_iff_exists.1 hall;simp only [hi,hd,hz0,hinf];refine fill_congr (fun i x hx=>?_) _ _ _ (by simpa using hfill)
             simp only [plc] at hx
             split at hx
             · rename_i j hj
               have h3:=hsize _ _ hj;simp only [hinf,Option.map_some,Option.some.injEq] at h3;rw [h3];exact hx
             · cases hx
           | _=>simp [TI.row] at hr
         have:=run_build w' T (parts.map fun (i,x)=>(i,a.eval x)) _ hb
         simp [execOp,ho,this]
       · exact h.elim
     · exact h.elim
   · exact h.elim
 · exact h.elim
def vecT {n:Nat} (l:List (BitVec 8)) (h:n≤l.length):Vector (BitVec 8) n:=⟨(l.take n).toArray,by simp;omega⟩
variable (P) in
def evArr (T:Nat) (s:SV) (K:SV→Prop):Prop:=match ty P T with
 | some ⟨.ar n e,_,_⟩=>match s with
   | .fs 1 enc xs=>Ex (fun l:List (BitVec 8)=>xs.map enc=l.map eB) fun l=>Idx (0<n∧n≤l.length) fun h=>K (.fpt [.arr8 (vecT l h.2)])
   | _=>False
 | _=>False
theorem evArr_sound {T:TypeId} {s:SV} (ho:o.op=.sliceToArrayPointer T x) (hx:evx P env x=some s) (h:evArr P T s K):PureK P S env objs nx o K:=by
 unfold evArr at h
 split at h
 · rename_i n e _ _ ht
   split at h
   · rename_i α enc xs
     obtain ⟨l,he,⟨hn0,hn⟩,h⟩:=h;refine PureK.mk h fun σ a w hst=>?_
     obtain ⟨v,h0,hc⟩:=fs_ev hx hst;simp only [SV.hc,List.cons.injEq,and_true] at hc;obtain ⟨ad,c,rfl,h1,h2,h3,h4,h5⟩:=hc;have hlen:xs.length=l.length:=by have:=congrArg List.length he;simpa using this
     cases ad with
     | none=>have:=(h3 rfl).1;subst this;simp only [List.length_nil] at hlen;omega
     | some ad =>
       have hcase:=h5 ad rfl;obtain ⟨b,p,sp⟩:=ad;rcases hcase with rfl|⟨hsp,hA,C,T',fr,hg,hel⟩
       · simp only [List.length_nil] at hlen;omega
       simp only at hsp;subst hsp
       refine ⟨.pointer (some ⟨b,p,none⟩),?_,fun w'=>?_⟩
       · simp only [SV.hv,SV.h1,SV.hc]
         refine ⟨b,p,rfl,hA,C,T',fr,hg,?_⟩;rw [hL.single];simp only [SV.hc,szL,SV.sz,Nat.add_zero];have hcell:∀ i,i<n→C.toList[p+i]?=(l[i]?).map (bV .u8):=fun i hi=>by
           have hil:i<xs.length:=by omega
           have g:=hel i hil;have e1:enc xs[i]=eB (l[i]'(by omega)):=by
             have:=congrArg (fun m=>m[i]?) he
             simp only [List.getElem?_map] at this;rw [List.getElem?_eq_getElem hil,List.getElem?_eq_getElem (by omega)] at this
             simpa using this
           rw [e1,hL.single] at g;simp only [SV.hc] at g;have g2:((C.toList.drop (p+i*1)).take 1)[0]?=some (bV .u8 (l[i]'(by omega))):=by rw [g];rfl
           rw [List.getElem?_take,if_pos (by omega),List.getElem?_drop] at g2
           rw [List.getElem?_eq_getElem (by omega:i<l.length)]
           simpa using g2
         apply List.ext_getElem?
         intro i
         by_cases hi:i<n
         · rw [List.getElem?_take,if_pos hi,List.getElem?_drop,hcell i hi]
           simp [vecT,List.getElem?_take,hi]
         · rw [List.getElem?_take,if_neg hi]
           simp only [vecT,List.getElem?_map];rw [List.getElem?_eq_none (by simp;omega)];rfl
       · simp only [execOp,ho,h0,Instr.arrayAt,Sem.run_bind,run_underlying (ty_array ht rfl),Result.andThen_ok]
         rw [if_neg (by omega)]
         rfl
   · exact h.elim
 · exact h.elim
variable (P) in
def ev1 (env:Env) (x:Operand) (K:SV→Prop):Prop:=match evx P env x with
 | some s=>K s
 | none=>False
theorem ev1_spec {x:Operand} {K:SV→Prop} (h:ev1 P env x K):∃ s,evx P env x=some s∧K s:=by
 unfold ev1 at h;split at h
 · exact ⟨_,by assumption,h⟩
 · exact h.elim
variable (P) in
def evPure (env:Env) (objs:List Ob) (op:Op) (K:SV→Prop):Prop:=match op with
 | .move x=>ev1 P env x fun s=>frc s K
 | .assign x=>ev1 P env x fun s=>frc s K
 | .pick c x y=>ev1 P env c fun c=>ev1 P env x fun s=>ev1 P env y fun u=>evPick c s u K
 | .unOp u _ x=>ev1 P env x fun s=>evUn u s K
 | .binOp b T x y _=>ev1 P env x fun s=>ev1 P env y fun u=>evBin2 P b T s u K
 | .convert src dst x=>ev1 P env x fun s=>evConv P src dst s K
 | .fieldAddr T x f=>ev1 P env x fun s=>evFieldAddr P T f s K
 | .field T x f=>ev1 P env x fun s=>evField P T f s K
 | .indexAddr T x y=>ev1 P env x fun s=>ev1 P env y fun u=>evIndexAddr P objs T s u K
 | .index T x y=>ev1 P env x fun s=>ev1 P env y fun u=>evIndex P T s u K
 | .extract x i=>ev1 P env x fun s=>evExtract s i K
 | .nilCheck x=>ev1 P env x fun s=>match notNil s with
   | true=>frc s K
   | false=>False
 | .build T ps=>evBuild P env T ps.toList K
 | .slice T x lo hi mx=>ev1 P env x fun s=>match bndE P env lo,bndE P env hi,bndE P env mx with
   | some l,some h,some m=>match mx,hi with
     | none,_=>evSlice P objs T s l h m K
     | some _,some _=>evSlice P objs T s l h m K
     | _,_=>False
   | _,_,_=>False
 | .sliceToArrayPointer T x=>ev1 P env x fun s=>evArr P T s K
 | .call c=>match c with
   | { callee:=.builtin .len,args:=⟨[x]⟩,argTypes:=⟨[T]⟩ }=>match ty P T with
     | some ⟨.ar _ _,_,_⟩=>evLen P objs T .undef K
     | _=>ev1 P env x fun s=>evLen P objs T s K
   | { callee:=.builtin .cap,args:=⟨[x]⟩,argTypes:=⟨[T]⟩ }=>ev1 P env x fun s=>match ty P T,s with
     | some ⟨.sl _,_,_⟩,.nils=>K (.int .i64 0)
     | _,_=>False
   | { callee:=.builtin .max,args:=⟨[x,y]⟩,.. }=>ev1 P env x fun s=>ev1 P env y fun u=>evMM true s u K
   | { callee:=.builtin .min,args:=⟨[x,y]⟩,.. }=>ev1 P env x fun s=>ev1 P env y fun u=>evMM false s u K
   | { callee:=.builtin .min,args:=⟨[x,y,z]⟩,.. }=>ev1 P env x fun s=>ev1 P env y fun u=>ev1 P env z fun v=>evMin3 s u v K
   | { callee:=.builtin .max,args:=⟨[x,y,z,q]⟩,.. }=>ev1 P env x fun s=>ev1 P env y fun u=>ev1 P env z fun v=>ev1 P env q fun t=>evMax4 s u v t K
   | _=>False
 | _=>False
theorem evPure_sound (h:evPure P env objs o.op K):PureK P S env objs nx o K:=by
 unfold evPure at h
 split at h
 · rename_i ho;obtain ⟨s,hs,h⟩:=ev1_spec h;exact evMove_sound (.inl ho) hs h
 · rename_i ho;obtain ⟨s,hs,h⟩:=ev1_spec h;exact evMove_sound (.inr ho) hs h
 · rename_i ho;obtain ⟨c,hc,h⟩:=ev1_spec h;obtain ⟨s,hs,h⟩:=ev1_spec h;obtain ⟨u,hu,h⟩:=ev1_spec h;exact evPick_sound ho hc hs hu h
 · rename_i ho;obtain ⟨s,hs,h⟩:=ev1_spec h;exact evUn_sound ho hs h
 · rename_i ho;obtain ⟨s,hs,h⟩:=ev1_spec h;obtain ⟨u,hu,h⟩:=ev1_spec h;exact evBin2_sound ho hs hu h
 · rename_i ho;obtain ⟨s,hs,h⟩:=ev1_spec h;exact evConv_sound ho hs h
 · rename_i ho;obtain ⟨s,hs,h⟩:=ev1_spec h;exact evFieldAddr_sound ho hs h
 · rename_i ho;obtain ⟨s,hs,h⟩:=ev1_spec h;exact evField_sound ho hs h
 · rename_i ho;obtain ⟨s,hs,h⟩:=ev1_spec h;obtain ⟨u,hu,h⟩:=ev1_spec h;exact evIndexAddr_sound ho hs hu h
 · rename_i ho;obtain ⟨s,hs,h⟩:=ev1_spec h;obtain ⟨u,hu,h⟩:=ev1_spec h;exact evIndex_sound ho hs hu h
 · rename_i ho;obtain ⟨s,hs,h⟩:=ev1_spec h;exact evExtract_sound ho hs h
 · rename_i ho;obtain ⟨s,hs,h⟩:=ev1_spec h
   split at h
   · rename_i hn;exact evNilCheck_sound ho hs hn (frc_k h)
   · exact h.elim
 · rename_i ho;exact evBuild_sound ho h
 · rename_i ho;obtain ⟨s,hs,h⟩:=ev1_spec h
   split at h
   · rename_i hl hh hm
     split at h
     · exact evSlice_sound ho hs hl hh hm (.inl rfl) h
     · exact evSlice_sound ho hs hl hh hm (.inr (by simp)) h
     · exact h.elim
   · exact h.elim
 · rename_i ho;obtain ⟨s,hs,h⟩:=ev1_spec h;exact evArr_sound ho hs h
 · rename_i ho
   split at h
   · split at h
     · rename_i n e _ _ ht
       unfold evLen at h;rw [ht] at h
       simp only at h
       split at h
       · rename_i hlt
         have hlt':n<9223372036854775808:=by simpa [Nat.blt_eq] using hlt
         refine PureK.mk h fun σ a w hst=>⟨.int .i64 n,hvI.2 ⟨rfl,fun _=>⟨by omega,by omega⟩⟩,fun w'=>?_⟩
         simp [execOp,ho,resolve,invoke,builtin,Builtin.len_,run_underlying (ty_array ht rfl),goInt]
       · exact h.elim
     · obtain ⟨s,hs,h⟩:=ev1_spec h;exact evLen_sound ho hs h
   · obtain ⟨s,hs,h⟩:=ev1_spec h
     split at h
     · rename_i ht
       refine PureK.mk h fun σ a w hst=>⟨.int .i64 0,hvI.2 ⟨rfl,fun _=>⟨by omega,by omega⟩⟩,fun w'=>?_⟩
       have hv:=hst.ev hs;simp only [SV.hv,SV.h1,SV.hc,List.cons.injEq,and_true] at hv
       simp [execOp,ho,resolve,invoke,builtin,hv,Builtin.cap_,run_underlying (ty_slice ht rfl),goInt]
     · exact h.elim
   · obtain ⟨s,hs,h⟩:=ev1_spec h;obtain ⟨u,hu,h⟩:=ev1_spec h;exact evMM_sound (mx:=true) ho hs hu h
   · obtain ⟨s,hs,h⟩:=ev1_spec h;obtain ⟨u,hu,h⟩:=ev1_spec h;exact evMM_sound (mx:=false) ho hs hu h
   · obtain ⟨s,hs,h⟩:=ev1_spec h;obtain ⟨u,hu,h⟩:=ev1_spec h;obtain ⟨v,hv,h⟩:=ev1_spec h;exact evMin3_sound ho hs hu hv h
   · obtain ⟨s,hs,h⟩:=ev1_spec h;obtain ⟨u,hu,h⟩:=ev1_spec h;obtain ⟨v,hv,h⟩:=ev1_spec h;obtain ⟨t,ht,h⟩:=ev1_spec h;exact evMax4_sound ho hs hu hv ht h
   · exact h.elim
 · exact h.elim
variable (P) in
def evLd (env:Env) (objs:List Ob) (op:Op) (K:SV→Prop):Prop:=match op with
 | .load T x=>ev1 P env x fun s=>evLoad P objs T s K
 | _=>False
theorem evLd_sound (h:evLd P env objs o.op K):LoadK P S env objs nx o K:=by
 unfold evLd at h
 split at h
 · rename_i ho;obtain ⟨s,hs,h⟩:=ev1_spec h;exact evLoad_sound ho hs h
 · exact h.elim
end
section
variable {P:Program} [TabC P] {S:Sig} {σ:Sg} {env:Env} {objs:List Ob} {nx:Nat} {o:Oper} {a:Act} {w:World} {x y:Operand}
def setO:List Ob→Nat→Nat→SO→Option (List Ob)
 | [],_,_,_=>none
 | (k,so)::r,n,n',so'=>match Nat.beq k n with
   | true=>some ((n',so')::r)
   | false=>match setO r n n' so' with
     | some r'=>some ((k,so)::r')
     | none=>none
theorem setO_spec:∀ {l l':List Ob} {n n':Nat} {so so':SO},lk l n=some so→setO l n n' so'=some l'→SetO l (n,so) (n',so') l'
 | [],_,_,_,_,_,h,_=>by simp [lk] at h
 | (k,u)::r,l',n,n',so,so',h,h2=>by
   unfold lk at h;unfold setO at h2
   split at h
   · rename_i hb
     cases h
     rw [hb] at h2;simp only [Option.some.injEq] at h2;subst h2;obtain rfl:=Nat.eq_of_beq_eq_true hb;exact .here
   · rename_i hb
     rw [hb] at h2
     simp only at h2
     split at h2
     · rename_i r' hr
       simp only [Option.some.injEq] at h2;subst h2;exact .there (setO_spec h hr)
     · cases h2
def setK (objs:List Ob) (n n':Nat) (so:SO) (K:List Ob→Prop):Prop:=match setO objs n n' so with
 | some l=>K l
 | none=>False
theorem SetO.owns_le {l m:List Ob} {p q:Ob} (h:SetO l p q m) (hq:∀ b,q.2.own σ q.1 b→p.2.own σ p.1 b):∀ b,owns σ m b→owns σ l b:=fun b hb=>by
 obtain ⟨R,h1,h2,_⟩:=h.owns_iff (σ:=σ);rcases (h2 b).1 hb with h|h
 · exact (h1 b).2 (.inl h)
 · exact (h1 b).2 (.inr (hq b h))
theorem St.ghost {p q:Ob} {objs':List Ob} (h:St P S σ env objs nx a w) (hs:SetO objs p q objs') (hq:q.2.holds w (S.A σ objs') σ q.1) (hqo:∀ b,q.2.own σ q.1 b→p.2.own σ p.1 b):St P S σ env objs' nx a w:=by
 have hle:=hs.owns_le hqo;exact h.upd (M:=fun _=>False) (Mod.refl _ w) (fun _ x=>x.elim) (fun b hb=>.inl (hle b hb)) (h.obs.set hs (Mod.refl _ w) hq (fun b hb=>.inl (hqo b hb)) h.a0lt)
theorem rowH.fs {A A':Own} {k e z:Nat} {α:Type} {enc:α→List SV} {xs:List α} (h:rowH w A σ k e z (xs.map enc)) (hA:∀ b,A' b→A b) (hv:∀ b v,σ k=some v→blkO v=some b→¬ A' b):∃ v,σ k=some v∧(SV.fs z enc xs).hc w A' sg0 [v]:=by
 obtain ⟨v,cs,h0,h1,h2,h3,ho⟩:=h;refine ⟨v,h0,?_⟩;rw [List.length_map] at *;have hsz:∀ i (h:i<xs.length),szL (enc xs[i])=z:=fun i hi=>h1 _ (List.mem_map.2 ⟨_,List.getElem_mem hi,rfl⟩)
 have hmx:(140737488355328:Nat)≤maxLen:=by decide
 rcases ho.2 with ⟨rfl,hn⟩|⟨g,cap,cur,rfl,hb0,hg,hn,hc,hs,ht⟩
 · have:xs=[]:=List.eq_nil_of_length_eq_zero hn
   subst this;simp only [SV.hc];exact ⟨none,0,rfl,Nat.le_refl _,by decide,fun _=>by simp,hsz,fun ad had=>by cases had⟩
 · simp only [SV.hc,List.cons.injEq,and_true]
   refine ⟨some ⟨g,0,none⟩,cap,rfl,hn,hc,fun h=>(by cases h),hsz,fun ad had=>?_⟩
   simp only [Option.some.injEq] at had;subst had;refine .inr ⟨rfl,hv g _ h0 rfl,cur,e,(0,0),hg,fun i hi=>?_⟩
   have h4:=h3.get (z:=z) h1 (i:=i) (e:=enc xs[i]) (by simp [hi])
   have h5:=hL.later (Later.own hA) _ _ _ h4;have hmul:(i+1)*z≤xs.length*z:=Nat.mul_le_mul_right _ hi;rw [Nat.add_mul,Nat.one_mul] at hmul;rw [← ht,List.drop_take,List.take_take,Nat.min_eq_left (by omega)] at h5
   simpa using h5
def noName:List SV→Bool
 | []=>true
 | .ptr _ _::_=>false
 | .own _::_=>false
 | .rptr _ _ _ _::_=>false
 | .cptr _ _ _::_=>false
 | .bsl _ _ _ _::_=>false
 | _::r=>noName r
theorem noName_spec:∀ {l:List SV},noName l=true→∀ {w:World} {A:Own} {σ σ':Sg} {cs:List Value},hL w A l σ cs→hL w A l σ' cs
 | [],_,w,A,σ,σ',cs,h=>h
 | s::r,hn,w,A,σ,σ',cs,h=>by
   simp only [hL] at h ⊢;obtain ⟨a,b,h1,h2,h3⟩:=h;refine ⟨a,b,h1,?_,noName_spec (l:=r) (by cases s<;>simp_all [noName]) h3⟩
   cases s<;>first|exact h2|(simp [noName] at hn)|(simp only [SV.hc] at h2 ⊢;exact h2)
def frz (objs:List Ob) (k:Nat) (K:List Ob→Prop):Prop:=match lk objs k with
 | some (.row _ z enc xs)=>setK objs k k (.frow z enc xs) K
 | some (.box T ps)=>match noName ps with
   | true=>setK objs k k (.fbox T ps) K
   | false=>False
 | some (.frow _ _ _)=>K objs
 | some (.fbox _ _)=>K objs
 | _=>False
theorem own_disj {p q:Ob} {objs':List Ob} (h:St P S σ env objs nx a w) (hs:SetO objs p q objs') (hq:∀ b,¬ q.2.own σ q.1 b):∀ b,p.2.own σ p.1 b→¬ (S.A σ objs') b:=fun b hb hx=>by
 obtain ⟨R,h1,h2,h3⟩:=hs.owns_iff (σ:=σ);rcases hx with hx|hx
 · exact (h.obs.lt b ((h1 b).2 (.inr hb))).2 hx
 · rcases (h2 b).1 hx with hR|hqq
   · exact h3 h.obs.disj b hR hb
   · exact hq b hqq
def GS (P:Program) [TabC P] (objs objs':List Ob):Prop:=(∀ S env nx σ a w,St P S σ env objs nx a w→St P S σ env objs' nx a w)∧∀ σ b,owns σ objs' b→owns σ objs b
theorem frz_sound {k:Nat} {K:List Ob→Prop} (h:frz objs k K):∃ objs',K objs'∧GS P objs objs':=by
 unfold frz setK at h
 split at h
 · rename_i e z α enc xs hk
   split at h
   · rename_i l hl
     have hs:=setO_spec hk hl;refine ⟨l,h,fun S env nx σ a w hst=>?_,fun σ=>hs.owns_le (fun b hb=>hb.elim)⟩
     have hd:=own_disj hst hs (fun b hb=>hb)
     exact hst.ghost hs (rowH.fs (lk_holds hst hk) (fun b hb=>hb.imp id (hs.owns_le (fun b hb=>hb.elim) b)) (fun b v h1 h2=>hd b ⟨v,h1,h2⟩)) (fun b hb=>hb.elim)
   · exact h.elim
 · rename_i T ps hk
   split at h
   · rename_i hn
     split at h
     · rename_i l hl
       have hs:=setO_spec hk hl;refine ⟨l,h,fun S env nx σ a w hst=>?_,fun σ=>hs.owns_le (fun b hb=>hb.elim)⟩
       have hd:=own_disj hst hs (fun b hb=>hb)
       obtain ⟨b,cs,h1,h2,h3⟩:=lk_holds hst hk;refine hst.ghost hs ⟨_,h1,?_,b,rfl⟩ (fun b hb=>hb.elim)
       simp only [SV.hc];refine ⟨b,0,rfl,hd b ⟨_,h1,rfl⟩,_,T,(0,0),h2,?_⟩;have h4:=noName_spec hn (σ':=sg0) (hL.later (Later.own (A:=S.A σ objs) (A':=S.A σ l) fun b hb=>hb.imp id (hs.owns_le (fun b hb=>hb.elim) b)) _ _ _ h3)
       rw [← h3.len];simpa using h4
     · exact h.elim
   · exact h.elim
 · exact ⟨objs,h,fun _ _ _ _ _ _ h=>h,fun _ _ h=>h⟩
 · exact ⟨objs,h,fun _ _ _ _ _ _ h=>h,fun _ _ h=>h⟩
 · exact h.elim
abbrev KS:=Env→List Ob→Nat→Prop
variable (P) in
def DoesK (S:Sig) (env:Env) (objs:List Ob) (nx:Nat) (o:Oper) (kept:Bool) (K:KS):Prop :=
 ∀ σ a w,St P S σ env objs nx a w→∀ (X:Act→World→Prop) (Q:Exit→Act→World→Prop),(∀ σ' env' objs' nx' a' w',K env' objs' nx'→St P S σ' env' objs' nx' a' w'→(kept=true→Kept w w')→X a' w')→o.wp P a w X Q
theorem DoesK.of {kept:Bool} {K:KS} {env':Env} {objs':List Ob} {nx':Nat} (hk:K env' objs' nx') (h:∀ σ a w,St P S σ env objs nx a w→∃ r v w' σ',(execOp a.eval o).run P w=.ok r w'∧(r=.value v∨(r=.skip∧v=undef))∧St P S σ' env' objs' nx' (a.put o.dst v) w'∧(kept=true→Kept w w')):DoesK P S env objs nx o kept K:=fun σ a w hst X Q hX=>by
 obtain ⟨r,v,w',σ',hrun,hr,hst',hkp⟩:=h σ a w hst;unfold Oper.wp;rw [hrun];rcases hr with rfl|⟨rfl,rfl⟩
 · exact hX _ _ _ _ _ _ hk hst' hkp
 · exact hX _ _ _ _ _ _ hk hst' hkp
theorem St.newBox (h:St P S σ env objs nx a w) {C:Array Value} {T:TypeId} {ps:List SV} (hC:hL w (S.A σ objs) ps σ C.toList) :
   St P S (σ.set nx (.pointer (some ⟨w.heap.size,0,none⟩))) env ((nx,.box T ps)::objs) (nx+1) a (w.alloc (.cells C T)):=by
 have h1:=h.name (.pointer (some ⟨w.heap.size,0,none⟩));have hle:=Sg.le_set (σ:=σ) (v:=.pointer (some ⟨w.heap.size,0,none⟩)) (h.dom nx (Nat.le_refl _));have hown:∀ b,owns (σ.set nx (.pointer (some ⟨w.heap.size,0,none⟩))) ((nx,.box T ps)::objs) b→owns (σ.set nx (.pointer (some ⟨w.heap.size,0,none⟩))) objs b∨w.heap.size≤b:=fun b hb=>by
   rcases hb with ⟨v,hv,hb⟩|hb
   · simp only [Sg.set_self,Option.some.injEq] at hv
     subst hv;simp only [blkO,Option.some.injEq] at hb;subst hb;exact .inr (Nat.le_refl _)
   · exact .inl hb
 refine h1.upd (M:=fun _=>False) (Mod.alloc _ w _) (fun _ x=>x.elim) hown (h1.obs.cons (Mod.alloc _ w _) ?_ (fun b hb=>?_) h.a0lt)
 · refine ⟨w.heap.size,C.toList,Sg.set_self _ _ _,by simpa using heap_alloc_new w _,?_⟩
   have e1:=hL.names _ _ hle hC;refine hL.later ?_ _ _ _ e1;refine (Mod.alloc (fun _=>False) w (.cells C T)).later (fun _ x=>x.elim) (fun b hb hx=>hx.imp id fun hx=>?_)
   have:=(hown b hx).resolve_right (by omega)
   exact (owns_names hle h.obs.holds b).1 this
 · obtain ⟨v,hv,hb⟩:=hb
   simp only [Sg.set_self,Option.some.injEq] at hv;subst hv;simp only [blkO,Option.some.injEq] at hb;subst hb;exact Nat.le_refl _
variable (P) in
def dstK (n:Nat) (d:Option Nat) (K:Nat→Prop):Prop:=match d with
 | some d=>match Nat.blt d n with
   | true=>K d
   | false=>False
 | none=>False
theorem dstK_spec {n:Nat} {d:Option Nat} {K:Nat→Prop} (h:dstK n d K):∃ k,d=some k∧k<n∧K k:=by
 unfold dstK at h
 split at h
 · split at h
   · rename_i hb;exact ⟨_,rfl,by simpa [Nat.blt_eq] using hb,h⟩
   · exact h.elim
 · exact h.elim
variable (P) in
def evAlloc (n:Nat) (dst:Option Nat) (env:Env) (objs:List Ob) (nx:Nat) (T:Nat) (K:KS):Prop:=dstK n dst fun d=>match zeroOf (TabC.tab P) 9 T with
 | some z=>frcL z fun z=>K ((d,.ptr nx 0)::env) ((nx,.box T z)::objs) (nx+1)
 | none=>False
theorem ptr_self {A:Own} (k:Nat) (b:Nat):(SV.ptr k 0).hv w A (σ.set k (.pointer (some ⟨b,0,none⟩))) (.pointer (some ⟨b,0,none⟩)):=⟨b,0,Sg.set_self _ _ _,rfl⟩
theorem evAlloc_sound {T:TypeId} {K:KS} (ho:o.op=.alloc T) (h:evAlloc P S.n o.dst env objs nx T K):DoesK P S env objs nx o true K:=by
 obtain ⟨d,hd,hlt,h⟩:=dstK_spec h
 split at h
 · rename_i z hz
   obtain ⟨inf,zv,hi,hz0,_,hzc⟩:=zero_spec (P:=P) hz;refine DoesK.of (frcL_k (K:=fun z=>K ((d,.ptr nx 0)::env) ((nx,.box T z)::objs) (nx+1)) h) fun σ a w hst=>⟨.value (.pointer (some ⟨w.heap.size,0,none⟩)),_,w.alloc (.cells zv.cells T),σ.set nx (.pointer (some ⟨w.heap.size,0,none⟩)),?_,.inl rfl,?_,fun _=>Mod.alloc _ w _⟩
   · simp [execOp,ho,Instr.alloc,zeroValue,typeInfo,hi,hz0,newVar,newRow]
   · rw [hd]
     exact (hst.newBox (hzc w _ _)).put hlt (ptr_self nx _)
 · exact h.elim
variable (P) in
def evBox (n:Nat) (dst:Option Nat) (env:Env) (objs:List Ob) (nx:Nat) (T:Nat) (s:SV) (K:KS):Prop:=dstK n dst fun d=>match prt s with
 | some ps=>frcL ps fun ps=>K ((d,.ptr nx 0)::env) ((nx,.box T ps)::objs) (nx+1)
 | none=>False
theorem evBox_sound {T:TypeId} {s:SV} {K:KS} (ho:o.op=.box T x) (hx:evx P env x=some s) (h:evBox S.n o.dst env objs nx T s K):DoesK P S env objs nx o true K:=by
 obtain ⟨d,hd,hlt,h⟩:=dstK_spec h
 split at h
 · rename_i ps hps
   refine DoesK.of (frcL_k (K:=fun z=>K ((d,.ptr nx 0)::env) ((nx,.box T z)::objs) (nx+1)) h) fun σ a w hst=>⟨.value (.pointer (some ⟨w.heap.size,0,none⟩)),_,w.alloc (.cells (a.eval x).cells T),σ.set nx (.pointer (some ⟨w.heap.size,0,none⟩)),?_,.inl rfl,?_,fun _=>Mod.alloc _ w _⟩
   · simp [execOp,ho,Instr.box,newVar,newRow]
   · rw [hd]
     exact (hst.newBox (prt_spec hps (hst.ev hx))).put hlt (ptr_self nx _)
 · exact h.elim
end
section
variable {P:Program} [TabC P] {S:Sig} {σ:Sg} {env:Env} {objs:List Ob} {nx:Nat} {o:Oper} {a:Act} {w:World} {x y:Operand} {K:KS}
theorem run_storeVar_at {T:Nat} {i:TI} (ht:ty P T=some i) {w:World} {b off:Nat} {C:Array Value} {t':TypeId} (hg:w.heap[b]?=some (.cells C t' (0,0)))
   {v:Value} {l:List Value} (hv:v.cells.toList=l) (hs:l.length=i.size) (hfit:off+l.length≤C.size) (h1:∀ u∈l,u.oneCell'=true) :
   (storeVar T ⟨b,off,none⟩ v).run P w=.ok () (w.setRow b (C.toList.take off++l++C.toList.drop (off+l.length)).toArray):=by
 have hst:=run_storeCells_at P b off t' l 0 C w hg (by simpa using hfit) h1
 simp only [Nat.add_zero] at hst;have hsz:v.cells.size=i.size:=by rw [← hs,← hv];simp
 simp [storeVar,run_sizeOf' ht,hsz,hv,hst]
theorem box_turn {k T':Nat} {ps ps':List SV} {objs':List Ob} {T:Nat} {i:TI} {off:Nat} (ho:o.op=.store T x y) (hd:o.dst=none) (ht:ty P T=some i) (hk:lk objs k=some (.box T' ps)) (hl:setO objs k k (.box T' ps')=some objs') (hK:K env objs' nx)
   (hx:∀ {σ a w},St P S σ env objs nx a w→∀ b,σ k=some (.pointer (some ⟨b,0,none⟩))→a.eval x=.pointer (some ⟨b,off,none⟩))
   (hv:∀ {σ a w cs},St P S σ env objs nx a w→hL w (S.A σ objs) ps σ cs→(a.eval y).cells.toList.length=i.size∧(∀ u∈(a.eval y).cells.toList,u.oneCell'=true)∧off+i.size≤cs.length ∧
     hL w (S.A σ objs) ps' σ (cs.take off++(a.eval y).cells.toList++cs.drop (off+(a.eval y).cells.toList.length))):DoesK P S env objs nx o false K:=by
 have hs:=setO_spec hk hl;refine DoesK.of hK fun σ a w hst=>?_
 obtain ⟨b,cs,h1,h2,h3⟩:=lk_holds hst hk;obtain ⟨v1,v2,v3,v4⟩:=hv hst h3;have hrun:=run_storeVar_at (P:=P) ht h2 rfl v1 (by rw [v1];simpa using v3) v2
 have hm:=Mod.setRow w b (cs.take off++(a.eval y).cells.toList++cs.drop (off+(a.eval y).cells.toList.length)).toArray;obtain ⟨R,e1,e2,_⟩:=hs.owns_iff (σ:=σ);have hbown:∀ so:SO,(∃ ps,so=.box T' ps)→∀ c,so.own σ k c↔c=b:=by
   rintro so ⟨ps,rfl⟩ c;simp only [SO.own,h1,Option.some.injEq]
   constructor
   · rintro ⟨v,rfl,h⟩;simp only [blkO,Option.some.injEq] at h;exact h.symm
   · rintro rfl;exact ⟨_,rfl,rfl⟩
 have hM:∀ c,c=b→owns σ objs c:=fun c hc=>(e1 c).2 (.inr ((hbown _ ⟨ps,rfl⟩ c).2 hc))
 have hown:∀ c,owns σ objs' c→owns σ objs c∨w.heap.size≤c:=fun c hc=>.inl ((e1 c).2 (((e2 c).1 hc).imp id fun h=>(hbown _ ⟨ps,rfl⟩ c).2 ((hbown _ ⟨ps',rfl⟩ c).1 h)))
 refine ⟨.skip,undef,w.setRow b (cs.take off++(a.eval y).cells.toList++cs.drop (off+(a.eval y).cells.toList.length)).toArray,σ,?_,.inr ⟨rfl,rfl⟩,?_,fun e=>by cases e⟩
 · simp only [execOp,ho,hx hst b h1,Instr.storeAt,Instr.sureAddr,Sem.run_bind,Sem.run_pure,Result.andThen_ok,hrun]
 · rw [hd]
   refine hst.upd hm hM hown (hst.obs.set hs (hm.mono fun c hc=>(hbown _ ⟨ps,rfl⟩ c).2 hc) ⟨b,_,h1,setRow_heap w b _ _ T' _ h2,?_⟩ (fun c hc=>.inl ((hbown _ ⟨ps,rfl⟩ c).2 ((hbown _ ⟨ps',rfl⟩ c).1 hc))) hst.a0lt)
   exact hL.later (hst.lat hm hM hown) _ _ _ v4
theorem hE_set {A:Own} {z size off:Nat} {qs e e':List SV} {ds:List Value} (hs:setP e off size qs=some e') (hd:hL w A qs σ ds):∀ {els:List (List SV)} {cs:List Value} {q:Nat},hE w A σ els cs→(∀ e∈els,szL e=z)→els[q]?=some e →
   hE w A σ (els.set q e') (cs.take (q*z+off)++ds++cs.drop (q*z+off+ds.length))∧ds.length=size∧q*z+off+size≤cs.length∧szL e'=z
 | [],cs,q,h,hz,hq=>by simp at hq
 | e0::r,cs,0,⟨c,rest,hcs,h1,hr⟩,hz,hq=>by
   subst hcs;simp only [List.getElem?_cons_zero,Option.some.injEq] at hq;subst hq;obtain ⟨s1,s2,s3,s4⟩:=setP_spec hs h1 hd;have hcz:c.length=z:=by rw [h1.len];exact hz _ (by simp)
   refine ⟨?_,s2,by rw [List.length_append];omega,by rw [s4];exact hz _ (by simp)⟩
   simp only [Nat.zero_mul,Nat.zero_add,List.set_cons_zero,hE];refine ⟨_,rest,?_,s1,hr⟩;rw [List.take_append_of_le_length (by omega),List.drop_append_of_le_length (by omega)]
   simp [List.append_assoc]
 | e0::r,cs,q+1,⟨c,rest,hcs,h1,hr⟩,hz,hq=>by
   subst hcs;simp only [List.getElem?_cons_succ] at hq;have hcz:c.length=z:=by rw [h1.len];exact hz _ (by simp)
   obtain ⟨s1,s2,s3,s4⟩:=hE_set hs hd hr (fun e he=>hz e (List.mem_cons_of_mem _ he)) hq
   have e1:(q+1)*z+off=c.length+(q*z+off):=by rw [Nat.add_mul,Nat.one_mul];omega
   refine ⟨?_,s2,by rw [List.length_append];omega,s4⟩
   simp only [List.set_cons_succ,hE];refine ⟨c,_,?_,h1,s1⟩;rw [e1,List.take_length_add_append,Nat.add_assoc,← List.drop_drop,List.drop_left]
   simp [List.append_assoc]
theorem row_turn {k e z q off:Nat} {els:List (List SV)} {so so':SO} {pe pe' qs:List SV} {objs':List Ob} {T:Nat} {i:TI} {s:SV} (ho:o.op=.store T x y) (hd:o.dst=none) (ht:ty P T=some i) (hk:lk objs k=some so) (hl:setO objs k k so'=some objs') (hK:K env objs' nx)
   (hso:∀ w A σ,so.holds w A σ k↔rowH w A σ k e z els) (hso':∀ w A σ,so'.holds w A σ k↔rowH w A σ k e z (els.set q pe')) (hown:∀ σ b,so.own σ k b↔∃ v,σ k=some v∧blkO v=some b) (hown':∀ σ b,so'.own σ k b↔∃ v,σ k=some v∧blkO v=some b)
   (hx:evx P env x=some (.rptr k q z off)) (hy:evx P env y=some s) (hq:els[q]?=some pe) (hp:prt s=some qs) (hnn:noName qs=true) (hset:setP pe off i.size qs=some pe'):DoesK P S env objs nx o false K:=by
 have hs:=setO_spec hk hl;refine DoesK.of hK fun σ a w hst=>?_
 have hh:=(hso _ _ _).1 (lk_holds hst hk);have hq':q<els.length:=(List.getElem?_eq_some_iff.1 hq).1;have hlen47:els.length≤140737488355328:=by obtain ⟨_,_,_,_,h,_⟩:=hh;exact h
 obtain ⟨g,cap,cur,f1,f2,f3,f4,f5,f6,f7⟩:=hh.form hq';obtain ⟨g',l,c,e1,e2⟩:=rptr_ev hx hst;rw [f1] at e1;cases e1;have hval:=noName_spec hnn (σ':=sg0) (prt_spec hp (hst.ev hy));obtain ⟨s1,s2,s3,s4⟩:=hE_set hset hval f6 f7 hq;have hone:=hL.one _ _ _ hval;have s2':(a.eval y).cells.size=i.size:=by simpa using s2
 have hcl:(cur.toList.take (els.length*z)).length=els.length*z:=by rw [List.length_take];have:=Nat.mul_le_mul_right z f3;simp;omega
 rw [hcl] at s3;have hcap:els.length*z≤cap*z:=Nat.mul_le_mul_right z f3;have hfit:q*z+off+(a.eval y).cells.toList.length≤cur.size:=by rw [s2,f5];omega
 have hrun:=run_storeVar_at (P:=P) ht f2 (off:=q*z+off) rfl s2 hfit hone;have hm:=Mod.setRow w g (cur.toList.take (q*z+off)++(a.eval y).cells.toList++cur.toList.drop (q*z+off+(a.eval y).cells.toList.length)).toArray;obtain ⟨R,r1,r2,_⟩:=hs.owns_iff (σ:=σ);have hb:∀ b,(∃ v,σ k=some v∧blkO v=some b)↔b=g:=fun b=>by
   rw [f1]
   constructor
   · rintro ⟨v,hv,h⟩;cases hv;simp only [blkO,Option.some.injEq] at h;exact h.symm
   · rintro rfl;exact ⟨_,rfl,rfl⟩
 have hM:∀ c,c=g→owns σ objs c:=fun c hc=>(r1 c).2 (.inr ((hown σ c).2 ((hb c).2 hc)))
 have how:∀ c,owns σ objs' c→owns σ objs c∨w.heap.size≤c:=fun c hc=>.inl ((r1 c).2 (((r2 c).1 hc).imp id fun h=>(hown σ c).2 ((hown' σ c).1 h)))
 refine ⟨.skip,undef,w.setRow g (cur.toList.take (q*z+off)++(a.eval y).cells.toList++cur.toList.drop (q*z+off+(a.eval y).cells.toList.length)).toArray,σ,?_,.inr ⟨rfl,rfl⟩,?_,fun e=>by cases e⟩
 · simp only [execOp,ho,e2,Instr.storeAt,Instr.sureAddr,Sem.run_bind,Sem.run_pure,Result.andThen_ok,hrun]
 · rw [hd]
   refine hst.upd hm hM how (hst.obs.set hs (hm.mono fun c hc=>(hown σ c).2 ((hb c).2 hc)) ((hso' _ _ _).2 ?_) (fun c hc=>.inl ((hown σ c).2 ((hown' σ c).1 hc))) hst.a0lt)
   refine ⟨_,_,f1,fun e' he'=>?_,by simpa using hlen47,s1.later (hst.lat hm hM how),?_⟩
   · rcases List.mem_or_eq_of_mem_set he' with h|h
     · exact f7 _ h
     · rw [h];exact s4
   · have hcur:((cur.toList.take (q*z+off)++(a.eval y).cells.toList++cur.toList.drop (q*z+off+(a.eval y).cells.toList.length)).toArray.toList.take (els.length*z))=(cur.toList.take (els.length*z)).take (q*z+off)++(a.eval y).cells.toList++(cur.toList.take (els.length*z)).drop (q*z+off+(a.eval y).cells.toList.length):=by
       rw [List.take_take,Nat.min_eq_left (by omega),List.drop_take]
       rw [List.take_append,List.take_append]
       have:(List.take (q*z+off) cur.toList).length=q*z+off:=by simp;omega
       rw [List.take_of_length_le (l:=List.take (q*z+off) cur.toList) (by omega),List.take_of_length_le (l:=(a.eval y).cells.toList) (by omega)]
       congr 1
       rw [List.length_append,this,s2]
     refine ⟨?_,.inr ⟨g,cap,(cur.toList.take (q*z+off)++(a.eval y).cells.toList++cur.toList.drop (q*z+off+(a.eval y).cells.toList.length)).toArray,by simp,Nat.zero_le _,setRow_heap w g cur _ e _ f2,by simpa using f3,f4,?_,?_⟩⟩
     · simp only [List.length_append,List.length_take,List.length_drop,List.length_set,Array.length_toList]
       have:=f5;omega
     · simp only [List.size_toArray,List.length_append,List.length_take,List.length_drop,Array.length_toList]
       have:=f5;omega
     · rw [← hcur];simp
end
section
variable {P:Program} [TabC P] {S:Sig} {σ:Sg} {env:Env} {objs:List Ob} {nx:Nat} {o:Oper} {a:Act} {w:World} {x y:Operand} {K:KS}
theorem setK_spec {n n':Nat} {so':SO} {K:List Ob→Prop} (h:setK objs n n' so' K):∃ l,setO objs n n' so'=some l∧K l:=by
 unfold setK at h;split at h
 · exact ⟨_,by assumption,h⟩
 · exact h.elim
def stCell (ps:List SV) (off q:Nat) (v:SV) (K:List SV→Prop):Prop:=match takeP ps off with
 | some (a,@SV.arr8 n y::r)=>match v with
   | .u8 x=>Idx (q<n) fun h=>match app2 a (.arr8 (y.set q x h)::r) with
     | some ps'=>K ps'
     | none=>False
   | _=>False
 | some (a,@SV.arr32 n y::r)=>match v with
   | .u32 x=>Idx (q<n) fun h=>match app2 a (.arr32 (y.set q x h)::r) with
     | some ps'=>K ps'
     | none=>False
   | _=>False
 | _=>False
theorem cell_set {c d1 c2:List Value} {L:List Value} {q:Nat} {f:List Value} {v:Value} (hq:q<d1.length):(c++(d1++c2)).take (c.length+q)++[v]++(c++(d1++c2)).drop (c.length+q+[v].length)=c++(d1.set q v++c2):=by
 rw [set_chunk (by simp;omega)]
 rw [List.set_append_right _ _ (by omega),Nat.add_sub_cancel_left,List.set_append_left _ _ hq]
theorem stCell_spec {ps:List SV} {off q:Nat} {v:SV} {K:List SV→Prop} (h:stCell ps off q v K):∃ ps',K ps'∧∀ {w A σ cs u},hL w A ps σ cs→v.hv w A σ u→u.cells.toList=[u]∧u.oneCell'=true∧off+q+1≤cs.length∧hL w A ps' σ (cs.take (off+q)++[u]++cs.drop (off+q+[u].length)):=by
 unfold stCell at h
 split at h
 · rename_i a n y r ht
   split at h
   · rename_i x
     obtain ⟨hq,h⟩:=h
     split at h
     · rename_i ps' ha
       obtain rfl:=app2_eq ha;refine ⟨_,h,fun {w A σ cs u} hc hv=>?_⟩
       obtain rfl:=hv8.1 hv;obtain ⟨rfl,h1⟩:=takeP_spec ht;obtain ⟨c1,c2,rfl,hc1,hc2⟩:=hL.split hc;simp only [hL] at hc2;obtain ⟨d1,d2,rfl,hd1,hd2⟩:=hc2;have e1:=hc1.len;have e2:=hd1.len;simp only [SV.sz] at e2;refine ⟨rfl,rfl,by simp only [List.length_append];omega,?_⟩
       rw [← h1,← e1,cell_set (L:=[]) (f:=[]) (by omega)]
       refine hc1.append ?_;simp only [hL];refine ⟨_,d2,rfl,?_,hd2⟩;simp only [SV.hc] at hd1 ⊢;rw [hd1];simp [Vector.toList_set,List.map_set]
     · exact h.elim
   · exact h.elim
 · rename_i a n y r ht
   split at h
   · rename_i x
     obtain ⟨hq,h⟩:=h
     split at h
     · rename_i ps' ha
       obtain rfl:=app2_eq ha;refine ⟨_,h,fun {w A σ cs u} hc hv=>?_⟩
       obtain rfl:=hv32.1 hv;obtain ⟨rfl,h1⟩:=takeP_spec ht;obtain ⟨c1,c2,rfl,hc1,hc2⟩:=hL.split hc;simp only [hL] at hc2;obtain ⟨d1,d2,rfl,hd1,hd2⟩:=hc2;have e1:=hc1.len;have e2:=hd1.len;simp only [SV.sz] at e2;refine ⟨rfl,rfl,by simp only [List.length_append];omega,?_⟩
       rw [← h1,← e1,cell_set (L:=[]) (f:=[]) (by omega)]
       refine hc1.append ?_;simp only [hL];refine ⟨_,d2,rfl,?_,hd2⟩;simp only [SV.hc] at hd1 ⊢;rw [hd1];simp [Vector.toList_set,List.map_set]
     · exact h.elim
   · exact h.elim
 · exact h.elim
variable (P) in
def evStore (dst:Option Nat) (env:Env) (objs:List Ob) (nx:Nat) (T:Nat) (s v:SV) (K:KS):Prop:=match dst with
 | some _=>False
 | none=>match ty P T with
   | none=>False
   | some j=>match s with
     | .ptr k off=>match lk objs k with
       | some (.box T' ps)=>match prt v with
         | some qs=>match setP ps off j.size qs with
           | some ps'=>frcL ps' fun ps'=>setK objs k k (.box T' ps') fun o=>K env o nx
           | none=>False
         | none=>False
       | _=>False
     | .cptr k off q=>match Nat.beq j.size 1 with
       | true=>match lk objs k with
         | some (.box T' ps)=>stCell ps off q v fun ps'=>frcL ps' fun ps'=>setK objs k k (.box T' ps') fun o=>K env o nx
         | _=>False
       | false=>False
     | .rptr k q z off=>match prt v with
       | some qs=>match noName qs with
         | true=>match lk objs k with
           | some (.row e z' enc xs)=>match Nat.beq z z' with
             | true=>Idx (q<xs.length) fun h=>match setP (enc xs[q]) off j.size qs with
               | some pe=>frcL pe fun pe=>Ex (fun x'=>enc x'=pe) fun x'=>setK objs k k (.row e z enc (xs.set q x')) fun o=>K env o nx
               | none=>False
             | false=>False
           | some (.lits e z' els)=>match Nat.beq z z',evLoad.nth' els q with
             | true,some pe0=>match setP pe0 off j.size qs with
               | some pe=>frcL pe fun pe=>setK objs k k (.lits e z (els.set q pe)) fun o=>K env o nx
               | none=>False
             | _,_=>False
           | _=>False
         | false=>False
       | none=>False
     | _=>False
theorem evStore_sound {T:TypeId} {s v:SV} (ho:o.op=.store T x y) (hx:evx P env x=some s) (hy:evx P env y=some v) (h:evStore P o.dst env objs nx T s v K):DoesK P S env objs nx o false K:=by
 unfold evStore at h
 split at h
 · exact h.elim
 · rename_i hd
   split at h
   · exact h.elim
   · rename_i j ht
     split at h
     · rename_i k off
       split at h
       · rename_i T' ps hk
         split at h
         · rename_i qs hp
           split at h
           · rename_i ps' hset
             obtain ⟨l,hl,hK⟩:=setK_spec (frcL_k (K:=fun ps'=>setK objs k k (.box T' ps') fun o=>K env o nx) h)
             refine box_turn (off:=off) ho hd ht hk hl hK (fun hst b hb=>?_) (fun {σ a w cs} hst hc=>?_)
             · obtain ⟨b',c,h1,h2⟩:=ptr_ev hx hst
               rw [hb] at h1;cases h1
               simpa using h2
             · have hv:=prt_spec hp (hst.ev hy)
               obtain ⟨h1,h2,h3,h4⟩:=setP_spec hset hc hv;exact ⟨h2,hL.one _ _ _ hv,h3,h1⟩
           · exact h.elim
         · exact h.elim
       · exact h.elim
     · rename_i k off q
       split at h
       · rename_i hz
         split at h
         · rename_i T' ps hk
           obtain ⟨ps',h,hspec⟩:=stCell_spec h;obtain ⟨l,hl,hK⟩:=setK_spec (frcL_k (K:=fun ps'=>setK objs k k (.box T' ps') fun o=>K env o nx) h)
           have hz':=Nat.eq_of_beq_eq_true hz;refine box_turn (off:=off+q) ho hd ht hk hl hK (fun hst b hb=>?_) (fun {σ a w cs} hst hc=>?_)
           · obtain ⟨b',c,h1,h2⟩:=cptr_ev hx hst
             rw [hb] at h1;cases h1
             simpa using h2
           · obtain ⟨h1,h2,h3,h4⟩:=hspec hc (hst.ev hy)
             rw [h1,hz'];exact ⟨rfl,fun u hu=>by rw [List.mem_singleton] at hu;rw [hu];exact h2,h3,h4⟩
         · exact h.elim
       · exact h.elim
     · rename_i k q z off
       split at h
       · rename_i qs hp
         split at h
         · rename_i hn
           split at h
           · rename_i e z' α enc xs hk
             split at h
             · rename_i hz
               obtain rfl:=Nat.eq_of_beq_eq_true hz;obtain ⟨hq,h⟩:=h
               split at h
               · rename_i pe hset
                 obtain ⟨x',hx',h⟩:=frcL_k (K:=fun pe=>Ex (fun x'=>enc x'=pe) fun x'=>setK objs k k (.row e z enc (xs.set q x')) fun o=>K env o nx) h
                 obtain ⟨l,hl,hK⟩:=setK_spec h;refine row_turn (els:=xs.map enc) (q:=q) (pe':=pe) ho hd ht hk hl hK (fun w A σ=>Iff.rfl) (fun w A σ=>?_) (fun σ b=>Iff.rfl) (fun σ b=>Iff.rfl) hx hy (by simp [hq]) hp hn hset
                 rw [← hx',← List.map_set];exact Iff.rfl
               · exact h.elim
             · exact h.elim
           · rename_i e z' els hk
             split at h
             · rename_i pe0 hz hq
               obtain rfl:=Nat.eq_of_beq_eq_true hz;rw [nth'_eq] at hq
               split at h
               · rename_i pe hset
                 obtain ⟨l,hl,hK⟩:=setK_spec (frcL_k (K:=fun pe=>setK objs k k (.lits e z (els.set q pe)) fun o=>K env o nx) h)
                 exact row_turn (els:=els) (q:=q) (pe':=pe) ho hd ht hk hl hK (fun w A σ=>Iff.rfl) (fun w A σ=>Iff.rfl) (fun σ b=>Iff.rfl) (fun σ b=>Iff.rfl) hx hy hq hp hn hset
               · exact h.elim
             · exact h.elim
           · exact h.elim
         · exact h.elim
       · exact h.elim
     · exact h.elim
end
abbrev eI (n:Int):List SV:=[.int .i64 n]
section
variable {P:Program} [TabC P] {S:Sig} {σ:Sg} {env:Env} {objs:List Ob} {nx:Nat} {o:Oper} {a:Act} {w:World} {x y:Operand} {K:KS}
def frzL (objs:List Ob) (k:Nat) (K:List Ob→Prop):Prop:=match lk objs k with
 | some (.lits e z els)=>match els with
   | [.u8 _]::_=>match Nat.beq z 1 with
     | true=>Ex (fun l:List (BitVec 8)=>els=l.map eB) fun l=>setK objs k k (.frow 1 eB l) K
     | false=>False
   | [.int .i64 _]::_=>match Nat.beq z 1 with
     | true=>Ex (fun l:List Int=>els=l.map eI) fun l=>setK objs k k (.frow 1 eI l) K
     | false=>False
   | _=>False
 | _=>frz objs k K
theorem frzL_sound {k:Nat} {K:List Ob→Prop} (h:frzL objs k K):∃ objs',K objs'∧GS P objs objs':=by
 unfold frzL at h;have go:∀ {e z:Nat} {α:Type} {enc:α→List SV} {l:List α} {els:List (List SV)},lk objs k=some (.lits e z els)→els=l.map enc→setK objs k k (.frow z enc l) K→∃ objs',K objs'∧GS P objs objs':=by
   intro e z α enc l els hk he h;subst he;obtain ⟨l',hl,h⟩:=setK_spec h;have hs:=setO_spec hk hl;refine ⟨l',h,fun S env nx σ a w hst=>?_,fun σ=>hs.owns_le (fun b hb=>hb.elim)⟩
   have hd:=own_disj hst hs (fun b hb=>hb)
   exact hst.ghost hs (rowH.fs (lk_holds hst hk) (fun b hb=>hb.imp id (hs.owns_le (fun b hb=>hb.elim) b)) (fun b v h1 h2=>hd b ⟨v,h1,h2⟩)) (fun b hb=>hb.elim)
 split at h
 · rename_i hk
   split at h
   · split at h
     · rename_i hz
       obtain rfl:=Nat.eq_of_beq_eq_true hz;obtain ⟨l,he,h⟩:=h;exact go hk he h
     · exact h.elim
   · split at h
     · rename_i hz
       obtain rfl:=Nat.eq_of_beq_eq_true hz;obtain ⟨l,he,h⟩:=h;exact go hk he h
     · exact h.elim
   · exact h.elim
 · exact frz_sound h
def nn1 (objs:List Ob) (s:SV) (K:List Ob→SV→Prop):Prop:=match s with
 | .own k=>frzL objs k fun o=>match lk o k with
   | some (.frow z enc xs)=>K o (.fs z enc xs)
   | _=>False
 | .bsl k off lo hi=>frz objs k fun o=>match lk o k with
   | some (.fbox _ ps)=>match takeP ps off with
     | some (_,@SV.arr8 n v::_)=>Side (hi≤n) (K o (.fs 1 eB ((v.toList.take hi).drop lo)))
     | _=>False
   | _=>False
 | .ptr _ _=>False
 | .rptr _ _ _ _=>False
 | .cptr _ _ _=>False
 | s=>K objs s
theorem GS.refl:GS P objs objs:=⟨fun _ _ _ _ _ _ h=>h,fun _ _ h=>h⟩
theorem GS.trans {o1 o2 o3:List Ob} (h:GS P o1 o2) (k:GS P o2 o3):GS P o1 o3:=⟨fun S env nx σ a w hst=>k.1 S env nx σ a w (h.1 S env nx σ a w hst),fun σ b hb=>h.2 σ b (k.2 σ b hb)⟩
theorem GS.later {o1 o2:List Ob} (h:GS P o1 o2) (S:Sig) (σ:Sg) (w:World):Later w (S.A σ o1) w (S.A σ o2):=Later.own fun b hb=>hb.imp id (h.2 σ b)
theorem bsl_fs {k off lo hi n:Nat} {T:Nat} {ps r:List SV} {pa:List SV} {v:Vector (BitVec 8) n} (hst:St P S σ env objs nx a w) (hk:lk objs k=some (.fbox T ps)) (ht:takeP ps off=some (pa,.arr8 v::r)) (hn:hi≤n) {A:Own} {cs:List Value} (h:(SV.bsl k off lo hi).hc w A σ cs) :
   (SV.fs 1 eB ((v.toList.take hi).drop lo)).hc w (S.A σ objs) sg0 cs:=by
 obtain ⟨u,h1,h2,b,rfl⟩:=lk_holds hst hk;simp only [SV.hc] at h h2 ⊢;obtain ⟨b',c,p,q,g1,rfl,g3,g4,g5,g6⟩:=h;rw [h1] at g1;cases g1;obtain ⟨b2,off2,e1,hA,C,t,fr,hg,hc⟩:=h2;simp only [List.cons.injEq,Value.pointer.injEq,Option.some.injEq,Addr.mk.injEq,and_true] at e1;obtain ⟨rfl,rfl⟩:=e1;obtain ⟨rfl,e2⟩:=takeP_spec ht;have hl:((v.toList.take hi).drop lo).length=hi - lo:=by simp;omega
 refine ⟨some ⟨b,p,none⟩,q,by rw [hl],by omega,g5,fun e=>(by cases e),fun i hi=>rfl,fun ad had=>?_⟩
 cases had
 by_cases hlt:lo<hi
 · refine .inr ⟨rfl,hA,C,t,fr,hg,fun i hi'=>?_⟩
   rw [hl] at hi';have hvi:lo+i<n:=by omega
   have hp:=g6 hlt;obtain ⟨c1,c2,hcc,hc1,hc2⟩:=hL.split hc;simp only [hL] at hc2;obtain ⟨d1,d2,rfl,hd1,hd2⟩:=hc2;have f1:=hc1.len;have f2:=hd1.len;simp only [SV.sz] at f2;rw [hL.single];simp only [SV.hc] at hd1 ⊢;have hcell:C[p+i]?=some (bV .u8 (v[lo+i]'hvi)):=by
     have h0:((C.toList.drop 0).take (szL (pa++.arr8 v::r)))[off+(lo+i)]?=some (bV .u8 (v[lo+i]'hvi)):=by
       rw [hcc,List.getElem?_append_right (by omega),List.getElem?_append_left (by omega),hd1]
       rw [show off+(lo+i) - c1.length=lo+i by omega]
       simp [hvi]
     rw [List.getElem?_take] at h0
     split at h0
     · rw [hp,show 0+off+lo+i=off+(lo+i) by omega];simpa using h0
     · cases h0
   apply List.ext_getElem?
   intro q';rcases q' with _|q'
   · simp [List.getElem?_take,hcell]
   · simp [List.getElem?_take]
 · exact .inl (List.eq_nil_of_length_eq_zero (by omega))
theorem nn1_sound {s:SV} {K:List Ob→SV→Prop} (h:nn1 objs s K):∃ objs' s',K objs' s'∧GS P objs objs'∧∀ {S env nx σ a w cs},St P S σ env objs nx a w→s.hc w (S.A σ objs) σ cs→s'.hc w (S.A σ objs') sg0 cs:=by
 unfold nn1 at h
 split at h
 · rename_i k
   obtain ⟨o',h,g⟩:=frzL_sound (P:=P) h
   split at h
   · rename_i z α enc xs hk
     refine ⟨o',_,h,g,fun {S env nx σ a w cs} hst hc=>?_⟩
     obtain ⟨v,h1,h2⟩:=lk_holds (g.1 S env nx σ a w hst) hk;simp only [SV.hc] at hc;obtain ⟨u,e1,_,rfl⟩:=hc;rw [h1] at e1;cases e1;exact h2
   · exact h.elim
 · rename_i k off lo hi
   obtain ⟨o',h,g⟩:=frz_sound (P:=P) h
   split at h
   · rename_i T ps hk
     split at h
     · rename_i n v r ht
       exact ⟨o',_,h.k,g,fun {S env nx σ a w cs} hst hc=>bsl_fs (g.1 S env nx σ a w hst) hk ht h.h hc⟩
     · exact h.elim
   · exact h.elim
 · exact h.elim
 · exact h.elim
 · exact h.elim
 · refine ⟨objs,s,h,GS.refl,fun {S env nx σ a w cs} hst hc=>?_⟩
   cases s<;>first|exact hc|(simp only [SV.hc] at hc ⊢;exact hc)|skip
   all_goals first|(simp_all;done)|(exfalso;solve_by_elim)
def nnL:List Ob→List SV→(List Ob→List SV→Prop)→Prop
 | objs,[],K=>K objs []
 | objs,s::r,K=>nn1 objs s fun objs s=>nnL objs r fun objs r=>K objs (s::r)
theorem nnL_sound:∀ {l:List SV} {objs:List Ob} {K:List Ob→List SV→Prop},nnL objs l K→∃ objs' l',K objs' l'∧GS P objs objs'∧∀ {S env nx σ a w cs},St P S σ env objs nx a w→hL w (S.A σ objs) l σ cs→hL w (S.A σ objs') l' sg0 cs
 | [],objs,K,h=>⟨objs,[],h,GS.refl,fun _ hc=>by simp only [hL] at hc ⊢;exact hc⟩
 | s::r,objs,K,h=>by
   obtain ⟨o1,s',h,g1,e1⟩:=nn1_sound (P:=P) h;obtain ⟨o2,r',h,g2,e2⟩:=nnL_sound (l:=r) h;refine ⟨o2,_,h,g1.trans g2,fun {S env nx σ a w cs} hst hc=>?_⟩
   simp only [hL] at hc ⊢;obtain ⟨c1,c2,rfl,h1,h2⟩:=hc;exact ⟨c1,c2,rfl,SV.hc.later (g2.later S σ w) _ _ _ (e1 hst h1),e2 (g1.1 S env nx σ a w hst) (hL.later (g1.later S σ w) _ _ _ h2)⟩
def frzB (objs:List Ob) (k:Nat) (K:List Ob→List SV→Prop):Prop:=match lk objs k with
 | some (.box T ps)=>nnL objs ps fun o ps'=>match lk o k with
   | some (.box _ _)=>setK o k k (.fbox T ps') fun l=>K l ps'
   | _=>False
 | some (.fbox _ ps)=>K objs ps
 | _=>False
theorem frzB_sound {k:Nat} {K:List Ob→List SV→Prop} (h:frzB objs k K):∃ objs' ps',K objs' ps'∧GS P objs objs'∧∀ {S env nx σ a w cs},St P S σ env objs nx a w→(SV.ptr k 0).hc w (S.A σ objs) σ cs→(SV.fpt ps').hc w (S.A σ objs') sg0 cs:=by
 unfold frzB at h
 split at h
 · rename_i T ps hk
   obtain ⟨o',ps',h,g,e⟩:=nnL_sound (P:=P) h
   split at h
   · rename_i T' qs hk'
     obtain ⟨l,hl,hK⟩:=setK_spec h;have hs:=setO_spec hk' hl;have hle:∀ σ b,owns σ l b→owns σ o' b:=fun σ=>hs.owns_le (fun b hb=>hb.elim)
     have key:∀ {S env nx σ a w},St P S σ env objs nx a w→∃ b,σ k=some (.pointer (some ⟨b,0,none⟩))∧(SV.fpt ps').hc w (S.A σ l) sg0 [.pointer (some ⟨b,0,none⟩)]:=fun {S env nx σ a w} hst=>by
       have hst':=g.1 S env nx σ a w hst;have hd:=own_disj hst' hs (fun b hb=>hb)
       obtain ⟨b,cs,h1,h2,h3⟩:=lk_holds hst hk;refine ⟨b,h1,?_⟩;simp only [SV.hc];refine ⟨b,0,rfl,hd b ⟨_,h1,rfl⟩,_,T,(0,0),h2,?_⟩;have h4:=hL.later (Later.own (A:=S.A σ o') (A':=S.A σ l) fun b hb=>hb.imp id (hle σ b)) _ _ _ (e hst h3)
       rw [← h4.len];simpa using h4
     refine ⟨l,ps',hK,⟨fun S env nx σ a w hst=>?_,fun σ b hb=>g.2 σ b (hle σ b hb)⟩,fun {S env nx σ a w cs} hst hc=>?_⟩
     · obtain ⟨b,h1,h2⟩:=key hst
       exact (g.1 S env nx σ a w hst).ghost hs ⟨_,h1,h2,b,rfl⟩ (fun b hb=>hb.elim)
     · obtain ⟨b,h1,h2⟩:=key hst
       simp only [SV.hc] at hc;obtain ⟨b',c',e1,rfl⟩:=hc;rw [h1] at e1;cases e1;exact h2
   · exact h.elim
 · rename_i T ps hk
   refine ⟨objs,ps,h,GS.refl,fun {S env nx σ a w cs} hst hc=>?_⟩
   obtain ⟨v,h1,h2,b,rfl⟩:=lk_holds hst hk;simp only [SV.hc] at hc;obtain ⟨b',c',e1,rfl⟩:=hc;rw [h1] at e1;cases e1;exact h2
 · exact h.elim
variable (P) in
def litsK (z:Nat) (env:Env):Nat→List Ob→List (Nat×Operand)→(List Ob→List (List SV)→Prop)→Prop
 | _,objs,[],K=>K objs []
 | i,objs,(k,x)::r,K=>match Nat.beq k i,evx P env x with
   | true,some s=>match prt s with
     | some qs=>nnL objs qs fun objs qs=>match sizQ qs z with
       | true=>litsK z env (i+1) objs r fun objs els=>K objs (qs::els)
       | false=>False
     | none=>False
   | _,_=>False
def PartsE (w:World) (A:Own) (ev:Operand→Value) (z:Nat):Nat→List (Nat×Operand)→List (List SV)→Prop
 | _,[],els=>els=[]
 | i,(k,x)::r,els=>∃ e m,els=e::m∧k=i∧szL e=z∧hL w A e sg0 (ev x).cells.toList∧PartsE w A ev z (i+1) r m
theorem PartsE.later {w w':World} {A A':Own} {ev:Operand→Value} {z:Nat} (hl:Later w A w' A'):∀ {i:Nat} {r:List (Nat×Operand)} {els:List (List SV)},PartsE w A ev z i r els→PartsE w' A' ev z i r els
 | _,[],_,h=>h
 | i,(k,x)::r,_,⟨e,m,h1,h2,h3,h4,h5⟩=>⟨e,m,h1,h2,h3,hL.later hl _ _ _ h4,PartsE.later hl h5⟩
theorem litsK_sound {z:Nat}:∀ {r:List (Nat×Operand)} {i:Nat} {objs:List Ob} {K:List Ob→List (List SV)→Prop},litsK P z env i objs r K→∃ objs' els,K objs' els∧GS P objs objs'∧∀ {S nx σ a w},St P S σ env objs nx a w→PartsE w (S.A σ objs') a.eval z i r els
 | [],i,objs,K,h=>⟨objs,[],h,GS.refl,fun _=>rfl⟩
 | (k,x)::r,i,objs,K,h=>by
   unfold litsK at h
   split at h
   · rename_i s hb hs
     split at h
     · rename_i qs hp
       obtain ⟨o1,qs',h,g1,e1⟩:=nnL_sound (P:=P) h
       split at h
       · rename_i hz
         obtain ⟨o2,els,h,g2,e2⟩:=litsK_sound (r:=r) h;refine ⟨o2,_,h,g1.trans g2,fun {S nx σ a w} hst=>?_⟩
         exact ⟨qs',els,rfl,Nat.eq_of_beq_eq_true hb,sizQ_spec hz,hL.later (g2.later S σ w) _ _ _ (e1 hst (prt_spec hp (hst.ev hs))),e2 (g1.1 S env nx σ a w hst)⟩
       · exact h.elim
     · exact h.elim
   · exact h.elim
theorem PartsE.len {w:World} {A:Own} {ev:Operand→Value} {z:Nat}:∀ {i:Nat} {r:List (Nat×Operand)} {els:List (List SV)},PartsE w A ev z i r els→r.length=els.length∧∀ e∈els,szL e=z
 | _,[],_,h=>by simp only [PartsE] at h;subst h;simp
 | i,(k,x)::r,_,⟨e,m,h1,h2,h3,h4,h5⟩=>by
   have:=h5.len
   subst h1;exact ⟨by simp [this.1],fun u hu=>(List.mem_cons.1 hu).elim (fun e=>e▸h3) (this.2 u)⟩
theorem fill_parts {z:Nat} {A:Own} {ev:Operand→Value}:∀ {r:List (Nat×Operand)} {i:Nat} {els:List (List SV)},PartsE w A ev z i r els→∀ D R:List Value,D.length=i*z→R.length=els.length*z →
   ∃ cs,hE w A sg0 els cs∧Instr.fill (fun i=>some (i*z,z)) (D++R).toArray (r.map fun (i,x)=>(i,ev x))=some (D++cs).toArray
 | [],i,els,h,D,R,_,hR=>by
   simp only [PartsE] at h;subst h
   have:R=[]:=List.eq_nil_of_length_eq_zero (by simpa using hR)
   subst this;exact ⟨[],rfl,by simp [Instr.fill]⟩
 | (k,x)::r,i,els,⟨e,m,h1,h2,h3,h4,h5⟩,D,R,hD,hR=>by
   subst h1 h2;have hel:(ev x).cells.toList.length=z:=by rw [h4.len,h3]
   have hR':R.length=z+m.length*z:=by rw [hR,List.length_cons,Nat.add_mul];omega
   obtain ⟨cs,e1,e2⟩:=fill_parts h5 (D++(ev x).cells.toList) (R.drop z) (by rw [List.length_append,hD,hel,Nat.add_mul];omega) (by rw [List.length_drop,hR'];omega)
   refine ⟨(ev x).cells.toList++cs,⟨_,cs,rfl,h4,e1⟩,?_⟩;simp only [List.map_cons];rw [fill_cons (off:=k*z) (size:=z) (l:=(ev x).cells.toList) rfl rfl hel (by simp [hD];omega)]
   have:splice (D++R).toArray (k*z) (ev x).cells.toList=((D++(ev x).cells.toList)++R.drop z).toArray:=by
     unfold splice
     simp only
     rw [hel,← hD,List.take_left,← List.drop_drop,List.drop_left]
   rw [this,e2,List.append_assoc]
theorem St.newRow {e z:Nat} {els:List (List SV)} {so:SO} {C:Array Value} {v:Value} (h:St P S σ env objs nx a w) (hso:∀ w A σ,rowH w A σ nx e z els→so.holds w A σ nx) (hown:∀ σ b,so.own σ nx b↔∃ v,σ nx=some v∧blkO v=some b)
   (hel:∀ e∈els,szL e=z) (hlen:els.length≤140737488355328) (hC:hE w (S.A σ objs) sg0 els C.toList) (hrow:(w.alloc (.cells C e)).ownsRow 0 e z v els.length C.toList) (hv:blkO v=some w.heap.size) :
   St P S (σ.set nx v) env ((nx,so)::objs) (nx+1) a (w.alloc (.cells C e)):=by
 have h1:=h.name v;have hle:=Sg.le_set (σ:=σ) (v:=v) (h.dom nx (Nat.le_refl _));have hn:∀ b,so.own (σ.set nx v) nx b↔b=w.heap.size:=fun b=>by
   rw [hown,Sg.set_self]
   constructor
   · rintro ⟨u,hu,hb⟩;cases hu;rw [hv] at hb;cases hb;rfl
   · rintro rfl;exact ⟨v,rfl,hv⟩
 have hown2:∀ b,owns (σ.set nx v) ((nx,so)::objs) b→owns (σ.set nx v) objs b∨w.heap.size≤b:=fun b hb=>by
   rcases hb with hb|hb
   · rw [(hn b).1 hb];exact .inr (Nat.le_refl _)
   · exact .inl hb
 refine h1.upd (M:=fun _=>False) (Mod.alloc _ w _) (fun _ x=>x.elim) hown2 (h1.obs.cons (Mod.alloc _ w _) ?_ (fun b hb=>by rw [(hn b).1 hb];exact Nat.le_refl _) h.a0lt)
 refine hso _ _ _ ⟨v,C.toList,Sg.set_self _ _ _,hel,hlen,hC.later ?_,hrow⟩;refine (Mod.alloc (fun _=>False) w (.cells C e)).later (fun _ x=>x.elim) (fun b hb hx=>hx.imp id fun hx=>?_)
 exact (owns_names hle h.obs.holds b).1 ((hown2 b hx).resolve_right (by omega))
theorem own_self {A:Own} (k:Nat) (v:Value) (h:v.oneCell'=true):(SV.own k).hv w A (σ.set k v) v:=⟨v,Sg.set_self _ _ _,h,rfl⟩
variable (P) in
def evLits (m:Nat) (dst:Option Nat) (env:Env) (objs:List Ob) (nx:Nat) (T n:Nat) (parts:List (Nat×Operand)) (K:KS):Prop:=dstK m dst fun d=>match ty P T with
 | some ⟨.sl e,_,_⟩=>match ty P e,zeroOf (TabC.tab P) 9 e with
   | some j,some zp=>match sizQ zp j.size,Nat.blt 0 j.size,Nat.ble (n*j.size) 16777216 with
     | true,true,true=>litsK P j.size env 0 objs parts fun objs els=>match Nat.beq els.length n with
       | true=>frcLL els fun els=>K ((d,.own nx)::env) ((nx,.lits e j.size els)::objs) (nx+1)
       | false=>False
     | _,_,_=>False
   | _,_=>False
 | _=>False
theorem evLits_sound {T n:Nat} {parts:Array (Nat×Operand)} (ho:o.op=.buildSlice T n parts) (h:evLits P S.n o.dst env objs nx T n parts.toList K):DoesK P S env objs nx o true K:=by
 obtain ⟨d,hd,hlt,h⟩:=dstK_spec h
 split at h
 · rename_i e _ _ ht
   split at h
   · rename_i j zp hj hz
     split at h
     · rename_i hzz hpos hsm
       obtain ⟨objs',els,h2,g,hparts⟩:=litsK_sound (P:=P) h;clear h
       split at h2
       · rename_i hn
         obtain rfl:=Nat.eq_of_beq_eq_true hn;have hK:=frcLL_k (K:=fun els=>K ((d,.own nx)::env) ((nx,.lits e j.size els)::objs') (nx+1)) h2
         obtain ⟨inf,zv,hi,hz0,hisz,hzc⟩:=zero_spec (P:=P) hz;have hzsz:=sizQ_spec hzz;have hpos':0<j.size:=by simpa [Nat.blt_eq] using hpos
         have hsm':=Nat.le_of_ble_eq_true hsm;have hle':els.length≤16777216:=Nat.le_trans (Nat.le_mul_of_pos_right _ hpos') hsm';have hm24:(16777216:Nat)≤140737488355328:=by decide
         have hmx:(16777216:Nat)≤maxLen:=by decide
         refine DoesK.of hK fun σ a w hst0=>?_
         have hpe:=hparts hst0;have hst:=g.1 S env nx σ a w hst0;obtain ⟨hl1,hl2⟩:=hpe.len;have key:∃ cs:List Value,hE w (S.A σ objs') sg0 els cs∧(execOp a.eval o).run P w=.ok (.value (.slice (some ⟨w.heap.size,0,none⟩) els.length els.length)) (w.alloc (.cells cs.toArray e)):=by
           have hpm:(parts.map fun (i,x)=>(i,a.eval x)).toList=parts.toList.map fun (i,x)=>(i,a.eval x):=by simp
           by_cases hl:els.length=0
           · have hl':=List.eq_nil_of_length_eq_zero hl
             subst hl';have hp:parts.toList=[]:=List.eq_nil_of_length_eq_zero (by rw [hl1];rfl)
             refine ⟨[],rfl,?_⟩;have hp':parts=#[]:=by simpa using hp
             simp [execOp,ho,hp',Instr.buildSlice,run_underlying (ty_slice ht rfl),sizeOf,typeInfo,hi,Instr.fill,Go.newRow]
             congr 2
             exact Array.eq_empty_of_size_eq_zero (by simp)
           · have hpos2:¬ els.length*inf.size=0:=by
               rw [hisz,hzsz]
               have:=Nat.mul_pos (Nat.pos_of_ne_zero hl) hpos'
               omega
             obtain ⟨cs,hE,hfill⟩:=fill_parts hpe [] (((Array.range (els.length*j.size)).map (zv.cells[· % zv.cells.size]!)).toList) (by simp) (by simp)
             refine ⟨cs,hE,?_⟩
             have:=run_buildSlice (P:=P) w T e els.length (parts.map fun (i,x)=>(i,a.eval x)) cs.toArray inf zv (ty_slice ht rfl) hi hz0 (by rw [hisz,hzsz];omega) hpos2 (by rw [hpm,hisz,hzsz];rw [List.nil_append,Array.toArray_toList] at hfill;exact hfill)
             simp only [execOp,ho,Sem.run_bind,this,Result.andThen_ok,Sem.run_pure]
         obtain ⟨cs,hE,hrun⟩:=key;have hcl:cs.toArray.size=els.length*j.size:=by simpa using hE.len hl2
         refine ⟨_,.slice (some ⟨w.heap.size,0,none⟩) els.length els.length,w.alloc (.cells cs.toArray e),σ.set nx (.slice (some ⟨w.heap.size,0,none⟩) els.length els.length),hrun,.inl rfl,?_,fun _=>Mod.alloc _ w _⟩
         rw [hd];refine (hst.newRow (so:=.lits e j.size els) (fun _ _ _ h=>h) (fun _ _=>Iff.rfl) hl2 (by omega) (by simpa using hE) ?_ rfl).put hlt (own_self nx _ rfl)
         have:=World.ownsRow_lit (base:=0) (e:=e) (size:=j.size) w cs.toArray els.length (Nat.zero_le _) (by omega) hcl
         simpa using this
       · exact h2.elim
     · exact h.elim
   · exact h.elim
 · exact h.elim
end
inductive EF:Type 1
 | of {α:Type} (enc:α→List SV) (xs:List α)
 | lit (els:List (List SV))
def EF.els:EF→List (List SV)
 | .of enc xs=>xs.map enc
 | .lit els=>els
def EF.so (e z:Nat):EF→SO
 | .of enc xs=>.row e z enc xs
 | .lit els=>.lits e z els
section
variable {P:Program} [TabC P] {S:Sig} {σ:Sg} {env:Env} {objs:List Ob} {nx:Nat} {o:Oper} {a:Act} {w:World} {x y:Operand} {K:KS}
theorem EF.so_holds {e z k:Nat} (f:EF) (w:World) (A:Own) (σ:Sg):(f.so e z).holds w A σ k↔rowH w A σ k e z f.els:=by cases f<;>exact Iff.rfl
theorem EF.so_own {e z k:Nat} (f:EF) (σ:Sg) (b:Nat):(f.so e z).own σ k b↔∃ v,σ k=some v∧blkO v=some b:=by cases f<;>exact Iff.rfl
def SlC (w:World) (A:Own) (z:Nat) (els:List (List SV)) (v:Value):Prop :=
 (∀ e∈els,szL e=z)∧∃ ad c cs,v=.slice ad els.length c∧hE w A sg0 els cs∧(ad=none→els=[]∧c=0)∧∀ a,ad=some a→∀ j u,cs[j]?=some u→w.cell? (a.add j)=some u
theorem fs_slc {A:Own} {z:Nat} {α:Type} {enc:α→List SV} {xs:List α} {v:Value} (h:(SV.fs z enc xs).hc w A sg0 [v]):SlC w A z (xs.map enc) v:=by
 simp only [SV.hc,List.cons.injEq,and_true] at h;obtain ⟨ad,c,rfl,h1,h2,h3,h4,h5⟩:=h;have hsz:∀ e∈xs.map enc,szL e=z:=fun e he=>by
   obtain ⟨y,hy,rfl⟩:=List.mem_map.1 he;obtain ⟨i,hi,rfl⟩:=List.mem_iff_getElem.1 hy;exact h4 i hi
 refine ⟨hsz,ad,c,?_⟩
 cases ad with
 | none =>
   obtain ⟨rfl,rfl⟩:=h3 rfl;exact ⟨[],rfl,rfl,fun _=>⟨rfl,rfl⟩,fun a h=>by cases h⟩
 | some ad =>
   have hcase:=h5 ad rfl;obtain ⟨g,p,sp⟩:=ad;rcases hcase with rfl|⟨hsp,hA,C,T,fr,hg,he⟩
   · exact ⟨[],rfl,rfl,fun h=>(by cases h),fun a ha j u hu=>by simp at hu⟩
   · simp only at hsp;subst hsp
     have hin:xs.length*z≤C.size - p∨xs.length*z=0:=by
       rcases Nat.eq_zero_or_pos (xs.length*z) with h0|h0
       · exact .inr h0
       · left
         have hz:0<z:=Nat.pos_of_mul_pos_left h0 |> fun _=>by
           rcases Nat.eq_zero_or_pos z with h|h
           · rw [h,Nat.mul_zero] at h0;omega
           · exact h
         have hx:0<xs.length:=by
           rcases Nat.eq_zero_or_pos xs.length with h|h
           · rw [h,Nat.zero_mul] at h0;omega
           · exact h
         have hl:=(he (xs.length - 1) (by omega)).len
         rw [h4 _ (by omega),List.length_take,List.length_drop] at hl
         have e1:(xs.length - 1)*z+z=xs.length*z:=by rw [← Nat.succ_mul];congr 1;omega
         simp only [Array.length_toList] at hl;omega
     refine ⟨(C.toList.drop p).take (xs.length*z),by simp,?_,fun h=>(by cases h),fun a ha j u hu=>?_⟩
     · refine hE.of (z:=z) (by simp;omega) fun i e hi=>?_
       obtain ⟨hi',rfl⟩:=List.getElem?_eq_some_iff.1 hi;rw [List.length_map] at hi';have hmul:(i+1)*z≤xs.length*z:=Nat.mul_le_mul_right _ hi';rw [Nat.add_mul,Nat.one_mul] at hmul;rw [take_drop_part (by omega),List.getElem_map]
       exact he i hi'
     · cases ha
       rw [addr_add,cell_of_row w g (p+j) C T fr hg];rw [List.getElem?_take] at hu
       split at hu
       · rw [List.getElem?_drop] at hu;simpa using hu
       · cases hu
theorem row_slc {A:Own} {k e z:Nat} {els:List (List SV)} {v:Value} (h:rowH w A σ k e z els) (hv:σ k=some v):SlC w A z els v:=by
 obtain ⟨u,cs,h0,h1,h2,h3,ho⟩:=h;rw [hv] at h0;cases h0;refine ⟨h1,?_⟩;rcases ho.2 with ⟨rfl,hn⟩|⟨g,cap,cur,rfl,hb0,hg,hn,hc,hs,ht⟩
 · have:=List.eq_nil_of_length_eq_zero hn
   subst this;exact ⟨none,0,[],rfl,rfl,fun _=>⟨rfl,rfl⟩,fun a h=>by cases h⟩
 · refine ⟨some ⟨g,0,none⟩,cap,cs,rfl,h3,fun h=>(by cases h),fun a ha j u hu=>?_⟩
   cases ha
   rw [addr_add,cell_of_row w g (0+j) cur e (0,0) hg];rw [← ht,List.getElem?_take] at hu
   split at hu
   · simpa using hu
   · cases hu
theorem SlC.later {w':World} {A A':Own} {z:Nat} {els:List (List SV)} {v:Value} (h:SlC w A z els v) (hl:Later w A w A'):SlC w A' z els v:=by
 obtain ⟨h1,ad,c,cs,h2,h3,h4,h5⟩:=h;exact ⟨h1,ad,c,cs,h2,h3.later hl,h4,h5⟩
theorem hE_str {w:World} {A:Own}:∀ l:List (BitVec 8),hE w A sg0 (l.map eB) (l.map (bV .u8))
 | []=>rfl
 | b::r=>by
   simp only [List.map_cons,hE];exact ⟨[bV .u8 b],r.map (bV .u8),rfl,hL.single.2 (by simp only [SV.hc]),hE_str r⟩
def srcE (objs:List Ob) (s:SV) (z:Nat):Option EF:=match s with
 | .fs z' enc xs=>match Nat.beq z z' with
   | true=>some (.of enc xs)
   | false=>none
 | .nils=>some (.lit [])
 | .own k=>match lk objs k with
   | some (.row _ z' enc xs)=>match Nat.beq z z' with
     | true=>some (.of enc xs)
     | false=>none
   | some (.frow z' enc xs)=>match Nat.beq z z' with
     | true=>some (.of enc xs)
     | false=>none
   | some (.lits _ z' els)=>match Nat.beq z z' with
     | true=>some (.lit els)
     | false=>none
   | _=>none
 | .bsl k off lo hi=>match Nat.beq z 1,lk objs k with
   | true,some (.box _ ps)=>match takeP ps off with
     | some (_,@SV.arr8 n v::_)=>match Nat.ble hi n with
       | true=>some (.of eB ((v.toList.take hi).drop lo))
       | false=>none
     | _=>none
   | _,_=>none
 | _=>none
theorem srcE_spec {s:SV} {z:Nat} {f:EF} (h:srcE objs s z=some f) (hx:evx P env x=some s) (hst:St P S σ env objs nx a w):SlC w (S.A σ objs) z f.els (a.eval x):=by
 unfold srcE at h
 split at h
 · split at h
   · rename_i hz
     obtain rfl:=Nat.eq_of_beq_eq_true hz
     cases h
     obtain ⟨v,rfl,hc⟩:=fs_ev hx hst;exact fs_slc hc
   · cases h
 · cases h
   have:=hst.ev hx
   simp only [SV.hv,SV.h1,SV.hc,List.cons.injEq,and_true] at this;rw [this];exact ⟨by simp [EF.els],none,0,[],rfl,rfl,fun _=>⟨rfl,rfl⟩,fun a h=>by cases h⟩
 · split at h
   · rename_i hk
     split at h
     · rename_i hz
       obtain rfl:=Nat.eq_of_beq_eq_true hz
       cases h
       exact row_slc (lk_holds hst hk) (own_ev hx hst)
     · cases h
   · rename_i hk
     split at h
     · rename_i hz
       obtain rfl:=Nat.eq_of_beq_eq_true hz
       cases h
       obtain ⟨v,rfl,hc⟩:=frow_ev hx hk hst;exact fs_slc hc
     · cases h
   · rename_i hk
     split at h
     · rename_i hz
       obtain rfl:=Nat.eq_of_beq_eq_true hz
       cases h
       exact row_slc (lk_holds hst hk) (own_ev hx hst)
     · cases h
   · cases h
 · rename_i k off lo hi
   split at h
   · rename_i T ps hz hk
     obtain rfl:=Nat.eq_of_beq_eq_true hz
     split at h
     · rename_i pa n v r ht
       split at h
       · rename_i hn
         have hn:=Nat.le_of_ble_eq_true hn
         cases h
         have hv:=hst.ev hx;simp only [SV.hv,SV.h1,SV.hc,List.cons.injEq,and_true] at hv;obtain ⟨b,c,p,kk,g1,g2,g3,g4,g5,g6⟩:=hv;obtain ⟨b',cs,e1,e2,e3⟩:=lk_holds hst hk;rw [e1] at g1;cases g1;rw [g2];have hl:((v.toList.take hi).drop lo).length=hi - lo:=by simp;omega
         obtain ⟨rfl,hoff⟩:=takeP_spec ht;obtain ⟨c1,c2,rfl,hc1,hc2⟩:=hL.split e3;simp only [hL] at hc2;obtain ⟨d1,d2,rfl,hd1,hd2⟩:=hc2;have f1:=hc1.len;have f2:=hd1.len;simp only [SV.sz] at f2;simp only [SV.hc] at hd1;refine ⟨fun e he=>?_,some ⟨b,p,none⟩,kk,((v.toList.take hi).drop lo).map (bV .u8),?_,hE_str _,fun e=>(by cases e),fun ad had j u hu=>?_⟩
         · obtain ⟨y,_,rfl⟩:=List.mem_map.1 he;rfl
         · simp only [EF.els,List.length_map,hl]
         · cases had
           have hj:j<hi - lo:=by
             have:=(List.getElem?_eq_some_iff.1 hu).1
             rw [List.length_map,hl] at this;exact this
           have hp:=g6 (by omega)
           rw [addr_add,cell_of_row w b (p+j) _ _ _ e2];have hcell:(c1++(d1++d2))[p+j]?=some u:=by
             rw [hp,List.getElem?_append_right (by omega),List.getElem?_append_left (by rw [f2];omega),hd1]
             rw [List.getElem?_map,List.getElem?_drop,List.getElem?_take,if_pos (by omega)] at hu
             rw [List.getElem?_map,← hu]
             congr 2;omega
           simpa using hcell
       · cases h
     · cases h
   · cases h
 · cases h
def joinE (b s:EF) (K:EF→Prop):Prop:=match b with
 | @EF.of α enc xs=>match s with
   | .of enc' ys=>Ex (fun zs:List α=>zs.map enc=ys.map enc') fun zs=>K (.of enc (xs++zs))
   | .lit els=>Ex (fun zs:List α=>zs.map enc=els) fun zs=>K (.of enc (xs++zs))
 | .lit []=>match s with
   | .of enc ys=>K (.of enc ys)
   | .lit els=>K (.lit els)
 | .lit els=>match s with
   | @EF.of α enc ys=>Ex (fun zs:List α=>zs.map enc=els) fun zs=>K (.of enc (zs++ys))
   | .lit els'=>match app2 els els' with
     | some l=>K (.lit l)
     | none=>False
theorem joinE_spec {b s:EF} {K:EF→Prop} (h:joinE b s K):∃ f,K f∧f.els=b.els++s.els:=by
 unfold joinE at h
 split at h
 · split at h
   · obtain ⟨zs,h1,h2⟩:=h;exact ⟨_,h2,by simp [EF.els,h1]⟩
   · obtain ⟨zs,h1,h2⟩:=h;exact ⟨_,h2,by simp [EF.els,h1]⟩
 · split at h
   · exact ⟨_,h,by simp [EF.els]⟩
   · exact ⟨_,h,by simp [EF.els]⟩
 · split at h
   · obtain ⟨zs,h1,h2⟩:=h;exact ⟨_,h2,by simp [EF.els,h1]⟩
   · split at h
     · rename_i hl;exact ⟨_,h,by simp [EF.els,app2_eq hl]⟩
     · exact h.elim
theorem run_app {T et:TypeId} {z:Nat} {zp:List SV} {i j:TI} {v xv:Value} {b m:List (List SV)} {A:Own} (ht:ty P T=some i) (hk:i.k=.sl et) (hj:ty P et=some j) (hzr:zeroOf (TabC.tab P) 9 et=some zp) (hzz:szL zp=z) (hz:0<z) (rt:TypeId)
   (hrow:(∃ k e,∃ σ:Sg,σ k=some v∧e=et∧rowH w A σ k e z b)∨(v=.slice none 0 0∧b=[])) (hsl:SlC w A z m xv) (hb:(b.length+m.length)*j.bytes≤140737488355328) (hb2:b.length+m.length≤140737488355328) :
   ∃ v' w' cs ds,(Builtin.append_ #[T,T] rt #[v,xv]).run P w=.ok v' w'∧w'.ownsRow 0 et z v' (b.length+m.length) (cs++ds)∧w.grownBy w' v.ownBlock∧(∀ c,v'.ownBlock=some c→v.ownBlock=some c∨w.heap.size≤c)∧hE w A sg0 b cs∧hE w A sg0 m ds∧(∀ e∈b,szL e=z):=by
 obtain ⟨inf,zv,hi,hz0,hisz,hzc⟩:=zero_spec (P:=P) hzr;obtain ⟨inf',d',hi',hd',hsz',hby,_,_⟩:=ty_spec hj;rw [hi] at hi';cases hi';obtain ⟨hmz,xa,c,ds,rfl,hE2,hnil,hcells⟩:=hsl;have hlen2:ds.length=m.length*z:=hE2.len hmz;have hone2:=hE2.one;have hzs:zv.cells.size=z:=by rw [← hzz,← (hzc w A sg0).len];simp
 have hsz2:inf.size=z:=by rw [hisz,hzz]
 obtain ⟨cs,hez,hE,hown⟩:∃ cs,(∀ e∈b,szL e=z)∧hE w A sg0 b cs∧w.ownsRow 0 et z v b.length cs:=by
   rcases hrow with ⟨k,e,σ,h0,rfl,u,cs,h1,h2,h3,h4,h5⟩|⟨rfl,rfl⟩
   · rw [h0] at h1;cases h1;exact ⟨cs,h2,h4,h5⟩
   · exact ⟨[],by simp,rfl,World.ownsRow_nil _ _ _ _⟩
 have key:∃ v' w',(Builtin.append_ #[T,T] rt #[v,.slice xa m.length c]).run P w=.ok v' w'∧w'.ownsRow 0 et z v' (b.length+m.length) (cs++ds)∧w.grownBy w' v.ownBlock∧∀ b,v'.ownBlock=some b→v.ownBlock=some b∨w.heap.size≤b:=by
   cases xa with
   | none =>
     obtain ⟨rfl,rfl⟩:=hnil rfl;have hds:ds=[]:=List.eq_nil_of_length_eq_zero (by simpa using hlen2)
     subst hds;exact ⟨v,w,run_append_owned_none (P:=P) (w:=w) 0 T rt et inf z (ty_slice ht hk) hi v b.length cs hown,by simpa using hown,⟨rfl,rfl,rfl,Nat.le_refl _,fun _ _ _=>rfl⟩,fun b hb=>.inl hb⟩
   | some ad =>
     rcases hown.2 with ⟨rfl,hl0⟩|⟨g,cap,cur,rfl,hbg,hg,hnc,hcm,hcs,htake⟩
     · have hcs0:cs=[]:=List.eq_nil_of_length_eq_zero (by rw [hown.1,hl0];simp)
       subst hcs0;rw [hl0] at hb hb2 hown ⊢;obtain ⟨v',w',hr,h2,h3,_⟩:=run_append_own (P:=P) w w.heap.size T rt et inf zv z j.bytes (ty_slice ht hk) hi hz0 hsz2 hby hzs hz (.slice none 0 0) 0 [] (World.ownsRow_nil _ _ _ _) ad m.length c ds hlen2 (hcells ad rfl) hone2 (Nat.le_trans hb2 (by decide)) hb (Nat.le_refl _)
       exact ⟨v',w',hr,⟨h2.1,h2.2.imp id (fun ⟨g,cap,cur,e1,_,e3⟩=>⟨g,cap,cur,e1,Nat.zero_le _,e3⟩)⟩,h3,fun b hb=>.inr (h2.lt b hb).1⟩
     · obtain ⟨v',w',hr,h2,h3,_⟩:=run_append_own (P:=P) w 0 T rt et inf zv z j.bytes (ty_slice ht hk) hi hz0 hsz2 hby hzs hz _ b.length cs hown ad m.length c ds hlen2 (hcells ad rfl) hone2 (Nat.le_trans hb2 (by decide)) hb (Nat.zero_le _)
       refine ⟨v',w',hr,h2,h3,fun b' hb'=>?_⟩
       by_cases hroom:b.length+m.length≤cap
       · have hfit:b.length*inf.size+ds.length≤cur.size:=by rw [hlen2,hcs,hsz2,← Nat.add_mul];exact Nat.mul_le_mul_right _ hroom
         have hr2:=run_append_room (P:=P) w T rt et inf (ty_slice ht hk) hi g b.length cap cur hg ad m.length c ds (by rw [hsz2];exact hlen2) (hcells ad rfl) hone2 hroom hfit
         rw [hr] at hr2
         cases hr2
         exact .inl hb'
       · have hr2:=run_append_grow (P:=P) w T rt et inf zv (ty_slice ht hk) hi hz0 ⟨g,0,none⟩ b.length cap cs (by rw [hsz2];exact hown.1) (hown.cells (g:=g) rfl) ad m.length c ds (by rw [hsz2];exact hlen2) (hcells ad rfl) (by omega) (by omega) (growslice_fits (by omega) (by rw [hby];exact hb))
         rw [hr] at hr2
         cases hr2
         simp only [Value.ownBlock,Option.some.injEq] at hb';exact .inr (by omega)
 obtain ⟨v',w',h1,h2,h3,h4⟩:=key;exact ⟨v',w',cs,ds,h1,h2,h3,h4,hE,hE2,hez⟩
def AppR (P : Program) (w : World) (A : Own) (T T' rt et : TypeId) (z bytes : Nat) (m : List (List SV)) (xv : Value) : Prop := (∀ e ∈ m, szL e = z) ∧ ∀ (v : Value) (b : List (List SV)), ((∃ k e, ∃ σ : Sg, σ k = some v ∧ e = et ∧ rowH w A σ k e z b) ∨ (v = .slice none 0 0 ∧ b = [])) → (b.length + m.length) * bytes ≤ 140737488355328 → b.length + m.length ≤ 140737488355328 →
   ∃ v' w' cs ds,(Builtin.append_ #[T,T'] rt #[v,xv]).run P w=.ok v' w'∧w'.ownsRow 0 et z v' (b.length+m.length) (cs++ds)∧w.grownBy w' v.ownBlock∧(∀ c,v'.ownBlock=some c→v.ownBlock=some c∨w.heap.size≤c)∧hE w A sg0 b cs∧hE w A sg0 m ds∧(∀ e∈b,szL e=z)
theorem run_app' {T et:TypeId} {zp:List SV} {i j:TI} {xv:Value} {m:List (List SV)} {A:Own} (ht:ty P T=some i) (hk:i.k=.sl et) (hj:ty P et=some j) (hzr:zeroOf (TabC.tab P) 9 et=some zp) (hzz:szL zp=j.size) (hz:0<j.size) (rt:TypeId) (hsl:SlC w A j.size m xv):AppR P w A T T rt et j.size j.bytes m xv :=
 ⟨hsl.1,fun _ _ hrow hb hb2=>run_app ht hk hj hzr hzz hz rt hrow hsl hb hb2⟩
variable (P) in
def srcA (objs:List Ob) (T T' et:Nat) (j:TI) (u:SV):Option EF:=match Nat.beq T T' with
 | true=>srcE objs u j.size
 | false=>match j,ty P T',u with
   | ⟨.int .u8,1,1⟩,some ⟨.str,_,_⟩,.str l=>some (.of eB l)
   | _,_,_=>none
variable (P) in
def evAppend (m:Nat) (dst:Option Nat) (env:Env) (objs:List Ob) (nx:Nat) (T T':Nat) (s u:SV) (K:KS):Prop:=dstK m dst fun d=>match ty P T with
 | some ⟨.sl et,_,_⟩=>match ty P et,zeroOf (TabC.tab P) 9 et with
   | some j,some zp=>match sizQ zp j.size,Nat.blt 0 j.size,srcA P objs T T' et j u with
     | true,true,some f=>match s with
       | .nils=>Side (f.els.length*j.bytes≤140737488355328∧f.els.length≤140737488355328) (K ((d,.own nx)::env) ((nx,f.so et j.size)::objs) (nx+1))
       | .own k=>match lk objs k with
         | some (.row e z enc xs)=>match Nat.beq e et,Nat.beq z j.size with
           | true,true=>joinE (.of enc xs) f fun g=>Side (g.els.length*j.bytes≤140737488355328∧g.els.length≤140737488355328) (setK objs k nx (g.so et j.size) fun o=>K ((d,.own nx)::env) o (nx+1))
           | _,_=>False
         | some (.lits e z els)=>match Nat.beq e et,Nat.beq z j.size with
           | true,true=>joinE (.lit els) f fun g=>Side (g.els.length*j.bytes≤140737488355328∧g.els.length≤140737488355328) (setK objs k nx (g.so et j.size) fun o=>K ((d,.own nx)::env) o (nx+1))
           | _,_=>False
         | _=>False
       | _=>False
     | _,_,_=>False
   | _,_=>False
 | _=>False
theorem strCells_ba (l:List (BitVec 8)):Go.Lib.strCells (baOf l)=l.map (bV .u8):=by
 unfold Go.Lib.strCells;show List.map _ (l.map UInt8.ofBitVec)=_;rw [List.map_map];rfl
theorem grown_owns {e:TypeId} {cs ds:List Value} {z:Array Value} {n m old:Nat} (hc:cs.length=n) (hd:ds.length=m) (hz:z.size=1) (h:n+m≤maxLen) :
   (w.drew.alloc (.cells (cs.toArray++ds.toArray++Builtin.zeroCells z (grownCap w (n+m) old e - (n+m))) e)).ownsRow 0 e 1 (.slice (some ⟨w.heap.size,0,none⟩) (n+m) (grownCap w (n+m) old e)) (n+m) (cs++ds) ∧
   ∀ row,w.grownBy (w.drew.alloc (.cells (cs.toArray++ds.toArray++Builtin.zeroCells z (grownCap w (n+m) old e - (n+m))) e)) row:=by
 have h1:=grownCap_ge w (n+m) old e;have hl:(cs++ds).length=n+m:=by rw [List.length_append,hc,hd]
 refine ⟨⟨by rw [hl,Nat.mul_one],.inr ⟨_,_,_,rfl,Nat.zero_le _,heap_alloc_new w.drew _,h1,grownCap_le_maxLen w _ old e h,?_,?_⟩⟩,fun row=>⟨rfl,rfl,rfl,by simp,fun k hk _=>heap_alloc_old w.drew _ hk⟩⟩
 · rw [Array.size_append,Array.size_append,size_zeroCells,hz,List.size_toArray,List.size_toArray,hc,hd];omega
 · rw [Nat.mul_one,← hl,Array.toList_append,Array.toList_append]
   exact List.take_left
theorem appR_str {T T' et:TypeId} {zp:List SV} {i j k:TI} {A:Own} (l:List (BitVec 8)) (ht:ty P T=some i) (hk:i.k=.sl et) (hj:ty P et=some j) (hzr:zeroOf (TabC.tab P) 9 et=some zp) (hzz:szL zp=j.size) (h1:j.size=1) (hb1:j.bytes=1) (hT':ty P T'=some k) (hks:k.k=.str) (rt:TypeId):AppR P w A T T' rt et j.size j.bytes (l.map eB) (.string (baOf l)):=by
 refine ⟨fun e he=>by obtain ⟨b,_,rfl⟩:=List.mem_map.1 he;rw [h1];rfl,fun v b hrow hb hb2=>?_⟩
 obtain ⟨inf,zv,hi,hz0,hisz,hzc⟩:=zero_spec (P:=P) hzr;obtain ⟨inf',d',hi',hd',hsz',hby,_,_⟩:=ty_spec hj;rw [hi] at hi';cases hi';have hzs:zv.cells.size=1:=by rw [← h1,← hzz,← (hzc w A sg0).len];simp
 have hsz2:inf.size=1:=by rw [hsz',h1]
 have hby1:inf.bytes=1:=by rw [hby,hb1]
 have u1:=ty_slice ht hk;have u2:=ty_str hT' hks;have hss:(baOf l).size=l.length:=baOf_size l;have hsc:=strCells_ba l;have hda:((baOf l).data.map fun b=>Value.int .u8 b.toNat)=(l.map (bV .u8)).toArray:=by
   rw [← hsc];apply Array.ext';simp [Go.Lib.strCells]
 rw [List.length_map,hb1,Nat.mul_one] at hb;rw [List.length_map] at hb2 ⊢;have hmx:b.length+l.length≤maxLen:=Nat.le_trans hb2 (by decide)
 rw [h1] at hrow ⊢;obtain ⟨cs,hez,hE,hown⟩:∃ cs,(∀ e∈b,szL e=1)∧hE w A sg0 b cs∧w.ownsRow 0 et 1 v b.length cs:=by
   rcases hrow with ⟨k,e,σ,h0,rfl,u,cs,h1,h2,h3,h4,h5⟩|⟨rfl,rfl⟩
   · rw [h0] at h1;cases h1;exact ⟨cs,h2,h4,h5⟩
   · exact ⟨[],by simp,rfl,World.ownsRow_nil _ _ _ _⟩
 have hcl:cs.length=b.length:=by rw [hown.1,Nat.mul_one]
 have hdl:(l.map (bV .u8)).length=l.length:=List.length_map _;rcases hown.2 with ⟨rfl,hl0⟩|⟨g,cap,cur,rfl,hbg,hg,hnc,hcm,hcs,htake⟩
 · rw [hl0] at hcl hmx hb2 hown ⊢
   obtain rfl:=List.eq_nil_of_length_eq_zero hcl
   by_cases hl:l.length=0
   · obtain rfl:=List.eq_nil_of_length_eq_zero hl
     have hf:=Go.Lib.run_firstCells_string (P:=P) w 1 (baOf []);have hcs0:Go.Lib.strCells (baOf [])=[]:=rfl;have hs0:(baOf []).size=0:=rfl;rw [hs0,hcs0] at hf;refine ⟨.slice none 0 0,w,[],[],?_,by simpa using hown,⟨rfl,rfl,rfl,Nat.le_refl _,fun _ _ _=>rfl⟩,fun c hc=>.inl hc,hE,rfl,hez⟩
     simp [Builtin.append_,run_underlying u1,run_underlying u2,sizeOf,typeInfo,hi,hsz2,Builtin.lenOf,hs0,hf]
   · have hr:=run_append_nil_string (P:=P) w T T' rt et inf zv u1 u2 hi hz0 (baOf l) (by omega) (by omega) (by rw [hby1];omega)
     obtain ⟨o1,o2⟩:=grown_owns (w:=w) (e:=et) (cs:=[]) (ds:=l.map (bV .u8)) (z:=zv.cells) (n:=0) (m:=l.length) (old:=0) rfl hdl hzs hmx;rw [hda,hss] at hr;simp only [Nat.zero_add,List.nil_append,Array.empty_append] at o1 o2 ⊢;exact ⟨_,_,[],_,hr,by simpa using o1,o2 _,fun c hc=>.inr (by simp only [Value.ownBlock,Option.some.injEq] at hc;omega),hE,hE_str l,hez⟩
 · by_cases hroom:b.length+l.length≤cap
   · have hr:=Go.Lib.run_append_room_string (P:=P) w T T' rt et inf u1 u2 hi hsz2 g b.length cap cur hg (baOf l) (by rw [hss];exact hroom) (by rw [hss,hcs,Nat.mul_one];exact hroom)
     rw [Nat.mul_one] at htake;rw [hss,hsc,htake] at hr;refine ⟨_,_,cs,l.map (bV .u8),hr,⟨by rw [List.length_append,hcl,hdl,Nat.mul_one],.inr ⟨g,cap,_,rfl,hbg,setRow_heap w g cur _ et _ hg,hroom,hcm,?_,?_⟩⟩,⟨rfl,rfl,rfl,by simp,fun k _ hk=>setRow_other w g k _ (fun e=>hk (by simp [Value.ownBlock,e]))⟩,fun c hc=>.inl hc,hE,hE_str l,hez⟩
     · simp only [List.size_toArray,List.length_append,List.length_drop,Array.length_toList,hcl,hdl];omega
     · have hl:(cs++l.map (bV .u8)).length=(b.length+l.length)*1:=by rw [List.length_append,hcl,hdl,Nat.mul_one]
       rw [← hl];exact List.take_left
   · have hr:=Go.Lib.run_append_grow_string (P:=P) w T T' rt et inf zv u1 u2 hi hz0 ⟨g,0,none⟩ b.length cap cs (by rw [hsz2,Nat.mul_one];exact hcl) (hown.cells (g:=g) rfl) (baOf l) (by omega) (by rw [hss];simp only [maxLen] at hmx;omega) (by rw [hby1,hss];exact growslice_fits (by omega) (by omega))
     obtain ⟨o1,o2⟩:=grown_owns (w:=w) (e:=et) (cs:=cs) (ds:=l.map (bV .u8)) (z:=zv.cells) (n:=b.length) (m:=l.length) (old:=cap) hcl hdl hzs hmx;rw [hss,hsc] at hr;exact ⟨_,_,cs,_,hr,o1,o2 _,fun c hc=>.inr (by simp only [Value.ownBlock,Option.some.injEq] at hc;omega),hE,hE_str l,hez⟩
theorem srcA_spec {T T' et:TypeId} {i j:TI} {zp:List SV} {u:SV} {f:EF} (hy:evx P env y=some u) (ht:ty P T=some i) (hik:i.k=.sl et) (hj:ty P et=some j) (hz:zeroOf (TabC.tab P) 9 et=some zp) (hzz:szL zp=j.size) (hpos:0<j.size) (hf:srcA P objs T T' et j u=some f) (rt:TypeId):∀ σ a w,St P S σ env objs nx a w→AppR P w (S.A σ objs) T T' rt et j.size j.bytes f.els (a.eval y):=by
 intro σ a w hst;unfold srcA at hf
 split at hf
 · rename_i hT
   obtain rfl:=Nat.eq_of_beq_eq_true hT;exact run_app' ht hik hj hz hzz hpos rt (srcE_spec hf hy hst)
 · split at hf
   · rename_i hT'
     cases hf
     have hv:=hvS.1 (hst.ev hy);rw [hv];exact appR_str _ ht hik hj hz hzz rfl rfl hT' rfl rt
   · cases hf
theorem own_blk' {w:World} {e:TypeId} {z:Nat} {v:Value} {n:Nat} {cs:List Value} (h:w.ownsRow 0 e z v n cs):blkO v=v.ownBlock:=(own_blk h).1
theorem app_own {T T' et k:TypeId} {j:TI} {d:Nat} {f b g:EF} {so:SO} {objs':List Ob} (ho:o.op=.call { callee:=.builtin .append,args:=#[x,y],argTypes:=#[T,T'] }) (hd:o.dst=some d) (hlt:d<S.n) (hx:evx P env x=some (.own k))
   (hap:∀ σ a w,St P S σ env objs nx a w→AppR P w (S.A σ objs) T T' o.type et j.size j.bytes f.els (a.eval y)) (hk:lk objs k=some so) (hso:∀ w A σ,so.holds w A σ k↔rowH w A σ k et j.size b.els) (hsown:∀ σ c,so.own σ k c↔∃ v,σ k=some v∧blkO v=some c)
   (hg:g.els=b.els++f.els) (hb:g.els.length*j.bytes≤140737488355328∧g.els.length≤140737488355328) (hl:setO objs k nx (g.so et j.size)=some objs') (hK:K ((d,.own nx)::env) objs' (nx+1)):DoesK P S env objs nx o false K:=by
 have hs:=setO_spec hk hl;refine DoesK.of hK fun σ a w hst=>?_
 have hrow:=(hso _ _ _).1 (lk_holds hst hk);have hv:=own_ev hx hst;have hgl:g.els.length=b.els.length+f.els.length:=by rw [hg,List.length_append]
 obtain ⟨v',w',cs,ds,hrun,hown',hgr,hgrow,hE1,hE2,hez⟩:=(hap σ a w hst).2 _ _ (.inl ⟨k,et,σ,hv,rfl,hrow⟩) (by rw [← hgl];exact hb.1) (by rw [← hgl];exact hb.2)
 have hfz:∀ e∈f.els,szL e=j.size:=(hap σ a w hst).1;have hblk:blkO (a.eval x)=(a.eval x).ownBlock:=by
   obtain ⟨u,cs',h1,_,_,_,h5⟩:=hrow;rw [hv] at h1;cases h1;exact own_blk' h5
 have h1:=hst.name v';have hle:=Sg.le_set (σ:=σ) (v:=v') (hst.dom nx (Nat.le_refl _));obtain ⟨R,r1,r2,_⟩:=hs.owns_iff (σ:=σ.set nx v');have hold:∀ c,so.own (σ.set nx v') k c↔(a.eval x).ownBlock=some c:=fun c=>by
   rw [hsown,hle _ _ hv];exact ⟨fun ⟨u,hu,hb⟩=>by cases hu;rw [← hblk];exact hb,fun h=>⟨_,rfl,by rw [hblk];exact h⟩⟩
 have hnew:∀ c,(g.so et j.size).own (σ.set nx v') nx c↔v'.ownBlock=some c:=fun c=>by
   rw [EF.so_own,Sg.set_self];exact ⟨fun ⟨u,hu,hb⟩=>by cases hu;rw [← own_blk' hown'];exact hb,fun h=>⟨_,rfl,by rw [own_blk' hown'];exact h⟩⟩
 have hm:=Mod.grown hgr;have hM:∀ c,(a.eval x).ownBlock=some c→owns (σ.set nx v') objs c:=fun c hc=>(r1 c).2 (.inr ((hold c).2 hc))
 have how:∀ c,owns (σ.set nx v') objs' c→owns (σ.set nx v') objs c∨w.heap.size≤c:=fun c hc=>by
   rcases (r2 c).1 hc with h|h
   · exact .inl ((r1 c).2 (.inl h))
   · rcases hgrow c ((hnew c).1 h) with h|h
     · exact .inl (hM c h)
     · exact .inr h
 have hlat:=h1.lat hm hM how;have hl0:Later w (S.A σ objs) w' (S.A (σ.set nx v') objs'):=(Later.own fun b hb=>hb.imp id (owns_names hle hst.obs.holds b).1).trans hlat
 refine ⟨.value v',v',w',σ.set nx v',?_,.inl rfl,?_,fun e=>by cases e⟩
 · simp only [execOp,ho,resolve,invoke,builtin,Sem.run_bind,Sem.run_pure,Result.andThen_ok,List.map_toArray,List.map_cons,List.map_nil,hrun]
 · rw [hd]
   refine (h1.upd hm hM how (h1.obs.set hs (hm.mono fun c hc=>(hold c).2 hc) ((EF.so_holds g _ _ _).2 ⟨v',cs++ds,Sg.set_self _ _ _,?_,hb.2,?_,by rw [hgl];exact hown'⟩) (fun c hc=>?_) h1.a0lt)).put hlt (own_self nx v' (own_blk hown').2)
   · rw [hg];exact fun e he=>(List.mem_append.1 he).elim (hez e) (hfz e)
   · rw [hg];exact (hE1.later hl0).append (hE2.later hl0)
   · rcases hgrow c ((hnew c).1 hc) with h|h
     · exact .inl ((hold c).2 h)
     · exact .inr h
theorem app_new {T T' et:TypeId} {j:TI} {d:Nat} {f:EF} (ho:o.op=.call { callee:=.builtin .append,args:=#[x,y],argTypes:=#[T,T'] }) (hd:o.dst=some d) (hlt:d<S.n) (hx:evx P env x=some .nils)
   (hap:∀ σ a w,St P S σ env objs nx a w→AppR P w (S.A σ objs) T T' o.type et j.size j.bytes f.els (a.eval y))
   (hb:f.els.length*j.bytes≤140737488355328∧f.els.length≤140737488355328) (hK:K ((d,.own nx)::env) ((nx,f.so et j.size)::objs) (nx+1)):DoesK P S env objs nx o false K:=by
 refine DoesK.of hK fun σ a w hst=>?_
 have hxv:a.eval x=.slice none 0 0:=by have:=hst.ev hx;simpa [SV.hv,SV.h1,SV.hc] using this
 obtain ⟨v',w',cs,ds,hrun,hown',hgr,hgrow,hE1,hE2,_⟩:=(hap σ a w hst).2 (a.eval x) [] (.inr ⟨hxv,rfl⟩) (by simpa using hb.1) (by simpa using hb.2)
 simp only [hE] at hE1;subst hE1;have hfz:∀ e∈f.els,szL e=j.size:=(hap σ a w hst).1;have h1:=hst.name v';have hle:=Sg.le_set (σ:=σ) (v:=v') (hst.dom nx (Nat.le_refl _));have hnew:∀ c,(f.so et j.size).own (σ.set nx v') nx c→w.heap.size≤c:=fun c hc=>by
   rw [EF.so_own,Sg.set_self] at hc;obtain ⟨u,hu,hb⟩:=hc
   cases hu
   rw [own_blk' hown'] at hb;rcases hgrow c hb with h|h
   · rw [hxv] at h;cases h
   · exact h
 have hm:Kept w w':=(Mod.grown hgr).mono fun b hb=>by rw [hxv] at hb;cases hb
 have how:∀ c,owns (σ.set nx v') ((nx,f.so et j.size)::objs) c→owns (σ.set nx v') objs c∨w.heap.size≤c:=fun c hc=>hc.elim (fun h=>.inr (hnew c h)) .inl
 have hlat:=h1.lat hm (fun _ x=>x.elim) how
 have hl0:Later w (S.A σ objs) w' (S.A (σ.set nx v') ((nx,f.so et j.size)::objs)):=(Later.own fun b hb=>hb.imp id (owns_names hle hst.obs.holds b).1).trans hlat
 refine ⟨.value v',v',w',σ.set nx v',?_,.inl rfl,?_,fun e=>by cases e⟩
 · simp only [execOp,ho,resolve,invoke,builtin,Sem.run_bind,Sem.run_pure,Result.andThen_ok,List.map_toArray,List.map_cons,List.map_nil,hrun]
 · rw [hd]
   refine (h1.upd hm (fun _ x=>x.elim) how (h1.obs.cons hm ((EF.so_holds f _ _ _).2 ⟨v',ds,Sg.set_self _ _ _,hfz,hb.2,hE2.later hl0,by simpa using hown'⟩) hnew h1.a0lt)).put hlt (own_self nx v' (own_blk hown').2)
theorem evAppend_sound {T T':TypeId} {s u:SV} (ho:o.op=.call { callee:=.builtin .append,args:=#[x,y],argTypes:=#[T,T'] }) (hx:evx P env x=some s) (hy:evx P env y=some u) (h:evAppend P S.n o.dst env objs nx T T' s u K):DoesK P S env objs nx o false K:=by
 obtain ⟨d,hd,hlt,h⟩:=dstK_spec h
 split at h
 · rename_i et _ _ ht
   split at h
   · rename_i j zp hj hz
     split at h
     · rename_i f hzz hpos hf
       have hzz':=sizQ_spec hzz;have hpos':0<j.size:=by simpa [Nat.blt_eq] using hpos
       split at h
       · exact app_new ho hd hlt hx (srcA_spec hy ht rfl hj hz hzz' hpos' hf _) h.h h.k
       · split at h
         · rename_i k e z α enc xs hk
           split at h
           · rename_i he hze
             obtain rfl:=Nat.eq_of_beq_eq_true he;obtain rfl:=Nat.eq_of_beq_eq_true hze;obtain ⟨g,hg,hgj⟩:=joinE_spec h;obtain ⟨l,hl,hK⟩:=setK_spec hg.k;exact app_own (b:=.of enc xs) ho hd hlt hx (srcA_spec hy ht rfl hj hz hzz' hpos' hf _) hk (fun _ _ _=>Iff.rfl) (fun _ _=>Iff.rfl) hgj hg.h hl hK
           · exact h.elim
         · rename_i k e z els hk
           split at h
           · rename_i he hze
             obtain rfl:=Nat.eq_of_beq_eq_true he;obtain rfl:=Nat.eq_of_beq_eq_true hze;obtain ⟨g,hg,hgj⟩:=joinE_spec h;obtain ⟨l,hl,hK⟩:=setK_spec hg.k;exact app_own (b:=.lit els) ho hd hlt hx (srcA_spec hy ht rfl hj hz hzz' hpos' hf _) hk (fun _ _ _=>Iff.rfl) (fun _ _=>Iff.rfl) hgj hg.h hl hK
           · exact h.elim
         · exact h.elim
       · exact h.elim
     · exact h.elim
   · exact h.elim
 · exact h.elim
end
section
variable {P:Program} [TabC P] {S:Sig} {σ:Sg} {env:Env} {objs:List Ob} {nx:Nat} {o:Oper} {a:Act} {w:World} {x y:Operand} {K:KS}
theorem St.newRow' {e z:Nat} {els:List (List SV)} {so:SO} {C:Array Value} {cs:List Value} {v:Value} (h:St P S σ env objs nx a w) (hso:∀ w A σ,rowH w A σ nx e z els→so.holds w A σ nx) (hown:∀ σ b,so.own σ nx b↔∃ v,σ nx=some v∧blkO v=some b)
   (hel:∀ e∈els,szL e=z) (hlen:els.length≤140737488355328) (hC:hE w (S.A σ objs) sg0 els cs) (hrow:(w.alloc (.cells C e)).ownsRow 0 e z v els.length cs) (hv:blkO v=some w.heap.size) :
   St P S (σ.set nx v) env ((nx,so)::objs) (nx+1) a (w.alloc (.cells C e)):=by
 have h1:=h.name v;have hle:=Sg.le_set (σ:=σ) (v:=v) (h.dom nx (Nat.le_refl _));have hn:∀ b,so.own (σ.set nx v) nx b↔b=w.heap.size:=fun b=>by
   rw [hown,Sg.set_self]
   constructor
   · rintro ⟨u,hu,hb⟩;cases hu;rw [hv] at hb;cases hb;rfl
   · rintro rfl;exact ⟨v,rfl,hv⟩
 have hown2:∀ b,owns (σ.set nx v) ((nx,so)::objs) b→owns (σ.set nx v) objs b∨w.heap.size≤b:=fun b hb=>by
   rcases hb with hb|hb
   · rw [(hn b).1 hb];exact .inr (Nat.le_refl _)
   · exact .inl hb
 refine h1.upd (M:=fun _=>False) (Mod.alloc _ w _) (fun _ x=>x.elim) hown2 (h1.obs.cons (Mod.alloc _ w _) ?_ (fun b hb=>by rw [(hn b).1 hb];exact Nat.le_refl _) h.a0lt)
 refine hso _ _ _ ⟨v,cs,Sg.set_self _ _ _,hel,hlen,hC.later ?_,hrow⟩;refine (Mod.alloc (fun _=>False) w (.cells C e)).later (fun _ x=>x.elim) (fun b hb hx=>hx.imp id fun hx=>?_)
 exact (owns_names hle h.obs.holds b).1 ((hown2 b hx).resolve_right (by omega))
def isZ:Int→Bool
 | .ofNat 0=>true
 | _=>false
theorem isZ_spec {n:Int} (h:isZ n=true):n=0:=by
 unfold isZ at h;split at h
 · rfl
 · cases h
variable (P) in
def evMake (m:Nat) (dst:Option Nat) (env:Env) (objs:List Ob) (nx:Nat) (T:Nat) (s u:SV) (K:KS):Prop:=dstK m dst fun d=>match ty P T with
 | some ⟨.sl et,_,_⟩=>match ty P et,zeroOf (TabC.tab P) 9 et with
   | some j,some zp=>match sizQ zp j.size with
     | true=>match s,u with
       | .int .i64 l,.int .i64 c=>match isZ l with
         | true=>Side (0≤c∧j.bytes*c≤281474976710656) (K ((d,.own nx)::env) ((nx,.lits et j.size [])::objs) (nx+1))
         | false=>Side (l=c∧0≤c∧c≤140737488355328∧j.bytes*c≤281474976710656) (K ((d,.own nx)::env) ((nx,.lits et j.size (List.replicate c.toNat zp))::objs) (nx+1))
       | _,_=>False
     | false=>False
   | _,_=>False
 | _=>False
theorem madeCells_chunk {z:Array Value} {n i:Nat} (hi:i<n):((madeCells z (n*z.size)).toList.drop (i*z.size)).take z.size=z.toList:=by
 have hle:i*z.size+z.size≤n*z.size:=by rw [← Nat.succ_mul];exact Nat.mul_le_mul_right _ hi
 refine List.ext_getElem (by simp [madeCells];omega) fun j h1 h2=>?_
 simp only [List.length_take,List.length_drop] at h1;have hj:j<z.size:=by simpa using h2
 rw [List.getElem_take,List.getElem_drop];simp only [madeCells,Array.toList_map,Array.toList_range,List.getElem_map,List.getElem_range,Array.getElem_toList];rw [show (i*z.size+j) % z.size=j by rw [Nat.mul_comm,Nat.mul_add_mod,Nat.mod_eq_of_lt hj]]
 exact getElem!_pos z j hj
theorem evMake_sound {T:TypeId} {s u:SV} (ho:o.op=.makeSlice T x y) (hx:evx P env x=some s) (hy:evx P env y=some u) (h:evMake P S.n o.dst env objs nx T s u K):DoesK P S env objs nx o true K:=by
 obtain ⟨d,hd,hlt,h2⟩:=dstK_spec h
 replace h:=h2
 clear h2
 split at h
 · rename_i et _ _ ht
   split at h
   · rename_i j zp hj hz
     split at h
     · rename_i hzz
       have hzz':=sizQ_spec hzz;obtain ⟨inf,zv,hi,hz0,hisz,hzc⟩:=zero_spec (P:=P) hz;obtain ⟨inf',_,hi',_,hsz,hby,_⟩:=ty_spec hj;rw [hi] at hi';cases hi';have hzs:zv.cells.size=inf.size:=by
         have:=(hzc ⟨#[],default,default,default,default⟩ (fun _=>False) sg0).len
         rw [hisz,← this];simp
       split at h
       · rename_i l c
         split at h
         · rename_i hl
           have:=isZ_spec hl;subst this
           refine DoesK.of h.k fun σ a w hst=>?_
           obtain ⟨h0,hb⟩:=h.h;have e1:=(hvI.1 (hst.ev hx)).1;obtain ⟨e2,hr⟩:=hvI.1 (hst.ev hy);have hr:=hr rfl;have hmx:c.toNat≤maxLen:=by
             have:maxLen=9223372036854775807:=by decide
             have:=hr.2;omega
           have hrun:=run_make (P:=P) w T et inf zv (ty_slice ht rfl) hi hz0 .i64 .i64 0 c (Int.le_refl _) h0 (by rw [hby];exact hb) (by have:=hr.2;omega)
           refine ⟨.value (.slice (some ⟨w.heap.size,0,none⟩) 0 c.toNat),_,w.alloc (.cells (madeCells zv.cells (c.toNat*inf.size)) et),σ.set nx (.slice (some ⟨w.heap.size,0,none⟩) 0 c.toNat),?_,.inl rfl,?_,fun _=>Mod.alloc _ w _⟩
           · simp only [execOp,ho,e1,e2,Sem.run_bind,hrun,Result.andThen_ok,Sem.run_pure,Int.toNat_zero]
           · rw [hd]
             refine (hst.newRow' (so:=.lits et j.size []) (cs:=[]) (fun _ _ _ h=>h) (fun _ _=>Iff.rfl) (by simp) (by simp) rfl ?_ rfl).put hlt (own_self nx _ rfl)
             exact World.ownsRow_made w _ c.toNat (Nat.zero_le _) hmx (by rw [size_madeCells,hsz])
         · refine DoesK.of h.k fun σ a w hst=>?_
           obtain ⟨rfl,h0,hmx0,hb⟩:=h.h;have e1:=(hvI.1 (hst.ev hx)).1;obtain ⟨e2,hr⟩:=hvI.1 (hst.ev hy);have hr:=hr rfl;have hmx:l.toNat≤maxLen:=by
             have:maxLen=9223372036854775807:=by decide
             have:=hr.2;omega
           have hrun:=run_make (P:=P) w T et inf zv (ty_slice ht rfl) hi hz0 .i64 .i64 l l h0 (Int.le_refl _) (by rw [hby];exact hb) (by have:=hr.2;omega)
           refine ⟨.value (.slice (some ⟨w.heap.size,0,none⟩) l.toNat l.toNat),_,w.alloc (.cells (madeCells zv.cells (l.toNat*inf.size)) et),σ.set nx (.slice (some ⟨w.heap.size,0,none⟩) l.toNat l.toNat),?_,.inl rfl,?_,fun _=>Mod.alloc _ w _⟩
           · simp only [execOp,ho,e1,e2,Sem.run_bind,hrun,Result.andThen_ok,Sem.run_pure]
           · rw [hd]
             refine (hst.newRow' (so:=.lits et j.size (List.replicate l.toNat zp)) (cs:=(madeCells zv.cells (l.toNat*inf.size)).toList) (fun _ _ _ h=>h) (fun _ _=>Iff.rfl) (fun e he=>?_) (by simp;omega) ?_ ?_ rfl).put hlt (own_self nx _ rfl)
             · rw [(List.mem_replicate.1 he).2];exact hzz'
             · refine hE.of (z:=inf.size) (by simp [size_madeCells]) fun i e hi=>?_
               obtain ⟨h1,h2⟩:=List.getElem?_eq_some_iff.1 hi;have hl:i<l.toNat:=by simpa using h1
               rw [List.getElem_replicate] at h2;subst h2;rw [← hzs,madeCells_chunk hl];exact hzc _ _ _
             · have:=World.ownsRow_lit (base:=0) (e:=et) (size:=j.size) w (madeCells zv.cells (l.toNat*inf.size)) l.toNat (Nat.zero_le _) hmx (by rw [size_madeCells,hsz])
               simpa using this
       · exact h.elim
     · exact h.elim
   · exact h.elim
 · exact h.elim
theorem hE.take {A:Own} {z:Nat} {els:List (List SV)} {cs:List Value} (h:hE w A σ els cs) (hz:∀ e∈els,szL e=z) (k:Nat) (hk:k≤els.length):hE w A σ (els.take k) (cs.take (k*z)):=by
 have hl:=h.len hz;have hkz:k*z≤els.length*z:=Nat.mul_le_mul_right _ hk;refine hE.of (z:=z) (by rw [List.length_take,List.length_take];rw [Nat.min_eq_left hk,Nat.min_eq_left (by omega)]) fun i e hi=>?_
 obtain ⟨h1,h2⟩:=List.getElem?_eq_some_iff.1 hi;have hik:i<k:=by rw [List.length_take] at h1;omega
 rw [List.getElem_take] at h2
 have:=h.get hz (i:=i) (e:=e) (by rw [← h2];exact List.getElem?_eq_getElem (by omega))
 rw [List.drop_take,List.take_take,Nat.min_eq_left]
 · exact this
 · rw [← Nat.sub_mul]
   exact Nat.le_mul_of_pos_left _ (by omega)
variable (P) in
def evTrunc (m:Nat) (dst:Option Nat) (env:Env) (objs:List Ob) (nx:Nat) (T:Nat) (s u:SV) (K:KS):Prop:=dstK m dst fun d=>match ty P T with
 | some ⟨.sl et,_,_⟩=>match ty P et with
   | some j=>match s,u with
     | .own k,.int .i64 h=>match lk objs k with
       | some (.row e z enc xs)=>Side (0≤h∧h≤xs.length) (setK objs k nx (.row e z enc (xs.take h.toNat)) fun o=>K ((d,.own nx)::env) o (nx+1))
       | some (.lits e z els)=>Side (0≤h∧h≤els.length) (setK objs k nx (.lits e z (els.take h.toNat)) fun o=>K ((d,.own nx)::env) o (nx+1))
       | _=>False
     | _,_=>False
   | none=>False
 | _=>False
theorem trunc_own {T et k:TypeId} {j i:TI} {d:Nat} {e z:Nat} {els:List (List SV)} {so so':SO} {objs':List Ob} {n:Int} (ho:o.op=.slice T x none (some y) none) (hd:o.dst=some d) (hlt:d<S.n) (hx:evx P env x=some (.own k)) (hy:evx P env y=some (.int .i64 n))
   (ht:ty P T=some i) (hik:i.k=.sl et) (hj:ty P et=some j) (hk:lk objs k=some so) (hso:∀ w A σ,so.holds w A σ k↔rowH w A σ k e z els) (hsown:∀ σ c,so.own σ k c↔∃ v,σ k=some v∧blkO v=some c)
   (hso':∀ w A σ,so'.holds w A σ nx↔rowH w A σ nx e z (els.take n.toNat)) (hsown':∀ σ c,so'.own σ nx c↔∃ v,σ nx=some v∧blkO v=some c)
   (hn:0≤n∧n≤els.length) (hl:setO objs k nx so'=some objs') (hK:K ((d,.own nx)::env) objs' (nx+1)):DoesK P S env objs nx o true K:=by
 have hs:=setO_spec hk hl;refine DoesK.of hK fun σ a w hst=>?_
 have hrow:=(hso _ _ _).1 (lk_holds hst hk);have hv:=own_ev hx hst;obtain ⟨v,cs,hv0,hz,hlen,hE0,hown⟩:=hrow;rw [hv] at hv0;cases hv0;have hyv:=(hvI.1 (hst.ev hy)).1;have key:∃ v',(execOp a.eval o).run P w=.ok (.value v') w∧w.ownsRow 0 e z v' (els.take n.toNat).length (cs.take (n.toNat*z))∧v'.ownBlock=(a.eval x).ownBlock:=by
   have htl:(els.take n.toNat).length=n.toNat:=by rw [List.length_take];omega
   rw [htl];have hcl:cs.length=els.length*z:=hE0.len hz;have hnz:n.toNat*z≤els.length*z:=Nat.mul_le_mul_right _ (by omega)
   have htk:(cs.take (n.toNat*z)).length=n.toNat*z:=by rw [List.length_take];omega
   rcases hown.2 with ⟨hv1,hl0⟩|⟨g,cap,cur,hv1,hb0,hg,hnc,hcm,hcs,hcut⟩
   · have hn0:n.toNat=0:=by omega
     have hb:=run_bounds (P:=P) (sl:=true) (n:=0) (c:=0) (lo:=none) (hi:=some (a.eval y)) (mx:=none) (l:=none) (h:=some n) (m:=none) (.inl ⟨rfl,rfl⟩) (.inr ⟨.i64,n,by rw [hyv],rfl⟩) (.inl ⟨rfl,rfl⟩) (.inl rfl) (Int.le_refl _) (by show (0:Int)≤n;exact hn.1) (by show n≤((0:Nat):Int);have:=hn.2;omega) (Int.le_refl _) w
     refine ⟨.slice none 0 0,?_,⟨htk,.inl ⟨rfl,hn0⟩⟩,by rw [hv1]⟩
     have hz0:n=0:=by omega
     subst hz0;simp only [loI,hiI] at hb
     simp [execOp,ho,hv1,Instr.sliceAt,Instr.slice,run_underlying (ty_slice ht hik),hb,run_sizeOf' hj]
   · have hb:=run_bounds (P:=P) (sl:=true) (n:=els.length) (c:=cap) (lo:=none) (hi:=some (a.eval y)) (mx:=none) (l:=none) (h:=some n) (m:=none) (.inl ⟨rfl,rfl⟩) (.inr ⟨.i64,n,by rw [hyv],rfl⟩) (.inl ⟨rfl,rfl⟩) (.inl rfl) (Int.le_refl _) (by show (0:Int)≤n;exact hn.1) (by show n≤(cap:Int);omega) (Int.le_refl _) w
     refine ⟨.slice (some ⟨g,0,none⟩) n.toNat cap,?_,⟨htk,.inr ⟨g,cap,cur,rfl,hb0,hg,by omega,hcm,hcs,by rw [← hcut,List.take_take,Nat.min_eq_left hnz]⟩⟩,by rw [hv1];rfl⟩
     simp only [loI,hiI] at hb
     simp [execOp,ho,hv1,Instr.sliceAt,Instr.slice,run_underlying (ty_slice ht hik),hb,run_sizeOf' hj,Addr.add]
 obtain ⟨v',hrun,hown',hblk⟩:=key;have h1:=hst.name v';have hle:=Sg.le_set (σ:=σ) (v:=v') (hst.dom nx (Nat.le_refl _));obtain ⟨R,r1,r2,_⟩:=hs.owns_iff (σ:=σ.set nx v');have hold:∀ c,so.own (σ.set nx v') k c↔(a.eval x).ownBlock=some c:=fun c=>by
   rw [hsown,hle _ _ hv];exact ⟨fun ⟨u,hu,hb⟩=>by cases hu;rw [← own_blk' hown];exact hb,fun h=>⟨_,rfl,by rw [own_blk' hown];exact h⟩⟩
 have hnew:∀ c,so'.own (σ.set nx v') nx c↔(a.eval x).ownBlock=some c:=fun c=>by
   rw [hsown',Sg.set_self,← hblk];exact ⟨fun ⟨u,hu,hb⟩=>by cases hu;rw [← own_blk' hown'];exact hb,fun h=>⟨_,rfl,by rw [own_blk' hown'];exact h⟩⟩
 have how:∀ c,owns (σ.set nx v') objs' c→owns (σ.set nx v') objs c∨w.heap.size≤c:=fun c hc=>by
   rcases (r2 c).1 hc with h|h
   · exact .inl ((r1 c).2 (.inl h))
   · exact .inl ((r1 c).2 (.inr ((hold c).2 ((hnew c).1 h))))
 have hm:Kept w w:=Mod.refl _ w;have hlat:=h1.lat hm (fun _ x=>x.elim) how
 have hl0:Later w (S.A σ objs) w (S.A (σ.set nx v') objs'):=(Later.own fun b hb=>hb.imp id (owns_names hle hst.obs.holds b).1).trans hlat
 refine ⟨.value v',v',w,σ.set nx v',hrun,.inl rfl,?_,fun _=>hm⟩
 rw [hd];refine (h1.upd hm (fun _ x=>x.elim) how (h1.obs.set hs (hm.mono fun c hc=>hc.elim) ((hso' _ _ _).2 ⟨v',cs.take (n.toNat*z),Sg.set_self _ _ _,fun e he=>hz e (List.mem_of_mem_take he),by rw [List.length_take];omega,(hE0.take hz _ (by omega)).later hl0,hown'⟩) (fun c hc=>.inl ((hold c).2 ((hnew c).1 hc))) h1.a0lt)).put hlt (own_self nx v' (own_blk hown').2)
theorem evTrunc_sound {T:TypeId} {s u:SV} (ho:o.op=.slice T x none (some y) none) (hx:evx P env x=some s) (hy:evx P env y=some u) (h:evTrunc P S.n o.dst env objs nx T s u K):DoesK P S env objs nx o true K:=by
 obtain ⟨d,hd,hlt,h2⟩:=dstK_spec h
 replace h:=h2
 clear h2
 split at h
 · rename_i et _ _ ht
   split at h
   · rename_i j hj
     split at h
     · rename_i k n
       split at h
       · rename_i e z α enc xs hk
         obtain ⟨l,hl,hK⟩:=setK_spec h.k;have hh:=h.h;exact trunc_own (els:=xs.map enc) ho hd hlt hx hy ht rfl hj hk (fun _ _ _=>Iff.rfl) (fun _ _=>Iff.rfl) (fun _ _ _=>by simp only [SO.holds,List.map_take]) (fun _ _=>Iff.rfl) (by simpa using hh) hl hK
       · rename_i e z els hk
         obtain ⟨l,hl,hK⟩:=setK_spec h.k;exact trunc_own (els:=els) ho hd hlt hx hy ht rfl hj hk (fun _ _ _=>Iff.rfl) (fun _ _=>Iff.rfl) (fun _ _ _=>Iff.rfl) (fun _ _=>Iff.rfl) h.h hl hK
       · exact h.elim
     · exact h.elim
   · exact h.elim
 · exact h.elim
end
section
variable {P:Program} [TabC P] {o:Oper} {a:Act} {w w':World} {x y:Operand}
theorem load_same {b off:Nat} {C:Array Value} {t:TypeId} {fr:Nat×Nat} (h1:w.heap[b]?=some (.cells C t fr)) (h2:w'.heap[b]?=some (.cells C t fr)) {v:Value} {w1:World}
   (h:(load ⟨b,off,none⟩).run P w=.ok v w1):(load ⟨b,off,none⟩).run P w'=.ok v w':=by
 simp only [load,Sem.run,World.cell?,h1,h2,World.farLoad] at h ⊢
 cases hc:C[off]? with
 | some u=>simp [hc,Sem.run] at h ⊢;exact h.1
 | none=>simp [hc,Sem.run] at h
theorem add_plain (b off i:Nat):(⟨b,off,none⟩:Addr).add i=⟨b,off+i,none⟩:=by simp [Addr.add]
theorem load_world {b off:Nat} {C:Array Value} {t:TypeId} {fr:Nat×Nat} (h1:w.heap[b]?=some (.cells C t fr)) {v:Value} {w1:World} (h:(load ⟨b,off,none⟩).run P w=.ok v w1):w1=w:=by
 simp only [load,Sem.run,World.cell?,h1,World.farLoad] at h
 cases hc:C[off]? with
 | some z=>simp [hc,Sem.run] at h;exact h.2.symm
 | none=>simp [hc,Sem.run] at h
theorem loads_same {b off:Nat} {C:Array Value} {t:TypeId} {fr:Nat×Nat} (h1:w.heap[b]?=some (.cells C t fr)) (h2:w'.heap[b]?=some (.cells C t fr)):∀ (n i:Nat) (acc:Array Value) {v:Array Value} {w1:World},
   (loadCellsFrom ⟨b,off,none⟩ i n acc).run P w=.ok v w1→(loadCellsFrom ⟨b,off,none⟩ i n acc).run P w'=.ok v w'
 | 0,i,acc,v,w1,h=>by simp [loadCellsFrom] at h ⊢;exact h.1
 | n+1,i,acc,v,w1,h=>by
   simp only [loadCellsFrom,Sem.run_bind,add_plain] at h ⊢
   cases hl:(load (⟨b,off+i,none⟩:Addr)).run P w with
   | ok u w2 =>
     rw [hl] at h;simp only [Result.andThen_ok] at h;rw [load_same (P:=P) h1 h2 hl];simp only [Result.andThen_ok];have e:=load_world (P:=P) h1 hl;rw [e] at h;exact loads_same h1 h2 n _ _ h
   | halt e w2=>rw [hl] at h;cases h
theorem loadOp_same {T b off:Nat} {i:TI} {C:Array Value} {t:TypeId} {fr:Nat×Nat} (ho:o.op=.load T x) (ht:ty P T=some i) (hx:a.eval x=.pointer (some ⟨b,off,none⟩)) (h1:w.heap[b]?=some (.cells C t fr)) (h2:w'.heap[b]?=some (.cells C t fr)) {v:Value}
   (h:(execOp a.eval o).run P w=.ok (.value v) w):(execOp a.eval o).run P w'=.ok (.value v) w':=by
 simp only [execOp,ho,hx,Instr.loadAt,Instr.sureAddr,Sem.run_bind,Sem.run_pure,Result.andThen_ok,loadVar,run_isAgg' ht] at h ⊢
 cases hr:i.row with
 | true =>
   simp only [hr,if_true,Sem.run_bind,run_sizeOf' ht,Result.andThen_ok,loadCells] at h ⊢
   cases hl:(loadCellsFrom (⟨b,off,none⟩:Addr) 0 i.size #[]).run P w with
   | ok u w2 =>
     rw [hl] at h;rw [loads_same (P:=P) h1 h2 _ _ _ hl];simp only [Result.andThen_ok,Sem.run_pure] at h ⊢
     cases h;rfl
   | halt e w2=>rw [hl] at h;cases h
 | false =>
   simp only [hr,Bool.false_eq_true,if_false] at h ⊢
   cases hl:(load (⟨b,off,none⟩:Addr)).run P w with
   | ok u w2 =>
     rw [hl] at h;rw [load_same (P:=P) h1 h2 hl];simp only [Result.andThen_ok,Sem.run_pure] at h ⊢
     cases h;rfl
   | halt e w2=>rw [hl] at h;cases h
theorem Mod.setCell (w:World) (ad:Addr) (v:Value):Mod (fun b=>b=ad.block) w (w.setCell ad v) :=
 ⟨rfl,rfl,rfl,by simp [World.setCell],fun k hk hm=>by simp only [World.setCell];rw [Array.getElem?_modify];rw [if_neg (fun e=>hm e.symm)]⟩
theorem store_mod {b off:Nat} {C:Array Value} {t:TypeId} {fr:Nat×Nat} (h1:w.heap[b]?=some (.cells C t fr)) {v:Value} {u:Unit} {w1:World} (h:(store ⟨b,off,none⟩ v).run P w=.ok u w1) :
   Mod (fun c=>c=b) w w1∧∃ C',w1.heap[b]?=some (.cells C' t fr):=by
 have key:∀ x,w.cell? ⟨b,off,none⟩=some x→Mod (fun c=>c=b) w (w.setCell ⟨b,off,none⟩ v)∧∃ C',(w.setCell ⟨b,off,none⟩ v).heap[b]?=some (.cells C' t fr):=fun x _ =>
   ⟨Mod.setCell w ⟨b,off,none⟩ v,by simp only [World.setCell];rw [Array.getElem?_modify];simp [h1]⟩
 have fin:∀ r:Result Unit,r=(match w.cell? ⟨b,off,none⟩ with
     | some _ => if w.frozen? ⟨b, off, none⟩ then .halt (.unsupported (.unsafePointer "a write to bytes that a string shares")) w else .ok () (w.setCell ⟨b, off, none⟩ v)
     | none=>match w.farStore P ⟨b,off,none⟩ v false with
       | .ok (w,_)=>.ok () w
       | .error h=>.halt h w)→r=.ok u w1→Mod (fun c=>c=b) w w1∧∃ C',w1.heap[b]?=some (.cells C' t fr):=by
   intro r hr hr2;rw [hr] at hr2
   cases hc:w.cell? ⟨b,off,none⟩ with
   | some x =>
     simp only [hc] at hr2
     split at hr2
     · cases hr2
     · cases hr2;exact key x hc
   | none =>
     simp only [hc,World.farStore,h1] at hr2
     cases hr2
 cases v<;>first|(simp [store,Sem.run] at h;done)|exact fin _ rfl h
theorem stores_mod {b off:Nat} {t:TypeId} {fr:Nat×Nat}:∀ (l:List Value) (i:Nat) {w:World} {C:Array Value} {u:Unit} {w1:World},w.heap[b]?=some (.cells C t fr)→(storeCells ⟨b,off,none⟩ l i).run P w=.ok u w1 →
   Mod (fun c=>c=b) w w1
 | [],i,w,C,u,w1,h1,h=>by simp [storeCells] at h;subst h;exact Mod.refl _ _
 | v::r,i,w,C,u,w1,h1,h=>by
   simp only [storeCells,Sem.run_bind,add_plain] at h
   cases hl:(store (⟨b,off+i,none⟩:Addr) v).run P w with
   | ok u2 w2 =>
     rw [hl] at h;simp only [Result.andThen_ok] at h;obtain ⟨m1,C',h2⟩:=store_mod (P:=P) h1 hl;exact m1.trans (stores_mod r (i+1) h2 h)
   | halt e w2=>rw [hl] at h;cases h
theorem storeOp_mod {T b off:Nat} {i:TI} {C:Array Value} {t:TypeId} {fr:Nat×Nat} {X:Act→World→Prop} {Q:Exit→Act→World→Prop} (ho:o.op=.store T x y) (ht:ty P T=some i) (hx:a.eval x=.pointer (some ⟨b,off,none⟩)) (h1:w.heap[b]?=some (.cells C t fr))
   (h:o.wp P a w X Q):o.wp P a w (fun a' w'=>X a' w'∧Mod (fun c=>c=b) w w') Q:=by
 unfold Oper.wp at h ⊢;have e:(execOp a.eval o).run P w=((storeVar T ⟨b,off,none⟩ (a.eval y)).run P w).andThen fun _ w'=>.ok .skip w':=by
   simp only [execOp,ho,hx,Instr.storeAt,Instr.sureAddr,Sem.run_bind,Sem.run_pure,Result.andThen_ok]
 rw [e] at h ⊢
 cases hl:(storeVar T ⟨b,off,none⟩ (a.eval y)).run P w with
 | ok u w1 =>
   rw [hl] at h;simp only [Result.andThen_ok,Oper.upon] at h ⊢;refine ⟨h,?_⟩;simp only [storeVar,Sem.run_bind,run_sizeOf' ht,Result.andThen_ok] at hl
   split at hl
   · simp [stuck] at hl
   · exact stores_mod _ 0 h1 (by simpa using hl)
 | halt e w1 =>
   rw [hl] at h
   cases e<;>exact h
end
abbrev Rn:=List (Nat×Nat)
def lkN:Rn→Nat→Option Nat
 | [],_=>none
 | (j,k)::r,t=>match Nat.beq j t with
   | true=>some k
   | false=>lkN r t
def Sg.via (σ:Sg) (ρ:Rn):Sg:=fun j=>match lkN ρ j with
 | some k=>σ k
 | none=>none
def Rn.le (ρ ρ':Rn):Prop:=∀ j k,lkN ρ j=some k→lkN ρ' j=some k
theorem Rn.le.refl (ρ:Rn):Rn.le ρ ρ:=fun _ _ h=>h
theorem Rn.le.trans {a b c:Rn} (h:Rn.le a b) (k:Rn.le b c):Rn.le a c:=fun j n e=>k j n (h j n e)
theorem via_le {σ σ':Sg} {ρ ρ':Rn} (h:Sg.le σ σ') (k:Rn.le ρ ρ'):Sg.le (σ.via ρ) (σ'.via ρ'):=fun j v e=>by
 unfold Sg.via at e ⊢
 split at e
 · rename_i n hn
   rw [k _ _ hn];exact h _ _ e
 · cases e
def bindN (ρ:Rn) (j k:Nat) (K:Rn→Prop):Prop:=match lkN ρ j with
 | some k'=>match Nat.beq k' k with
   | true=>K ρ
   | false=>False
 | none=>K ((j,k)::ρ)
theorem bindN_spec {ρ:Rn} {j k:Nat} {K:Rn→Prop} (h:bindN ρ j k K):∃ ρ',K ρ'∧Rn.le ρ ρ'∧lkN ρ' j=some k:=by
 unfold bindN at h
 split at h
 · rename_i k' hk
   split at h
   · rename_i hb
     obtain rfl:=Nat.eq_of_beq_eq_true hb;exact ⟨ρ,h,Rn.le.refl _,hk⟩
   · exact h.elim
 · rename_i hn
   refine ⟨_,h,fun j' n e=>?_,?_⟩
   · unfold lkN
     split
     · rename_i hb
       have:=Nat.eq_of_beq_eq_true hb
       subst this;rw [hn] at e;cases e
     · exact e
   · simp [lkN,Nat.beq_refl]
abbrev KF:=Rn→List Ob→Nat→Prop
section
variable {P:Program} [TabC P] {S:Sig} {σ:Sg} {env:Env} {objs:List Ob} {nx:Nat} {a:Act} {w:World}
def nilsL:List SV→Bool
 | []=>false
 | .nils::_=>true
 | _::r=>nilsL r
def nilsLL:List (List SV)→Bool
 | []=>false
 | e::r=>match nilsL e with
   | true=>true
   | false=>nilsLL r
def wk1 (s t:SV):Prop:=match s with
 | .nils=>match t with
   | .fs z enc xs=>xs=[]
   | t=>SV.nils=t
 | s=>s=t
def wkL:List SV→List SV→Prop
 | [],l=>[]=l
 | s::r,l=>match l with
   | []=>False
   | t::q=>wk1 s t∧wkL r q
def wkLL:List (List SV)→List (List SV)→Prop
 | [],l=>[]=l
 | s::r,l=>match l with
   | []=>False
   | t::q=>wkL s t∧wkLL r q
theorem wk1_hc {s t:SV} (h:wk1 s t) {w:World} {A:Own} {σ:Sg} {cs:List Value} (hc:s.hc w A σ cs):t.hc w A σ cs∧s.sz=t.sz:=by
 unfold wk1 at h
 split at h
 · split at h
   · subst h
     simp only [SV.hc] at hc ⊢;subst hc;exact ⟨⟨none,0,rfl,Nat.le_refl _,by decide,fun _=>by simp,fun i hi=>absurd hi (by simp),fun ad had=>by cases had⟩,rfl⟩
   · subst h;exact ⟨hc,rfl⟩
 · subst h;exact ⟨hc,rfl⟩
theorem wkL_hL:∀ {l m:List SV},wkL l m→∀ {w:World} {A:Own} {σ:Sg} {cs:List Value},hL w A l σ cs→hL w A m σ cs
 | [],m,h,w,A,σ,cs,hc=>by simp only [wkL] at h;subst h;exact hc
 | s::r,[],h,w,A,σ,cs,hc=>by simp only [wkL] at h
 | s::r,t::q,h,w,A,σ,cs,hc=>by
   simp only [wkL] at h;simp only [hL] at hc ⊢;obtain ⟨a,b,h1,h2,h3⟩:=hc;exact ⟨a,b,h1,(wk1_hc h.1 h2).1,wkL_hL h.2 h3⟩
theorem wkLL_hE:∀ {l m:List (List SV)},wkLL l m→∀ {w:World} {A:Own} {σ:Sg} {cs:List Value},hE w A σ l cs→hE w A σ m cs∧l.length=m.length
 | [],m,h,w,A,σ,cs,hc=>by simp only [wkLL] at h;subst h;exact ⟨hc,rfl⟩
 | s::r,[],h,w,A,σ,cs,hc=>by simp only [wkLL] at h
 | s::r,t::q,h,w,A,σ,cs,hc=>by
   simp only [wkLL] at h;simp only [hE] at hc ⊢;obtain ⟨a,b,h1,h2,h3⟩:=hc
   have:=wkLL_hE h.2 h3
   exact ⟨⟨a,b,h1,wkL_hL h.1 h2,this.1⟩,by simp [this.2]⟩
theorem hE_sz:∀ {l:List (List SV)} {w:World} {A:Own} {σ:Sg} {cs:List Value},hE w A σ l cs→∀ {m:List (List SV)},wkLL l m→∀ {z:Nat},(∀ e∈l,szL e=z)→∀ e∈m,szL e=z
 | [],w,A,σ,cs,hc,m,h,z,hz=>by simp only [wkLL] at h;subst h;exact hz
 | s::r,w,A,σ,cs,hc,[],h,z,hz=>by simp only [wkLL] at h
 | s::r,w,A,σ,cs,hc,t::q,h,z,hz=>by
   simp only [wkLL] at h;simp only [hE] at hc;obtain ⟨a,b,h1,h2,h3⟩:=hc;intro e he;rcases List.mem_cons.1 he with rfl|he
   · rw [← (wkL_hL h.1 h2).len,h2.len];exact hz s (List.mem_cons_self ..)
   · exact hE_sz h3 h.2 (fun e he=>hz e (List.mem_cons_of_mem _ he)) e he
theorem rowH.wk {A:Own} {k e z:Nat} {els els':List (List SV)} (h:rowH w A σ k e z els) (hw:wkLL els els'):rowH w A σ k e z els':=by
 obtain ⟨v,cs,h1,h2,h3,h4,h5⟩:=h
 have:=wkLL_hE hw h4
 exact ⟨v,cs,h1,hE_sz h4 hw h2,by rw [← this.2];exact h3,this.1,by rw [← this.2];exact h5⟩
def fitFs (objs:List Ob) (z:Nat) {α:Type} (enc:α→List SV) (xs:List α) (act:SV) (K:List Ob→Prop):Prop:=match act with
 | .fs z' enc' ys=>Side (SV.fs z' enc' ys=SV.fs z enc xs) (K objs)
 | .nils=>Side (xs=[]) (K objs)
 | .own k=>match lk objs k with
   | some (.row e z' enc' ys)=>frz objs k fun o=>Side (SV.fs z' enc' ys=SV.fs z enc xs) (K o)
   | some (.frow z' enc' ys)=>Side (SV.fs z' enc' ys=SV.fs z enc xs) (K objs)
   | some (.lits e z' els)=>match Nat.beq z' z with
     | true=>match nilsLL els with
       | true=>Side (wkLL els (xs.map enc)) (setK objs k k (.frow z enc xs) K)
       | false=>Side (els=xs.map enc) (setK objs k k (.frow z enc xs) K)
     | false=>False
   | _=>False
 | .bsl k off lo hi=>nn1 objs (.bsl k off lo hi) fun o s=>match s with
   | .fs z' enc' ys=>Side (SV.fs z' enc' ys=SV.fs z enc xs) (K o)
   | _=>False
 | _=>False
theorem frz_lk {k e z:Nat} {α:Type} {enc:α→List SV} {xs:List α} {K:List Ob→Prop} (hk:lk objs k=some (.row e z enc xs)) (h:frz objs k K):∃ l,setO objs k k (.frow z enc xs)=some l∧K l:=by
 unfold frz at h;rw [hk] at h;exact setK_spec h
theorem lk_setO:∀ {l l':List Ob} {n n':Nat} {so:SO},setO l n n' so=some l'→n=n'→lk l' n=some so
 | [],_,_,_,_,h,_=>by simp [setO] at h
 | (k,u)::r,l',n,n',so,h,e=>by
   unfold setO at h
   split at h
   · simp only [Option.some.injEq] at h;subst h;subst e
     simp [lk,Nat.beq_refl]
   · rename_i hb
     split at h
     · rename_i r' hr
       simp only [Option.some.injEq] at h;subst h;simp only [lk,hb];exact lk_setO hr e
     · cases h
theorem fitFs_sound {z:Nat} {α:Type} {enc:α→List SV} {xs:List α} {act:SV} {K:List Ob→Prop} (h:fitFs objs z enc xs act K):∃ objs',K objs'∧GS P objs objs'∧∀ {S env nx σ a w cs},St P S σ env objs nx a w→act.hc w (S.A σ objs) σ cs→(SV.fs z enc xs).hc w (S.A σ objs') sg0 cs:=by
 unfold fitFs at h
 split at h
 · rename_i z' β enc' ys
   refine ⟨objs,h.k,GS.refl,fun {S env nx σ a w cs} hst hc=>?_⟩
   rw [← h.h];exact hc
 · refine ⟨objs,h.k,GS.refl,fun {S env nx σ a w cs} hst hc=>?_⟩
   have:=h.h;subst this
   simp only [SV.hc] at hc ⊢;subst hc;exact ⟨none,0,rfl,Nat.le_refl _,by decide,fun _=>by simp,fun i hi=>absurd hi (by simp),fun ad had=>by cases had⟩
 · rename_i k
   split at h
   · rename_i e z' β enc' ys hk
     obtain ⟨l,hl,hK⟩:=frz_lk hk h;obtain ⟨o',ho',g1,g2⟩:=frz_sound (P:=P) (K:=fun o=>o=l) (objs:=objs) (k:=k) (by unfold frz setK;rw [hk];simp [hl])
     subst ho';refine ⟨o',hK.k,⟨g1,g2⟩,fun {S env nx σ a w cs} hst hc=>?_⟩
     obtain ⟨v,h1,h2⟩:=lk_holds (g1 S env nx σ a w hst) (lk_setO hl rfl);simp only [SV.hc] at hc;obtain ⟨u,e1,_,rfl⟩:=hc;rw [h1] at e1;cases e1;rw [← hK.h];exact h2
   · rename_i z' β enc' ys hk
     refine ⟨objs,h.k,GS.refl,fun {S env nx σ a w cs} hst hc=>?_⟩
     obtain ⟨v,h1,h2⟩:=lk_holds hst hk;simp only [SV.hc] at hc;obtain ⟨u,e1,_,rfl⟩:=hc;rw [h1] at e1;cases e1;rw [← h.h];exact h2
   · rename_i e z' els hk
     split at h
     · rename_i hz
       obtain rfl:=Nat.eq_of_beq_eq_true hz;have hh:wkLL els (xs.map enc)∨els=xs.map enc:=by
         split at h
         · exact .inl h.h
         · exact .inr h.h
       have hkk:setK objs k k (.frow z' enc xs) K:=by
         split at h
         · exact h.k
         · exact h.k
       obtain ⟨l,hl,hK⟩:=setK_spec hkk;have hrow:∀ {w A σ},rowH w A σ k e z' els→rowH w A σ k e z' (xs.map enc):=fun hr=>by
         rcases hh with hh|hh
         · exact hr.wk hh
         · rw [← hh];exact hr
       have hs:=setO_spec hk hl;have hle:∀ σ b,owns σ l b→owns σ objs b:=fun σ=>hs.owns_le (fun b hb=>hb.elim)
       have g1:∀ S env nx σ a w,St P S σ env objs nx a w→St P S σ env l nx a w:=fun S env nx σ a w hst=>by
         have hd:=own_disj hst hs (fun b hb=>hb)
         exact hst.ghost hs (rowH.fs (hrow (lk_holds hst hk)) (fun b hb=>hb.imp id (hle σ b)) (fun b v h1 h2=>hd b ⟨v,h1,h2⟩)) (fun b hb=>hb.elim)
       refine ⟨l,hK,⟨g1,hle⟩,fun {S env nx σ a w cs} hst hc=>?_⟩
       obtain ⟨v,h1,h2⟩:=lk_holds (g1 S env nx σ a w hst) (lk_setO hl rfl);simp only [SV.hc] at hc;obtain ⟨u,e1,_,rfl⟩:=hc;rw [h1] at e1;cases e1;exact h2
     · exact h.elim
   · exact h.elim
 · obtain ⟨o',s',h,g,e⟩:=nn1_sound (P:=P) h
   split at h
   · refine ⟨o',h.k,g,fun {S env nx σ a w cs} hst hc=>?_⟩
     rw [← h.h];exact e hst hc
   · exact h.elim
 · exact h.elim
def fit1 (ρ:Rn) (objs:List Ob) (nx:Nat) (exp act:SV) (K:KF):Prop:=match exp with
 | .own j=>match act with
   | .own k=>bindN ρ j k fun ρ=>K ρ objs nx
   | .nils=>bindN ρ j nx fun ρ=>K ρ ((nx,.nrow)::objs) (nx+1)
   | _=>False
 | .ptr j off=>match act with
   | .ptr k off'=>match Nat.beq off' off with
     | true=>bindN ρ j k fun ρ=>K ρ objs nx
     | false=>False
   | _=>False
 | .fs z enc xs=>fitFs objs z enc xs act fun o=>K ρ o nx
 | .bool b=>match asB act with
   | some c=>Side (c=b) (K ρ objs nx)
   | none=>False
 | .dec p i=>match asP act with
   | some d=>Side (d.p↔p) (K ρ objs nx)
   | none=>False
 | .rptr _ _ _ _=>False
 | .cptr _ _ _=>False
 | .bsl _ _ _ _=>False
 | .fpt es=>match act with
   | .ptr k off=>match Nat.beq off 0 with
     | true=>frzB objs k fun o ps=>Side (SV.fpt ps=SV.fpt es) (K ρ o nx)
     | false=>False
   | .fpt ps=>Side (SV.fpt ps=SV.fpt es) (K ρ objs nx)
   | _=>False
 | exp=>Side (act=exp) (K ρ objs nx)
def FitS (P:Program) [TabC P] (ρ:Rn) (objs:List Ob) (nx:Nat) (ρ':Rn) (objs':List Ob) (nx':Nat) (Φ:Sg→World→Own→Sg→Own→Prop):Prop :=
 Rn.le ρ ρ'∧∀ S env σ a w,St P S σ env objs nx a w→∃ σ',Sg.le σ σ'∧St P S σ' env objs' nx' a w∧Later w (S.A σ objs) w (S.A σ' objs')∧Φ σ w (S.A σ objs) (σ'.via ρ') (S.A σ' objs')
theorem FitS.id {ρ:Rn} {Φ:Sg→World→Own→Sg→Own→Prop} (h:∀ S env σ a w,St P S σ env objs nx a w→Φ σ w (S.A σ objs) (σ.via ρ) (S.A σ objs)):FitS P ρ objs nx ρ objs nx Φ :=
 ⟨Rn.le.refl _,fun S env σ a w hst=>⟨σ,Sg.le.refl _,hst,Later.refl _ _,h S env σ a w hst⟩⟩
theorem GS.fit {ρ:Rn} {objs':List Ob} {Φ:Sg→World→Own→Sg→Own→Prop} (g:GS P objs objs') (h:∀ S env σ a w,St P S σ env objs nx a w→Φ σ w (S.A σ objs) (σ.via ρ) (S.A σ objs')):FitS P ρ objs nx ρ objs' nx Φ :=
 ⟨Rn.le.refl _,fun S env σ a w hst=>⟨σ,Sg.le.refl _,g.1 S env nx σ a w hst,g.later S σ w,h S env σ a w hst⟩⟩
theorem asB_hc {s:SV} {b:Bool} (h:asB s=some b) {A:Own} {cs:List Value}:s.hc w A σ cs↔cs=[.bool b]:=by
 cases s<;>simp only [asB,reduceCtorEq,Option.some.injEq] at h<;>subst h<;>simp only [SV.hc]
theorem asP_hc {s:SV} {d:DP} (h:asP s=some d) {A:Own} {cs:List Value}:s.hc w A σ cs↔cs=[.bool (@decide d.p d.i)]:=by
 cases s<;>simp only [asP,reduceCtorEq,Option.some.injEq] at h<;>subst h<;>simp only [SV.hc]
 simp
theorem St.nilName (h:St P S σ env objs nx a w):St P S (σ.set nx (.slice none 0 0)) env ((nx,.nrow)::objs) (nx+1) a w∧Later w (S.A σ objs) w (S.A (σ.set nx (.slice none 0 0)) ((nx,.nrow)::objs)):=by
 have h1:=h.name (.slice none 0 0);have hle:=Sg.le_set (σ:=σ) (v:=.slice none 0 0) (h.dom nx (Nat.le_refl _));have hno:∀ b,¬ SO.own (σ.set nx (.slice none 0 0)) nx .nrow b:=fun b ⟨v,hv,hb⟩=>by rw [Sg.set_self] at hv;cases hv;cases hb
 have how:∀ b,owns (σ.set nx (.slice none 0 0)) ((nx,.nrow)::objs) b→owns (σ.set nx (.slice none 0 0)) objs b:=fun b hb=>hb.elim (fun x=>(hno b x).elim) (fun x=>x)
 refine ⟨h1.upd (M:=fun _=>False) (Mod.refl _ w) (fun _ x=>x.elim) (fun b hb=>.inl (how b hb)) (h1.obs.cons (Mod.refl _ w) (Sg.set_self _ _ _) (fun b hb=>(hno b hb).elim) h1.a0lt),Later.own fun b hb=>hb.imp id fun hb=>(owns_names hle h.obs.holds b).1 (how b hb)⟩
theorem fit1_sound {ρ:Rn} {exp act:SV} {K:KF} (h:fit1 ρ objs nx exp act K):∃ ρ' objs' nx',K ρ' objs' nx'∧FitS P ρ objs nx ρ' objs' nx' fun σ w A σ' A'=>∀ cs,act.hc w A σ cs→exp.hc w A' σ' cs:=by
 unfold fit1 at h
 split at h
 · rename_i j
   split at h
   · rename_i k
     obtain ⟨ρ',hK,hle,hj⟩:=bindN_spec h;refine ⟨ρ',objs,nx,hK,hle,fun S env σ a w hst=>⟨σ,Sg.le.refl _,hst,Later.refl _ _,fun cs hc=>?_⟩⟩
     simp only [SV.hc,Sg.via,hj] at hc ⊢;exact hc
   · obtain ⟨ρ',hK,hle,hj⟩:=bindN_spec h
     refine ⟨ρ',_,nx+1,hK,hle,fun S env σ a w hst=>⟨_,Sg.le_set (hst.dom nx (Nat.le_refl _)),hst.nilName.1,hst.nilName.2,fun cs hc=>?_⟩⟩
     simp only [SV.hc,Sg.via,hj] at hc ⊢;exact ⟨_,Sg.set_self _ _ _,rfl,hc⟩
   · exact h.elim
 · rename_i j off
   split at h
   · rename_i k off'
     split at h
     · rename_i hb
       obtain rfl:=Nat.eq_of_beq_eq_true hb;obtain ⟨ρ',hK,hle,hj⟩:=bindN_spec h;refine ⟨ρ',objs,nx,hK,hle,fun S env σ a w hst=>⟨σ,Sg.le.refl _,hst,Later.refl _ _,fun cs hc=>?_⟩⟩
       simp only [SV.hc,Sg.via,hj] at hc ⊢;exact hc
     · exact h.elim
   · exact h.elim
 · obtain ⟨o',hK,g,e⟩:=fitFs_sound (P:=P) h
   exact ⟨ρ,o',nx,hK,g.fit fun S env σ a w hst cs hc=>SV.hc.names _ _ (fun k v e=>by cases e) (e hst hc)⟩
 · split at h
   · rename_i hb
     refine ⟨ρ,objs,nx,h.k,FitS.id fun S env σ a w hst cs hc=>?_⟩
     rw [asB_hc hb] at hc;simp only [SV.hc];rw [hc,h.h]
   · exact h.elim
 · split at h
   · rename_i d hd
     refine ⟨ρ,objs,nx,h.k,FitS.id fun S env σ a w hst cs hc=>?_⟩
     rw [asP_hc hd] at hc;simp only [SV.hc];rw [hc]
     congr 2
     exact decide_eq_decide.2 h.h
   · exact h.elim
 · exact h.elim
 · exact h.elim
 · exact h.elim
 · rename_i es
   split at h
   · rename_i k off
     split at h
     · rename_i hb
       obtain rfl:=Nat.eq_of_beq_eq_true hb;obtain ⟨o',ps',hK,g,e⟩:=frzB_sound (P:=P) h;refine ⟨ρ,o',nx,hK.k,g.fit fun S env σ a w hst cs hc=>?_⟩
       have e1:=hK.h
       cases e1
       have:=e hst hc
       simp only [SV.hc] at this ⊢;exact this
     · exact h.elim
   · refine ⟨ρ,objs,nx,h.k,FitS.id fun S env σ a w hst cs hc=>?_⟩
     have e1:=h.h
     cases e1
     simp only [SV.hc] at hc ⊢;exact hc
   · exact h.elim
 · refine ⟨ρ,objs,nx,h.k,FitS.id fun S env σ a w hst cs hc=>?_⟩
   have e:=h.h;subst e
   cases act<;>first|exact hc|(simp only [SV.hc] at hc ⊢;exact hc)|skip
   all_goals first|(simp_all;done)|(exfalso;solve_by_elim)
theorem FitS.trans {ρ1 ρ2 ρ3:Rn} {o1 o2 o3:List Ob} {n1 n2 n3:Nat} {Φ Ψ X:Sg→World→Own→Sg→Own→Prop} (h:FitS P ρ1 o1 n1 ρ2 o2 n2 Φ) (k:FitS P ρ2 o2 n2 ρ3 o3 n3 Ψ)
   (hx:∀ {S:Sig} {σ σ1 σ2:Sg} {w:World},Sg.le σ σ1→Sg.le (σ1.via ρ2) (σ2.via ρ3)→Later w (S.A σ o1) w (S.A σ1 o2)→Later w (S.A σ1 o2) w (S.A σ2 o3)→Φ σ w (S.A σ o1) (σ1.via ρ2) (S.A σ1 o2)→Ψ σ1 w (S.A σ1 o2) (σ2.via ρ3) (S.A σ2 o3)→X σ w (S.A σ o1) (σ2.via ρ3) (S.A σ2 o3)):FitS P ρ1 o1 n1 ρ3 o3 n3 X :=
 ⟨h.1.trans k.1,fun S env σ a w hst=>by
   obtain ⟨σ1,l1,s1,t1,p1⟩:=h.2 S env σ a w hst;obtain ⟨σ2,l2,s2,t2,p2⟩:=k.2 S env σ1 a w s1;exact ⟨σ2,l1.trans l2,s2,t1.trans t2,hx l1 (via_le l2 k.1) t1 t2 p1 p2⟩⟩
structure FitL (ρ:Rn) (objs:List Ob) (nx:Nat) (es ss:List SV) (K:KF):Prop where
 h:∀ {P:Program} [TabC P],∃ ρ' objs' nx',K ρ' objs' nx'∧FitS P ρ objs nx ρ' objs' nx' fun σ w A σ' A'=>∀ cs,hL w A ss σ cs→hL w A' es σ' cs
def fitLS (ρ:Rn) (objs:List Ob) (nx:Nat) (es ss:List SV) (K:KF):Prop:=match es with
 | []=>match ss with
   | []=>K ρ objs nx
   | _::_=>False
 | e::r=>match ss with
   | []=>False
   | s::t=>fit1 ρ objs nx e s fun ρ objs nx=>FitL ρ objs nx r t K
theorem FitL.unf {ρ:Rn} {es ss:List SV} {K:KF} (h:fitLS ρ objs nx es ss K):FitL ρ objs nx es ss K:=⟨fun {P} _=>by
 match es,ss,h with
 | [],[],h=>exact ⟨ρ,objs,nx,h,FitS.id fun S env σ a w hst cs hc=>by simp only [hL] at hc ⊢;exact hc⟩
 | e::r,s::t,h =>
   simp only [fitLS] at h;obtain ⟨ρ1,o1,n1,h,f1⟩:=fit1_sound (P:=P) h;obtain ⟨ρ2,o2,n2,h,f2⟩:=h.h (P:=P);refine ⟨ρ2,o2,n2,h,f1.trans f2 fun hs hv l1 l2 p1 p2 cs hc=>?_⟩
   simp only [hL] at hc ⊢;obtain ⟨c1,c2,rfl,h1,h2⟩:=hc;exact ⟨c1,c2,rfl,SV.hc.names _ _ hv (SV.hc.later l2 _ _ _ (p1 c1 h1)),p2 c2 (hL.names _ _ hs (hL.later l1 _ _ _ h2))⟩
 | [],_::_,h=>exact h.elim
 | _::_,[],h=>exact h.elim⟩
def fitA (ρ:Rn) (objs:List Ob) (nx:Nat) (exp act:SV) (K:KF):Prop:=match exp with
 | .agg es=>match act with
   | .agg ss=>FitL ρ objs nx es ss K
   | _=>False
 | .tup _=>False
 | .undef=>K ρ objs nx
 | exp=>match act with
   | .agg _=>False
   | .tup _=>False
   | .undef=>False
   | act=>fit1 ρ objs nx exp act K
theorem fitA_sound {ρ:Rn} {exp act:SV} {K:KF} (h:fitA ρ objs nx exp act K):∃ ρ' objs' nx',K ρ' objs' nx'∧FitS P ρ objs nx ρ' objs' nx' fun σ w A σ' A'=>∀ v,act.h1 w A σ v→exp.h1 w A' σ' v:=by
 have single:fit1 ρ objs nx exp act K→(∀ ps,exp≠.agg ps)→exp≠.undef→(∀ ps,act≠.agg ps)→act≠.undef→∃ ρ' objs' nx',K ρ' objs' nx'∧FitS P ρ objs nx ρ' objs' nx' fun σ w A σ' A'=>∀ v,act.h1 w A σ v→exp.h1 w A' σ' v:=fun h e1 e2 e3 e4=>by
   obtain ⟨ρ',o',n',hK,f⟩:=fit1_sound (P:=P) h;have c1:∀ {w A σ v},act.h1 w A σ v→act.hc w A σ [v]:=fun {w A σ v} h=>by cases act<;>first|exact h|exact absurd rfl (e3 _)|exact absurd rfl e4
   have c2:∀ {w A σ v},exp.hc w A σ [v]→exp.h1 w A σ v:=fun {w A σ v} h=>by cases exp<;>first|exact h|exact absurd rfl (e1 _)|exact absurd rfl e2
   exact ⟨ρ',o',n',hK,f.1,fun S env σ a w hst=>by obtain ⟨σ',l,s,t,p⟩:=f.2 S env σ a w hst;exact ⟨σ',l,s,t,fun v hv=>c2 (p _ (c1 hv))⟩⟩
 unfold fitA at h
 split at h
 · split at h
   · obtain ⟨ρ',o',n',hK,f⟩:=h.h (P:=P)
     exact ⟨ρ',o',n',hK,f.1,fun S env σ a w hst=>by obtain ⟨σ',l,s,t,p⟩:=f.2 S env σ a w hst;exact ⟨σ',l,s,t,fun v ⟨cs,h1,h2⟩=>⟨cs,h1,p cs h2⟩⟩⟩
   · exact h.elim
 · exact h.elim
 · exact ⟨ρ,objs,nx,h,FitS.id fun S env σ a w hst v hv=>trivial⟩
 · rename_i e1 e2 e3
   split at h
   · exact h.elim
   · exact h.elim
   · exact h.elim
   · rename_i f1 f2 f3
     exact single h (fun ps e=>e1 ps e) (fun e=>e3 e) (fun ps e=>f1 ps e) (fun e=>f3 e)
structure FitAs (ρ:Rn) (objs:List Ob) (nx:Nat) (es ss:List SV) (K:KF):Prop where
 h:∀ {P:Program} [TabC P],∃ ρ' objs' nx',K ρ' objs' nx'∧FitS P ρ objs nx ρ' objs' nx' fun σ w A σ' A'=>∀ vs,hvs w A σ ss vs→hvs w A' σ' es vs
def fitAsS (ρ:Rn) (objs:List Ob) (nx:Nat) (es ss:List SV) (K:KF):Prop:=match es with
 | []=>match ss with
   | []=>K ρ objs nx
   | _::_=>False
 | e::r=>match ss with
   | []=>False
   | s::t=>fitA ρ objs nx e s fun ρ objs nx=>FitAs ρ objs nx r t K
theorem FitAs.unf {ρ:Rn} {es ss:List SV} {K:KF} (h:fitAsS ρ objs nx es ss K):FitAs ρ objs nx es ss K:=⟨fun {P} _=>by
 match es,ss,h with
 | [],[],h=>exact ⟨ρ,objs,nx,h,FitS.id fun S env σ a w hst vs hv=>hv⟩
 | e::r,s::t,h =>
   simp only [fitAsS] at h;obtain ⟨ρ1,o1,n1,h,f1⟩:=fitA_sound (P:=P) h;obtain ⟨ρ2,o2,n2,h,f2⟩:=h.h (P:=P);refine ⟨ρ2,o2,n2,h,f1.trans f2 fun hs hv l1 l2 p1 p2 vs hc=>?_⟩
   obtain ⟨v,m,rfl,h1,h2⟩:=hc;exact ⟨v,m,rfl,((p1 v h1).later l2).names hv,p2 m ((h2.later l1).names hs)⟩
 | [],_::_,h=>exact h.elim
 | _::_,[],h=>exact h.elim⟩
def fitV (ρ:Rn) (objs:List Ob) (nx:Nat) (exp act:SV) (K:KF):Prop:=match exp with
 | .tup es=>match act with
   | .tup ss=>FitAs ρ objs nx es ss K
   | _=>False
 | exp=>fitA ρ objs nx exp act K
theorem fitV_sound {ρ:Rn} {exp act:SV} {K:KF} (h:fitV ρ objs nx exp act K):∃ ρ' objs' nx',K ρ' objs' nx'∧FitS P ρ objs nx ρ' objs' nx' fun σ w A σ' A'=>∀ v,act.hv w A σ v→exp.hv w A' σ' v:=by
 unfold fitV at h
 split at h
 · split at h
   · obtain ⟨ρ',o',n',hK,f⟩:=h.h (P:=P)
     exact ⟨ρ',o',n',hK,f.1,fun S env σ a w hst=>by obtain ⟨σ',l,s,t,p⟩:=f.2 S env σ a w hst;exact ⟨σ',l,s,t,fun v ⟨cs,h1,h2⟩=>⟨cs,h1,p cs h2⟩⟩⟩
   · exact h.elim
 · rename_i e1
   obtain ⟨ρ',o',n',hK,f⟩:=fitA_sound (P:=P) h;refine ⟨ρ',o',n',hK,f.1,fun S env σ a w hst=>by
     obtain ⟨σ',l,s,t,p⟩:=f.2 S env σ a w hst;refine ⟨σ',l,s,t,fun v hv=>?_⟩
     have hv1:act.h1 w (S.A σ objs) σ v∨∃ vs,act=.tup vs:=by cases act<;>first|exact .inl hv|exact .inr ⟨_,rfl⟩
     rcases hv1 with hv1|⟨vs,rfl⟩
     · have:=p v hv1
       cases exp<;>first|exact this|exact absurd rfl (e1 _)
     · unfold fitA at h
       cases exp<;>first|trivial|exact absurd rfl (e1 _)|(simp at h)⟩
end
section
variable {P:Program} [TabC P] {S:Sig} {σ:Sg} {env:Env} {objs:List Ob} {nx:Nat} {a:Act} {w:World}
def fitSO (ρ:Rn) (objs:List Ob) (nx:Nat) (exp act:SO) (K:KF):Prop:=match exp with
 | .box T ps=>match act with
   | .box T' qs=>match Nat.beq T' T with
     | true=>FitL ρ objs nx ps qs K
     | false=>False
   | _=>False
 | .row e z enc xs=>match act with
   | .row e' z' enc' ys=>Side (SO.row e' z' enc' ys=SO.row e z enc xs) (K ρ objs nx)
   | .lits e' z' els=>match Nat.beq e' e,Nat.beq z' z with
     | true,true=>Side (els=xs.map enc) (K ρ objs nx)
     | _,_=>False
   | .nrow=>Side (xs=[]) (K ρ objs nx)
   | _=>False
 | .lits e z els=>match act with
   | .lits e' z' els'=>Side (SO.lits e' z' els'=SO.lits e z els) (K ρ objs nx)
   | .nrow=>Side (els=[]) (K ρ objs nx)
   | _=>False
 | .mp k e i ek ev l=>match act with
   | .mp k' e' i' ek' ev' l'=>Side (SO.mp k' e' i' ek' ev' l'=SO.mp k e i ek ev l) (K ρ objs nx)
   | _=>False
 | .ab b=>match act with
   | .ab c=>Side (SO.ab c=SO.ab b) (K ρ objs nx)
   | _=>False
 | .fbox T ps=>match act with
   | .fbox T' qs=>Side (SO.fbox T' qs=SO.fbox T ps) (K ρ objs nx)
   | _=>False
 | .frow z enc xs=>match act with
   | .frow z' enc' ys=>Side (SO.frow z' enc' ys=SO.frow z enc xs) (K ρ objs nx)
   | _=>False
 | _=>False
def SOk (exp act:SO) (ρ':Rn):Sg→World→Own→Sg→Own→Prop:=fun σ w A σ' A'=>∀ j k,lkN ρ' j=some k→(∀ v,σ k=some v→σ' j=some v)→act.holds w A σ k→exp.holds w A' σ' j∧∀ b,exp.own σ' j b↔act.own σ k b
theorem nrow_row {A:Own} {k e z:Nat} (h:σ k=some (.slice none 0 0)):rowH w A σ k e z []:=⟨_,[],h,by simp,by decide,rfl,World.ownsRow_nil _ _ _ _⟩
theorem rowH.via {A A':Own} {σ':Sg} {k j e z:Nat} {els:List (List SV)} (h:rowH w A σ k e z els) (hl:Later w A w A') (hv:∀ v,σ k=some v→σ' j=some v):rowH w A' σ' j e z els:=by
 obtain ⟨v,cs,h1,h2,h3,h4,h5⟩:=h;exact ⟨v,cs,hv _ h1,h2,h3,h4.later hl,h5⟩
theorem own_via {A:Own} {σ':Sg} {k j:Nat} {so act:SO} (hs:(∃ T ps,so=.box T ps)∨(∃ e z α,∃ enc:α→List SV,∃ xs,so=.row e z enc xs)∨(∃ e z els,so=.lits e z els)) (ha:(∃ T ps,act=.box T ps)∨(∃ e z α,∃ enc:α→List SV,∃ xs,act=.row e z enc xs)∨(∃ e z els,act=.lits e z els)∨act=.nrow)
   (h:act.holds w A σ k) (hv:∀ v,σ k=some v→σ' j=some v) (b:Nat):so.own σ' j b↔act.own σ k b:=by
 have hn:∃ v,σ k=some v:=by
   rcases h.named with ⟨a,rfl⟩|h
   · rcases ha with ⟨_,_,h⟩|⟨_,_,_,_,_,h⟩|⟨_,_,_,h⟩|h<;>cases h
   · exact h
 obtain ⟨v,hk⟩:=hn;have e1:so.own σ' j b↔∃ v,σ' j=some v∧blkO v=some b:=by rcases hs with ⟨_,_,rfl⟩|⟨_,_,_,_,_,rfl⟩|⟨_,_,_,rfl⟩<;>exact Iff.rfl
 have e2:act.own σ k b↔∃ v,σ k=some v∧blkO v=some b:=by rcases ha with ⟨_,_,rfl⟩|⟨_,_,_,_,_,rfl⟩|⟨_,_,_,rfl⟩|rfl<;>exact Iff.rfl
 rw [e1,e2,hk,hv v hk]
theorem fitSO_sound {ρ:Rn} {exp act:SO} {K:KF} (h:fitSO ρ objs nx exp act K):∃ ρ' objs' nx',K ρ' objs' nx'∧FitS P ρ objs nx ρ' objs' nx' fun σ w A σ' A'=>SOk exp act ρ' σ w A σ' A':=by
 unfold fitSO at h
 split at h
 · rename_i T ps
   split at h
   · rename_i T' qs
     split at h
     · rename_i hT
       obtain rfl:=Nat.eq_of_beq_eq_true hT;obtain ⟨ρ',o',n',hK,f⟩:=h.h (P:=P);refine ⟨ρ',o',n',hK,f.1,fun S env σ a w hst=>?_⟩
       obtain ⟨σ',l,s,t,p⟩:=f.2 S env σ a w hst;refine ⟨σ',l,s,t,fun j k hjk hv hh=>⟨?_,own_via (.inl ⟨_,_,rfl⟩) (.inl ⟨_,_,rfl⟩) hh hv⟩⟩
       obtain ⟨b,cs,h1,h2,h3⟩:=hh;exact ⟨b,cs,hv _ h1,h2,p cs h3⟩
     · exact h.elim
   · exact h.elim
 · rename_i e z α enc xs
   split at h
   · refine ⟨ρ,objs,nx,h.k,FitS.id fun S env σ a w hst j k hjk hv hh=>?_⟩
     rw [← h.h];exact ⟨rowH.via hh (Later.refl _ _) hv,own_via (.inr (.inl ⟨_,_,_,_,_,rfl⟩)) (.inr (.inl ⟨_,_,_,_,_,rfl⟩)) hh hv⟩
   · split at h
     · rename_i he hz
       obtain rfl:=Nat.eq_of_beq_eq_true he;obtain rfl:=Nat.eq_of_beq_eq_true hz;refine ⟨ρ,objs,nx,h.k,FitS.id fun S env σ a w hst j k hjk hv hh=>?_⟩
       have e:=h.h;subst e;exact ⟨rowH.via hh (Later.refl _ _) hv,own_via (.inr (.inl ⟨_,_,_,_,_,rfl⟩)) (.inr (.inr (.inl ⟨_,_,_,rfl⟩))) hh hv⟩
     · exact h.elim
   · refine ⟨ρ,objs,nx,h.k,FitS.id fun S env σ a w hst j k hjk hv hh=>?_⟩
     have e:=h.h;subst e;exact ⟨nrow_row (hv _ hh),own_via (.inr (.inl ⟨_,_,_,_,_,rfl⟩)) (.inr (.inr (.inr rfl))) hh hv⟩
   · exact h.elim
 · split at h
   · refine ⟨ρ,objs,nx,h.k,FitS.id fun S env σ a w hst j k hjk hv hh=>?_⟩
     rw [← h.h];exact ⟨rowH.via hh (Later.refl _ _) hv,own_via (.inr (.inr ⟨_,_,_,rfl⟩)) (.inr (.inr (.inl ⟨_,_,_,rfl⟩))) hh hv⟩
   · refine ⟨ρ,objs,nx,h.k,FitS.id fun S env σ a w hst j k hjk hv hh=>?_⟩
     have e:=h.h;subst e;exact ⟨nrow_row (hv _ hh),own_via (.inr (.inr ⟨_,_,_,rfl⟩)) (.inr (.inr (.inr rfl))) hh hv⟩
   · exact h.elim
 · split at h
   · refine ⟨ρ,objs,nx,h.k,FitS.id fun S env σ a w hst j k hjk hv hh=>?_⟩
     rw [← h.h];obtain ⟨b,es,clock,h1,h2⟩:=hh;refine ⟨⟨b,es,clock,hv _ h1,h2⟩,fun c=>?_⟩
     simp only [SO.own,h1,hv _ h1]
   · exact h.elim
 · split at h
   · refine ⟨ρ,objs,nx,h.k,FitS.id fun S env σ a w hst j k hjk hv hh=>?_⟩
     rw [← h.h];exact ⟨hh,fun b=>Iff.rfl⟩
   · exact h.elim
 · split at h
   · refine ⟨ρ,objs,nx,h.k,FitS.id fun S env σ a w hst j k hjk hv hh=>?_⟩
     rw [← h.h];obtain ⟨v,h1,h2,h3⟩:=hh;exact ⟨⟨v,hv _ h1,h2,h3⟩,fun b=>Iff.rfl⟩
   · exact h.elim
 · split at h
   · refine ⟨ρ,objs,nx,h.k,FitS.id fun S env σ a w hst j k hjk hv hh=>?_⟩
     rw [← h.h];obtain ⟨v,h1,h2⟩:=hh;exact ⟨⟨v,hv _ h1,h2⟩,fun b=>Iff.rfl⟩
   · exact h.elim
 · exact h.elim
def rmO:List Ob→Nat→Option (SO×List Ob)
 | [],_=>none
 | (k,so)::r,n=>match Nat.beq k n with
   | true=>some (so,r)
   | false=>match rmO r n with
     | some (so',r')=>some (so',(k,so)::r')
     | none=>none
theorem rmO_perm:∀ {l r:List Ob} {n:Nat} {so:SO},rmO l n=some (so,r)→List.Perm l ((n,so)::r)
 | [],_,_,_,h=>by simp [rmO] at h
 | (k,u)::l,r,n,so,h=>by
   unfold rmO at h
   split at h
   · rename_i hb
     obtain rfl:=Nat.eq_of_beq_eq_true hb;simp only [Option.some.injEq,Prod.mk.injEq] at h;obtain ⟨rfl,rfl⟩:=h;exact List.Perm.refl _
   · split at h
     · rename_i so' r' hr
       simp only [Option.some.injEq,Prod.mk.injEq] at h;obtain ⟨rfl,rfl⟩:=h;exact (List.Perm.cons _ (rmO_perm hr)).trans (List.Perm.swap _ _ _)
     · cases h
abbrev KO:=Rn→List Ob→List Ob→Nat→Prop
theorem St.perm {m:List Ob} (h:St P S σ env objs nx a w) (hp:List.Perm objs m):St P S σ env m nx a w :=
 { slots:=fun t s ht=>(h.slots t s ht).later (ownsA_perm hp),dom:=h.dom,size:=h.size,defers:=h.defers,obs:=h.obs.perm hp,hist:=h.hist,own0:=fun b hb=>h.own0 b ((owns_perm hp b).2 hb),a0:=h.a0,mks:=h.mks,glob:=h.glob.later (ownsA_perm hp),base:=h.base,nnx:=h.nnx }
theorem St.local {tk:List Ob} (h:St P S σ env (tk++objs) nx a w):St P ⟨fun b=>S.A0 b∨owns σ tk b,owns σ objs,w,S.n,S.s0,S.nn,S.ds⟩ σ env objs nx a w:=by
 have hd:=Disj_append.1 h.obs.disj;have hA:∀ b,((S.A0 b∨owns σ tk b)∨owns σ objs b)↔S.A σ (tk++objs) b:=fun b=>by simp only [Sig.A,owns_append,or_assoc]
 have hl:Later w (S.A σ (tk++objs)) w (fun b=>(S.A0 b∨owns σ tk b)∨owns σ objs b):=Later.own fun b hb=>(hA b).1 hb
 refine { slots:=fun t s ht=>(h.slots t s ht).later hl,dom:=h.dom,size:=h.size,defers:=h.defers,obs:=⟨fun o ho=>(h.obs.holds o (List.mem_append_right _ ho)).later hl (fun _ _=>rfl),hd.2.1,fun b hb=>?_⟩,hist:=Mod.refl _ _,own0:=fun b hb=>.inl hb,a0:=fun b hb=>?_,mks:=fun D hD=>⟨.inl (h.mks D hD).1,(h.mks D hD).2⟩,glob:=h.glob.later hl,base:=h.base,nnx:=h.nnx }
 · have:=h.obs.lt b (by rw [owns_append];exact .inr hb)
   exact ⟨this.1,fun hx=>hx.elim this.2 fun hx=>hd.2.2 b hx hb⟩
 · rcases hb with hb|hb
   · exact h.a0lt b hb
   · exact (h.obs.lt b (by rw [owns_append];exact .inl hb)).1
theorem St.global {tk objs':List Ob} {σ':Sg} {nx':Nat} (h:St P S σ env (tk++objs) nx a w) (hle:Sg.le σ σ') (h':St P ⟨fun b=>S.A0 b∨owns σ tk b,owns σ objs,w,S.n,S.s0,S.nn,S.ds⟩ σ' env objs' nx' a w) :
   St P S σ' env (tk++objs') nx' a w∧Later w (S.A σ (tk++objs)) w (S.A σ' (tk++objs')):=by
 have htk:∀ o∈tk,o.2.holds w (S.A σ (tk++objs)) σ o.1:=fun o ho=>h.obs.holds o (List.mem_append_left _ ho)
 have hot:∀ b,owns σ' tk b↔owns σ tk b:=owns_names hle htk;have hoo:∀ b,owns σ' objs' b→owns σ objs b:=fun b hb=>(h'.own0 b hb).resolve_right (fun hx=>by have:=(h'.obs.lt b hb).1;simp only at hx;omega)
 have hle2:∀ b,owns σ' (tk++objs') b→owns σ (tk++objs) b:=fun b hb=>by
   rw [owns_append] at hb ⊢;exact hb.imp (hot b).1 (hoo b)
 have hl:Later w (S.A σ (tk++objs)) w (S.A σ' (tk++objs')):=Later.own fun b hb=>hb.imp id (hle2 b)
 have hd:=Disj_append.1 h.obs.disj;have hA:∀ b,((S.A0 b∨owns σ tk b)∨owns σ' objs' b)↔S.A σ' (tk++objs') b:=fun b=>by simp only [Sig.A,owns_append,or_assoc,hot]
 have hl2:Later w (fun b=>(S.A0 b∨owns σ tk b)∨owns σ' objs' b) w (S.A σ' (tk++objs')):=Later.own fun b hb=>(hA b).2 hb
 refine ⟨{ slots:=fun t s ht=>(h'.slots t s ht).later hl2,dom:=h'.dom,size:=h'.size,defers:=h'.defers,obs:=⟨fun o ho=>?_,?_,fun b hb=>h.obs.lt b (hle2 b hb)⟩,hist:=h.hist,own0:=fun b hb=>h.own0 b (hle2 b hb),a0:=h.a0,mks:=h.mks,glob:=h.glob.later hl,base:=h'.base,nnx:=h'.nnx },hl⟩
 · rcases List.mem_append.1 ho with ho|ho
   · exact ((htk o ho).names hle).later hl (fun _ _=>rfl)
   · exact (h'.obs.holds o ho).later hl2 (fun _ _=>rfl)
 · refine Disj_append.2 ⟨Disj_names hle htk hd.1,h'.obs.disj,fun b hb hx=>?_⟩
   exact hd.2.2 b ((hot b).1 hb) (hoo b hx)
def MatchO (σ:Sg) (ρ:Rn) (w:World) (A:Own):List Ob→List Ob→Prop
 | [],tn=>tn=[]
 | (j,so)::r,tn=>∃ k act m,tn=(k,act)::m∧lkN ρ j=some k∧so.holds w A (σ.via ρ) j∧(∀ b,so.own (σ.via ρ) j b↔act.own σ k b)∧MatchO σ ρ w A r m
structure FitOs (ρ:Rn) (tk objs:List Ob) (nx:Nat) (exps:List Ob) (K:KO):Prop where
 h:∀ {P:Program} [TabC P],∃ ρ' tn objs' nx',K ρ' (tn.reverse++tk) objs' nx'∧Rn.le ρ ρ'∧∀ S env σ a w,St P S σ env (tk++objs) nx a w →
   ∃ σ',Sg.le σ σ'∧St P S σ' env ((tn.reverse++tk)++objs') nx' a w∧Later w (S.A σ (tk++objs)) w (S.A σ' ((tn.reverse++tk)++objs'))∧MatchO σ' ρ' w (S.A σ' ((tn.reverse++tk)++objs')) exps tn
def abName:List Ob→Option Nat
 | []=>none
 | (k,.ab _)::_=>some k
 | _::r=>abName r
def fitOsS (ρ:Rn) (tk objs:List Ob) (nx:Nat) (exps:List Ob) (K:KO):Prop:=match exps with
 | []=>K ρ tk objs nx
 | (j,so)::r=>match lkN ρ j with
   | some k=>match rmO objs k with
     | some (act,rest)=>fitSO ρ rest nx so act fun ρ rest nx=>FitOs ρ ((k,act)::tk) rest nx r K
     | none=>False
   | none=>match so with
     | .ab _=>match abName objs with
       | some k=>match rmO objs k with
         | some (act,rest)=>fitSO ((j,k)::ρ) rest nx so act fun ρ rest nx=>FitOs ρ ((k,act)::tk) rest nx r K
         | none=>False
       | none=>False
     | _=>False
theorem FitOs.unf {ρ:Rn} {tk exps:List Ob} {K:KO} (h:fitOsS ρ tk objs nx exps K):FitOs ρ tk objs nx exps K:=⟨fun {P} _=>by
 match exps,h with
 | [],h=>exact ⟨ρ,[],objs,nx,h,Rn.le.refl _,fun S env σ a w hst=>⟨σ,Sg.le.refl _,hst,Later.refl _ _,rfl⟩⟩
 | (j,so)::r,h =>
   simp only [fitOsS] at h;have main:∀ {ρ0:Rn} {k:Nat} {act:SO} {rest:List Ob},Rn.le ρ ρ0→lkN ρ0 j=some k→rmO objs k=some (act,rest)→(fitSO ρ0 rest nx so act fun ρ rest nx=>FitOs ρ ((k,act)::tk) rest nx r K) →
       ∃ ρ' tn objs' nx',K ρ' (tn.reverse++tk) objs' nx'∧Rn.le ρ ρ'∧∀ S env σ a w,St P S σ env (tk++objs) nx a w →
         ∃ σ',Sg.le σ σ'∧St P S σ' env ((tn.reverse++tk)++objs') nx' a w∧Later w (S.A σ (tk++objs)) w (S.A σ' ((tn.reverse++tk)++objs'))∧MatchO σ' ρ' w (S.A σ' ((tn.reverse++tk)++objs')) ((j,so)::r) tn:=by
     intro ρ0 k act rest hle hk hrm h;obtain ⟨ρ1,o1,n1,h,f1⟩:=fitSO_sound (P:=P) h;obtain ⟨ρ2,tn,o2,n2,h,l2,f2⟩:=h.h (P:=P);refine ⟨ρ2,(k,act)::tn,o2,n2,by simpa using h,hle.trans (f1.1.trans l2),fun S env σ a w hst=>?_⟩
     have hp:List.Perm (tk++objs) (((k,act)::tk)++rest):=by
       refine (List.Perm.append_left tk (rmO_perm hrm)).trans ?_
       simpa using List.perm_middle (a:=(k,act)) (l₁:=tk) (l₂:=rest)
     have hst1:=hst.perm hp;have lp:Later w (S.A σ (tk++objs)) w (S.A σ (((k,act)::tk)++rest)):=ownsA_perm hp;obtain ⟨σ1,le1,s1,t1,p1⟩:=f1.2 _ _ _ _ _ hst1.local;obtain ⟨g1,g2⟩:=hst1.global le1 s1;obtain ⟨σ2,le2,s2,t2,p2⟩:=f2 S env σ1 a w g1;have e:(((k,act)::tn).reverse++tk)++o2=(tn.reverse++(k,act)::tk)++o2:=by simp
     rw [e];refine ⟨σ2,le1.trans le2,s2,lp.trans (g2.trans t2),k,act,tn,rfl,l2 _ _ (f1.1 _ _ hk),?_⟩;have hact:act.holds w (fun b=>(S.A0 b∨owns σ ((k,act)::tk) b)∨owns σ rest b) σ k:=by
       have:=hst1.obs.holds (k,act) (by simp)
       exact this.later (Later.own fun b hb=>by simp only [Sig.A,owns_append];exact hb.elim (fun h=>h.elim .inl (fun h=>.inr (.inl h))) (fun h=>.inr (.inr h))) (fun _ _=>rfl)
     obtain ⟨q1,q2⟩:=p1 j k (f1.1 _ _ hk) (fun v hv=>by unfold Sg.via;rw [f1.1 _ _ hk];exact le1 _ _ hv) hact
     have hl3:Later w (fun b=>(S.A0 b∨owns σ ((k,act)::tk) b)∨owns σ1 o1 b) w (S.A σ2 ((tn.reverse++(k,act)::tk)++o2)):=by
       refine Later.trans (Later.own fun b hb=>?_) t2
       have ht1:∀ b,owns σ1 ((k,act)::tk) b↔owns σ ((k,act)::tk) b:=owns_names le1 (fun o ho=>hst1.obs.holds o (List.mem_append_left _ ho))
       rcases hb with hb|hb
       · exact .inl (.inl hb)
       · rw [owns_append] at hb
         exact hb.elim (fun h=>.inl (.inr ((ht1 b).1 h))) .inr
     refine ⟨(q1.later hl3 (fun _ _=>rfl)).names (via_le le2 l2),fun b=>?_,p2⟩
     have hw:∀ b,act.own σ2 k b↔act.own σ k b:=fun b=>SO.own_names (le1.trans le2) hact b
     rw [hw b,← q2 b];exact SO.own_names (via_le le2 l2) q1 b
   split at h
   · rename_i k hk
     split at h
     · rename_i act rest hrm
       exact main (Rn.le.refl _) hk hrm h
     · exact h.elim
   · rename_i hno
     split at h
     · split at h
       · rename_i k hk
         split at h
         · rename_i act rest hrm
           refine main (ρ0:=(j,k)::ρ) (fun j' n e=>?_) (by simp [lkN,Nat.beq_refl]) hrm h
           unfold lkN
           split
           · rename_i hb
             have:=Nat.eq_of_beq_eq_true hb
             subst this;rw [hno] at e;cases e
           · exact e
         · exact h.elim
       · exact h.elim
     · exact h.elim⟩
end
end Go.Proofs.YtfljmihdeimahaaGreatDoor
