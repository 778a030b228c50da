import Derived.Test.YtfljmihdeimahaaGreatDoorZLPRec7
import Derived.Test.YtfljmihdeimahaaGreatDoorZLPRec4
import Derived.Test.YtfljmihdeimahaaGreatDoorZLPRec6
import Derived.Stop.LaidErr
import Derived.Lay
namespace Go.Proofs.YtfljmihdeimahaaGreatDoor
set_option linter.all false
open Go.RowKit
abbrev rng (f:Int):Prop:=0≤f∧f<2147483648
theorem mget_clS_miss {e:Int} {f:Int} (hf:rng f):∀ {l:List Rq} {c:Cl},(∀ r∈l,RqOk r)→(∀ r∈l,r.1.1≠f)→mget (clS c l e) (kI f)=mget c (kI f)
 | [],c,_,_=>rfl
 | r::l,c,h,hn=>by
   have hr:=h r (by simp)
   show mget (clS (mput c (kI r.1.1) (r.1.2,e)) l e) (kI f)=_;rw [mget_clS_miss hf (fun x hx=>h x (by simp [hx])) (fun x hx=>hn x (by simp [hx])),mget_put,if_neg]
   exact fun h2=>hn r (by simp) (kI_inj hr.f0 hr.f1 hf.1 hf.2 h2)
theorem mget_clS_hit {e:Int} {f:Int} (hf:rng f):∀ {l:List Rq} {c:Cl} {r0:Rq},(∀ r∈l,RqOk r)→apaP l→r0∈l→r0.1.1=f→mget (clS c l e) (kI f)=some (r0.1.2,e)
 | [],c,r0,_,_,h,_=>by cases h
 | r::l,c,r0,h,ha,hm,hrf=>by
   have ha:(r.1.1::l.map fun r=>r.1.1).Nodup:=ha
   rw [List.nodup_cons] at ha;show mget (clS (mput c (kI r.1.1) (r.1.2,e)) l e) (kI f)=_;rcases List.mem_cons.1 hm with rfl|hm
   · rw [mget_clS_miss hf (fun x hx=>h x (by simp [hx])) (fun x hx e=>ha.1 (List.mem_map.2 ⟨x,hx,e.trans hrf.symm⟩)),mget_put,hrf,if_pos rfl]
   · exact mget_clS_hit hf (fun x hx=>h x (by simp [hx])) ha.2 hm hrf
theorem LastIs.snoc {xs:List Sl20} {x:Sl20} {f q:Int} {n:Nat} (h:LastIs (xs++[x]) f q n):(n=xs.length+1∧∃ r∈x.2,r.1.1=f∧r.1.2=q)∨(n≤xs.length∧(∀ r∈x.2,r.1.1≠f)∧LastIs xs f q n):=by
 have hl:(xs++[x]).length=xs.length+1:=by simp
 have hle:=h.le;rw [hl] at hle;have hx:(xs++[x])[xs.length]'(by omega)=x:=List.getElem_concat_length rfl _
 rcases Nat.eq_or_lt_of_le hle with rfl|hlt
 · left
   refine ⟨rfl,?_⟩;obtain ⟨r,h1,h2⟩:=h.some (by omega) (by omega)
   have e:(xs++[x])[xs.length+1 - 1]'(by omega)=x:=hx
   rw [e] at h1;exact ⟨r,h1,h2⟩
 · right
   refine ⟨by omega,fun r hr=>?_,?_⟩
   · have:=h.above xs.length (by omega) (by omega)
     rw [hx] at this;exact this r hr
   · refine ⟨by omega,fun h0=>?_,fun hi h1=>?_,fun j hj hn=>?_⟩
     · obtain ⟨h1,h2⟩:=h.none h0
       exact ⟨h1,fun y hy=>h2 y (by simp [hy])⟩
     · obtain ⟨r,h2,h3⟩:=h.some (by omega) h1
       rw [List.getElem_append_left hi] at h2;exact ⟨r,h2,h3⟩
     · have:=h.above j (by omega) hn
       rw [List.getElem_append_left hj] at this;exact this
def ClOk (xs:List Sl20) (cl:Cl):Prop:=∀ f q n,rng f→LastIs xs f q n→mget cl (kI f)=if n=0 then none else some (q,(n:Int))
theorem ClOk.nil:ClOk [] []:=fun f q n _ h=>by
 have hn:=h.le;have hn:n≤0:=hn;obtain rfl:n=0:=by omega
 rfl
theorem ClOk.snoc {xs:List Sl20} {x:Sl20} {cl:Cl} (h:ClOk xs cl) (hx:SlOk x) (ha:apaP x.2):ClOk (xs++[x]) (clS cl x.2 ((xs.length:Int)+1)):=fun f q n hf hl=>by
 rcases hl.snoc with ⟨rfl,r,h1,h2,h3⟩|⟨h1,h2,h3⟩
 · rw [mget_clS_hit hf hx.r ha h1 h2,h3,if_neg (by omega)];rfl
 · rw [mget_clS_miss hf hx.r h2]
   exact h f q n hf h3
theorem sealF_zero {s:H256} {es:List (List Nws)} {us:List (Bs×Bs)} (h:(sealF s es us).2=0):us.length≤16∧(∀ u∈us,okU es u)∧(us.map Prod.fst).Nodup∧(sealF s es us).1.length=es.length+1:=by
 unfold sealF at h ⊢
 split at h
 · cases h
 · rename_i h1
   split at h
   · rename_i h2
     rw [if_neg h1,if_pos h2];exact ⟨by omega,h2.1,h2.2,by simp⟩
   · cases h
structure Run (s:H256) (xs:List Sl20) (P:Pst):Prop where
 seed:P.1=s
 len:P.2.1.length=xs.length
 tk:P.2.2.1=xs.map Prod.fst
 cl:ClOk xs P.2.2.2
theorem Run.nil (s:H256):Run s [] (s,[],[],[]):=⟨rfl,rfl,rfl,ClOk.nil⟩
theorem Run.snoc {s:H256} {xs:List Sl20} {P:Pst} {x:Sl20} (h:Run s xs P) (hx:SlOk x) (ho:okP P x):Run s (xs++[x]) (seaP P x):=by
 obtain ⟨h1,h2,h3,h4,h5,h6⟩:=ho;have e:seaP P x=(P.1,(sealF P.1 P.2.1 (x.2.map Prod.snd)).1,P.2.2.1++[x.1],clS P.2.2.2 x.2 ((sealF P.1 P.2.1 (x.2.map Prod.snd)).1.length:Int)):=if_pos h6;have hz:=(sealF_zero h6).2.2.2;rw [e];refine ⟨h.seed,?_,?_,?_⟩
 · show (sealF P.1 P.2.1 (x.2.map Prod.snd)).1.length=_
   rw [hz,h.len];simp
 · show P.2.2.1++[x.1]=_
   rw [h.tk];simp
 · show ClOk (xs++[x]) (clS P.2.2.2 x.2 ((sealF P.1 P.2.1 (x.2.map Prod.snd)).1.length:Int))
   rw [hz,h.len];exact h.cl.snoc hx h4
theorem Run.take {s:H256} {l:List Sl20}:∀ {i:Nat},i≤l.length→(∀ x∈l.take i,SlOk x)→okAll (s,[],[],[]) (l.take i)→Run s (l.take i) ((l.take i).foldl seaP (s,[],[],[]))
 | 0,_,_,_=>Run.nil s
 | i+1,hi,hx,ho=>by
   have e:l.take (i+1)=l.take i++[l[i]'(by omega)]:=List.take_succ_eq_append_getElem (by omega)
   rw [e] at hx ho ⊢;rw [okAll_snoc] at ho;rw [List.foldl_append];exact (Run.take (by omega) (fun x h=>hx x (List.mem_append_left _ h)) ho.1).snoc (hx _ (List.mem_append_right _ (List.mem_singleton.2 rfl))) ho.2
theorem old_iff {xs:List Sl20} {cl:Cl} {r:Rq} {q:Int} {n:Nat} (h:ClOk xs cl) (hr:RqOk r) (hl:LastIs xs r.1.1 q n):oldB cl r=true↔0<n∧r.1.2≤q:=by
 have e:=h _ _ _ ⟨hr.f0,hr.f1⟩ hl;unfold oldB;rw [e]
 by_cases h0:n=0
 · subst h0;simp
 · rw [if_neg h0]
   show decide (r.1.2≤q)=true↔_;rw [decide_eq_true_eq];exact ⟨fun h=>⟨by omega,h⟩,fun h=>h.2⟩
structure GoodK (cl:Cl) (w:List Rq):Prop where
 n:w.length≤16
 sz:∀ r∈w,1≤r.2.1.length∧r.2.1.length≤32∧r.2.2.length≤64
 old:∀ r∈w,oldB cl r=false
 apart:apaP w
 lab:(w.map fun r=>r.2.1).Nodup
theorem GoodK.nil (cl:Cl):GoodK cl []:=⟨Nat.zero_le _,fun r h=>(by cases h),fun r h=>(by cases h),List.nodup_nil,List.nodup_nil⟩
theorem nodup_snoc {α β:Type} {g:α→β} {w:List α} {r:α}:((w++[r]).map g).Nodup↔(w.map g).Nodup∧∀ x∈w,g x≠g r:=by
 rw [List.map_append,List.nodup_append]
 constructor
 · rintro ⟨h1,_,h3⟩
   exact ⟨h1,fun x hx e=>h3 _ (List.mem_map.2 ⟨x,hx,rfl⟩) (g r) (by simp) e⟩
 · rintro ⟨h1,h2⟩
   refine ⟨h1,by simp,fun a ha b hb e=>?_⟩
   obtain ⟨x,hx,rfl⟩:=List.mem_map.1 ha;have hb:b=g r:=by simpa using hb
   exact h2 x hx (e.trans hb)
theorem GoodK.snoc {xs:List Sl20} {cl:Cl} {w:List Rq} {r:Rq} {q:Int} {n:Nat} (h:GoodK cl w) (hc:ClOk xs cl) (hr:RqOk r) (hl:LastIs xs r.1.1 q n) (ho:okRq q n w r):GoodK cl (w++[r]):=by
 obtain ⟨h1,h2,h3,h4⟩:=ho;refine ⟨by rw [List.length_append];simp;omega,fun y hy=>?_,fun y hy=>?_,?_,?_⟩
 · rcases List.mem_append.1 hy with hy|hy
   · exact h.sz y hy
   · obtain rfl:=List.mem_singleton.1 hy;exact h2
 · rcases List.mem_append.1 hy with hy|hy
   · exact h.old y hy
   · obtain rfl:=List.mem_singleton.1 hy
     cases ho:oldB cl y with
     | false=>rfl
     | true=>exact absurd ((old_iff hc hr hl).1 ho) h1
 · exact nodup_snoc.2 ⟨h.apart,fun x hx=>(h4 x hx).1⟩
 · exact nodup_snoc.2 ⟨h.lab,fun x hx=>(h4 x hx).2⟩
theorem okP_okRq {xs:List Sl20} {P:Pst} {x:Sl20} {k:Nat} {q:Int} {n:Nat} (hc:ClOk xs P.2.2.2) (hk:k<x.2.length) (hr:RqOk x.2[k]) (hl:LastIs xs (x.2[k]).1.1 q n) (ho:okP P x):okRq q n (x.2.take k) x.2[k]:=by
 obtain ⟨h1,h2,h3,h4,h5,h6⟩:=ho;obtain ⟨z1,z2,z3,z4⟩:=sealF_zero h6;have hm:x.2[k]∈x.2:=List.getElem_mem _;have hu:=z2 _ (List.mem_map.2 ⟨_,hm,rfl⟩);have hd:=h1.2 _ hm;have h16:=h1.1;have et:x.2.take (k+1)=x.2.take k++[x.2[k]]:=List.take_succ_eq_append_getElem hk;refine ⟨fun h=>?_,⟨hu.1.1,hd⟩,by rw [List.length_take];omega,fun w hw=>⟨?_,?_⟩⟩
 · have:=(old_iff hc hr hl).2 h
   rw [h5 _ hm] at this;cases this
 · have ha:((x.2.take (k+1)).map fun r=>r.1.1).Nodup:=by
     rw [List.map_take];exact List.Nodup.sublist (List.take_sublist ..) h4
   rw [et] at ha;exact (nodup_snoc.1 ha).2 w hw
 · have ha:((x.2.take (k+1)).map fun r=>r.2.1).Nodup:=by
     rw [List.map_take];refine List.Nodup.sublist (List.take_sublist ..) ?_;have e:(x.2.map fun r=>r.2.1)=(x.2.map Prod.snd).map Prod.fst:=by rw [List.map_map];rfl
     rw [e];exact z3
   rw [et] at ha;exact (nodup_snoc.1 ha).2 w hw
theorem okP_of {P:Pst} {x:Sl20} (hg:GoodK P.2.2.2 x.2) (h8:P.2.1.length<8):okP P x↔folP P.2.2.1 x.1∧(sealF P.1 P.2.1 (x.2.map Prod.snd)).2=0 :=
 ⟨fun h=>⟨h.2.1,h.2.2.2.2.2⟩,fun h=>⟨⟨hg.n,fun r hr=>(hg.sz r hr).2⟩,h.1,h8,hg.apart,hg.old,h.2⟩⟩
abbrev vlQ (l g:BitVec 32):SO:=.box 94 [.ptr 2 0,.bool false,.u32 l,.u32 g,.ptr 1 0,.bool false]
abbrev lgQ (f c:Int) (g:BitVec 32) (nx:Nat):SO:=.box 137 [.ptr 2 0,.int .i64 f,.int .i64 c,.u32 g,.int .i64 (nx:Int),.bool false]
abbrev dvQ (a b c:Nat):SO:=.box 83 [.own a,.own b,.own c,.int .i64 (-1),.bool false]
abbrev vaO (l g:BitVec 32) (f c:Int) (h:BitVec 32) (nx:Nat) (L S:List Pg) (q:List (Nat×Pg)) (b k:Nat):List Ob:=[(0,vlQ l g),(1,lgQ f c h nx),(2,dvQ 3 b k),(3,.row 189 128 ePg L),(b,.row 189 128 ePg S),(k,.row 208 129 eQw q)]
abbrev Va:=(BitVec 32×BitVec 32)×(Nat×Nat×BitVec 32×Nat)×(List Pg×List Pg×List (Nat×Pg))
def vdn_c:Ctr where
 D:=(BitVec 32×BitVec 32)×Int
 pre:=fun (_,e)=>e≠6
 args:=fun (_,e)=>[.ptr 0 0,.int .i64 e]
 objs:=fun ((l,g),_)=>[(0,vlQ l g)]
 nn:=3
 res:=fun (_,e) _=>.int .i64 e
 out:=fun ((l,g),_) _=>[(0,vlQ l g)]
def vdn_H:Cfg:=⟨[],[],[],[],17,3,[],[],[]⟩
theorem vdn_ok:vdn_c.Ok Tryz.prog 27:=by
 refine fn_ok vdn_H 3 rfl _ Tryz.func27 rfl rfl trivial rfl rfl (by kernel_rfl) (fun _=>nlb rfl) ?_
 rintro ⟨⟨l,g⟩,e⟩ hp hr
 try dsimp only [vdn_c] at hp
 try simp only [vdn_c,Rng,RngL,inR,and_true,true_and] at hr
 have hp:e≠6:=hp
 repeat' (first|(with_reducible refine Unf.h ?_)|((conv=>whnf);first|(refine Side.mk ?_ ?_;focus (first|with_reducible rfl|(refine congrArg (SV.int _) ?_;omega)|(simp [*];done)))|refine RetE.mk () trivial ?_|refine retK_r ?_|exact rfl)|fail);all_goals try (conv=>whnf);all_goals try (exfalso;omega)
def vapp_c:Ctr where
 D:=Va×Bs
 pre:=fun ((_,(f,c,_,nx),(L,S,q)),b)=>1≤b.length∧b.length≤6000∧nx+nPt b.length≤c∧f+c≤L.length∧L.length≤4096∧S.length=L.length∧q.length≤10000
 args:=fun (_,b)=>[.ptr 0 0,.fs 1 eB b]
 objs:=fun (((l,g),(f,c,h,nx),(L,S,q)),_)=>vaO l g (f:Int) (c:Int) h nx L S q 4 5
 nn:=6
 res:=fun _ _=>.int .i64 0
 out:=fun (((l,g),(f,c,h,nx),(L,S,q)),b) _=>vaO l g (f:Int) (c:Int) h (nx+nPt b.length) L (apS S (f+nx) h nx b (nPt b.length)) (apQ q (f+nx) h nx b (nPt b.length)) 7 6
 mm:=2
def vapp_H:Cfg:=⟨[(28,lapp_c),(27,vdn_c)],[],[],[],21,6,[],[],[]⟩
theorem vapp_ok:vapp_c.Ok Tryz.prog 10:=by
 refine fn_ok vapp_H 6 rfl _ Tryz.func10 rfl rfl ⟨lapp_ok,vdn_ok,trivial⟩ rfl rfl (by kernel_rfl) (fun _=>nlb rfl) ?_
 rintro ⟨⟨⟨l,g⟩,⟨f,c,h,nx⟩,⟨L,S,q⟩⟩,b⟩ hp hr
 try dsimp only [vapp_c] at hp
 try simp only [vapp_c,Rng,RngL,inR,and_true,true_and] at hr
 have hpl:lapp_c.pre ((L,S,q),(f,c,h,nx),b):=hp;have hpd:vdn_c.pre ((l,g),0):=by show (0:Int)≠6;decide
 clear hp
 repeat' (first|(with_reducible refine Unf.h ?_)|fail);all_goals try (conv=>whnf);all_goals try (exfalso;omega)
 refine CallS.mk (c:=lapp_c) (((L,S,q),(f,c,h,nx),b)) ?_
 repeat' (first|(with_reducible refine Unf.h ?_)|((conv=>whnf);first|(refine Side.mk ?_ ?_;focus (first|with_reducible rfl|assumption))|refine Got.mk (fun _ _=>?_))|fail);all_goals try (conv=>whnf);all_goals try (exfalso;omega)
 refine CallS.mk (c:=vdn_c) (((l,g),0)) ?_
 repeat' (first|(with_reducible refine Unf.h ?_)|((conv=>whnf);first|(refine Side.mk ?_ ?_;focus (first|with_reducible rfl|assumption|(refine congrArg (SV.int _) ?_;omega)))|refine RetE.mk () trivial ?_|refine Got.mk (fun _ _=>?_)|refine retK_r ?_|exact rfl)|fail);all_goals try (conv=>whnf);all_goals try (exfalso;omega)
def vappF_c:Ctr where
 D:=Va×Bs
 pre:=fun ((_,(_,c,_,nx),_),b)=>1≤b.length∧b.length≤6000∧c<nx+nPt b.length∧nx≤100000∧c≤100000
 args:=fun (_,b)=>[.ptr 0 0,.fs 1 eB b]
 objs:=fun (((l,g),(f,c,h,nx),(L,S,q)),_)=>vaO l g (f:Int) (c:Int) h nx L S q 4 5
 nn:=6
 res:=fun _ _=>.int .i64 5
 out:=fun (((l,g),(f,c,h,nx),(L,S,q)),_) _=>vaO l g (f:Int) (c:Int) h nx L S q 4 5
def vappF_H:Cfg:=⟨[(28,lappF_c),(27,vdn_c)],[],[],[],21,6,[],[],[]⟩
theorem vappF_ok:vappF_c.Ok Tryz.prog 10:=by
 refine fn_ok vappF_H 6 rfl _ Tryz.func10 rfl rfl ⟨lappF_ok,vdn_ok,trivial⟩ rfl rfl (by kernel_rfl) (fun _=>nlb rfl) ?_
 rintro ⟨⟨⟨l,g⟩,⟨f,c,h,nx⟩,⟨L,S,q⟩⟩,b⟩ hp hr
 try dsimp only [vappF_c] at hp
 try simp only [vappF_c,Rng,RngL,inR,and_true,true_and] at hr
 have hpl:lappF_c.pre ((L,S,q),(f,c,h,nx),b):=hp;have hpd:vdn_c.pre ((l,g),5):=by show (5:Int)≠6;decide
 clear hp
 repeat' (first|(with_reducible refine Unf.h ?_)|fail);all_goals try (conv=>whnf);all_goals try (exfalso;omega)
 refine CallS.mk (c:=lappF_c) (((L,S,q),(f,c,h,nx),b)) ?_
 repeat' (first|(with_reducible refine Unf.h ?_)|((conv=>whnf);first|(refine Side.mk ?_ ?_;focus (first|with_reducible rfl|assumption))|refine Got.mk (fun _ _=>?_))|fail);all_goals try (conv=>whnf);all_goals try (exfalso;omega)
 refine CallS.mk (c:=vdn_c) (((l,g),5)) ?_
 repeat' (first|(with_reducible refine Unf.h ?_)|((conv=>whnf);first|(refine Side.mk ?_ ?_;focus (first|with_reducible rfl|assumption|(refine congrArg (SV.int _) ?_;omega)))|refine RetE.mk () trivial ?_|refine Got.mk (fun _ _=>?_)|refine retK_r ?_|exact rfl)|fail);all_goals try (conv=>whnf);all_goals try (exfalso;omega)
def vflu_c:Ctr where
 D:=Va
 pre:=fun (_,_,(L,_,q))=>q.length≤100000∧∀ p∈q,p.1<L.length
 args:=fun _=>[.ptr 0 0]
 objs:=fun ((l,g),(f,c,h,nx),(L,S,q))=>vaO l g (f:Int) (c:Int) h nx L S q 4 5
 nn:=6
 res:=fun _ _=>.int .i64 0
 out:=fun ((l,g),(f,c,h,nx),(L,S,q)) _=>[(0,vlQ l g),(1,lgQ (f:Int) (c:Int) h nx),(2,dvQ 6 4 7),(6,.row 189 128 ePg (flF L q)),(4,.row 189 128 ePg S),(7,.row 208 129 eQw [])]
 mm:=2
def vflu_H:Cfg:=⟨[(32,lflu_c),(27,vdn_c)],[],[],[],18,6,[],[],[]⟩
theorem vflu_ok:vflu_c.Ok Tryz.prog 13:=by
 refine fn_ok vflu_H 6 rfl _ Tryz.func13 rfl rfl ⟨lflu_ok,vdn_ok,trivial⟩ rfl rfl (by kernel_rfl) (fun _=>nlb rfl) ?_
 rintro ⟨⟨l,g⟩,⟨f,c,h,nx⟩,⟨L,S,q⟩⟩ hp hr
 try dsimp only [vflu_c] at hp
 try simp only [vflu_c,Rng,RngL,inR,and_true,true_and] at hr
 have hpl:lflu_c.pre ((L,S,q),(f:Int),(c:Int),h,nx):=hp;have hpd:vdn_c.pre ((l,g),0):=by show (0:Int)≠6;decide
 clear hp
 repeat' (first|(with_reducible refine Unf.h ?_)|fail);all_goals try (conv=>whnf);all_goals try (exfalso;omega)
 refine CallS.mk (c:=lflu_c) (((L,S,q),(f:Int),(c:Int),h,nx)) ?_
 repeat' (first|(with_reducible refine Unf.h ?_)|((conv=>whnf);first|(refine Side.mk ?_ ?_;focus (first|with_reducible rfl|assumption))|refine Got.mk (fun _ _=>?_))|fail);all_goals try (conv=>whnf);all_goals try (exfalso;omega)
 refine CallS.mk (c:=vdn_c) (((l,g),0)) ?_
 repeat' (first|(with_reducible refine Unf.h ?_)|((conv=>whnf);first|(refine Side.mk ?_ ?_;focus (first|with_reducible rfl|assumption|(refine congrArg (SV.int _) ?_;omega)))|refine RetE.mk () trivial ?_|refine Got.mk (fun _ _=>?_)|refine retK_r ?_|exact rfl)|fail);all_goals try (conv=>whnf);all_goals try (exfalso;omega)
theorem toPg_list {l:Bs} (h:l.length=128):(toPg l).toList=l:=by
 apply List.ext_getElem
 · rw [Vector.length_toList,h]
 · intro i h1 h2
   unfold toPg
   simp [List.getD_eq_getElem?_getD,h2]
theorem apS_out {S:List Pg} {a nx k:Nat} {g:BitVec 32} {b:Bs}:∀ {i:Nat},k<a∨a+i≤k→(apS S a g nx b i)[k]?=S[k]?
 | 0,_=>rfl
 | i+1,h=>by
   show ((apS S a g nx b i).set (a+i) _)[k]?=_;rw [List.getElem?_set_ne (by omega)]
   exact apS_out (by omega)
theorem apS_in {S:List Pg} {a nx j:Nat} {g:BitVec 32} {b:Bs}:∀ {i:Nat},j<i→a+i≤S.length→(apS S a g nx b i)[a+j]?=some (toPg (pgR g nx b j))
 | 0,h,_=>by omega
 | i+1,h,hl=>by
   show ((apS S a g nx b i).set (a+i) _)[a+j]?=_;rcases Nat.eq_or_lt_of_le (Nat.le_of_lt_succ h) with rfl|h2
   · rw [List.getElem?_set_self (by rw [apS_len];omega)]
   · rw [List.getElem?_set_ne (by omega)]
     exact apS_in h2 (by omega)
theorem apQ_mem {q:List (Nat×Pg)} {a nx m:Nat} {g:BitVec 32} {b:Bs}:∀ {i:Nat},(∀ p∈q,p.1<m)→a+i≤m→∀ p∈apQ q a g nx b i,p.1<m
 | 0,h,_,p,hp=>h p hp
 | i+1,h,hm,p,hp=>by
   rcases List.mem_append.1 (show p∈apQ q a g nx b i++[(a+i,toPg (pgR g nx b i))] from hp) with hp|hp
   · exact apQ_mem h (by omega) p hp
   · obtain rfl:=List.mem_singleton.1 hp
     show a+i<m;omega
structure DevI (p1:Pg) (rs:List Bs) (S:List Pg) (q:List (Nat×Pg)):Prop where
 len:S.length=300
 ql:q.length≤baseP rs
 qm:∀ p∈q,p.1<300
 few:∀ r∈rs,1≤r.length∧r.length≤6000
 fit:baseP rs≤149
 z:S[0]?=some zeroPg
 one:S[1]?=some p1
 pg:∀ j (h:j<rs.length) i,i<nPt rs[j].length→∃ p,S[2+(baseP (rs.take j)+i)]?=some p∧p.toList=pgF 1#32 ((baseP (rs.take j)+i+1:Nat):Int) (kdF i (nPt rs[j].length)) (ctB rs[j] i)
 rest:∀ k,2+baseP rs≤k→k<300→S[k]?=some zeroPg
theorem DevI.log {p1:Pg} {rs:List Bs} {S:List Pg} {q:List (Nat×Pg)} (h:DevI p1 rs S q):LogAt S 2 149 1#32 rs :=
 ⟨h.few,h.fit,h.pg,fun hc=>h.rest _ (Nat.le_refl _) (by omega)⟩
theorem DevI.zero {p1:Pg}:DevI p1 [] ((List.replicate 300 zeroPg).set 1 p1) [] where
 len:=by rw [List.length_set,List.length_replicate]
 ql:=Nat.zero_le _
 qm:=fun p h=>by cases h
 few:=fun r h=>by cases h
 fit:=Nat.zero_le _
 z:=by rw [List.getElem?_set_ne (by omega),List.getElem?_replicate,if_pos (by omega)]
 one:=by rw [List.getElem?_set_self (by rw [List.length_replicate];omega)]
 pg:=fun j h=>by cases h
 rest:=fun k h1 h2=>by
   have h1:2+0≤k:=h1;rw [List.getElem?_set_ne (by omega),List.getElem?_replicate,if_pos h2]
theorem baseP_append (rs:List Bs) (r:Bs):baseP (rs++[r])=baseP rs+nPt r.length:=by
 unfold baseP;rw [List.map_append,List.sum_append];simp
theorem DevI.snoc {p1:Pg} {rs:List Bs} {S:List Pg} {q:List (Nat×Pg)} {r:Bs} (h:DevI p1 rs S q) (h1:1≤r.length) (h2:r.length≤6000) (hf:baseP rs+nPt r.length≤149):DevI p1 (rs++[r]) (apS S (2+baseP rs) 1#32 (baseP rs) r (nPt r.length)) (apQ q (2+baseP rs) 1#32 (baseP rs) r (nPt r.length)) where
 len:=by rw [apS_len];exact h.len
 ql:=by rw [apQ_len,baseP_append];have:=h.ql;omega
 qm:=apQ_mem h.qm (by omega)
 few:=fun y hy=>by
   rcases List.mem_append.1 hy with hy|hy
   · exact h.few y hy
   · obtain rfl:=List.mem_singleton.1 hy;exact ⟨h1,h2⟩
 fit:=by rw [baseP_append];exact hf
 z:=by rw [apS_out (by omega)];exact h.z
 one:=by rw [apS_out (by omega)];exact h.one
 pg:=fun j hj i hi=>by
   rw [List.length_append,List.length_singleton] at hj;rcases Nat.lt_or_ge j rs.length with hl|hl
   · have e1:(rs++[r])[j]=rs[j]:=List.getElem_append_left hl
     have e2:(rs++[r]).take j=rs.take j:=List.take_append_of_le_length (by omega)
     rw [e1] at hi;have hb1:=baseP_snoc rs j hl;have hb2:=baseP_le rs (j+1);obtain ⟨p,hp1,hp2⟩:=h.pg j hl i hi;refine ⟨p,?_,?_⟩
     · rw [e2,apS_out (by omega)];exact hp1
     · rw [e2,e1];exact hp2
   · obtain rfl:j=rs.length:=by omega
     have e1:(rs++[r])[rs.length]'(by simp)=r:=List.getElem_concat_length rfl _
     have e2:(rs++[r]).take rs.length=rs:=List.take_left;rw [e1] at hi;have hc:=ctB_len hi h1;refine ⟨toPg (pgR 1#32 (baseP rs) r i),?_,?_⟩
     · rw [e2,show 2+(baseP rs+i)=2+baseP rs+i by omega,apS_in hi (by rw [h.len];omega)]
     · rw [e2,e1,toPg_list (pgF_len _ _ _ hc.1)]
       show pgF 1#32 (((baseP rs:Nat):Int)+(i:Int)+1) _ _=_
       congr 1
 rest:=fun k hk1 hk2=>by
   rw [baseP_append] at hk1;rw [apS_out (by omega)]
   exact h.rest k (by omega) hk2
abbrev p020 (s:H256):Pst:=(s,[],[],[])
abbrev runP (s:H256) (l:List Sl20) (i:Nat):Pst:=(l.take i).foldl seaP (p020 s)
structure RGen (s:H256) (i:Nat) (R:Pr20):Prop where
 seed:R.1=s
 st:StOk R.2.1
 len:R.2.1.length≤i
 el:R.2.2.1.length≤i
 ex:∀ x∈R.2.2.1,x.2.length≤1000
 wl:R.2.2.2.length≤20*i
 wz:∀ r∈R.2.2.2,RqOk r
structure OI (l:List Sl20) (s:H256) (p1:Pg) (i:Nat) (m:Bool) (R:Pr20) (S:List Pg) (q:List (Nat×Pg)):Prop where
 le:i≤l.length
 ok:∀ x∈l.take i,SlOk x
 dev:DevI p1 ((l.take i).map recB) S q
 gen:RGen s i R
 yes:m=true→okAll (p020 s) (l.take i)∧R=(s,(runP s l i).2.1,l.take i,[])
 no:m=false→¬ okAll (p020 s) (l.take i)
theorem OI.zero (l:List Sl20) (s:H256) (p1:Pg):OI l s p1 0 true (s,[],[],[]) ((List.replicate 300 zeroPg).set 1 p1) [] where
 le:=Nat.zero_le _
 ok:=fun x h=>by rw [List.take_zero] at h;cases h
 dev:=DevI.zero
 gen:=⟨rfl,StOk.nil,Nat.le_refl _,Nat.le_refl _,fun x h=>(by cases h),Nat.zero_le _,fun x h=>(by cases h)⟩
 yes:=fun _=>⟨trivial,rfl⟩
 no:=fun h=>by cases h
structure KI20 (l:List Sl20) (s:H256) (i:Nat) (x:Sl20) (m0:Bool) (k:Nat) (m:Bool) (ws:List Rq):Prop where
 le:k≤x.2.length
 ok:∀ r∈x.2.take k,RqOk r
 wl:ws.length≤20*i+k
 wz:∀ r∈ws,RqOk r
 yes:m=true→m0=true∧ws=x.2.take k∧GoodK (runP s l i).2.2.2 ws
 no:m=false→m0=false∨¬ okP (runP s l i) x
theorem OI.begin {l:List Sl20} {s:H256} {p1:Pg} {i:Nat} {m:Bool} {R:Pr20} {S:List Pg} {q:List (Nat×Pg)} (h:OI l s p1 i m R S q) (x:Sl20):KI20 l s i x m 0 m R.2.2.2 where
 le:=Nat.zero_le _
 ok:=fun r hr=>by rw [List.take_zero] at hr;cases hr
 wl:=h.gen.wl
 wz:=h.gen.wz
 yes:=fun hm=>by
   have:=(h.yes hm).2
   rw [this];exact ⟨hm,rfl,GoodK.nil _⟩
 no:=fun hm=>.inl hm
theorem OI.run {l:List Sl20} {s:H256} {p1:Pg} {i:Nat} {R:Pr20} {S:List Pg} {q:List (Nat×Pg)} (h:OI l s p1 i true R S q):Run s (l.take i) (runP s l i):=Run.take h.le h.ok (h.yes rfl).1
theorem KI20.step {l:List Sl20} {s:H256} {p1:Pg} {i:Nat} {m0:Bool} {es:List (List Nws)} {eps:List Sl20} {w0:List Rq} {S:List Pg} {q:List (Nat×Pg)} {x:Sl20} {k:Nat} {m:Bool} {ws w2:List Rq} {bb:Bool} (ho:OI l s p1 i m0 (s,es,eps,w0) S q) (h:KI20 l s i x m0 k m ws) (hk:k<x.2.length) (hr:RqOk x.2[k]) {q':Int} {n:Nat} (hl:LastIs eps (x.2[k]).1.1 q' n) (h1:okRq q' n ws x.2[k]→bb=false∧w2=ws++[x.2[k]]) (h2:¬ okRq q' n ws x.2[k]→w2=ws) :
   KI20 l s i x m0 (k+1) (m&&!bb&&decide (w2.length=k+1)) w2:=by
 have et:x.2.take (k+1)=x.2.take k++[x.2[k]]:=List.take_succ_eq_append_getElem hk;have hwl:=h.wl;have hw2:w2.length≤ws.length+1∧∀ r∈w2,RqOk r:=by
   by_cases ho:okRq q' n ws x.2[k]
   · rw [(h1 ho).2]
     refine ⟨by simp,fun r hr'=>?_⟩
     rcases List.mem_append.1 hr' with h3|h3
     · exact h.wz r h3
     · obtain rfl:=List.mem_singleton.1 h3;exact hr
   · rw [h2 ho];exact ⟨by omega,h.wz⟩
 refine ⟨hk,fun r hr'=>?_,by omega,hw2.2,fun hm=>?_,fun hm=>?_⟩
 · rw [et] at hr'
   rcases List.mem_append.1 hr' with h3|h3
   · exact h.ok r h3
   · obtain rfl:=List.mem_singleton.1 h3;exact hr
 · cases m with
   | false=>rw [Bool.false_and,Bool.false_and] at hm;cases hm
   | true =>
     obtain ⟨hm0,hws,hg⟩:=h.yes rfl;subst hm0;have he:eps=l.take i:=congrArg (fun z:Pr20=>z.2.2.1) (ho.yes rfl).2
     subst he;have hc:=ho.run.cl;have hkl:ws.length=k:=by rw [hws,List.length_take];omega
     by_cases hq:okRq q' n ws x.2[k]
     · rw [(h1 hq).2]
       exact ⟨rfl,by rw [hws,et],hg.snoc hc hr hl hq⟩
     · rw [h2 hq,hkl] at hm
       simp at hm
 · cases m with
   | false=>exact h.no rfl
   | true =>
     obtain ⟨hm0,hws,hg⟩:=h.yes rfl;subst hm0
     right
     intro hp;have he:eps=l.take i:=congrArg (fun z:Pr20=>z.2.2.1) (ho.yes rfl).2
     subst he;have hc:=ho.run.cl;have hq:=okP_okRq hc hk hr hl hp;rw [← hws] at hq;have hkl:ws.length=k:=by rw [hws,List.length_take];omega
     obtain ⟨rfl,rfl⟩:=h1 hq;rw [List.length_append,hkl] at hm
     simp at hm
theorem RGen.sea {s:H256} {i:Nat} {R:Pr20} {t:Int} {k:Nat} (h1:R.1=s) (h2:StOk R.2.1) (h3:R.2.1.length≤i) (h4:R.2.2.1.length≤i) (h5:∀ x∈R.2.2.1,x.2.length≤1000) (h6:R.2.2.2.length≤20*i+k) (h7:∀ r∈R.2.2.2,RqOk r) (hk:k≤20) (hi:i<20):RGen s (i+1) (rseaF R t).2:=by
 unfold rseaF
 split
 · exact (⟨h1,h2,by omega,by omega,h5,by omega,h7⟩:RGen s (i+1) R)
 · split
   · exact (⟨h1,h2,by omega,by omega,h5,by omega,h7⟩:RGen s (i+1) R)
   · refine ⟨h1,sealF_ok h2 (by omega),?_,?_,fun x hx=>?_,Nat.zero_le _,fun r hr=>(by cases hr)⟩
     · have:=sealF_len (seed:=R.1) (es:=R.2.1) (us:=R.2.2.2.map Prod.snd)
       show (sealF R.1 R.2.1 (R.2.2.2.map Prod.snd)).1.length≤i+1;omega
     · show (R.2.2.1++[(t,R.2.2.2)]).length≤i+1
       rw [List.length_append];simp;omega
     · rcases List.mem_append.1 (show x∈R.2.2.1++[(t,R.2.2.2)] from hx) with h8|h8
       · exact h5 x h8
       · obtain rfl:=List.mem_singleton.1 h8
         show R.2.2.2.length≤1000;omega
theorem OI.step {l:List Sl20} {s:H256} {p1:Pg} {i:Nat} {m0 m:Bool} {es:List (List Nws)} {eps:List Sl20} {w0 ws:List Rq} {S S':List Pg} {q q':List (Nat×Pg)} (h:OI l s p1 i m0 (s,es,eps,w0) S q) (hil:i<l.length) (h4:l.length≤4) (hx:SlOk l[i]) (hk:KI20 l s i l[i] m0 (l[i]).2.length m ws) (hd:DevI p1 ((l.take i).map recB++[recB l[i]]) S' q') :
   OI l s p1 (i+1) (m&&decide ((rseaF (s,es,eps,ws) (l[i]).1).1=0)) (rseaF (s,es,eps,ws) (l[i]).1).2 S' q':=by
 have et:l.take (i+1)=l.take i++[l[i]]:=List.take_succ_eq_append_getElem hil;have hn:=hx.n;have hsn:=okAll_snoc (l.take i) (p020 s) l[i];rw [← et] at hsn;have hrun:runP s l (i+1)=seaP (runP s l i) l[i]:=by
   show (l.take (i+1)).foldl seaP (p020 s)=_;rw [et,List.foldl_append];rfl
 have hmain:m=true→((rseaF (s,es,eps,ws) (l[i]).1).1=0↔okP (runP s l i) l[i])∧m0=true∧(okP (runP s l i) l[i]→(rseaF (s,es,eps,ws) (l[i]).1).2=(s,(runP s l (i+1)).2.1,l.take (i+1),[])):=fun hm=>by
   obtain ⟨hm0,hws,hg⟩:=hk.yes hm;subst hm0;rw [List.take_length] at hws;have hR:=(h.yes rfl).2;have he1:es=(runP s l i).2.1:=congrArg (fun z:Pr20=>z.2.1) hR
   have he2:eps=l.take i:=congrArg (fun z:Pr20=>z.2.2.1) hR
   have hr:=h.run;have hlen:(runP s l i).2.1.length<8:=by rw [hr.len,List.length_take];omega
   subst hws;have hoo:=okP_of hg hlen;rw [hr.tk,hr.seed] at hoo;have hmf:mayF eps (l[i]).1=0↔folP ((l.take i).map Prod.fst) (l[i]).1:=by
     rw [he2];unfold mayF;split
     · rename_i hf;exact ⟨fun _=>hf,fun _=>rfl⟩
     · rename_i hf;exact ⟨fun h=>(by cases h),fun h=>absurd h hf⟩
   by_cases hma:mayF eps (l[i]).1=0
   · by_cases hse:(sealF s es ((l[i]).2.map Prod.snd)).2=0
     · have hok:okP (runP s l i) l[i]:=hoo.2 ⟨hmf.1 hma,by rw [← he1];exact hse⟩
       have ef:rseaF (s,es,eps,(l[i]).2) (l[i]).1=(0,(s,(sealF s es ((l[i]).2.map Prod.snd)).1,eps++[((l[i]).1,(l[i]).2)],[])):=by
         unfold rseaF;rw [if_neg (by simpa using hma),if_neg (by simpa using hse)]
       rw [ef];refine ⟨⟨fun _=>hok,fun _=>rfl⟩,rfl,fun _=>?_⟩
       have e3:(runP s l (i+1)).2.1=(sealF s es ((l[i]).2.map Prod.snd)).1:=by
         rw [hrun]
         have:seaP (runP s l i) l[i]=_:=if_pos hok.2.2.2.2.2
         rw [this,hr.seed,← he1]
       rw [e3,et,he2]
     · have ef:rseaF (s,es,eps,(l[i]).2) (l[i]).1=((sealF s es ((l[i]).2.map Prod.snd)).2,(s,es,eps,(l[i]).2)):=by
         unfold rseaF;rw [if_neg (by simpa using hma),if_pos (by simpa using hse)]
       have hno:¬ okP (runP s l i) l[i]:=fun hp=>hse (by rw [he1];exact (hoo.1 hp).2)
       rw [ef];exact ⟨⟨fun h=>absurd h hse,fun h=>absurd h hno⟩,rfl,fun h=>absurd h hno⟩
   · have ef:rseaF (s,es,eps,(l[i]).2) (l[i]).1=(mayF eps (l[i]).1,(s,es,eps,(l[i]).2)):=if_pos hma
     have hno:¬ okP (runP s l i) l[i]:=fun hp=>hma (hmf.2 (hoo.1 hp).1)
     rw [ef];exact ⟨⟨fun h=>absurd h hma,fun h=>absurd h hno⟩,rfl,fun h=>absurd h hno⟩
 refine ⟨hil,fun y hy=>?_,?_,RGen.sea (k:=(l[i]).2.length) h.gen.seed h.gen.st h.gen.len h.gen.el h.gen.ex hk.wl hk.wz hn (by omega),fun hm=>?_,fun hm=>?_⟩
 · rw [et] at hy
   rcases List.mem_append.1 hy with h3|h3
   · exact h.ok y h3
   · obtain rfl:=List.mem_singleton.1 h3;exact hx
 · rw [et,List.map_append];exact hd
 · have hm1:m=true:=by cases m<;>simp_all
   obtain ⟨a,b,c⟩:=hmain hm1;rw [hm1,Bool.true_and,decide_eq_true_eq] at hm;have hok:=a.1 hm;exact ⟨hsn.2 ⟨(h.yes b).1,hok⟩,c hok⟩
 · intro hall
   obtain ⟨h5,h6⟩:=hsn.1 hall
   cases hmm:m with
   | false =>
     rcases hk.no hmm with h7|h7
     · exact h.no h7 h5
     · exact h7 h6
   | true =>
     obtain ⟨a,b,c⟩:=hmain hmm;rw [hmm,Bool.true_and,decide_eq_false_iff_not] at hm;exact hm (a.2 h6)
end Go.Proofs.YtfljmihdeimahaaGreatDoor
namespace Go.Proofs.YtfljmihdeimahaaGreatDoor
set_option linter.all false
open Go.RowKit
def dnewE_c:Ctr where
 D:=Nat
 pre:=fun n=>1≤n∧n≤4096
 args:=fun n=>[.int .i64 (n:Int)]
 E:=List Pg
 post:=fun n Z=>Z=List.replicate n zeroPg
 res:=fun _ _=>.tup [.ptr 0 0,.int .i64 0]
 out:=fun _ Z=>devs Z Z []
 mm:=4
def dnewE_H:Cfg:=⟨[],[(3,[],[1,3,5],(oA 0 (oA 2 (.alt 1 false (oC 3 (oA 4 (oC 5 (oA 6 (oA 7 .nil))))) (oC 3 (oC 1 (oA 4 (oC 5 (oA 6 (oA 7 .nil))))))))),[])],[],[],16,0,[],[],[]⟩
theorem dnewE_ok:dnewE_c.Ok Tryz.prog 5:=by
 refine fn_ok dnewE_H 0 rfl _ Tryz.func5 rfl rfl trivial rfl rfl (by kernel_rfl) (fun _=>nlb rfl) ?_
 intro (n:Nat) hp hr
 try dsimp only [dnewE_c] at hp
 try simp only [dnewE_c,Rng,RngL,inR,and_true,true_and] at hr
 obtain ⟨hp0,hp⟩:=hp;have hp0:1≤n:=hp0;have hp:n≤4096:=hp;have hz:∀ m:Nat,isZ ((m+1:Nat):Int)=false:=fun _=>rfl
 obtain ⟨k,rfl⟩:∃ k,n=k+1:=⟨n - 1,by omega⟩
 repeat' (first|(with_reducible refine Unf.h ?_)|((conv=>whnf);first|refine Both.mk ?_ ?_|refine Both.mk ?_ ?_|refine Fork.mk (fun h=>?_) (fun h=>?_)|(refine Side.mk ?_ ?_;focus ((dsimp only;omega)))|refine retK_r ?_)|fail);all_goals try (conv=>whnf);all_goals try (exfalso;omega)
 all_goals
   refine RetE.mk (c:=dnewE_c) (d:=k+1) (show List Pg from List.replicate (k+1) zeroPg) rfl ?_
   repeat' (first|(with_reducible refine Unf.h ?_)|((conv=>whnf);first|(refine Side.mk ?_ ?_;focus (first|with_reducible rfl|(simp [*,hz];done)))|(with_reducible refine Unf.h ?_)|exact rfl)|fail);all_goals try (conv=>whnf);all_goals try (exfalso;omega)
def prec_c:Ctr where
 D:=List Sl20
 args:=fun l=>[.fs 2 eS20 l]
 res:=fun _ _=>.bool true
abbrev pDv (Z:List Pg) (p1:Pg) (i:Nat) (l:List Sl20) (S:List Pg) (q:List (Nat×Pg)):List Ob:=devN 1 2 3 (Z.set 1 p1) S q++[(4,.box 94 [.ptr 0 0,.bool false,.u32 1#32,.u32 1#32,.ptr 5 0,.bool false]),(5,.box 137 [.ptr 0 0,.int .i64 2,.int .i64 149,.u32 1#32,.int .i64 (baseP ((l.take i).map recB):Int),.bool false])]
abbrev pRf (s:H256) (es:List (List Nws)) (eps:List Sl20) (ws:List Rq):List Ob:=[(6,.box 66 [.int .i64 1,.int .i64 2,.int .i64 3,.arr8 s,rSt s es,.own 7,.own 8]),(7,.row 41 2 eS20 eps),(8,.row 44 4 eRq ws)]
def prec_H:Cfg:=⟨[(4,awk20_c),(5,dnewE_c),(6,vopZ_c),(8,pfrm_c),(7,rnew20_c),(9,rsub_c),(11,rrec_c),(10,vapp_c),(10,vappF_c),(12,rsea_c),(13,vflu_c),(14,popA_c),(14,popB_c),(15,pepq_c)],[],[],[],196,0,[],[],[]⟩
set_option maxHeartbeats 4000000 in
theorem prec_ok:prec_c.Ok Tryz.prog 3:=by
 refine fn_ok prec_H 0 rfl _ Tryz.func3 rfl rfl ⟨awk20_ok,dnewE_ok,vopZ_ok,pfrm_ok,rnew20_ok,rsub_ok,rrec_ok,vapp_ok,vappF_ok,rsea_ok,vflu_ok,popA_ok,popB_ok,pepq_ok,trivial⟩ rfl rfl (by kernel_rfl) (fun _=>nlb rfl) ?_
 intro (l:List Sl20) hp hr
 try dsimp only [prec_c] at hp
 try simp only [prec_c,Rng,RngL,inR,and_true,true_and] at hr
 have hd:dnewE_c.pre (300:Nat):=⟨by omega,by omega⟩
 by_cases h4:l.length≤4
 · repeat' (first|(with_reducible refine Unf.h ?_)|((conv=>whnf);first|refine Fork.mk (fun h=>?_) (fun h=>?_)|(refine Side.mk ?_ ?_;focus (exact True.intro))|refine Got.mk (fun _ _=>?_)|refine CallS.mk (c:=awk20_c) (()) ?_)|fail);all_goals try (conv=>whnf);all_goals try (exfalso;omega)
   refine CallS.mk (c:=dnewE_c) ((300:Nat)) ?_
   repeat' (first|(with_reducible refine Unf.h ?_)|((conv=>whnf);first|(refine Side.mk ?_ ?_;focus (first|assumption|(refine congrArg (SV.int _) ?_;omega)))|refine Got.mk (fun _ _=>?_))|fail);all_goals try (conv=>whnf);all_goals try (exfalso;omega)
   rename_i Z hZ;revert Z;intro (Z:List Pg) (hZ:Z=List.replicate 300 zeroPg);have hl:Z.length=300:=by rw [hZ,List.length_replicate]
   have h2:vopZ_c.pre (Z,Z):=⟨by rw [hl];omega,by rw [hl];omega,rfl,by rw [hZ];exact zAtP (by omega),by rw [hZ];exact zAtP (by omega),by rw [hZ];exact zAtP (by omega)⟩
   have h149:((Z.length - 2) / 2:Nat)=149:=by rw [hl]
   refine CallS.mk (c:=vopZ_c) ((Z,Z)) ?_
   repeat' (first|(with_reducible refine Unf.h ?_)|((conv=>whnf);first|(refine Side.mk ?_ ?_;focus (first|with_reducible rfl|assumption))|refine Got.mk (fun _ _=>?_))|fail);all_goals try (conv=>whnf);all_goals try (exfalso;omega)
   rename_i p1 hp1;revert p1;intro (p1:Pg) (hp1:p1.toList=encS 1#64 (vsB 1#32 1#32))
   repeat' (first|(with_reducible refine Unf.h ?_)|((conv=>whnf);first|(refine Side.mk ?_ ?_;focus (exact True.intro))|refine Got.mk (fun _ _=>?_)|refine CallS.mk (c:=pfrm_c) (()) ?_)|fail);all_goals try (conv=>whnf);all_goals try (exfalso;omega)
   refine CallS.mk (c:=rnew20_c) (seed42) ?_
   repeat' (first|(with_reducible refine Unf.h ?_)|((conv=>whnf);first|(refine Side.mk ?_ ?_;focus (first|with_reducible rfl|exact True.intro))|refine Got.mk (fun _ _=>?_))|fail);all_goals try (conv=>whnf);all_goals try (exfalso;omega)
   have hoi0:=OI.zero l seed42 p1;rw [← hZ] at hoi0;clear h2 hd;refine LoopS.mk (I:=Nat×Bool×Pr20×List Pg×List (Nat×Pg)) (fun z=>OI l seed42 p1 z.1 z.2.1 z.2.2.1 z.2.2.2.1 z.2.2.2.2) (fun z=>[(10,.int .i64 (z.1:Int)),(9,.bool z.2.1),(8,.ptr 6 0),(5,.ptr 4 0),(3,.ptr 0 0),(0,.fs 2 eS20 l),(2,.bool false)]) (fun z=>pDv Z p1 z.1 l z.2.2.2.1 z.2.2.2.2++pRf z.2.2.1.1 z.2.2.1.2.1 z.2.2.1.2.2.1 z.2.2.1.2.2.2) 9 (fun z=>l.length - z.1) (0,true,(seed42,[],[],[]),Z.set 1 p1,[]) hoi0 ?_ ?_
   · have e0:baseP ((l.take 0).map recB)=0:=rfl
     repeat' (first|(with_reducible refine Unf.h ?_)|((conv=>whnf);first|(refine Side.mk ?_ ?_;focus (first|with_reducible rfl|(refine congrArg (SV.int _) ?_;omega)|(dsimp only [resS,prec_c,devN];(refine congrArg (SV.int _) ?_;omega))))|(with_reducible refine Unf.h ?_)|exact True.intro)|fail);all_goals try (conv=>whnf);all_goals try (exfalso;omega)
   · rintro ⟨i,m,⟨s,es,eps,ws⟩,S,q⟩ hoi
     have hoi:OI l seed42 p1 i m (s,es,eps,ws) S q:=hoi;have hi:=hoi.le;obtain rfl:s=seed42:=hoi.gen.seed;dsimp only;rcases Nat.lt_or_ge i l.length with hil|hil
     · by_cases hg:(l[((i:Nat):Int).toNat]'hil).2.length≤20∧0≤(l[((i:Nat):Int).toNat]'hil).1∧(l[((i:Nat):Int).toNat]'hil).1<2147483648
       · obtain ⟨hg1,hg2,hg3⟩:=hg
         repeat' (first|(with_reducible refine Unf.h ?_)|((conv=>whnf);first|refine Fork.mk (fun h=>?_) (fun h=>?_)|(refine Idx.mk ?_ ?_;focus (omega)))|fail);all_goals try (conv=>whnf);all_goals try (exfalso;omega)
         refine LoopS.mk (I:=Nat×Bool×List Rq) (fun z=>KI20 l seed42 i (l[((i:Nat):Int).toNat]'hil) m z.1 z.2.1 z.2.2) (fun z=>[(11,.int .i64 (z.1:Int)),(9,.bool z.2.1),(10,.int .i64 (i:Int)),(8,.ptr 6 0),(5,.ptr 4 0),(3,.ptr 0 0),(0,.fs 2 eS20 l),(2,.bool false)]) (fun z=>pDv Z p1 i l S q++pRf seed42 es eps z.2.2) 9 (fun z=>(l[((i:Nat):Int).toNat]'hil).2.length - z.1) (0,m,ws) (hoi.begin (l[((i:Nat):Int).toNat]'hil)) ?_ ?_
         · repeat' (first|(with_reducible refine Unf.h ?_)|((conv=>whnf);first|(refine Side.mk ?_ ?_;focus (first|with_reducible rfl|(refine congrArg (SV.int _) ?_;omega)))|(with_reducible refine Unf.h ?_)|exact True.intro)|fail);all_goals try (conv=>whnf);all_goals try (exfalso;omega)
         · rintro ⟨k,m1,w1⟩ hki
           have hki:KI20 l seed42 i (l[((i:Nat):Int).toNat]'hil) m k m1 w1:=hki;dsimp only;have hkle:=hki.le;have hw1:=hki.wl;have hel:=hoi.gen.el;have hel:eps.length≤i:=hel
           by_cases hkl:k<(l[((i:Nat):Int).toNat]'hil).2.length
           · by_cases hrk:((l[((i:Nat):Int).toNat]'hil).2[((k:Nat):Int).toNat]'hkl).2.1.length≤100∧((l[((i:Nat):Int).toNat]'hil).2[((k:Nat):Int).toNat]'hkl).2.2.length≤100∧0≤((l[((i:Nat):Int).toNat]'hil).2[((k:Nat):Int).toNat]'hkl).1.1∧((l[((i:Nat):Int).toNat]'hil).2[((k:Nat):Int).toNat]'hkl).1.1<2147483648∧0≤((l[((i:Nat):Int).toNat]'hil).2[((k:Nat):Int).toNat]'hkl).1.2∧((l[((i:Nat):Int).toNat]'hil).2[((k:Nat):Int).toNat]'hkl).1.2<2147483648
             · obtain ⟨g1,g2,g3,g4,g5,g6⟩:=hrk
               have hR:RqOk ((l[((i:Nat):Int).toNat]'hil).2[((k:Nat):Int).toNat]'hkl):=⟨g3,g4,g5,g6,g1,g2⟩;have hps:rsub_c.pre ((seed42,es,eps,w1),((l[((i:Nat):Int).toNat]'hil).2[((k:Nat):Int).toNat]'hkl)):=⟨⟨by omega,hoi.gen.ex⟩,by show w1.length≤1000;omega,by omega,by omega⟩
               cases m1 with
               | false =>
                 repeat' (first|(with_reducible refine Unf.h ?_)|((conv=>whnf);first|refine Fork.mk (fun h=>?_) (fun h=>?_)|(refine Idx.mk ?_ ?_;focus (omega)))|fail);all_goals try (conv=>whnf);all_goals try (exfalso;omega)
                 first|refine CallS.mk (c:=rsub_c) (((seed42,es,eps,w1),((l[((i:Nat):Int).toNat]'hil).2[((k:Nat):Int).toNat]'hkl))) ?_|refine Or2.l (CallS.mk (c:=rsub_c) (((seed42,es,eps,w1),((l[((i:Nat):Int).toNat]'hil).2[((k:Nat):Int).toNat]'hkl))) ?_)|refine Or2.r (CallS.mk (c:=rsub_c) (((seed42,es,eps,w1),((l[((i:Nat):Int).toNat]'hil).2[((k:Nat):Int).toNat]'hkl))) ?_)
                 repeat (first|(with_reducible refine Unf.h ?_)|((conv=>whnf);first|(refine Side.mk ?_ ?_;focus (first|with_reducible rfl|assumption|exact True.intro|rfl))|(with_reducible refine Unf.h ?_)))
                 conv=>whnf
                 refine Got.mk (fun e he=>?_)
                 obtain ⟨⟨a1,a2,a3,a4,a5⟩,bb,w2⟩:=e;obtain ⟨q2,n2,hl2,hs1,hs2⟩:=he;have hstep:KI20 l seed42 i (l[((i:Nat):Int).toNat]'hil) m (k+1) (false&&!bb&&decide (w2.length=k+1)) w2:=hki.step hoi hkl hR hl2 hs1 hs2
                 repeat' (first|(with_reducible first|refine Unf.h ?_|refine loopK_n ?_)|((conv=>whnf);first|(refine Side.mk ?_ ?_;focus ((intros;(try simp only [lenS,inR,cutS,loI,hiI] at *);omega)))|(with_reducible refine Unf.h ?_))|fail);all_goals try (conv=>whnf);all_goals try (exfalso;omega)
                 refine ⟨(k+1,false,w2),⟨by dsimp only;omega,hstep⟩,?_⟩
                 repeat' (first|(with_reducible refine Unf.h ?_)|((conv=>whnf);first|(refine Side.mk ?_ ?_;focus (first|with_reducible rfl|(refine congrArg (SV.int _) ?_;omega)))|(with_reducible refine Unf.h ?_)|exact True.intro)|fail);all_goals try (conv=>whnf);all_goals try (exfalso;omega)
               | true =>
                 repeat' (first|(with_reducible refine Unf.h ?_)|((conv=>whnf);first|refine Fork.mk (fun h=>?_) (fun h=>?_)|(refine Idx.mk ?_ ?_;focus (omega)))|fail);all_goals try (conv=>whnf);all_goals try (exfalso;omega)
                 first|refine CallS.mk (c:=rsub_c) (((seed42,es,eps,w1),((l[((i:Nat):Int).toNat]'hil).2[((k:Nat):Int).toNat]'hkl))) ?_|refine Or2.l (CallS.mk (c:=rsub_c) (((seed42,es,eps,w1),((l[((i:Nat):Int).toNat]'hil).2[((k:Nat):Int).toNat]'hkl))) ?_)|refine Or2.r (CallS.mk (c:=rsub_c) (((seed42,es,eps,w1),((l[((i:Nat):Int).toNat]'hil).2[((k:Nat):Int).toNat]'hkl))) ?_)
                 repeat (first|(with_reducible refine Unf.h ?_)|((conv=>whnf);first|(refine Side.mk ?_ ?_;focus (first|with_reducible rfl|assumption|exact True.intro|rfl))|(with_reducible refine Unf.h ?_)))
                 conv=>whnf
                 refine Got.mk (fun e he=>?_)
                 obtain ⟨⟨a1,a2,a3,a4,a5⟩,bb,w2⟩:=e;obtain ⟨q2,n2,hl2,hs1,hs2⟩:=he;have hstep:KI20 l seed42 i (l[((i:Nat):Int).toNat]'hil) m (k+1) (true&&!bb&&decide (w2.length=k+1)) w2:=hki.step hoi hkl hR hl2 hs1 hs2
                 cases bb with
                 | false =>
                   have hdec:decide ((w2.length:Int)=(k:Int)+1)=decide (w2.length=k+1):=decide_eq_decide.2 (by omega)
                   repeat' (first|(with_reducible first|refine Unf.h ?_|refine loopK_n ?_)|((conv=>whnf);first|(refine Side.mk ?_ ?_;focus ((intros;(try simp only [lenS,inR,cutS,loI,hiI] at *);omega)))|(with_reducible refine Unf.h ?_))|fail);all_goals try (conv=>whnf);all_goals try (exfalso;omega)
                   refine ⟨(k+1,decide (w2.length=k+1),w2),⟨by dsimp only;omega,hstep⟩,?_⟩
                   repeat' (first|(with_reducible refine Unf.h ?_)|((conv=>whnf);first|(refine Side.mk ?_ ?_;focus (first|with_reducible rfl|assumption|(refine congrArg (SV.int _) ?_;omega)))|(with_reducible refine Unf.h ?_)|exact True.intro)|fail);all_goals try (conv=>whnf);all_goals try (exfalso;omega)
                 | true =>
                   repeat' (first|(with_reducible first|refine Unf.h ?_|refine loopK_n ?_)|((conv=>whnf);first|(refine Side.mk ?_ ?_;focus ((intros;(try simp only [lenS,inR,cutS,loI,hiI] at *);omega)))|(with_reducible refine Unf.h ?_))|fail);all_goals try (conv=>whnf);all_goals try (exfalso;omega)
                   refine ⟨(k+1,false,w2),⟨by dsimp only;omega,hstep⟩,?_⟩
                   repeat' (first|(with_reducible refine Unf.h ?_)|((conv=>whnf);first|(refine Side.mk ?_ ?_;focus (first|with_reducible rfl|(refine congrArg (SV.int _) ?_;omega)))|(with_reducible refine Unf.h ?_)|exact True.intro)|fail);all_goals try (conv=>whnf);all_goals try (exfalso;omega)
             · have hrk:100<((l[((i:Nat):Int).toNat]'hil).2[((k:Nat):Int).toNat]'hkl).2.1.length∨100<((l[((i:Nat):Int).toNat]'hil).2[((k:Nat):Int).toNat]'hkl).2.2.length∨((l[((i:Nat):Int).toNat]'hil).2[((k:Nat):Int).toNat]'hkl).1.1<0∨2147483648≤((l[((i:Nat):Int).toNat]'hil).2[((k:Nat):Int).toNat]'hkl).1.1∨((l[((i:Nat):Int).toNat]'hil).2[((k:Nat):Int).toNat]'hkl).1.2<0∨2147483648≤((l[((i:Nat):Int).toNat]'hil).2[((k:Nat):Int).toNat]'hkl).1.2:=by omega
               repeat' (first|(with_reducible refine Unf.h ?_)|((conv=>whnf);first|refine Fork.mk (fun h=>?_) (fun h=>?_)|(refine Side.mk ?_ ?_;focus (with_reducible rfl))|(refine Idx.mk ?_ ?_;focus (omega))|refine RetE.mk () trivial ?_|refine retK_r ?_|exact rfl)|fail);all_goals try (conv=>whnf);all_goals try (exfalso;omega)
           · obtain rfl:k=(l[((i:Nat):Int).toNat]'hil).2.length:=by omega
             have hX:SlOk (l[((i:Nat):Int).toNat]'hil):=⟨hg2,hg3,hg1,fun r hr=>hki.ok r (by rw [List.take_length];exact hr)⟩
             obtain ⟨hb1,hb2⟩:=recB_len hX;have hdv:=hoi.dev;have hzl:(Z.set 1 p1).length=300:=by rw [List.length_set];exact hl
             have hdl:=hdv.len;have hdq:=hdv.ql;have hdf:=hdv.fit;have hgst:=hoi.gen.st;have hgln:es.length≤i:=hoi.gen.len;have e5:baseP ((l.take (i+1)).map recB)=baseP ((l.take i).map recB)+nPt (recB (l[((i:Nat):Int).toNat]'hil)).length:=by
               rw [List.take_succ_eq_append_getElem hil,List.map_append];exact baseP_append _ _
             have hpr:rsea_c.pre ((seed42,es,eps,w1),(l[((i:Nat):Int).toNat]'hil).1):=⟨hgst,by show es.length<20;omega,by show eps.length≤7;omega,by show w1.length≤1000;omega,fun r hr=>by
               have h1:=(hki.wz r hr).l;have h2:=(hki.wz r hr).v;exact ⟨by omega,by omega⟩⟩
             by_cases hrm:baseP ((l.take i).map recB)+nPt (recB (l[((i:Nat):Int).toNat]'hil)).length≤149
             · have hpa:vapp_c.pre (((1#32,1#32),(2,149,1#32,baseP ((l.take i).map recB)),(Z.set 1 p1,S,q)),recB (l[((i:Nat):Int).toNat]'hil)):=⟨hb1,by show (recB (l[((i:Nat):Int).toNat]'hil)).length≤6000;omega,hrm,by show 2+149≤(Z.set 1 p1).length;omega,by show (Z.set 1 p1).length≤4096;omega,by show S.length=(Z.set 1 p1).length;omega,by show q.length≤10000;omega⟩
               have hnxt:=hoi.step hil h4 hX hki (hdv.snoc hb1 (Nat.le_trans hb2 (by decide)) hrm)
               repeat' (first|(with_reducible refine Unf.h ?_)|((conv=>whnf);first|refine Fork.mk (fun h=>?_) (fun h=>?_)|(refine Idx.mk ?_ ?_;focus (omega)))|fail);all_goals try (conv=>whnf);all_goals try (exfalso;omega)
               refine CallS.mk (c:=rrec_c) ((l[((i:Nat):Int).toNat]'hil)) ?_
               repeat' (first|(with_reducible refine Unf.h ?_)|((conv=>whnf);first|(refine Side.mk ?_ ?_;focus (first|with_reducible rfl|assumption))|refine Got.mk (fun _ _=>?_))|fail);all_goals try (conv=>whnf);all_goals try (exfalso;omega)
               refine Or2.l (CallS.mk (c:=vapp_c) ((((1#32,1#32),(2,149,1#32,baseP ((l.take i).map recB)),(Z.set 1 p1,S,q)),recB (l[((i:Nat):Int).toNat]'hil))) ?_)
               repeat' (first|(with_reducible refine Unf.h ?_)|((conv=>whnf);first|refine Fork.mkn (fun h=>?_) (fun h=>?_)|(refine Side.mk ?_ ?_;focus (first|with_reducible rfl|assumption|(refine congrArg (SV.int _) ?_;omega)))|(refine Idx.mk ?_ ?_;focus (omega))|refine Got.mk (fun _ _=>?_))|fail);all_goals try (conv=>whnf);all_goals try (exfalso;omega)
               refine CallS.mk (c:=rsea_c) (((seed42,es,eps,w1),(l[((i:Nat):Int).toNat]'hil).1)) ?_
               cases m1 with
               | false =>
                 repeat' (first|(with_reducible first|refine Unf.h ?_|refine loopK_n ?_)|((conv=>whnf);first|(refine Side.mk ?_ ?_;focus (first|with_reducible rfl|assumption|(intros;(try simp only [lenS,inR,cutS,loI,hiI] at *);omega)))|refine Got.mk (fun _ _=>?_))|fail);all_goals try (conv=>whnf);all_goals try (exfalso;omega)
                 refine ⟨(i+1,false,(rseaF (seed42,es,eps,w1) (l[((i:Nat):Int).toNat]'hil).1).2,apS S (2+baseP ((l.take i).map recB)) 1#32 (baseP ((l.take i).map recB)) (recB (l[((i:Nat):Int).toNat]'hil)) (nPt (recB (l[((i:Nat):Int).toNat]'hil)).length),apQ q (2+baseP ((l.take i).map recB)) 1#32 (baseP ((l.take i).map recB)) (recB (l[((i:Nat):Int).toNat]'hil)) (nPt (recB (l[((i:Nat):Int).toNat]'hil)).length)),⟨by dsimp only;omega,hnxt⟩,?_⟩
                 dsimp only [pDv];rw [e5]
                 repeat' (first|(with_reducible refine Unf.h ?_)|((conv=>whnf);first|(refine Side.mk ?_ ?_;focus (first|with_reducible rfl|(refine congrArg (SV.int _) ?_;omega)))|(with_reducible refine Unf.h ?_)|exact True.intro)|fail);all_goals try (conv=>whnf);all_goals try (exfalso;omega)
               | true =>
                 repeat' (first|(with_reducible first|refine Unf.h ?_|refine loopK_n ?_)|((conv=>whnf);first|(refine Side.mk ?_ ?_;focus (first|with_reducible rfl|assumption|(intros;(try simp only [lenS,inR,cutS,loI,hiI] at *);omega)))|refine Got.mk (fun _ _=>?_))|fail);all_goals try (conv=>whnf);all_goals try (exfalso;omega)
                 refine ⟨(i+1,decide ((rseaF (seed42,es,eps,w1) (l[((i:Nat):Int).toNat]'hil).1).1=0),(rseaF (seed42,es,eps,w1) (l[((i:Nat):Int).toNat]'hil).1).2,apS S (2+baseP ((l.take i).map recB)) 1#32 (baseP ((l.take i).map recB)) (recB (l[((i:Nat):Int).toNat]'hil)) (nPt (recB (l[((i:Nat):Int).toNat]'hil)).length),apQ q (2+baseP ((l.take i).map recB)) 1#32 (baseP ((l.take i).map recB)) (recB (l[((i:Nat):Int).toNat]'hil)) (nPt (recB (l[((i:Nat):Int).toNat]'hil)).length)),⟨by dsimp only;omega,hnxt⟩,?_⟩
                 dsimp only [pDv];rw [e5]
                 repeat' (first|(with_reducible refine Unf.h ?_)|((conv=>whnf);first|(refine Side.mk ?_ ?_;focus (first|with_reducible rfl|(refine congrArg (SV.int _) ?_;omega)))|(with_reducible refine Unf.h ?_)|exact True.intro)|fail);all_goals try (conv=>whnf);all_goals try (exfalso;omega)
             · have hpa:vappF_c.pre (((1#32,1#32),(2,149,1#32,baseP ((l.take i).map recB)),(Z.set 1 p1,S,q)),recB (l[((i:Nat):Int).toNat]'hil)):=⟨hb1,by show (recB (l[((i:Nat):Int).toNat]'hil)).length≤6000;omega,by show 149<baseP ((l.take i).map recB)+nPt (recB (l[((i:Nat):Int).toNat]'hil)).length;omega,by show baseP ((l.take i).map recB)≤100000;omega,by show 149≤100000;omega⟩
               repeat' (first|(with_reducible refine Unf.h ?_)|((conv=>whnf);first|refine Fork.mk (fun h=>?_) (fun h=>?_)|(refine Idx.mk ?_ ?_;focus (omega)))|fail);all_goals try (conv=>whnf);all_goals try (exfalso;omega)
               refine CallS.mk (c:=rrec_c) ((l[((i:Nat):Int).toNat]'hil)) ?_
               repeat' (first|(with_reducible refine Unf.h ?_)|((conv=>whnf);first|(refine Side.mk ?_ ?_;focus (first|with_reducible rfl|assumption))|refine Got.mk (fun _ _=>?_))|fail);all_goals try (conv=>whnf);all_goals try (exfalso;omega)
               refine Or2.r (CallS.mk (c:=vappF_c) ((((1#32,1#32),(2,149,1#32,baseP ((l.take i).map recB)),(Z.set 1 p1,S,q)),recB (l[((i:Nat):Int).toNat]'hil))) ?_)
               repeat' (first|(with_reducible refine Unf.h ?_)|((conv=>whnf);first|refine Fork.mkn (fun h=>?_) (fun h=>?_)|(refine Side.mk ?_ ?_;focus (first|with_reducible rfl|assumption|(refine congrArg (SV.int _) ?_;omega)))|refine RetE.mk () trivial ?_|refine Got.mk (fun _ _=>?_)|refine retK_r ?_|exact rfl)|fail);all_goals try (conv=>whnf);all_goals try (exfalso;omega)
       · have hg:20<(l[((i:Nat):Int).toNat]'hil).2.length∨(l[((i:Nat):Int).toNat]'hil).1<0∨2147483648≤(l[((i:Nat):Int).toNat]'hil).1:=by omega
         repeat' (first|(with_reducible refine Unf.h ?_)|((conv=>whnf);first|refine Fork.mk (fun h=>?_) (fun h=>?_)|(refine Side.mk ?_ ?_;focus (with_reducible rfl))|(refine Idx.mk ?_ ?_;focus (omega))|refine RetE.mk () trivial ?_|refine retK_r ?_|exact rfl)|fail);all_goals try (conv=>whnf);all_goals try (exfalso;omega)
     · obtain rfl:i=l.length:=by omega
       have hdv:=hoi.dev;rw [List.take_length] at hdv;have hzl:(Z.set 1 p1).length=300:=by rw [List.length_set];exact hl
       have hfl:(flF (Z.set 1 p1) q).length=300:=by rw [flF_len];exact hzl
       have hdl:=hdv.len;have hdq:=hdv.ql;have hdf:=hdv.fit;have hok:=hoi.ok;rw [List.take_length] at hok;have hpf:vflu_c.pre ((1#32,1#32),(2,149,1#32,baseP ((l.take l.length).map recB)),(Z.set 1 p1,S,q)):=⟨by show q.length≤100000;omega,fun p hp=>by rw [hzl];exact hdv.qm p hp⟩
       have hpd:dvPre ((flF (Z.set 1 p1) q,S),p1,l):=⟨⟨by show 4≤(flF (Z.set 1 p1) q).length;omega,by show (flF (Z.set 1 p1) q).length≤4096;omega,by show S.length=(flF (Z.set 1 p1) q).length;omega,hdv.z,hdv.one,hp1,by show LogAt S 2 (((flF (Z.set 1 p1) q).length - 2) / 2) 1#32 (l.map recB);rw [hfl];exact hdv.log⟩,h4,hok⟩
       have etl:l.take l.length=l:=List.take_length
       cases m with
       | true =>
         obtain ⟨hall,hRe⟩:=hoi.yes rfl;rw [List.take_length] at hall;have hpp:popA_c.pre (((flF (Z.set 1 p1) q,S),p1,l),seed42):=⟨hpd,hall⟩;have hrun:=hoi.run;have hrl:(runP seed42 l l.length).2.1.length=l.length:=by rw [hrun.len,List.length_take];omega
         rw [show runP seed42 l l.length=l.foldl seaP (p020 seed42) by show (l.take l.length).foldl seaP _=_;rw [List.take_length]] at hrl
         repeat' (first|(with_reducible refine Unf.h ?_)|((conv=>whnf);refine Fork.mk (fun h=>?_) (fun h=>?_))|fail);all_goals try (conv=>whnf);all_goals try (exfalso;omega)
         refine CallS.mk (c:=vflu_c) (((1#32,1#32),(2,149,1#32,baseP ((l.take l.length).map recB)),(Z.set 1 p1,S,q))) ?_
         repeat' (first|(with_reducible refine Unf.h ?_)|((conv=>whnf);first|refine Fork.mkn (fun h=>?_) (fun h=>?_)|(refine Side.mk ?_ ?_;focus (first|with_reducible rfl|exact True.intro|assumption|(refine congrArg (SV.int _) ?_;omega)))|refine Got.mk (fun _ _=>?_)|refine CallS.mk (c:=pfrm_c) (()) ?_)|fail);all_goals try (conv=>whnf);all_goals try (exfalso;omega)
         refine Or2.l (CallS.mk (c:=popA_c) ((((flF (Z.set 1 p1) q,S),p1,l),seed42)) ?_)
         repeat' (first|(with_reducible refine Unf.h ?_)|((conv=>whnf);first|refine Fork.mk (fun h=>?_) (fun h=>?_)|(refine Side.mk ?_ ?_;focus (first|with_reducible rfl|assumption))|refine Got.mk (fun _ _=>?_))|fail);all_goals try (conv=>whnf);all_goals try (exfalso;omega)
         refine CallS.mk (c:=pepq_c) (((l.foldl seaP (seed42,[],[],[])).1,(l.foldl seaP (seed42,[],[],[])).2.1)) ?_
         repeat' (first|(with_reducible refine Unf.h ?_)|((conv=>whnf);first|(refine Side.mk ?_ ?_;focus (first|with_reducible rfl|exact True.intro|(simp [*,hrl];done)))|refine RetE.mk () trivial ?_|refine Got.mk (fun _ _=>?_)|refine retK_r ?_|exact rfl)|fail);all_goals try (conv=>whnf);all_goals try (exfalso;omega)
       | false =>
         have hall:=hoi.no rfl;rw [List.take_length] at hall;have hpp:popB_c.pre (((flF (Z.set 1 p1) q,S),p1,l),seed42):=⟨hpd,hall⟩
         repeat' (first|(with_reducible refine Unf.h ?_)|((conv=>whnf);refine Fork.mk (fun h=>?_) (fun h=>?_))|fail);all_goals try (conv=>whnf);all_goals try (exfalso;omega)
         refine CallS.mk (c:=vflu_c) (((1#32,1#32),(2,149,1#32,baseP ((l.take l.length).map recB)),(Z.set 1 p1,S,q))) ?_
         repeat' (first|(with_reducible refine Unf.h ?_)|((conv=>whnf);first|refine Fork.mkn (fun h=>?_) (fun h=>?_)|(refine Side.mk ?_ ?_;focus (first|with_reducible rfl|exact True.intro|assumption|(refine congrArg (SV.int _) ?_;omega)))|refine Got.mk (fun _ _=>?_)|refine CallS.mk (c:=pfrm_c) (()) ?_)|fail);all_goals try (conv=>whnf);all_goals try (exfalso;omega)
         refine Or2.r (CallS.mk (c:=popB_c) ((((flF (Z.set 1 p1) q,S),p1,l),seed42)) ?_)
         repeat' (first|(with_reducible refine Unf.h ?_)|((conv=>whnf);first|refine Fork.mk (fun h=>?_) (fun h=>?_)|(refine Side.mk ?_ ?_;focus (first|with_reducible rfl|assumption))|refine RetE.mk () trivial ?_|refine Got.mk (fun _ _=>?_)|refine retK_r ?_|exact rfl)|fail);all_goals try (conv=>whnf);all_goals try (exfalso;omega)
 · repeat' (first|(with_reducible refine Unf.h ?_)|((conv=>whnf);first|refine Fork.mk (fun h=>?_) (fun h=>?_)|(refine Side.mk ?_ ?_;focus (first|with_reducible rfl|exact True.intro))|refine RetE.mk () trivial ?_|refine Got.mk (fun _ _=>?_)|refine retK_r ?_|exact rfl|refine CallS.mk (c:=awk20_c) (()) ?_)|fail);all_goals try (conv=>whnf);all_goals try (exfalso;omega)
end Go.Proofs.YtfljmihdeimahaaGreatDoor
namespace Go.Proofs.YtfljmihdeimahaaGreatDoor
set_option linter.all false
open Go.RowKit Go.ChangeShapes Go.WideShapes Go.ChangeAt
theorem Tryz.own:ownKnob Tryz.prog.godebug=none:=by kernel_rfl
theorem Tryz.laidOut:laidOutB Tryz.prog=true:=by kernel_rfl
def laidL {H : Type} : List (String × DataW H) := [("rolodex/hash.begin", Rows.laid_rolodex_hash_begin), ("rolodex/hash.rounds", Rows.laid_rolodex_hash_rounds), ("rolodex/lmots.forms", Rows.laid_rolodex_lmots_forms)]
theorem gBegin : Tryz.prog.globalNamed "rolodex/hash.begin" = some 0 := by kernel_rfl
theorem gForms : Tryz.prog.globalNamed "rolodex/lmots.forms" = some 2 := by kernel_rfl
theorem tForms:(Tryz.prog.globals[2]?).map (·.type)=some 262:=by kernel_rfl
theorem dForms:(Rows.laid_rolodex_lmots_forms:DataW Unit)=.agg (gv2.map fun b=>.agg [.lit (.int .i64 b.1),.lit (.int .i64 b.2.1),.lit (.int .i64 b.2.2)]):=by kernel_rfl
theorem gRounds : Tryz.prog.globalNamed "rolodex/hash.rounds" = some 1 := by kernel_rfl
theorem tBegin:(Tryz.prog.globals[0]?).map (·.type)=some 221:=by kernel_rfl
theorem tRounds:(Tryz.prog.globals[1]?).map (·.type)=some 240:=by kernel_rfl
theorem dBegin:(Rows.laid_rolodex_hash_begin:DataW Unit)=.agg (gv0.toList.map fun b=>.lit (.int .u32 (b.toNat:Int))):=by kernel_rfl
theorem dRounds:(Rows.laid_rolodex_hash_rounds:DataW Unit)=.agg (gv1.toList.map fun b=>.lit (.int .u32 (b.toNat:Int))):=by kernel_rfl
theorem glob_arr32s {P:Program} [TabC P] {H:Type} {enc:TypeId×Value→H} {W:World} {spare:Nat→Bool} {held:Bool} {n:String} {g t e m f:Nat} {i j:TI} {cs:Array Value} {p:List MemPlace} {v:Vector (BitVec 32) m} (hg:P.globalNamed n=some g) (hv:W.var? P n=some cs) (ht:ty P t=some i) (hk:i.k=.ar m e) (hj:ty P e=some j) (hjk:j.k=.int .u32) (hj1:j.size=1) (hi:i.size=m)
   (hd:DataW.trod enc P W 0 spare held f t cs.toList=some (.agg (v.toList.map fun b=>.lit (.int .u32 (b.toNat:Int))),p)):(SV.fpt [.arr32 v]).hc W none0 sg0 [.pointer (some ⟨g,0,none⟩)]∧∃ C T fr,W.heap[g]?=some (.cells C T fr)∧C.size=szL [SV.arr32 v]:=by
 refine ⟨glob_arr32 hg hv ht hk hj hjk hj1 hi hd,?_⟩;obtain ⟨u,hcs,hx⟩:=arr_cells (w:=32) ht hk hj hjk hj1 hi rfl rfl hd;simp only [World.var?,hg,Option.bind_some] at hv
 split at hv
 · rename_i C T fr hh
   have e:=Option.some.inj hv;refine ⟨C,T,fr,hh,?_⟩;have hl:=congrArg List.length hcs;rw [e]
   simpa [szL,SV.sz] using hl
 · cases hv
theorem trip_cells {P:Program} [TabC P] {H:Type} {enc:TypeId×Value→H} {W:World} {spare:Nat→Bool} {held:Bool} {e s:Nat} {j q:TI} (hj:ty P e=some j) (hjk:j.k=.st [(0,s),(1,s),(2,s)]) (hj3:j.size=3) (hq:ty P s=some q) (hqk:q.k=.int .i64) (hq1:q.size=1) {fuel:Nat} {cs:List Value} {x:DataW H×List MemPlace} {a b c:Int}
   (hx:DataW.trod enc P W 0 spare held fuel e cs=some x) (he:x.1=.agg [.lit (.int .i64 a),.lit (.int .i64 b),.lit (.int .i64 c)]):cs=[.int .i64 a,.int .i64 b,.int .i64 c]∧inR a∧inR b∧inR c:=by
 obtain ⟨gs,hu,hm⟩:=ty_struct hj hjk;obtain ⟨xs,n,_,rfl,hlen,hxl,hel⟩:=DataW.trod_struct hu hx;rw [ty_cells hj,hj3] at hlen;obtain ⟨g0,g1,g2,hgs⟩:∃ g0 g1 g2,gs.toList=[g0,g1,g2]:=by
   have:=congrArg List.length hm
   rw [List.length_map] at this
   match hh:gs.toList,this with
   | [g0,g1,g2],_=>exact ⟨g0,g1,g2,rfl⟩
 rw [hgs] at hm;simp only [List.map_cons,List.map_nil,List.cons.injEq,Prod.mk.injEq,and_true] at hm;obtain ⟨⟨o0,t0⟩,⟨o1,t1⟩,o2,t2⟩:=hm;have hsz:gs.size=3:=by rw [← Array.length_toList,hgs];rfl
 rw [hsz] at hxl;obtain ⟨x0,x1,x2,rfl⟩:∃ x0 x1 x2,xs=[x0,x1,x2]:=by
   match xs,hxl with
   | [x0,x1,x2],_=>exact ⟨x0,x1,x2,rfl⟩
 obtain ⟨c0,c1,c2,rfl⟩:∃ c0 c1 c2,cs=[c0,c1,c2]:=by
   match cs,hlen with
   | [c0,c1,c2],_=>exact ⟨c0,c1,c2,rfl⟩
 have h0:=hel 0 g0 (by rw [← Array.getElem?_toList,hgs];rfl)
 have h1:=hel 1 g1 (by rw [← Array.getElem?_toList,hgs];rfl)
 have h2:=hel 2 g2 (by rw [← Array.getElem?_toList,hgs];rfl)
 rw [o0,t0,ty_cells hq,hq1] at h0;rw [o1,t1,ty_cells hq,hq1] at h1;rw [o2,t2,ty_cells hq,hq1] at h2;obtain ⟨s0,e0,e0',w0⟩:=DataW.trod_int (ty_int hq hqk) h0;obtain ⟨s1,e1,e1',w1⟩:=DataW.trod_int (ty_int hq hqk) h1;obtain ⟨s2,e2,e2',w2⟩:=DataW.trod_int (ty_int hq hqk) h2;simp only [List.map_cons,List.map_nil,DataW.agg.injEq,List.cons.injEq,and_true] at he;rw [e0',e1',e2'] at he;simp only [DataW.lit.injEq,Lit.int.injEq,true_and] at he;obtain ⟨rfl,rfl,rfl⟩:=he;simp only [List.drop_zero,List.take_succ_cons,List.take_zero,List.drop_succ_cons,List.cons.injEq,and_true] at e0 e1 e2;rw [e0,e1,e2];have rg:∀ z:Int,(Lit.int IntKind.i64 z).wf=true→inR z:=fun z hz=>by
   simp [Lit.wf,IntKind.min,IntKind.max,IntKind.signed,IntKind.bits] at hz
   unfold inR;omega
 exact ⟨rfl,rg _ w0,rg _ w1,rg _ w2⟩
theorem glob_arr3I {P:Program} [TabC P] {H:Type} {enc:TypeId×Value→H} {W:World} {spare:Nat→Bool} {held:Bool} {n:String} {g t e s m f:Nat} {i j q:TI} {cs:Array Value} {p:List MemPlace} {gv:List (Int×Int×Int)} (hg:P.globalNamed n=some g) (hv:W.var? P n=some cs) (ht:ty P t=some i) (hk:i.k=.ar m e) (hj:ty P e=some j) (hjk:j.k=.st [(0,s),(1,s),(2,s)]) (hj3:j.size=3) (hq:ty P s=some q) (hqk:q.k=.int .i64) (hq1:q.size=1) (hi:i.size=m*3) (hl:gv.length=m)
   (hd:DataW.trod enc P W 0 spare held f t cs.toList=some (.agg (gv.map fun b=>.agg [.lit (.int .i64 b.1),.lit (.int .i64 b.2.1),.lit (.int .i64 b.2.2)]),p)):(SV.fpt [.arrG 3 e3I gv]).hc W none0 sg0 [.pointer (some ⟨g,0,none⟩)]∧∃ C T fr,W.heap[g]?=some (.cells C T fr)∧C.size=szL [SV.arrG 3 e3I gv]:=by
 obtain ⟨xs,k,_,hx1,hlen,hxl,hel⟩:=DataW.trod_array (ty_array ht hk) hd;rw [ty_cells ht,hi] at hlen;simp only [Prod.mk.injEq,DataW.agg.injEq] at hx1;simp only [World.var?,hg,Option.bind_some] at hv
 split at hv
 · rename_i C T fr hh
   have e:=Option.some.inj hv;refine ⟨?_,C,T,fr,hh,by rw [e];simp [szL,SV.sz] at hlen ⊢;omega⟩
   simp only [SV.hc];refine ⟨g,0,rfl,fun h=>h,C,T,fr,hh,?_⟩
   rw [List.drop_zero,e];refine ⟨cs.toList,[],?_,?_,rfl⟩
   · rw [List.append_nil,List.take_of_length_le (by rw [hlen,← hl];simp [szL,SV.sz])]
   · simp only [SV.hc]
     refine ⟨by rw [hlen,hl],fun r hr=>?_⟩
     have h1:=hel r (by omega)
     rw [ty_cells hj,hj3] at h1;have hr':r<xs.length:=by omega
     rw [List.getElem?_eq_getElem hr'] at h1;have h2:(xs[r]).1=.agg [.lit (.int .i64 gv[r].1),.lit (.int .i64 gv[r].2.1),.lit (.int .i64 gv[r].2.2)]:=by
       have:=congrArg (fun l=>l[r]?) hx1.1
       simp only [List.getElem?_map,List.getElem?_eq_getElem hr',List.getElem?_eq_getElem hr,Option.map_some,Option.some.injEq] at this;exact this.symm
     obtain ⟨h3,r1,r2,r3⟩:=trip_cells hj hjk hj3 hq hqk hq1 h1 h2;rw [h3];exact ⟨[_],[_,_],rfl,by simp only [SV.hc];exact ⟨trivial,fun _=>r1⟩,[_],[_],rfl,by simp only [SV.hc];exact ⟨trivial,fun _=>r2⟩,[_],[],rfl,by simp only [SV.hc];exact ⟨trivial,fun _=>r3⟩,rfl⟩
 · cases hv
theorem glob_of_laid {W:World} (h:laidMetH Tryz.prog laidL W):Glob Tryz.prog W none0:=by
 rw [MakeChecks.laidMetH_plain _ _ _ (by kernel_rfl)] at h
 have h : laidMet Tryz.prog [("rolodex/hash.begin", Rows.laid_rolodex_hash_begin), ("rolodex/hash.rounds", Rows.laid_rolodex_hash_rounds), ("rolodex/lmots.forms", Rows.laid_rolodex_lmots_forms)] W := h
 obtain ⟨ps,⟨g0,t0,cs0,f0,p0,q0,hg0,ht0,hv0,hd0,⟨g1,t1,cs1,f1,p1,q1,hg1,ht1,hv1,hd1,⟨g2,t2,cs2,f2,p2,q2,hg2,ht2,hv2,hd2,_,_⟩,_⟩,_⟩,_,_⟩:=h;obtain rfl:=Option.some.inj (gBegin.symm.trans hg0);obtain rfl:=Option.some.inj (gRounds.symm.trans hg1);obtain rfl:=Option.some.inj (tBegin.symm.trans ht0);obtain rfl:=Option.some.inj (tRounds.symm.trans ht1);obtain rfl:=Option.some.inj (gForms.symm.trans hg2);obtain rfl:=Option.some.inj (tForms.symm.trans ht2);rw [dForms] at hd2;rw [dBegin] at hd0;rw [dRounds] at hd1;intro g ps hm;have hm':(g,ps)=(0,[SV.arr32 gv0])∨(g,ps)=(1,[SV.arr32 gv1])∨(g,ps)=(2,[SV.arrG 3 e3I gv2]):=by
   have e:TabC.gl Tryz.prog=[(0,[SV.arr32 gv0]),(1,[SV.arr32 gv1]),(2,[SV.arrG 3 e3I gv2])]:=rfl;rw [e] at hm
   simpa using hm
 rcases hm' with e|e|e
 · cases e
   exact glob_arr32s (i:=⟨.ar 8 87,8,32⟩) (j:=⟨.int .u32,1,4⟩) hg0 hv0 rfl rfl rfl rfl rfl rfl hd0
 · cases e
   exact glob_arr32s (i:=⟨.ar 64 87,64,256⟩) (j:=⟨.int .u32,1,4⟩) hg1 hv1 rfl rfl rfl rfl rfl rfl hd1
 · cases e
   exact glob_arr3I (i:=⟨.ar 5 233,15,120⟩) (j:=⟨.st [(0,3),(1,3),(2,3)],3,24⟩) (q:=⟨.int .i64,1,8⟩) hg2 hv2 rfl rfl rfl rfl rfl rfl rfl rfl rfl rfl hd2
theorem door_met (os:Os) (args:Array Value):laidMetH Tryz.prog laidL ((World.doorLaid Tryz.prog 400 os).forCall (fun _ _=>0) ⟨#[],args,[]⟩).memory :=
 laidMetH_of_parts3 (fuel:=8) (laidMet_of_run' 8 (by kernel_rfl) (by kernel_rfl)) (by kernel_rfl) (by kernel_rfl)
section
variable {H:Type} {enc:TypeId×Value→H} {W:World} {spare:Nat→Bool} {held:Bool}
theorem o_byte:Opens Tryz.prog enc W spare held 5 eB:=o_uns (i:=⟨.int .u8,1,1⟩) (k:=.u8) (w:=8) (mk:=.u8) rfl rfl rfl rfl (fun _ _=>hc8)
theorem o_bytes:Opens Tryz.prog enc W spare held 42 (fun l:List (BitVec 8)=>[.fs 1 eB l]) :=
 o_slice (i:=⟨.sl 5,1,24⟩) (j:=⟨.int .u8,1,1⟩) (f:=eB) rfl rfl rfl rfl rfl o_byte (fun _=>rfl)
theorem o_req20:Opens Tryz.prog enc W spare held 44 eRq :=
 (o_struct (i:=⟨.st [(0,3),(1,3),(2,42),(3,42)],4,64⟩) rfl rfl
   (o_field (off:=0) (off2:=1) (j:=⟨.int .i64,1,8⟩) rfl (o_i64 (t:=3) (i:=⟨.int .i64,1,8⟩) rfl rfl) (fun _=>sizQ_spec rfl) rfl
   (o_field (off:=1) (off2:=2) (j:=⟨.int .i64,1,8⟩) rfl (o_i64 (t:=3) (i:=⟨.int .i64,1,8⟩) rfl rfl) (fun _=>sizQ_spec rfl) rfl
   (o_field (off:=2) (off2:=3) (j:=⟨.sl 5,1,24⟩) rfl o_bytes (fun _=>sizQ_spec rfl) rfl
   (o_last (off:=3) (j:=⟨.sl 5,1,24⟩) rfl o_bytes (fun _=>sizQ_spec rfl))))) (fun _=>sizQ_spec rfl) (by kernel_rfl)).map (fun p=>((p.1,p.2.1),(p.2.2.1,p.2.2.2))) (fun _=>rfl)
theorem o_reqs20:Opens Tryz.prog enc W spare held 39 (fun l:List Rq=>[.fs 4 eRq l]) :=
 o_slice (i:=⟨.sl 44,1,24⟩) (j:=⟨.st [(0,3),(1,3),(2,42),(3,42)],4,64⟩) rfl rfl rfl rfl rfl o_req20 (fun _=>rfl)
theorem o_seal20:Opens Tryz.prog enc W spare held 41 eS20 :=
 (o_struct (i:=⟨.st [(0,3),(1,39)],2,32⟩) rfl rfl
   (o_field (off:=0) (off2:=1) (j:=⟨.int .i64,1,8⟩) rfl (o_i64 (t:=3) (i:=⟨.int .i64,1,8⟩) rfl rfl) (fun _=>sizQ_spec rfl) rfl
   (o_last (off:=1) (j:=⟨.sl 44,1,24⟩) rfl o_reqs20 (fun _=>sizQ_spec rfl))) (fun _=>sizQ_spec rfl) (by kernel_rfl)).map (fun p=>(p.1,p.2)) (fun _=>rfl)
theorem o_seals20:Opens Tryz.prog enc W spare held 22 (fun l:List Sl20=>[.fs 2 eS20 l]) :=
 o_slice (i:=⟨.sl 41,1,24⟩) (j:=⟨.st [(0,3),(1,39)],2,32⟩) rfl rfl rfl rfl rfl o_seal20 (fun _=>rfl)
end
end Go.Proofs.YtfljmihdeimahaaGreatDoor
