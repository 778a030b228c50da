import Derived.Test.YtfljmihdeimahaaGreatDoorZLPRec6
import Derived.Test.YtfljmihdeimahaaGreatDoorZLPRec5
namespace Go.Proofs.YtfljmihdeimahaaGreatDoor
set_option linter.all false
open Go.RowKit
def undk_c:Ctr:={ und_c with kp:=true }
theorem undk_ok:undk_c.Ok Tryz.prog 140:=und_ok.kept fun _=>rfl
def secF (id:ID16) (q:BitVec 32) (i:Int) (seed:H256):H256:=undF id q i [[255#8],seed.toList]
def lsec_c:Ctr where
 D:=ID16×BitVec 32×Int×H256
 pre:=fun (_,_,i,_)=>0≤i∧i<65536
 args:=fun (id,q,i,s)=>[.agg [.arr8 id],.u32 q,.int .i64 i,.agg [.arr8 s]]
 res:=fun (id,q,i,s) _=>.agg [.arr8 (secF id q i s)]
def lsec_H:Cfg:=⟨[(140,undk_c)],[(1,[],[0,3,5,6,7],(oA 1 (oA 2 (oA 4 (.alt 0 false (oC 3 (oC 5 (oC 6 (oC 7 .nil)))) (oC 3 (.alt 0 false (oC 5 (oC 6 (oC 7 .nil))) (oC 5 (oC 0 (oC 6 (oC 7 .nil)))))))))),[])],[],[],16,0,[],[],[]⟩
theorem lsec_ok:lsec_c.Ok Tryz.prog 122:=by
 refine fn_ok lsec_H 0 rfl _ Tryz.func122 rfl rfl ⟨undk_ok,trivial⟩ rfl rfl (by kernel_rfl) (fun _=>nlb rfl) ?_
 rintro ⟨id,q,i,s⟩ hp hr
 try dsimp only [lsec_c] at hp
 try simp only [lsec_c,Rng,RngL,inR,and_true,true_and] at hr
 obtain ⟨hp0,hp1⟩:=hp;have hpu:undk_c.pre (id,q,i,[[255#8],s.toList]):=⟨hp0,hp1,by show 2≤10000;omega,fun p hp=>by
   have hp:p∈[[255#8],s.toList]:=hp;simp only [List.mem_cons,List.not_mem_nil,or_false] at hp;rcases hp with rfl|rfl<;>simp⟩
 repeat' (first|(with_reducible refine Unf.h ?_)|((conv=>whnf);first|refine Both.mk ?_ ?_|refine Both.mk ?_ ?_|(refine Side.mk ?_ ?_;focus (first|exact True.intro|(intros;(try simp only [lenS,inR,cutS,loI,hiI] at *);omega)))|refine Ex.mk [_] rfl ?_)|fail);all_goals try (conv=>whnf);all_goals try (exfalso;omega)
 all_goals
   refine CallS.mk (c:=undk_c) ((id,q,i,[[255#8],s.toList])) ?_
   repeat' (first|(with_reducible refine Unf.h ?_)|((conv=>whnf);first|(refine Side.mk ?_ ?_;focus (first|with_reducible rfl|assumption|(simp only [*,secF,cutv2,eP,List.map_cons,List.map_nil];done)))|refine RetE.mk () trivial ?_|refine Got.mk (fun _ _=>?_)|refine retK_r ?_|exact rfl)|fail);all_goals try (conv=>whnf);all_goals try (exfalso;omega)
def chnU (id:ID16) (q:BitVec 32) (i:Int) (a:Nat) (h:H256):Nat→H256
 | 0=>h
 | k+1=>undF id q i [[BitVec.ofInt 8 ((a+k:Nat):Int)],(chnU id q i a h k).toList]
def lchn_c:Ctr where
 D:=ID16×BitVec 32×Int×H256×Nat×Nat
 pre:=fun (_,_,i,_,a,b)=>0≤i∧i<65536∧a≤100000∧b≤100000
 args:=fun (id,q,i,h,a,b)=>[.agg [.arr8 id],.u32 q,.int .i64 i,.agg [.arr8 h],.int .i64 (a:Int),.int .i64 (b:Int)]
 res:=fun (id,q,i,h,a,b) _=>.agg [.arr8 (chnU id q i a h (b - a))]
def lchn_H:Cfg:=⟨[(140,undk_c)],[(4,[0],[5,7,8,9],(oB 0 (oA 1 (oA 2 (oA 3 (oA 4 (oA 6 (oD 5 (oD 7 (oC 8 (oC 9 .nil)))))))))),[])],[],[],30,0,[],[],[27]⟩
theorem lchn_ok:lchn_c.Ok Tryz.prog 121:=by
 refine fn_ok lchn_H 0 rfl _ Tryz.func121 rfl rfl ⟨undk_ok,trivial⟩ rfl rfl (by kernel_rfl) (fun _=>nlb rfl) ?_
 rintro ⟨id,q,i,h0,a,b⟩ hp hr
 try dsimp only [lchn_c] at hp
 try simp only [lchn_c,Rng,RngL,inR,and_true,true_and] at hr
 obtain ⟨hp0,hp1,hp2,hp3⟩:=hp;have hp2:a≤100000:=hp2;have hp3:b≤100000:=hp3
 repeat' (first|(with_reducible refine Unf.h ?_)|fail);all_goals try (conv=>whnf);all_goals try (exfalso;omega)
 refine LoopS.autoN (I:=Nat) (fun k=>k≤b - a) (fun k=>[(13,.int .i64 ((a+k:Nat):Int))]) (fun k=>[(0,.box 158 [.arr8 id]),(1,.box 35 [.arr8 (chnU id q i a h0 k)]),(2,.box 35 [.arr8 zeroH])]) 3 (fun k=>b - a - k) 0 (Nat.zero_le _) ?_ ?_
 · have e0:chnU id q i a h0 0=h0:=rfl
   repeat' (first|(with_reducible refine Unf.h ?_)|((conv=>whnf);first|(refine Side.mk ?_ ?_;focus (first|with_reducible rfl|(refine congrArg (SV.int _) ?_;omega)|(simp only [*,e0];done)))|(with_reducible refine Unf.h ?_)|exact True.intro)|fail);all_goals try (conv=>whnf);all_goals try (exfalso;omega)
 · intro k hk
   rcases Nat.lt_or_ge k (b - a) with hkl|hkl
   · have hpu:undk_c.pre (id,q,i,[[BitVec.ofInt 8 ((a+k:Nat):Int)],(chnU id q i a h0 k).toList]):=⟨hp0,hp1,by show 2≤10000;omega,fun p hp=>by
       have hp:p∈[[BitVec.ofInt 8 ((a+k:Nat):Int)],(chnU id q i a h0 k).toList]:=hp;simp only [List.mem_cons,List.not_mem_nil,or_false] at hp;rcases hp with rfl|rfl<;>simp⟩
     have es:chnU id q i a h0 (k+1)=undF id q i [[BitVec.ofInt 8 ((a+k:Nat):Int)],(chnU id q i a h0 k).toList]:=rfl;generalize chnU id q i a h0 k=hk0 at *
     repeat' (first|(with_reducible refine Unf.h ?_)|((conv=>whnf);first|refine Fork.mk (fun h=>?_) (fun h=>?_)|(refine Side.mk ?_ ?_;focus (exact True.intro)))|fail);all_goals try (conv=>whnf);all_goals try (exfalso;omega)
     all_goals
       refine ValS.mk (OrdK.lend _ _ [(28,.agg [.arr8 (undF id q i [[BitVec.ofInt 8 ((a+k:Nat):Int)],hk0.toList])]),(6,.ptr 0 0),(9,.ptr 1 0),(12,.ptr 2 0),(14,.int .i64 (a:Int)),(0,.agg [.arr8 id]),(1,.u32 q),(2,.int .i64 i),(3,.agg [.arr8 h0]),(4,.int .i64 (a:Int)),(5,.int .i64 (b:Int)),(13,.int .i64 ((a+k:Nat):Int))] rfl rfl rfl rfl rfl rfl ?_)
       repeat' (first|((conv=>whnf);first|(refine Side.mk ?_ ?_;focus ((intros;(try simp only [lenS,inR,cutS,loI,hiI] at *);omega)))|refine Ex.mk [_] rfl ?_)|fail);all_goals try (conv=>whnf);all_goals try (exfalso;omega)
       refine CallS.mk (c:=undk_c) ((id,q,i,[[BitVec.ofInt 8 ((a+k:Nat):Int)],hk0.toList])) ?_
       repeat' (first|(with_reducible refine Unf.h ?_)|((conv=>whnf);first|(refine Side.mk ?_ ?_;focus (first|with_reducible rfl|assumption|(simp only [*,cutv2,eP,List.map_cons,List.map_nil];done)))|refine Got.mk (fun _ _=>?_))|fail);all_goals try (conv=>whnf);all_goals try (exfalso;omega)
       refine ⟨by repeat (first|exact trivial|refine ⟨rfl,rfl,?_⟩),?_⟩
       repeat' (first|(with_reducible first|refine Unf.h ?_|refine loopK_n ?_)|((conv=>whnf);(refine Side.mk ?_ ?_;focus ((intros;(try simp only [lenS,inR,cutS,loI,hiI] at *);omega))))|fail);all_goals try (conv=>whnf);all_goals try (exfalso;omega)
       refine ⟨k+1,⟨by omega,by omega⟩,?_⟩
       repeat' (first|(with_reducible refine Unf.h ?_)|((conv=>whnf);first|(refine Side.mk ?_ ?_;focus (first|with_reducible rfl|(refine congrArg (SV.int _) ?_;omega)|(simp only [*,es];done)))|(with_reducible refine Unf.h ?_)|exact True.intro)|fail);all_goals try (conv=>whnf);all_goals try (exfalso;omega)
   · obtain rfl:k=b - a:=by omega
     repeat' (first|(with_reducible refine Unf.h ?_)|((conv=>whnf);first|refine Fork.mk (fun h=>?_) (fun h=>?_)|(refine Side.mk ?_ ?_;focus (with_reducible rfl))|refine RetE.mk () trivial ?_|refine retK_r ?_|exact rfl)|fail);all_goals try (conv=>whnf);all_goals try (exfalso;omega)
def frm (k:Int):Int×Int×Int:=if 1≤k∧k≤4 then gv2.getD k.toNat (0,0,0) else (0,0,0)
theorem frm_get {k:Int} (h:1≤k∧k≤4) (hb:k.toNat<gv2.length):gv2[k.toNat]'hb=frm k:=by
 unfold frm;rw [if_pos h,List.getD_eq_getElem?_getD,List.getElem?_eq_getElem hb];rfl
theorem frm_cases (k:Int):frm k=(0,0,0)∧¬ (1≤k∧k≤4)∨frm k=(1,265,7)∧k=1∨frm k=(2,133,6)∧k=2∨frm k=(4,67,4)∧k=3∨frm k=(8,34,0)∧k=4:=by
 by_cases h:1≤k∧k≤4
 · have:k=1∨k=2∨k=3∨k=4:=by omega
   rcases this with rfl|rfl|rfl|rfl
   · exact .inr (.inl ⟨rfl,rfl⟩)
   · exact .inr (.inr (.inl ⟨rfl,rfl⟩))
   · exact .inr (.inr (.inr (.inl ⟨rfl,rfl⟩)))
   · exact .inr (.inr (.inr (.inr ⟨rfl,rfl⟩)))
 · exact .inl ⟨if_neg h,h⟩
abbrev eFm (p:Int×Int×Int):List SV:=[.int .i64 p.1,.int .i64 p.2.1,.int .i64 p.2.2]
def lof_c:Ctr where
 D:=Int
 args:=fun k=>[.int .i64 k]
 res:=fun k _=>.tup [.agg (eFm (frm k)),.dec (1≤k∧k≤4) inferInstance]
def lof_H:Cfg:=⟨[],[],[],[],14,0,[],[],[]⟩
theorem lof_ok:lof_c.Ok Tryz.prog 120:=by
 refine fn_ok lof_H 0 rfl _ Tryz.func120 rfl rfl trivial rfl rfl (by kernel_rfl) (fun _=>nlb rfl) ?_
 intro (k:Int) hp hr
 try dsimp only [lof_c] at hp
 try simp only [lof_c,Rng,RngL,inR,and_true,true_and] at hr
 by_cases h:1≤k∧k≤4
 · have hg:∀ hb,gv2[k.toNat]'hb=frm k:=fun hb=>frm_get h hb
   have hlen:gv2.length=5:=rfl
   repeat' (first|(with_reducible refine Unf.h ?_)|((conv=>whnf);first|refine Fork.mk (fun h=>?_) (fun h=>?_)|(refine Idx.mk ?_ ?_;focus (omega)))|fail);all_goals try (conv=>whnf);all_goals try (exfalso;omega)
   refine Side.mk rfl ?_
   repeat' (first|(with_reducible refine Unf.h ?_)|((conv=>whnf);first|(refine Side.mk ?_ ?_;focus (first|(refine ⟨fun h=>?_,fun h=>?_⟩<;>first|rfl|(cases h;done)|omega|(exfalso;omega)|(simp only [Bool.false_eq_true] at h;done))|(simp only [*,hg,e3I];done)))|refine RetE.mk () trivial ?_|refine retK_r ?_|exact rfl)|fail);all_goals try (conv=>whnf);all_goals try (exfalso;omega)
 · have hf:frm k=(0,0,0):=if_neg h
   repeat' (first|(with_reducible refine Unf.h ?_)|((conv=>whnf);first|refine Fork.mk (fun h=>?_) (fun h=>?_)|(refine Side.mk ?_ ?_;focus (first|(refine ⟨fun h=>?_,fun h=>?_⟩<;>first|rfl|(cases h;done)|omega|(exfalso;omega)|(simp only [Bool.false_eq_true] at h;done))|(simp only [*,hf];done)))|refine RetE.mk () trivial ?_|refine retK_r ?_|exact rfl)|fail);all_goals try (conv=>whnf);all_goals try (exfalso;omega)
def lchs_c:Ctr where
 D:=Int
 args:=fun k=>[.int .i64 k]
 res:=fun k _=>.int .i64 (frm k).2.1
def lchs_H:Cfg:=⟨[(120,lof_c)],[],[],[],12,0,[],[],[]⟩
theorem lchs_ok:lchs_c.Ok Tryz.prog 119:=by
 refine fn_ok lchs_H 0 rfl _ Tryz.func119 rfl rfl ⟨lof_ok,trivial⟩ rfl rfl (by kernel_rfl) (fun _=>nlb rfl) ?_
 intro (k:Int) hp hr
 try dsimp only [lchs_c] at hp
 try simp only [lchs_c,Rng,RngL,inR,and_true,true_and] at hr
 repeat' (first|(with_reducible refine Unf.h ?_)|((conv=>whnf);first|(refine Side.mk ?_ ?_;focus (first|with_reducible rfl|exact True.intro|(refine congrArg (SV.int _) ?_;omega)))|refine RetE.mk () trivial ?_|refine Got.mk (fun _ _=>?_)|refine retK_r ?_|exact rfl|refine CallS.mk (c:=lof_c) (k) ?_)|fail);all_goals try (conv=>whnf);all_goals try (exfalso;omega)
def lszF (k:Int):Int:=if 1≤k∧k≤4 then 4+32*(1+(frm k).2.1) else 0
def lsz_c:Ctr where
 D:=Int
 args:=fun k=>[.int .i64 k]
 res:=fun k _=>.int .i64 (lszF k)
def lsz_H:Cfg:=⟨[(120,lof_c)],[],[],[],17,0,[],[],[]⟩
theorem lsz_ok:lsz_c.Ok Tryz.prog 98:=by
 refine fn_ok lsz_H 0 rfl _ Tryz.func98 rfl rfl ⟨lof_ok,trivial⟩ rfl rfl (by kernel_rfl) (fun _=>nlb rfl) ?_
 intro (k:Int) hp hr
 try dsimp only [lsz_c] at hp
 try simp only [lsz_c,Rng,RngL,inR,and_true,true_and] at hr
 have hc:=frm_cases k
 by_cases h:1≤k∧k≤4
 · have e:lszF k=4+32*(1+(frm k).2.1):=if_pos h
   have hb:0≤(frm k).2.1∧(frm k).2.1≤265:=by rcases hc with ⟨h1,_⟩|⟨h1,_⟩|⟨h1,_⟩|⟨h1,_⟩|⟨h1,_⟩<;>rw [h1]<;>decide
   repeat' (first|(with_reducible refine Unf.h ?_)|((conv=>whnf);first|refine Fork.mkn (fun h=>?_) (fun h=>?_)|(refine Side.mk ?_ ?_;focus (first|with_reducible rfl|exact True.intro|(refine congrArg (SV.int _) ?_;omega)|(intros;(try simp only [lenS,inR,cutS,loI,hiI,e] at *);omega)))|refine RetE.mk () trivial ?_|refine Got.mk (fun _ _=>?_)|refine retK_r ?_|exact rfl|refine CallS.mk (c:=lof_c) (k) ?_)|fail);all_goals try (conv=>whnf);all_goals try (exfalso;omega)
 · have e:lszF k=0:=if_neg h
   repeat' (first|(with_reducible refine Unf.h ?_)|((conv=>whnf);first|refine Fork.mkn (fun h=>?_) (fun h=>?_)|(refine Side.mk ?_ ?_;focus (first|with_reducible rfl|exact True.intro|(refine congrArg (SV.int _) ?_;omega)))|refine RetE.mk () trivial ?_|refine Got.mk (fun _ _=>?_)|refine retK_r ?_|exact rfl|refine CallS.mk (c:=lof_c) (k) ?_)|fail);all_goals try (conv=>whnf);all_goals try (exfalso;omega)
def lmst_c:Ctr where
 D:=Nat×Int×Int
 pre:=fun (b,_,_)=>b≤8
 args:=fun (b,c,s)=>[.agg [.int .i64 (b:Int),.int .i64 c,.int .i64 s]]
 res:=fun (b,_,_) _=>.int .i64 ((2^b - 1:Nat):Int)
def lmst_H:Cfg:=⟨[],[],[],[],7,0,[],[],[]⟩
theorem lmst_ok:lmst_c.Ok Tryz.prog 123:=by
 refine fn_ok lmst_H 0 rfl _ Tryz.func123 rfl rfl trivial rfl rfl (by kernel_rfl) (fun _=>nlb rfl) ?_
 rintro ⟨b,c,s⟩ hp hr
 try dsimp only [lmst_c] at hp
 try simp only [lmst_c,Rng,RngL,inR,and_true,true_and] at hr
 have hp:b≤8:=hp;have h2:(2:Nat)^b≤2^8:=Nat.pow_le_pow_right (by decide) hp
 have h1:1≤(2:Nat)^b:=Nat.one_le_two_pow;have hb2:(1:Int)*2^((((b:Nat):Int).toNat:Nat):Int).toNat=((2^b:Nat):Int):=by simp
 have hb3:((2^b:Nat):Int) - 1=((2^b - 1:Nat):Int):=by omega
 repeat' (first|(with_reducible refine Unf.h ?_)|((conv=>whnf);first|(refine Side.mk ?_ ?_;focus (first|omega|(refine congrArg (SV.int _) ?_;omega)|(intros;(try simp only [lenS,inR,cutS,loI,hiI] at *);omega)))|refine RetE.mk () trivial ?_|refine retK_r ?_|exact rfl)|fail);all_goals try (conv=>whnf);all_goals try (exfalso;omega)
abbrev eHv (v:H256):List SV:=[.arr8 v]
def catH (l:List H256):Bs:=(l.map fun h=>h.toList).flatten
theorem catH_succ (l:List H256) (i:Nat) (h:i<l.length):catH (l.take (i+1))=catH (l.take i)++l[i].toList:=by
 unfold catH;rw [List.take_succ_eq_append_getElem h,List.map_append,List.flatten_append];simp
theorem catH_len (l:List H256):(catH l).length=32*l.length:=by
 induction l with
 | nil=>rfl
 | cons a r ih =>
   unfold catH at ih ⊢;rw [List.map_cons,List.flatten_cons,List.length_append,ih,List.length_cons]
   simp;omega
def fldF (id:ID16) (q:BitVec 32) (ends:List H256):H256:=undF id q 32896 [catH ends]
def lfld_c:Ctr where
 D:=ID16×BitVec 32×List H256
 pre:=fun (_,_,l)=>l.length≤300
 args:=fun (id,q,l)=>[.agg [.arr8 id],.u32 q,.fs 32 eHv l]
 res:=fun (id,q,l) _=>.agg [.arr8 (fldF id q l)]
def lfld_H:Cfg:=⟨[(140,und_c)],[],[],[],29,0,[],[],[]⟩
theorem lfld_ok:lfld_c.Ok Tryz.prog 124:=by
 refine fn_ok lfld_H 0 rfl _ Tryz.func124 rfl rfl ⟨und_ok,trivial⟩ rfl rfl (by kernel_rfl) (fun _=>nlb rfl) ?_
 rintro ⟨id,q,l⟩ hp hr
 try dsimp only [lfld_c] at hp
 try simp only [lfld_c,Rng,RngL,inR,and_true,true_and] at hr
 have hp:l.length≤300:=hp;have hcl:=catH_len l;have hpu:und_c.pre (id,q,32896,[catH l]):=⟨by omega,by omega,by show 1≤10000;omega,fun p hp=>by
   have hp:p∈[catH l]:=hp;obtain rfl:=List.mem_singleton.1 hp
   omega⟩
 repeat' (first|(with_reducible refine Unf.h ?_)|((conv=>whnf);(refine Side.mk ?_ ?_;focus (first|(dsimp only;omega)|(intros;(try simp only [lenS,inR,cutS,loI,hiI] at *);omega))))|fail);all_goals try (conv=>whnf);all_goals try (exfalso;omega)
 refine LoopS.autoN (I:=Nat) (fun k=>k≤l.length) (fun k=>[(16,.int .i64 (k:Int)),(7,.own 2)]) (fun k=>[(0,.box 158 [.arr8 id]),(1,.box 35 [.arr8 zeroH]),(2,.row 5 1 eB (catH (l.take k)))]) 3 (fun k=>l.length - k) 0 (Nat.zero_le _) ?_ ?_
 · have e0:catH (l.take 0)=[]:=rfl
   repeat' (first|(with_reducible refine Unf.h ?_)|((conv=>whnf);first|(refine Side.mk ?_ ?_;focus (first|with_reducible rfl|(refine congrArg (SV.int _) ?_;omega)|(simp only [*,e0,List.map_cons,List.map_nil,eB];done)))|(with_reducible refine Unf.h ?_)|exact True.intro)|fail);all_goals try (conv=>whnf);all_goals try (exfalso;omega)
 · intro k hk
   have hbk:=catH_len (l.take k);have hbt:(l.take k).length≤300:=by simp;omega
   rcases Nat.lt_or_ge k l.length with hkl|hkl
   · have es:catH (l.take (k+1))=catH (l.take k)++(l[((k:Nat):Int).toNat]'hkl).toList:=catH_succ l k hkl
     repeat' (first|(with_reducible first|refine Unf.h ?_|refine loopK_n ?_)|((conv=>whnf);first|refine Fork.mk (fun h=>?_) (fun h=>?_)|(refine Side.mk ?_ ?_;focus (first|exact True.intro|(intros;(try simp only [lenS,inR,cutS,loI,hiI,cutv2] at *);omega)))|(refine Idx.mk ?_ ?_;focus (omega))|refine Ex.mk _ rfl ?_)|fail);all_goals try (conv=>whnf);all_goals try (exfalso;omega)
     refine ⟨k+1,⟨by omega,by omega⟩,?_⟩
     repeat' (first|(with_reducible refine Unf.h ?_)|((conv=>whnf);first|(refine Side.mk ?_ ?_;focus (first|with_reducible rfl|(refine congrArg (SV.int _) ?_;omega)|(simp only [*,es,cutv2];done)))|(with_reducible refine Unf.h ?_)|exact True.intro)|fail);all_goals try (conv=>whnf);all_goals try (exfalso;omega)
   · have e:l.take k=l:=List.take_of_length_le (by omega)
     rw [e]
     repeat' (first|(with_reducible refine Unf.h ?_)|((conv=>whnf);refine Fork.mk (fun h=>?_) (fun h=>?_))|fail);all_goals try (conv=>whnf);all_goals try (exfalso;omega)
     refine CallS.mk (c:=und_c) ((id,q,32896,[catH l])) ?_
     repeat' (first|(with_reducible refine Unf.h ?_)|((conv=>whnf);first|(refine Side.mk ?_ ?_;focus (first|with_reducible rfl|assumption|(simp only [*,eP,List.map_cons,List.map_nil,fldF];done)))|refine RetE.mk () trivial ?_|refine Got.mk (fun _ _=>?_)|refine retK_r ?_|exact rfl)|fail);all_goals try (conv=>whnf);all_goals try (exfalso;omega)
theorem frm_nat {k:Int} (h:1≤k∧k≤4):∃ b c:Nat,∃ s:Int,frm k=((b:Int),((c+1:Nat):Int),s)∧b≤8∧c+1≤299:=by
 rcases frm_cases k with ⟨_,h1⟩|⟨h1,_⟩|⟨h1,_⟩|⟨h1,_⟩|⟨h1,_⟩
 · exact absurd h h1
 · exact ⟨1,264,7,h1,by decide,by decide⟩
 · exact ⟨2,132,6,h1,by decide,by decide⟩
 · exact ⟨4,66,4,h1,by decide,by decide⟩
 · exact ⟨8,33,0,h1,by decide,by decide⟩
def endF (id:ID16) (q:BitVec 32) (seed:H256) (b i:Nat):H256:=chnU id q (i:Int) 0 (secF id q (i:Int) seed) (2^b - 1)
def endsF (id:ID16) (q:BitVec 32) (seed:H256) (b n:Nat):List H256:=(List.range n).map (endF id q seed b)
def pubF (k:Int) (id:ID16) (q:BitVec 32) (seed:H256):H256:=fldF id q (endsF id q seed (frm k).1.toNat (frm k).2.1.toNat)
def part0 (f:Nat→H256) (n i:Nat):List H256:=(List.range n).map fun j=>if j<i then f j else zeroH
theorem part0_zero (f:Nat→H256) (n:Nat):part0 f n 0=List.replicate n zeroH:=by
 unfold part0
 apply List.ext_getElem (by simp)
 intro j h1 h2;simp
theorem part0_all (f:Nat→H256) (n:Nat):part0 f n n=(List.range n).map f:=by
 unfold part0
 apply List.map_congr_left
 intro j hj;rw [if_pos (List.mem_range.1 hj)]
theorem part0_len (f:Nat→H256) (n i:Nat):(part0 f n i).length=n:=by simp [part0]
theorem part0_set (f:Nat→H256) (n i:Nat) (h:i<n):(part0 f n i).set i (f i)=part0 f n (i+1):=by
 apply List.ext_getElem (by simp [part0])
 intro j h1 h2;rw [List.getElem_set];simp only [part0,List.getElem_map,List.getElem_range]
 by_cases hj:i=j
 · subst hj;simp
 · rw [if_neg hj]
   by_cases h3:j<i
   · rw [if_pos h3,if_pos (by omega)]
   · rw [if_neg h3,if_neg (by omega)]
theorem end_set {id:ID16} {q:BitVec 32} {s:H256} {b n i m:Nat} (hm:2^b - 1=m) (h:i<n):part0 (endF id q s b) n (i+1)=(part0 (endF id q s b) n i).set ((i:Nat):Int).toNat (chnU id q (i:Int) 0 (secF id q (i:Int) s) (m - 0)):=by
 subst hm;exact (part0_set (endF id q s b) n i h).symm
def lpub_c:Ctr where
 D:=Int×ID16×BitVec 32×H256
 pre:=fun (k,_,_,_)=>1≤k∧k≤4
 args:=fun (k,id,q,s)=>[.int .i64 k,.agg [.arr8 id],.u32 q,.agg [.arr8 s]]
 res:=fun (k,id,q,s) _=>.tup [.agg [.arr8 (pubF k id q s)],.int .i64 0]
def lpub_H:Cfg:=⟨[(120,lof_c),(122,lsec_c),(123,lmst_c),(121,lchn_c),(124,lfld_c)],[(8,[2,5,8,10],[9,11,12,14],(oA 0 (oA 1 (oB 2 (oA 3 (oA 4 (oB 5 (oA 6 (oA 7 (oB 8 (oB 10 (oD 9 (oD 11 (oC 12 (oA 13 (oC 14 .nil))))))))))))))),[])],[],[],49,0,[],[],[]⟩
theorem lpub_ok:lpub_c.Ok Tryz.prog 99:=by
 refine fn_ok lpub_H 0 rfl _ Tryz.func99 rfl rfl ⟨lof_ok,lsec_ok,lmst_ok,lchn_ok,lfld_ok,trivial⟩ rfl rfl (by kernel_rfl) (fun _=>nlb rfl) ?_
 rintro ⟨k,id,q,s⟩ hp hr
 try dsimp only [lpub_c] at hp
 try simp only [lpub_c,Rng,RngL,inR,and_true,true_and] at hr
 have hk:1≤k∧k≤4:=hp;obtain ⟨b,c,sh,hf,hb,hc⟩:=frm_nat hk;have ep:pubF k id q s=fldF id q (endsF id q s b (c+1)):=by unfold pubF;rw [hf];rfl
 have hm:lmst_c.pre (b,((c+1:Nat):Int),sh):=hb;have hl:lfld_c.pre (id,q,endsF id q s b (c+1)):=by show (endsF id q s b (c+1)).length≤300;simp [endsF];omega
 repeat' (first|(with_reducible refine Unf.h ?_)|((conv=>whnf);first|refine Fork.mkn (fun h=>?_) (fun h=>?_)|(refine Side.mk ?_ ?_;focus (first|with_reducible rfl|exact True.intro))|refine Got.mk (fun _ _=>?_)|refine CallS.mk (c:=lof_c) (k) ?_)|fail);all_goals try (conv=>whnf);all_goals try (exfalso;omega)
 rw [hf]
 repeat' (first|(with_reducible refine Unf.h ?_)|((conv=>whnf);(refine Side.mk ?_ ?_;focus ((dsimp only;omega))))|fail);all_goals try (conv=>whnf);all_goals try (exfalso;omega)
 have e00:List.replicate (((c+1:Nat):Int)).toNat [SV.arr8 zeroH]=(part0 (endF id q s b) (c+1) 0).map eHv:=by
   rw [part0_zero,List.map_replicate];rfl
 refine LoopS.autoN (I:=Nat) (fun i=>i≤c+1) (fun i=>[(27,.int .i64 (i:Int)),(26,.int .i64 ((c+1:Nat):Int)),(12,.own 4)]) (fun i=>[(0,.box 158 [.arr8 id]),(1,.box 35 [.arr8 s]),(2,.box 35 [.arr8 zeroH]),(3,.box 233 [.int .i64 (b:Int),.int .i64 ((c+1:Nat):Int),.int .i64 sh]),(4,.row 35 32 eHv (part0 (endF id q s b) (c+1) i))]) 5 (fun i=>c+1 - i) 0 (Nat.zero_le _) ?_ ?_
 · have hlen:(List.replicate (((b:Int),((c+1:Nat):Int),sh):Int×Int×Int).snd.fst.toNat [SV.arr8 (Vector.replicate 32 0#8)]).length=c+1:=by simp
   repeat' (first|(with_reducible refine Unf.h ?_)|((conv=>whnf);first|(refine Side.mk ?_ ?_;focus (first|with_reducible rfl|assumption|(refine congrArg (SV.int _) ?_;omega)))|(with_reducible refine Unf.h ?_)|exact True.intro)|fail);all_goals try (conv=>whnf);all_goals try (exfalso;omega)
 · intro i hi
   have hpl:=part0_len (endF id q s b) (c+1) i;rcases Nat.lt_or_ge i (c+1) with h|h
   · have h1:lsec_c.pre (id,q,(i:Int),s):=⟨by omega,by omega⟩
     have h2:lchn_c.pre (id,q,(i:Int),secF id q (i:Int) s,0,2^b - 1):=⟨by omega,by omega,by omega,by
       show 2^b - 1≤100000
       have:(2:Nat)^b≤2^8:=Nat.pow_le_pow_right (by decide) hb
       omega⟩
     repeat' (first|(with_reducible refine Unf.h ?_)|((conv=>whnf);refine Fork.mk (fun h=>?_) (fun h=>?_))|fail);all_goals try (conv=>whnf);all_goals try (exfalso;omega)
     all_goals
       refine CallS.mk (c:=lsec_c) ((id,q,(i:Int),s)) ?_
       repeat' (first|(with_reducible refine Unf.h ?_)|((conv=>whnf);first|(refine Side.mk ?_ ?_;focus (first|with_reducible rfl|assumption))|refine Got.mk (fun _ _=>?_))|fail);all_goals try (conv=>whnf);all_goals try (exfalso;omega)
     all_goals
       refine CallS.mk (c:=lmst_c) ((b,((c+1:Nat):Int),sh)) ?_
       repeat' (first|(with_reducible refine Unf.h ?_)|((conv=>whnf);first|(refine Side.mk ?_ ?_;focus (first|with_reducible rfl|assumption))|refine Got.mk (fun _ _=>?_))|fail);all_goals try (conv=>whnf);all_goals try (exfalso;omega)
     all_goals
       generalize hmm:2^b - 1=m at *;have hz0:SV.int .i64 0=SV.int .i64 ((0:Nat):Int):=rfl;refine CallS.mk (c:=lchn_c) ((id,q,(i:Int),secF id q (i:Int) s,0,m)) ?_
       repeat (first|(with_reducible refine Unf.h ?_)|(with_reducible refine Side.mk hz0 ?_)|(with_reducible refine Side.mk h2 ?_)|(with_reducible refine Side.mk rfl ?_)|((conv=>whnf);(with_reducible first|refine Unf.h ?_|refine Side.mk hz0 ?_|refine Side.mk h2 ?_|refine Side.mk rfl ?_)))
       clear h1 h2
       repeat' (first|(with_reducible first|refine Unf.h ?_|refine loopK_n ?_)|((conv=>whnf);first|(refine Side.mk ?_ ?_;focus (first|omega|(intros;(try simp only [lenS,inR,cutS,loI,hiI] at *);omega)))|(refine Idx.mk ?_ ?_;focus (omega))|refine Got.mk (fun _ _=>?_)|refine Ex.mk _ rfl ?_)|fail);all_goals try (conv=>whnf);all_goals try (exfalso;omega)
     all_goals
       refine ⟨i+1,⟨by omega,by omega⟩,?_⟩
       have hlen:(List.replicate (((b:Int),((c+1:Nat):Int),sh):Int×Int×Int).snd.fst.toNat [SV.arr8 (Vector.replicate 32 0#8)]).length=c+1:=by simp
       repeat' (first|(with_reducible refine Unf.h ?_)|((conv=>whnf);first|(refine Side.mk ?_ ?_;focus (first|with_reducible rfl|(refine congrArg (SV.int _) ?_;omega)|(simp only [*,end_set hmm (by assumption),hlen];done)))|(with_reducible refine Unf.h ?_)|exact True.intro)|fail);all_goals try (conv=>whnf);all_goals try (exfalso;omega)
   · obtain rfl:i=c+1:=by omega
     rw [part0_all];have ee:(List.range (c+1)).map (endF id q s b)=endsF id q s b (c+1):=rfl;rw [ee]
     repeat' (first|(with_reducible refine Unf.h ?_)|((conv=>whnf);refine Fork.mk (fun h=>?_) (fun h=>?_))|fail);all_goals try (conv=>whnf);all_goals try (exfalso;omega)
     refine CallS.mk (c:=lfld_c) ((id,q,endsF id q s b (c+1))) ?_
     repeat' (first|(with_reducible refine Unf.h ?_)|((conv=>whnf);first|(refine Side.mk ?_ ?_;focus (first|with_reducible rfl|assumption|(simp only [*,ep];done)))|refine RetE.mk () trivial ?_|refine Got.mk (fun _ _=>?_)|refine retK_r ?_|exact rfl)|fail);all_goals try (conv=>whnf);all_goals try (exfalso;omega)
def wu16_c:Ctr where
 D:=Bs×Int
 pre:=fun (b,x)=>b.length≤1000000∧0≤x∧x≤65535
 args:=fun (_,x)=>[.ptr 0 0,.int .i64 x]
 objs:=fun (b,_)=>[(0,.box 200 [.own 1,.bool false]),(1,.row 5 1 eB b)]
 nn:=2
 res:=fun _ _=>.tup []
 out:=fun (b,x) _=>[(0,.box 200 [.own 2,.bool false]),(2,.row 5 1 eB (b++beN 2 (BitVec.ofInt 64 x)))]
 mm:=1
def wu16_H:Cfg:=⟨[(113,wwi_c),(112,wnum_c)],[],[],[],11,2,[],[],[]⟩
theorem wu16_ok:wu16_c.Ok Tryz.prog 141:=by
 refine fn_ok wu16_H 2 rfl _ Tryz.func141 rfl rfl ⟨wwi_ok,wnum_ok,trivial⟩ rfl rfl (by kernel_rfl) (fun _=>nlb rfl) ?_
 rintro ⟨b,x⟩ hp hr
 try dsimp only [wu16_c] at hp
 try simp only [wu16_c,Rng,RngL,inR,and_true,true_and] at hr
 obtain ⟨hp1,hp2,hp3⟩:=hp;have hp1:b.length≤1000000:=hp1;have hpi:wwi_c.pre (b,x,65535):=⟨hp2,hp3⟩;have hpn:wnum_c.pre (b,BitVec.ofInt 64 x,2):=⟨by omega,hp1⟩
 repeat' (first|(with_reducible refine Unf.h ?_)|((conv=>whnf);first|(refine Side.mk ?_ ?_;focus (first|with_reducible rfl|assumption|(refine congrArg (SV.int _) ?_;omega)))|refine RetE.mk () trivial ?_|refine Got.mk (fun _ _=>?_)|refine retK_n ?_|exact rfl|refine CallS.mk (c:=wwi_c) ((b,x,65535)) ?_|refine CallS.mk (c:=wnum_c) ((b,BitVec.ofInt 64 x,2)) ?_)|fail);all_goals try (conv=>whnf);all_goals try (exfalso;omega)
def nodP (id:ID16) (r u:Int):Bs:=[]++id.toList++beN 4 ((BitVec.ofInt 32 r).setWidth 64)++beN 2 (BitVec.ofInt 64 u)
def nodF (id:ID16) (r u:Int) (ps:List Bs):H256:=sha (nodP id r u++ps.flatten)
theorem nodP_len (id:ID16) (r u:Int):(nodP id r u).length=22:=by
 unfold nodP;simp only [List.length_append,beN_len,List.length_nil,Vector.length_toList]
def lnod_c:Ctr where
 D:=ID16×Int×Int×List Bs
 pre:=fun (_,_,u,ps)=>0≤u∧u≤65535∧ps.length≤100∧∀ p∈ps,p.length≤1000
 args:=fun (id,r,u,ps)=>[.agg [.arr8 id],.int .i64 r,.int .i64 u,.fs 1 eP ps]
 res:=fun (id,r,u,ps) _=>.agg [.arr8 (nodF id r u ps)]
def lnod_H:Cfg:=⟨[(90,wplain_c),(84,wu32_c),(141,wu16_c),(85,wout_c),(63,sum_c)],[],[],[],43,0,[],[],[]⟩
theorem lnod_ok:lnod_c.Ok Tryz.prog 125:=by
 refine fn_ok lnod_H 0 rfl _ Tryz.func125 rfl rfl ⟨wplain_ok,wu32_ok,wu16_ok,wout_ok,sum_ok,trivial⟩ rfl rfl (by kernel_rfl) (fun _=>nlb rfl) ?_
 rintro ⟨id,r,u,ps⟩ hp hr
 try dsimp only [lnod_c] at hp
 try simp only [lnod_c,Rng,RngL,inR,and_true,true_and] at hr
 obtain ⟨hp0,hp1,hp2,hp3⟩:=hp;have hp0:0≤u:=hp0;have hp1:u≤65535:=hp1;have hp2:ps.length≤100:=hp2;have hbd:∀ k,(ps.take k).flatten.length≤100000:=fun k=>by
   have h1:=flatB (ps.take k) 1000 fun p hp=>hp3 p (List.mem_of_mem_take hp)
   have h2:(ps.take k).length≤ps.length:=by simp;omega
   omega
 have hnl:=nodP_len id r u;have hidl:id.toList.length=16:=by simp
 have h1:wplain_c.pre ([],id.toList):=⟨by show 0≤1000000;omega,by show id.toList.length≤1000000;omega⟩
 have h2:wu32_c.pre ([]++id.toList,BitVec.ofInt 32 r):=by show ([]++id.toList).length≤1000000;simp
 have h3:wu16_c.pre ([]++id.toList++beN 4 ((BitVec.ofInt 32 r).setWidth 64),u):=⟨by show ([]++id.toList++beN 4 ((BitVec.ofInt 32 r).setWidth 64)).length≤1000000;simp [beN_len],hp0,hp1⟩
 repeat' (first|(with_reducible refine Unf.h ?_)|((conv=>whnf);(refine Side.mk ?_ ?_;focus (exact True.intro)))|fail);all_goals try (conv=>whnf);all_goals try (exfalso;omega)
 refine CallS.mk (c:=wplain_c) (([],id.toList)) ?_
 repeat' (first|(with_reducible refine Unf.h ?_)|((conv=>whnf);first|(refine Side.mk ?_ ?_;focus (first|with_reducible rfl|assumption|(intros;(try simp only [lenS,inR,cutS,loI,hiI,cutv2] at *);omega)|(simp only [*,cutv2];done)))|refine Got.mk (fun _ _=>?_))|fail);all_goals try (conv=>whnf);all_goals try (exfalso;omega)
 refine CallS.mk (c:=wu32_c) (([]++id.toList,BitVec.ofInt 32 r)) ?_
 repeat' (first|(with_reducible refine Unf.h ?_)|((conv=>whnf);first|(refine Side.mk ?_ ?_;focus (first|with_reducible rfl|assumption))|refine Got.mk (fun _ _=>?_))|fail);all_goals try (conv=>whnf);all_goals try (exfalso;omega)
 refine CallS.mk (c:=wu16_c) (([]++id.toList++beN 4 ((BitVec.ofInt 32 r).setWidth 64),u)) ?_
 repeat' (first|(with_reducible refine Unf.h ?_)|((conv=>whnf);first|(refine Side.mk ?_ ?_;focus (first|with_reducible rfl|assumption))|refine Got.mk (fun _ _=>?_))|fail);all_goals try (conv=>whnf);all_goals try (exfalso;omega)
 clear h1 h2 h3;refine LoopS.autoN (I:=Nat) (fun k=>k≤ps.length) (fun k=>[(28,.int .i64 (k:Int)),(9,.ptr 2 0)]) (fun k=>[(1,.box 35 [.arr8 zeroH]),(2,.box 200 [.own 3,.bool false]),(3,.row 5 1 eB (nodP id r u++(ps.take k).flatten))]) 4 (fun k=>ps.length - k) 0 (Nat.zero_le _) ?_ ?_
 · have e0:nodP id r u++(ps.take 0).flatten=nodP id r u:=by simp
   repeat' (first|(with_reducible refine Unf.h ?_)|((conv=>whnf);first|(refine Side.mk ?_ ?_;focus (first|with_reducible rfl|(refine congrArg (SV.int _) ?_;omega)|(dsimp only [resS,lnod_c,nodP];(simp [*,e0];done))))|(with_reducible refine Unf.h ?_)|exact True.intro)|fail);all_goals try (conv=>whnf);all_goals try (exfalso;omega)
 · intro k hk
   have hbk:=hbd k;rcases Nat.lt_or_ge k ps.length with hkl|hkl
   · have hb:(ps[((k:Nat):Int).toNat]'hkl).length≤1000:=hp3 _ (List.getElem_mem _)
     have es:nodP id r u++(ps.take (k+1)).flatten=nodP id r u++(ps.take k).flatten++ps[((k:Nat):Int).toNat]'hkl:=by
       rw [flat_step ps k hkl,← List.append_assoc];rfl
     have hpw:wplain_c.pre (nodP id r u++(ps.take k).flatten,ps[((k:Nat):Int).toNat]'hkl):=⟨by show (nodP id r u++(ps.take k).flatten).length≤1000000;rw [List.length_append];omega,by show (ps[((k:Nat):Int).toNat]'hkl).length≤1000000;omega⟩
     repeat' (first|(with_reducible refine Unf.h ?_)|((conv=>whnf);first|refine Fork.mk (fun h=>?_) (fun h=>?_)|(refine Idx.mk ?_ ?_;focus (omega)))|fail);all_goals try (conv=>whnf);all_goals try (exfalso;omega)
     refine CallS.mk (c:=wplain_c) ((nodP id r u++(ps.take k).flatten,ps[((k:Nat):Int).toNat]'hkl)) ?_
     repeat' (first|(with_reducible first|refine Unf.h ?_|refine loopK_n ?_)|((conv=>whnf);first|(refine Side.mk ?_ ?_;focus (first|with_reducible rfl|assumption|(intros;(try simp only [lenS,inR,cutS,loI,hiI] at *);omega)))|refine Got.mk (fun _ _=>?_))|fail);all_goals try (conv=>whnf);all_goals try (exfalso;omega)
     clear hpw;refine ⟨k+1,⟨by omega,by omega⟩,?_⟩
     repeat' (first|(with_reducible refine Unf.h ?_)|((conv=>whnf);first|(refine Side.mk ?_ ?_;focus (first|with_reducible rfl|(refine congrArg (SV.int _) ?_;omega)|(simp only [*,es];done)))|(with_reducible refine Unf.h ?_)|exact True.intro)|fail);all_goals try (conv=>whnf);all_goals try (exfalso;omega)
   · have e:ps.take k=ps:=List.take_of_length_le (by omega)
     rw [e] at hbk ⊢;have hpo:wout_c.pre (nodP id r u++ps.flatten):=by show (nodP id r u++ps.flatten).length≤1000000;rw [List.length_append];omega
     repeat' (first|(with_reducible refine Unf.h ?_)|((conv=>whnf);refine Fork.mk (fun h=>?_) (fun h=>?_))|fail);all_goals try (conv=>whnf);all_goals try (exfalso;omega)
     refine CallS.mk (c:=wout_c) ((nodP id r u++ps.flatten)) ?_
     repeat' (first|(with_reducible refine Unf.h ?_)|((conv=>whnf);first|(refine Side.mk ?_ ?_;focus (first|with_reducible rfl|assumption))|refine Got.mk (fun _ _=>?_))|fail);all_goals try (conv=>whnf);all_goals try (exfalso;omega)
     refine CallS.mk (c:=sum_c) ((nodP id r u++ps.flatten)) ?_
     repeat' (first|(with_reducible refine Unf.h ?_)|((conv=>whnf);first|(refine Side.mk ?_ ?_;focus (first|with_reducible rfl|exact True.intro|(simp only [*,nodF];done)))|refine RetE.mk () trivial ?_|refine Got.mk (fun _ _=>?_)|refine retK_r ?_|exact rfl)|fail);all_goals try (conv=>whnf);all_goals try (exfalso;omega)
def lnodk_c:Ctr:={ lnod_c with kp:=true }
theorem lnodk_ok:lnodk_c.Ok Tryz.prog 125:=lnod_ok.kept fun _=>rfl
def leaF (id:ID16) (r:Int) (p:H256):H256:=nodF id r 33410 [p.toList]
def innF (id:ID16) (r:Int) (a b:H256):H256:=nodF id r 33667 [a.toList,b.toList]
def llea_c:Ctr where
 D:=ID16×Int×H256
 args:=fun (id,r,p)=>[.agg [.arr8 id],.int .i64 r,.agg [.arr8 p]]
 res:=fun (id,r,p) _=>.agg [.arr8 (leaF id r p)]
def llea_H:Cfg:=⟨[(125,lnodk_c)],[(1,[0],[3,4,5],(oB 0 (oA 1 (oA 2 (oD 3 (oC 4 (oC 5 .nil)))))),[])],[],[],12,0,[],[],[]⟩
theorem llea_ok:llea_c.Ok Tryz.prog 100:=by
 refine fn_ok llea_H 0 rfl _ Tryz.func100 rfl rfl ⟨lnodk_ok,trivial⟩ rfl rfl (by kernel_rfl) (fun _=>nlb rfl) ?_
 rintro ⟨id,r,p⟩ hp hr
 try dsimp only [llea_c] at hp
 try simp only [llea_c,Rng,RngL,inR,and_true,true_and] at hr
 have hpu:lnodk_c.pre (id,r,33410,[p.toList]):=⟨by omega,by omega,by show 1≤100;omega,fun x hx=>by
   have hx:x∈[p.toList]:=hx;obtain rfl:=List.mem_singleton.1 hx
   simp⟩
 repeat' (first|(with_reducible refine Unf.h ?_)|((conv=>whnf);(refine Side.mk ?_ ?_;focus (first|exact True.intro|(intros;(try simp only [lenS,inR,cutS,loI,hiI] at *);omega))))|fail);all_goals try (conv=>whnf);all_goals try (exfalso;omega)
 all_goals
   refine CallS.mk (c:=lnodk_c) ((id,r,33410,[p.toList])) ?_
   repeat' (first|(with_reducible refine Unf.h ?_)|((conv=>whnf);first|(refine Side.mk ?_ ?_;focus (first|with_reducible rfl|assumption|(simp only [*,leaF,cutv2,eP,List.map_cons,List.map_nil];done)))|refine RetE.mk () trivial ?_|refine Got.mk (fun _ _=>?_)|refine retK_r ?_|exact rfl)|fail);all_goals try (conv=>whnf);all_goals try (exfalso;omega)
def linn_c:Ctr where
 D:=ID16×Int×H256×H256
 args:=fun (id,r,a,b)=>[.agg [.arr8 id],.int .i64 r,.agg [.arr8 a],.agg [.arr8 b]]
 res:=fun (id,r,a,b) _=>.agg [.arr8 (innF id r a b)]
def linn_H:Cfg:=⟨[(125,lnodk_c)],[(1,[0],[4,5,6],(oB 0 (oA 1 (oA 2 (oA 3 (oD 4 (oC 5 (oC 6 .nil))))))),[])],[],[],15,0,[],[],[]⟩
theorem linn_ok:linn_c.Ok Tryz.prog 101:=by
 refine fn_ok linn_H 0 rfl _ Tryz.func101 rfl rfl ⟨lnodk_ok,trivial⟩ rfl rfl (by kernel_rfl) (fun _=>nlb rfl) ?_
 rintro ⟨id,r,a,b⟩ hp hr
 try dsimp only [linn_c] at hp
 try simp only [linn_c,Rng,RngL,inR,and_true,true_and] at hr
 have hpu:lnodk_c.pre (id,r,33667,[a.toList,b.toList]):=⟨by omega,by omega,by show 2≤100;omega,fun x hx=>by
   have hx:x∈[a.toList,b.toList]:=hx;simp only [List.mem_cons,List.not_mem_nil,or_false] at hx;rcases hx with rfl|rfl<;>simp⟩
 repeat' (first|(with_reducible refine Unf.h ?_)|((conv=>whnf);(refine Side.mk ?_ ?_;focus (first|exact True.intro|(intros;(try simp only [lenS,inR,cutS,loI,hiI] at *);omega))))|fail);all_goals try (conv=>whnf);all_goals try (exfalso;omega)
 all_goals
   refine CallS.mk (c:=lnodk_c) ((id,r,33667,[a.toList,b.toList])) ?_
   repeat' (first|(with_reducible refine Unf.h ?_)|((conv=>whnf);first|(refine Side.mk ?_ ?_;focus (first|with_reducible rfl|assumption|(simp only [*,innF,cutv2,eP,List.map_cons,List.map_nil];done)))|refine RetE.mk () trivial ?_|refine Got.mk (fun _ _=>?_)|refine retK_r ?_|exact rfl)|fail);all_goals try (conv=>whnf);all_goals try (exfalso;omega)
def lmay_c:Ctr where
 D:=Int×Int
 args:=fun (h,k)=>[.int .i64 h,.int .i64 k]
 res:=fun (h,k) _=>.dec (1≤h∧h≤4∧1≤k∧k≤4) inferInstance
def lmay_H:Cfg:=⟨[(119,lchs_c)],[],[],[],16,0,[],[],[]⟩
theorem lmay_ok:lmay_c.Ok Tryz.prog 97:=by
 refine fn_ok lmay_H 0 rfl _ Tryz.func97 rfl rfl ⟨lchs_ok,trivial⟩ rfl rfl (by kernel_rfl) (fun _=>nlb rfl) ?_
 rintro ⟨h,k⟩ hp hr
 try dsimp only [lmay_c] at hp
 try simp only [lmay_c,Rng,RngL,inR,and_true,true_and] at hr
 have hc:0<(frm k).2.1↔1≤k∧k≤4:=by
   rcases frm_cases k with ⟨h1,h2⟩|⟨h1,rfl⟩|⟨h1,rfl⟩|⟨h1,rfl⟩|⟨h1,rfl⟩<;>rw [h1]<;>simp;omega
 repeat' (first|(with_reducible refine Unf.h ?_)|((conv=>whnf);first|refine Fork.mk (fun h=>?_) (fun h=>?_)|(refine Side.mk ?_ ?_;focus (first|with_reducible rfl|exact True.intro|omega|(refine ⟨fun h=>?_,fun h=>?_⟩<;>first|rfl|(cases h;done)|omega|(exfalso;omega)|(simp only [Bool.false_eq_true] at h;done))))|refine RetE.mk () trivial ?_|refine Got.mk (fun _ _=>?_)|refine retK_r ?_|exact rfl|refine CallS.mk (c:=lchs_c) (k) ?_)|fail);all_goals try (conv=>whnf);all_goals try (exfalso;omega)
def tszF (h k:Int):Int:=if 1≤h∧h≤4∧1≤k∧k≤4 then 8+lszF k+32*h else 0
def ltsz_c:Ctr where
 D:=Int×Int
 args:=fun (h,k)=>[.int .i64 h,.int .i64 k]
 res:=fun (h,k) _=>.int .i64 (tszF h k)
theorem lszF_le (k:Int):0≤lszF k∧lszF k≤9000:=by
 unfold lszF;rcases frm_cases k with ⟨h1,h2⟩|⟨h1,rfl⟩|⟨h1,rfl⟩|⟨h1,rfl⟩|⟨h1,rfl⟩<;>rw [h1]<;>(try rw [if_neg h2])<;>decide
def ltsz_H:Cfg:=⟨[(97,lmay_c),(98,lsz_c)],[],[],[],15,0,[],[],[]⟩
theorem ltsz_ok:ltsz_c.Ok Tryz.prog 60:=by
 refine fn_ok ltsz_H 0 rfl _ Tryz.func60 rfl rfl ⟨lmay_ok,lsz_ok,trivial⟩ rfl rfl (by kernel_rfl) (fun _=>nlb rfl) ?_
 rintro ⟨h,k⟩ hp hr
 try dsimp only [ltsz_c] at hp
 try simp only [ltsz_c,Rng,RngL,inR,and_true,true_and] at hr
 have hb:=lszF_le k
 by_cases hm:1≤h∧h≤4∧1≤k∧k≤4
 · have e:tszF h k=8+lszF k+32*h:=if_pos hm
   repeat' (first|(with_reducible refine Unf.h ?_)|((conv=>whnf);first|refine Fork.mkn (fun h=>?_) (fun h=>?_)|(refine Side.mk ?_ ?_;focus (first|with_reducible rfl|exact True.intro|(refine congrArg (SV.int _) ?_;omega)|(intros;(try simp only [lenS,inR,cutS,loI,hiI,e] at *);omega)))|refine RetE.mk () trivial ?_|refine Got.mk (fun _ _=>?_)|refine retK_r ?_|exact rfl|refine CallS.mk (c:=lmay_c) ((h,k)) ?_|refine CallS.mk (c:=lsz_c) (k) ?_)|fail);all_goals try (conv=>whnf);all_goals try (exfalso;omega)
 · have e:tszF h k=0:=if_neg hm
   repeat' (first|(with_reducible refine Unf.h ?_)|((conv=>whnf);first|refine Fork.mkn (fun h=>?_) (fun h=>?_)|(refine Side.mk ?_ ?_;focus (first|with_reducible rfl|exact True.intro|(refine congrArg (SV.int _) ?_;omega)))|refine RetE.mk () trivial ?_|refine Got.mk (fun _ _=>?_)|refine retK_r ?_|exact rfl|refine CallS.mk (c:=lmay_c) ((h,k)) ?_)|fail);all_goals try (conv=>whnf);all_goals try (exfalso;omega)
end Go.Proofs.YtfljmihdeimahaaGreatDoor
namespace Go.Proofs.YtfljmihdeimahaaGreatDoor
set_option linter.all false
open Go.RowKit
abbrev eTr (h:Nat) (k:Int) (id:ID16) (s:H256) (l:List H256):List SV:=[.int .i64 (h:Int),.int .i64 k,.arr8 id,.arr8 s,.fs 32 eHv l]
def ltn_c:Ctr where
 D:=Nat×Int×ID16×H256
 pre:=fun (h,k,_,_)=>1≤h∧h≤4∧1≤k∧k≤4
 args:=fun (h,k,id,s)=>[.int .i64 (h:Int),.int .i64 k,.agg [.arr8 id],.agg [.arr8 s]]
 E:=List H256
 post:=fun (h,_,_,_) l=>l.length=2*2^h
 res:=fun (h,k,id,s) l=>.tup [.fpt (eTr h k id s l),.int .i64 0]
def ltn_H:Cfg:=⟨[(97,lmay_c),(99,lpub_c),(100,llea_c),(101,linn_c)],[(4,[2,3],[6,8],(oA 0 (oA 1 (oB 2 (oB 3 (oA 4 (oA 5 (oD 6 (oA 7 (oC 8 (oA 9 .nil)))))))))),[]),(11,[7,11],[3,12,14],(oA 0 (oA 1 (oA 2 (oA 4 (oA 5 (oA 6 (oB 7 (oA 8 (oA 9 (oA 10 (oB 11 (.alt 3 true (oC 12 (oA 13 (oC 14 .nil))) (oD 12 (oD 3 (oA 13 (oC 14 .nil)))))))))))))))),[]),(16,[5,14,23],[3,10,18,24,26],(oA 0 (oA 1 (oA 2 (oA 4 (oB 5 (oA 6 (oA 7 (oA 8 (oA 9 (oA 11 (oA 12 (oA 15 (oA 16 (oA 17 (oA 19 (oA 20 (oA 21 (.alt 3 true (.alt 10 true (oA 13 (oB 14 (oD 18 (oA 22 (oB 23 (oC 24 (oA 25 (oC 26 .nil)))))))) (oD 18 (oA 22 (oB 23 (oD 10 (oA 13 (oB 14 (oC 24 (oA 25 (oC 26 .nil)))))))))) (.alt 10 true (oA 13 (oB 14 (.alt 3 true (oD 18 (oA 22 (oB 23 (oC 24 (oA 25 (oC 26 .nil)))))) (oD 18 (oA 22 (oB 23 (.alt 3 true (oC 24 (oA 25 (oC 26 .nil))) (oD 24 (oD 3 (oA 25 (oC 26 .nil))))))))))) (oD 18 (oA 22 (oB 23 (.alt 3 true (oD 10 (oA 13 (oB 14 (oC 24 (oA 25 (oC 26 .nil)))))) (oD 10 (oA 13 (oB 14 (.alt 3 true (oC 24 (oA 25 (oC 26 .nil))) (oD 24 (oD 3 (oA 25 (oC 26 .nil))))))))))))))))))))))))))))))),[])],[],[],95,0,[],[],[]⟩
set_option maxHeartbeats 8000000 in
theorem ltn_ok:ltn_c.Ok Tryz.prog 62:=by
 refine fn_ok ltn_H 0 rfl _ Tryz.func62 rfl rfl ⟨lmay_ok,lpub_ok,llea_ok,linn_ok,trivial⟩ rfl rfl (by kernel_rfl) (fun _=>nlb rfl) ?_
 rintro ⟨ht,k,id,s⟩ hp hr
 try dsimp only [ltn_c] at hp
 try simp only [ltn_c,Rng,RngL,inR,and_true,true_and] at hr
 obtain ⟨hp1,hp2,hk⟩:=hp;have hp1:1≤ht:=hp1;have hp2:ht≤4:=hp2;have h2:(2:Nat)^ht≤2^4:=Nat.pow_le_pow_right (by decide) hp2
 have h1:2^1≤(2:Nat)^ht:=Nat.pow_le_pow_right (by decide) hp1
 have hb2:(1:Int)*2^((((ht:Nat):Int).toNat:Nat):Int).toNat=((2^ht:Nat):Int):=by simp
 have hpp:lpub_c.pre (k,id,0#32,s):=hk
 repeat' (first|(with_reducible refine Unf.h ?_)|((conv=>whnf);first|refine Fork.mkn (fun h=>?_) (fun h=>?_)|(refine Side.mk ?_ ?_;focus (first|with_reducible rfl|exact True.intro|omega|(intros;(try simp only [lenS,inR,cutS,loI,hiI] at *);omega)))|refine Got.mk (fun _ _=>?_)|refine CallS.mk (c:=lmay_c) (((ht:Int),k)) ?_)|fail);all_goals try (conv=>whnf);all_goals try (exfalso;omega)
 rw [hb2];generalize hn:2^ht=n at *;have h2:n≤16:=h2;have h1:2≤n:=h1;obtain ⟨m,hm⟩:∃ m,2*n=m+1:=⟨2*n - 1,by omega⟩
 have em:(2:Int)*(n:Int)=((m+1:Nat):Int):=by omega
 rw [em]
 repeat' (first|(with_reducible refine Unf.h ?_)|((conv=>whnf);(refine Side.mk ?_ ?_;focus ((dsimp only;omega))))|fail);all_goals try (conv=>whnf);all_goals try (exfalso;omega)
 all_goals
   have e00:List.replicate (((m+1:Nat):Int)).toNat [SV.arr8 zeroH]=(List.replicate (m+1) zeroH).map eHv:=by
     rw [List.map_replicate];rfl
   refine LoopS.autoN (I:=Nat×List H256) (fun p=>p.1≤n∧p.2.length=m+1) (fun p=>[(32,.int .i64 (p.1:Int))]) (fun p=>[(0,.box 158 [.arr8 id]),(1,.box 35 [.arr8 s]),(3,.box 215 [.int .i64 (ht:Int),.int .i64 k,.arr8 id,.arr8 s,.own 2]),(2,.row 35 32 eHv p.2)]) 4 (fun p=>n - p.1) (0,List.replicate (m+1) zeroH) ⟨Nat.zero_le _,List.length_replicate⟩ ?_ ?_
 · repeat' (first|(with_reducible refine Unf.h ?_)|((conv=>whnf);first|(refine Side.mk ?_ ?_;focus (first|with_reducible rfl|assumption|(refine congrArg (SV.int _) ?_;omega)))|(with_reducible refine Unf.h ?_)|exact True.intro)|fail);all_goals try (conv=>whnf);all_goals try (exfalso;omega)
 · rintro ⟨i,l⟩ ⟨hi,hll⟩
   have hi:i≤n:=hi;have hll:l.length=m+1:=hll;rcases Nat.lt_or_ge i n with h|h
   · have hpq:lpub_c.pre (k,id,BitVec.ofInt 32 (i:Int),s):=hk
     repeat' (first|(with_reducible refine Unf.h ?_)|((conv=>whnf);first|refine Both.mk ?_ ?_|refine Both.mk ?_ ?_|refine Fork.mkn (fun h=>?_) (fun h=>?_)|refine Fork.mk (fun h=>?_) (fun h=>?_)|(refine Side.mk ?_ ?_;focus (first|with_reducible rfl|assumption|(intros;(try simp only [lenS,inR,cutS,loI,hiI] at *);omega)))|refine Got.mk (fun _ _=>?_)|refine CallS.mk (c:=lpub_c) ((k,id,BitVec.ofInt 32 (i:Int),s)) ?_)|fail);all_goals try (conv=>whnf);all_goals try (exfalso;omega)
     all_goals
       refine CallS.mk (c:=llea_c) ((id,(n:Int)+(i:Int),pubF k id (BitVec.ofInt 32 (i:Int)) s)) ?_
       repeat' (first|(with_reducible first|refine Unf.h ?_|refine loopK_n ?_)|((conv=>whnf);first|(refine Side.mk ?_ ?_;focus (first|with_reducible rfl|exact True.intro|omega|(intros;(try simp only [lenS,inR,cutS,loI,hiI] at *);omega)))|(refine Idx.mk ?_ ?_;focus (omega))|refine Got.mk (fun _ _=>?_)|refine Ex.mk _ rfl ?_)|fail);all_goals try (conv=>whnf);all_goals try (exfalso;omega)
     all_goals
       refine ⟨(i+1,l.set ((n:Int)+(i:Int)).toNat (leaF id ((n:Int)+(i:Int)) (pubF k id (BitVec.ofInt 32 (i:Int)) s))),⟨by show n - (i+1)<n - i;omega,by show i+1≤n;omega,by show (l.set _ _).length=m+1;rw [List.length_set];exact hll⟩,?_⟩
       repeat' (first|(with_reducible refine Unf.h ?_)|((conv=>whnf);first|(refine Side.mk ?_ ?_;focus (first|with_reducible rfl|(refine congrArg (SV.int _) ?_;omega)))|(with_reducible refine Unf.h ?_)|exact True.intro)|fail);all_goals try (conv=>whnf);all_goals try (exfalso;omega)
   · repeat' (first|(with_reducible refine Unf.h ?_)|((conv=>whnf);first|refine Fork.mk (fun h=>?_) (fun h=>?_)|(refine Side.mk ?_ ?_;focus ((intros;(try simp only [lenS,inR,cutS,loI,hiI] at *);omega))))|fail);all_goals try (conv=>whnf);all_goals try (exfalso;omega)
     refine LoopS.autoN (I:=Nat×List H256) (fun p=>p.1≤n - 1∧p.2.length=m+1) (fun p=>[(15,.int .i64 ((n:Int) - 1 - (p.1:Int)))]) (fun p=>[(0,.box 158 [.arr8 id]),(3,.box 215 [.int .i64 (ht:Int),.int .i64 k,.arr8 id,.arr8 s,.own 2]),(2,.row 35 32 eHv p.2)]) 4 (fun p=>n - 1 - p.1) (0,l) ⟨Nat.zero_le _,hll⟩ ?_ ?_
     · repeat' (first|(with_reducible refine Unf.h ?_)|((conv=>whnf);first|(refine Side.mk ?_ ?_;focus (first|with_reducible rfl|(refine congrArg (SV.int _) ?_;omega)))|(with_reducible refine Unf.h ?_)|exact True.intro)|fail);all_goals try (conv=>whnf);all_goals try (exfalso;omega)
     · rintro ⟨j,l⟩ ⟨hj,hll⟩
       have hj:j≤n - 1:=hj;have hll:l.length=m+1:=hll;rcases Nat.lt_or_ge j (n - 1) with h|h
       · have b1:(2*((n:Int) - 1 - (j:Int))).toNat<l.length:=by omega
         have b2:(2*((n:Int) - 1 - (j:Int))+1).toNat<l.length:=by omega
         repeat' (first|(with_reducible refine Unf.h ?_)|((conv=>whnf);first|refine Both.mk ?_ ?_|refine Both.mk ?_ ?_|refine Fork.mk (fun h=>?_) (fun h=>?_)|(refine Side.mk ?_ ?_;focus (first|omega|(intros;(try simp only [lenS,inR,cutS,loI,hiI] at *);omega)))|(refine Idx.mk ?_ ?_;focus (omega)))|fail);all_goals try (conv=>whnf);all_goals try (exfalso;omega)
         all_goals
           refine CallS.mk (c:=linn_c) ((id,(n:Int) - 1 - (j:Int),l[(2*((n:Int) - 1 - (j:Int))).toNat]'b1,l[(2*((n:Int) - 1 - (j:Int))+1).toNat]'b2)) ?_
           repeat' (first|(with_reducible first|refine Unf.h ?_|refine loopK_n ?_)|((conv=>whnf);first|(refine Side.mk ?_ ?_;focus (first|with_reducible rfl|exact True.intro|omega|(intros;(try simp only [lenS,inR,cutS,loI,hiI] at *);omega)))|(refine Idx.mk ?_ ?_;focus (omega))|refine Got.mk (fun _ _=>?_)|refine Ex.mk _ rfl ?_)|fail);all_goals try (conv=>whnf);all_goals try (exfalso;omega)
         all_goals
           refine ⟨(j+1,l.set ((n:Int) - 1 - (j:Int)).toNat (innF id ((n:Int) - 1 - (j:Int)) (l[(2*((n:Int) - 1 - (j:Int))).toNat]'b1) (l[(2*((n:Int) - 1 - (j:Int))+1).toNat]'b2))),⟨by show n - 1 - (j+1)<n - 1 - j;omega,by show j+1≤n - 1;omega,by show (l.set _ _).length=m+1;rw [List.length_set];exact hll⟩,?_⟩
           repeat' (first|(with_reducible refine Unf.h ?_)|((conv=>whnf);first|(refine Side.mk ?_ ?_;focus (first|with_reducible rfl|(refine congrArg (SV.int _) ?_;omega)))|(with_reducible refine Unf.h ?_)|exact True.intro)|fail);all_goals try (conv=>whnf);all_goals try (exfalso;omega)
       · repeat' (first|(with_reducible refine Unf.h ?_)|((conv=>whnf);first|refine Fork.mk (fun h=>?_) (fun h=>?_)|refine retK_r ?_)|fail);all_goals try (conv=>whnf);all_goals try (exfalso;omega)
         all_goals
           refine RetE.mk (c:=ltn_c) (d:=(ht,k,id,s)) (show List H256 from l) (by show l.length=2*2^ht;rw [hn];omega) ?_
           repeat' (first|(with_reducible refine Unf.h ?_)|((conv=>whnf);first|(refine Side.mk ?_ ?_;focus (with_reducible rfl))|(with_reducible refine Unf.h ?_)|exact rfl)|fail);all_goals try (conv=>whnf);all_goals try (exfalso;omega)
end Go.Proofs.YtfljmihdeimahaaGreatDoor
namespace Go.Proofs.YtfljmihdeimahaaGreatDoor
set_option linter.all false
open Go.RowKit
def pubT (h:Nat) (k:Int) (id:ID16) (v:H256):Bs:=[]++beN 4 ((BitVec.ofInt 32 (h:Int)).setWidth 64)++beN 4 ((BitVec.ofInt 32 k).setWidth 64)++id.toList++v.toList
theorem pubT_len (h:Nat) (k:Int) (id:ID16) (v:H256):(pubT h k id v).length=56:=by
 unfold pubT;simp only [List.length_append,beN_len,List.length_nil,Vector.length_toList]
def ltpu_c:Ctr where
 D:=(Nat×Int×ID16×H256)×List H256×H256
 pre:=fun (_,l,v)=>l[1]?=some v
 args:=fun ((h,k,id,s),l,_)=>[.fpt (eTr h k id s l)]
 res:=fun ((h,k,id,_),_,v) _=>.fs 1 eB (pubT h k id v)
def ltpu_H:Cfg:=⟨[(84,wu32_c),(90,wplain_c),(85,wout_c)],[],[],[],44,0,[],[],[]⟩
theorem ltpu_ok:ltpu_c.Ok Tryz.prog 71:=by
 refine fn_ok ltpu_H 0 rfl _ Tryz.func71 rfl rfl ⟨wu32_ok,wplain_ok,wout_ok,trivial⟩ rfl rfl (by kernel_rfl) (fun _=>nlb rfl) ?_
 rintro ⟨⟨h,k,id,s⟩,l,v⟩ hp hr
 try dsimp only [ltpu_c] at hp
 try simp only [ltpu_c,Rng,RngL,inR,and_true,true_and] at hr
 have hp:l[1]?=some v:=hp;obtain ⟨hb,hv⟩:=List.getElem?_eq_some_iff.1 hp;have hidl:id.toList.length=16:=by simp
 have h1:wu32_c.pre ([],BitVec.ofInt 32 (h:Int)):=show 0≤1000000 by omega
 have h2:wu32_c.pre ([]++beN 4 ((BitVec.ofInt 32 (h:Int)).setWidth 64),BitVec.ofInt 32 k):=by show ([]++beN 4 ((BitVec.ofInt 32 (h:Int)).setWidth 64)).length≤1000000;simp [beN_len]
 have h3:wplain_c.pre ([]++beN 4 ((BitVec.ofInt 32 (h:Int)).setWidth 64)++beN 4 ((BitVec.ofInt 32 k).setWidth 64),id.toList):=⟨by show ([]++beN 4 ((BitVec.ofInt 32 (h:Int)).setWidth 64)++beN 4 ((BitVec.ofInt 32 k).setWidth 64)).length≤1000000;simp [beN_len],by show id.toList.length≤1000000;omega⟩
 have h4:wplain_c.pre ([]++beN 4 ((BitVec.ofInt 32 (h:Int)).setWidth 64)++beN 4 ((BitVec.ofInt 32 k).setWidth 64)++id.toList,v.toList):=⟨by show ([]++beN 4 ((BitVec.ofInt 32 (h:Int)).setWidth 64)++beN 4 ((BitVec.ofInt 32 k).setWidth 64)++id.toList).length≤1000000;simp [beN_len],by show v.toList.length≤1000000;simp⟩
 have h5:wout_c.pre (pubT h k id v):=by show (pubT h k id v).length≤1000000;rw [pubT_len];omega
 repeat' (first|(with_reducible refine Unf.h ?_)|fail);all_goals try (conv=>whnf);all_goals try (exfalso;omega)
 refine CallS.mk (c:=wu32_c) (([],BitVec.ofInt 32 (h:Int))) ?_
 repeat' (first|(with_reducible refine Unf.h ?_)|((conv=>whnf);first|(refine Side.mk ?_ ?_;focus (first|with_reducible rfl|assumption))|refine Got.mk (fun _ _=>?_))|fail);all_goals try (conv=>whnf);all_goals try (exfalso;omega)
 refine CallS.mk (c:=wu32_c) (([]++beN 4 ((BitVec.ofInt 32 (h:Int)).setWidth 64),BitVec.ofInt 32 k)) ?_
 repeat' (first|(with_reducible refine Unf.h ?_)|((conv=>whnf);first|(refine Side.mk ?_ ?_;focus (first|with_reducible rfl|exact True.intro|assumption))|refine Got.mk (fun _ _=>?_))|fail);all_goals try (conv=>whnf);all_goals try (exfalso;omega)
 refine CallS.mk (c:=wplain_c) (([]++beN 4 ((BitVec.ofInt 32 (h:Int)).setWidth 64)++beN 4 ((BitVec.ofInt 32 k).setWidth 64),id.toList)) ?_
 repeat' (first|(with_reducible refine Unf.h ?_)|((conv=>whnf);first|(refine Side.mk ?_ ?_;focus (first|with_reducible rfl|exact True.intro|assumption|(simp only [*,cutL];done)))|(refine Idx.mk ?_ ?_;focus (omega))|refine Got.mk (fun _ _=>?_))|fail);all_goals try (conv=>whnf);all_goals try (exfalso;omega)
 have hv1:∀ hq,l[((1:Int)).toNat]'hq=v:=fun hq=>hv
 refine CallS.mk (c:=wplain_c) (([]++beN 4 ((BitVec.ofInt 32 (h:Int)).setWidth 64)++beN 4 ((BitVec.ofInt 32 k).setWidth 64)++id.toList,v.toList)) ?_
 repeat' (first|(with_reducible refine Unf.h ?_)|((conv=>whnf);first|(refine Side.mk ?_ ?_;focus (first|with_reducible rfl|assumption|(simp only [*,cutL,hv1];done)))|refine Got.mk (fun _ _=>?_))|fail);all_goals try (conv=>whnf);all_goals try (exfalso;omega)
 refine CallS.mk (c:=wout_c) ((pubT h k id v)) ?_
 repeat' (first|(with_reducible refine Unf.h ?_)|((conv=>whnf);first|(refine Side.mk ?_ ?_;focus (first|with_reducible rfl|assumption|(dsimp only [resS,ltpu_c,pubT];done)))|refine RetE.mk () trivial ?_|refine Got.mk (fun _ _=>?_)|refine retK_r ?_|exact rfl)|fail);all_goals try (conv=>whnf);all_goals try (exfalso;omega)
def htaggedk_c:Ctr:={ htagged_c with kp:=true }
theorem htaggedk_ok:htaggedk_c.Ok Tryz.prog 34:=htagged_ok.kept fun _=>rfl
def chId (seed:H256):ID16:=vecT (List.drop (loI none).toNat (List.take (hiI 32 (some 16)).toNat (sha (txt 105#8 [seed.toList])).toList)) (by simp [loI,hiI])
def chSd (seed:H256):H256:=sha (txt 115#8 [seed.toList])
def hch_c:Ctr where
 D:=H256
 args:=fun s=>[.agg [.arr8 s],.nils]
 res:=fun s _=>.tup [.agg [.arr8 (chId s)],.agg [.arr8 (chSd s)]]
def hch_H:Cfg:=⟨[(34,htaggedk_c)],[(5,[2],[4,5,6],(oA 0 (oA 1 (oB 2 (oA 3 (oD 4 (oC 5 (oC 6 .nil))))))),[])],[],[],24,0,[],[],[20]⟩
theorem hch_ok:hch_c.Ok Tryz.prog 61:=by
 refine fn_ok hch_H 0 rfl _ Tryz.func61 rfl rfl ⟨htaggedk_ok,trivial⟩ rfl rfl (by kernel_rfl) (fun _=>nlb rfl) ?_
 intro (s:H256) hp hr
 try dsimp only [hch_c] at hp
 try simp only [hch_c,Rng,RngL,inR,and_true,true_and] at hr
 have hpt:∀ t,htaggedk_c.pre (t,[s.toList]):=fun t=>⟨by show 1≤900;omega,fun p hp=>by
   have hp:p∈[s.toList]:=hp;obtain rfl:=List.mem_singleton.1 hp
   simp⟩
 have h1:=hpt 105#8;have h2:=hpt 115#8
 repeat' (first|(with_reducible refine Unf.h ?_)|((conv=>whnf);first|refine Fork.mk (fun h=>?_) (fun h=>?_)|(refine Side.mk ?_ ?_;focus (first|exact True.intro|(intros;(try simp only [lenS,inR,cutS,loI,hiI,cutv2,eP,List.map_cons,List.map_nil] at *);omega))))|fail);all_goals try (conv=>whnf);all_goals try (exfalso;omega)
 refine CallS.mk (c:=htaggedk_c) ((105#8,[s.toList])) ?_
 repeat' (first|(with_reducible refine Unf.h ?_)|((conv=>whnf);first|(refine Side.mk ?_ ?_;focus (first|with_reducible rfl|assumption|(intros;(try simp only [lenS,inR,cutS,loI,hiI,cutv2,eP,List.map_cons,List.map_nil] at *);omega)|(simp only [*,cutv2,eP,List.map_cons,List.map_nil];done)))|refine Got.mk (fun _ _=>?_))|fail);all_goals try (conv=>whnf);all_goals try (exfalso;omega)
 refine ValS.mk (OrdK.bslA 19 4 0 _ _ rfl ?_)
 repeat (first|(with_reducible refine Unf.h ?_)|((conv=>whnf);(with_reducible first|refine Unf.h ?_|refine loopK_n ?_|refine cutK_n ?_)))
 conv=>whnf
 refine Side.mk (by simp [hiI]) ?_
 refine ⟨_,rfl,?_⟩
 repeat' (first|(with_reducible refine Unf.h ?_)|((conv=>whnf);first|(refine Idx.mk ?_ ?_;focus ((simp only [lenS,inR,cutS,loI,hiI];omega)))|refine Ex.mk _ rfl ?_)|fail);all_goals try (conv=>whnf);all_goals try (exfalso;omega)
 refine CallS.mk (c:=htaggedk_c) ((115#8,[s.toList])) ?_
 repeat' (first|(with_reducible refine Unf.h ?_)|((conv=>whnf);first|(refine Side.mk ?_ ?_;focus (first|with_reducible rfl|assumption|(simp only [*,chId,chSd];done)))|refine RetE.mk () trivial ?_|refine Got.mk (fun _ _=>?_)|refine retK_r ?_|exact rfl)|fail);all_goals try (conv=>whnf);all_goals try (exfalso;omega)
abbrev signB (b k:Int) (s:H256) (ps:List SV):SO:=.box 165 [.int .i64 b,.int .i64 k,.arr8 s,.fpt ps,.nilp,.int .i64 (-1)]
def hnew_c:Ctr where
 D:=Nat×Int×Int×H256
 pre:=fun (t,b,k,_)=>1≤t∧t≤4∧1≤b∧b≤4∧1≤k∧k≤4
 args:=fun (t,b,k,s)=>[.int .i64 (t:Int),.int .i64 b,.int .i64 k,.agg [.arr8 s]]
 E:=List H256
 post:=fun (t,_,_,_) l=>l.length=2*2^t
 res:=fun _ _=>.tup [.ptr 0 0,.int .i64 0]
 out:=fun (t,b,k,s) l=>[(0,signB b k s (eTr t k (chId s) (chSd s) l))]
 mm:=1
def hnew_H:Cfg:=⟨[(60,ltsz_c),(61,hch_c),(62,ltn_c)],[],[],[],40,0,[],[],[]⟩
theorem hnew_ok:hnew_c.Ok Tryz.prog 33:=by
 refine fn_ok hnew_H 0 rfl _ Tryz.func33 rfl rfl ⟨ltsz_ok,hch_ok,ltn_ok,trivial⟩ rfl rfl (by kernel_rfl) (fun _=>nlb rfl) ?_
 rintro ⟨t,b,k,s⟩ hp hr
 try dsimp only [hnew_c] at hp
 try simp only [hnew_c,Rng,RngL,inR,and_true,true_and] at hr
 obtain ⟨hp1,hp2,hp3,hp4,hp5,hp6⟩:=hp;have hp1:1≤t:=hp1;have hp2:t≤4:=hp2;have hz:=lszF_le k;have e:tszF b k=8+lszF k+32*b:=if_pos ⟨hp3,hp4,hp5,hp6⟩;have hpx:ltn_c.pre (t,k,chId s,chSd s):=⟨hp1,hp2,hp5,hp6⟩
 repeat' (first|(with_reducible refine Unf.h ?_)|((conv=>whnf);first|refine Fork.mkn (fun h=>?_) (fun h=>?_)|refine Fork.mk (fun h=>?_) (fun h=>?_)|(refine Side.mk ?_ ?_;focus (first|with_reducible rfl|exact True.intro|assumption))|refine Got.mk (fun _ _=>?_)|refine retK_r ?_|refine CallS.mk (c:=ltsz_c) ((b,k)) ?_|refine CallS.mk (c:=hch_c) (s) ?_|refine CallS.mk (c:=ltn_c) ((t,k,chId s,chSd s)) ?_)|fail);all_goals try (conv=>whnf);all_goals try (exfalso;omega)
 rename_i l hll;refine RetE.mk (c:=hnew_c) (d:=(t,b,k,s)) (show List H256 from l) hll ?_
 repeat' (first|(with_reducible refine Unf.h ?_)|((conv=>whnf);first|(refine Side.mk ?_ ?_;focus (with_reducible rfl))|(with_reducible refine Unf.h ?_)|exact rfl)|fail);all_goals try (conv=>whnf);all_goals try (exfalso;omega)
def hpub_c:Ctr where
 D:=(Int×Int×H256)×(Nat×Int×ID16×H256)×List H256×H256
 pre:=fun (_,_,l,v)=>l[1]?=some v
 args:=fun _=>[.ptr 0 0]
 objs:=fun ((b,k,s),(h,k2,id,s2),l,_)=>[(0,signB b k s (eTr h k2 id s2 l))]
 nn:=1
 res:=fun _ _=>.own 1
 out:=fun ((b,k,s),(h,k2,id,s2),l,v) _=>[(0,signB b k s (eTr h k2 id s2 l)),(1,.row 5 1 eB ([0#8,0#8,0#8,2#8]++pubT h k2 id v))]
 mm:=1
def hpub_H:Cfg:=⟨[(71,ltpu_c),(70,concat_c)],[],[],[],13,1,[],[],[]⟩
theorem hpub_ok:hpub_c.Ok Tryz.prog 38:=by
 refine fn_ok hpub_H 1 rfl _ Tryz.func38 rfl rfl ⟨ltpu_ok,concat_ok,trivial⟩ rfl rfl (by kernel_rfl) (fun _=>nlb rfl) ?_
 rintro ⟨⟨b,k,s⟩,⟨h,k2,id,s2⟩,l,v⟩ hp hr
 try dsimp only [hpub_c] at hp
 try simp only [hpub_c,Rng,RngL,inR,and_true,true_and] at hr
 have hpl:ltpu_c.pre ((h,k2,id,s2),l,v):=hp;have hlen:=pubT_len h k2 id v;have hpc:concat_c.pre [[0#8,0#8,0#8,2#8],pubT h k2 id v]:=⟨by show 1≤([[0#8,0#8,0#8,2#8],pubT h k2 id v]:List Bs).flatten.length;simp,by show 2≤100;omega,fun p hp=>by
   have hp:p∈[[0#8,0#8,0#8,2#8],pubT h k2 id v]:=hp;simp only [List.mem_cons,List.not_mem_nil,or_false] at hp;rcases hp with rfl|rfl
   · simp
   · omega⟩
 repeat' (first|(with_reducible refine Unf.h ?_)|fail);all_goals try (conv=>whnf);all_goals try (exfalso;omega)
 refine CallS.mk (c:=ltpu_c) (((h,k2,id,s2),l,v)) ?_
 repeat' (first|(with_reducible refine Unf.h ?_)|((conv=>whnf);first|(refine Side.mk ?_ ?_;focus (first|with_reducible rfl|assumption))|refine Got.mk (fun _ _=>?_)|refine Ex.mk [_,_,_,_] rfl ?_)|fail);all_goals try (conv=>whnf);all_goals try (exfalso;omega)
 have ef:[0#8,0#8,0#8,2#8]++pubT h k2 id v=([[0#8,0#8,0#8,2#8],pubT h k2 id v]:List Bs).flatten:=by simp
 refine CallS.mk (c:=concat_c) ([[0#8,0#8,0#8,2#8],pubT h k2 id v]) ?_
 repeat' (first|(with_reducible refine Unf.h ?_)|((conv=>whnf);first|(refine Side.mk ?_ ?_;focus (first|with_reducible rfl|assumption|(simp only [*,eP,List.map_cons,List.map_nil,ef];done)))|refine RetE.mk () trivial ?_|refine Got.mk (fun _ _=>?_)|refine retK_r ?_|exact rfl)|fail);all_goals try (conv=>whnf);all_goals try (exfalso;omega)
def seed42:H256:=(Vector.replicate 32 0#8).setIfInBounds 0 42#8
def pfrm_c:Ctr where
 D:=Unit
 args:=fun _=>[]
 res:=fun _ _=>.agg [.int .i64 1,.int .i64 2,.int .i64 3,.arr8 seed42]
def pfrm_H:Cfg:=⟨[],[],[],[],3,0,[],[],[]⟩
theorem pfrm_ok:pfrm_c.Ok Tryz.prog 8:=by
 refine fn_ok pfrm_H 0 rfl _ Tryz.func8 rfl rfl trivial rfl rfl (by kernel_rfl) (fun _=>nlb rfl) ?_
 intro (_:Unit) hp hr
 try dsimp only [pfrm_c] at hp
 try simp only [pfrm_c,Rng,RngL,inR,and_true,true_and] at hr
 repeat' (first|(with_reducible refine Unf.h ?_)|((conv=>whnf);first|(refine Side.mk ?_ ?_;focus (first|with_reducible rfl|(simp only [*,seed42];done)))|refine RetE.mk () trivial ?_|refine retK_r ?_|exact rfl)|fail);all_goals try (conv=>whnf);all_goals try (exfalso;omega)
abbrev eFo (t b k:Int) (s:H256):List SV:=[.int .i64 t,.int .i64 b,.int .i64 k,.arr8 s]
def pSeed (s:H256):H256:=sha (txt 112#8 [s.toList])
theorem ptag_pre (s:H256):htaggedk_c.pre (112#8,[s.toList]):=⟨by show 1≤900;omega,fun p hp=>by
 have hp:p∈[s.toList]:=hp;obtain rfl:=List.mem_singleton.1 hp
 simp⟩
abbrev eDn:Int×Int→SV:=fun p=>.agg [.int .i64 p.1,.int .i64 p.2]
abbrev priB (v sg st mp:SV):SO:=.box 124 [v,sg,st,.nils,mp,.nils,.int .i64 0]
def pop_c:Ctr where
 D:=(List Pg×List Pg)×Nat×Int×Int×H256
 pre:=fun ((L,S),t,b,k,_)=>(4≤L.length∧L.length≤4096∧S.length=L.length∧S[0]?=some zeroPg∧S[1]?=some zeroPg∧S[2]?=some zeroPg)∧1≤t∧t≤4∧1≤b∧b≤4∧1≤k∧k≤4
 args:=fun (_,t,b,k,s)=>[.ptr 0 0,.agg (eFo (t:Int) b k s)]
 objs:=fun ((L,S),_)=>devs L S []
 nn:=4
 E:=List H256
 post:=fun (_,t,_,_,_) l=>l.length=2*2^t
 res:=fun _ _=>.tup [.ptr 4 0,.int .i64 0]
 out:=fun (_,t,b,k,s) l=>[(4,priB (.ptr 5 0) (.ptr 6 0) (.ptr 7 0) (.own 13)),(6,signB b k (pSeed s) (eTr t k (chId (pSeed s)) (chSd (pSeed s)) l)),(7,.box 176 [.arr8 s,.ptr 8 0,.own 10,.own 11,.own 12]),(8,.box 171 [.own 9]),(9,.row 283 132 eNd []),(10,.row 275 67 eSl []),(11,.row 269 2 ePn []),(12,nmO [])]
 mm:=10
def pop_H:Cfg:=⟨[(34,htaggedk_c),(33,hnew_c),(6,vopZ_c),(35,enew_c)],[(1,[1,3,5],[8,9,10],(oA 0 (oB 1 (oA 2 (oB 3 (oA 4 (oB 5 (oA 6 (oA 7 (oD 8 (oD 9 (oC 10 (oA 11 (oA 12 (oA 13 (oA 14 (oA 15 .nil)))))))))))))))),[])],[],[],59,4,[],[],[]⟩
theorem pop_ok:pop_c.Ok Tryz.prog 14:=by
 refine fn_ok pop_H 4 rfl _ Tryz.func14 rfl rfl ⟨htaggedk_ok,hnew_ok,vopZ_ok,enew_ok,trivial⟩ rfl rfl (by kernel_rfl) (fun _=>nlb rfl) ?_
 rintro ⟨⟨L,S⟩,t,b,k,s⟩ hp hr
 try dsimp only [pop_c] at hp
 try simp only [pop_c,Rng,RngL,inR,and_true,true_and] at hr
 obtain ⟨hpv,hpx⟩:=hp;have hpx:hnew_c.pre (t,b,k,pSeed s):=hpx;have hpt:=ptag_pre s;have hpv:vopZ_c.pre (L,S):=hpv
 repeat' (first|(with_reducible refine Unf.h ?_)|((conv=>whnf);(refine Side.mk ?_ ?_;focus (first|exact True.intro|(intros;(try simp only [lenS,inR,cutS,loI,hiI,cutv2,eP,List.map_cons,List.map_nil] at *);omega))))|fail);all_goals try (conv=>whnf);all_goals try (exfalso;omega)
 all_goals
   refine CallS.mk (c:=htaggedk_c) ((112#8,[s.toList])) ?_
   repeat' (first|(with_reducible refine Unf.h ?_)|((conv=>whnf);first|(refine Side.mk ?_ ?_;focus (first|with_reducible rfl|assumption|(simp only [*,cutv2,eP,List.map_cons,List.map_nil];done)))|refine Got.mk (fun _ _=>?_))|fail);all_goals try (conv=>whnf);all_goals try (exfalso;omega)
 all_goals
   refine CallS.mk (c:=hnew_c) ((t,b,k,pSeed s)) ?_
   repeat' (first|(with_reducible refine Unf.h ?_)|((conv=>whnf);first|refine Fork.mkn (fun h=>?_) (fun h=>?_)|(refine Side.mk ?_ ?_;focus (first|with_reducible rfl|assumption|(simp only [*,pSeed];done)))|refine Got.mk (fun _ _=>?_))|fail);all_goals try (conv=>whnf);all_goals try (exfalso;omega)
 all_goals
   rename_i l hll;refine CallS.mk (c:=vopZ_c) ((L,S)) ?_
   repeat' (first|(with_reducible refine Unf.h ?_)|((conv=>whnf);first|refine Fork.mkn (fun h=>?_) (fun h=>?_)|(refine Side.mk ?_ ?_;focus (first|with_reducible rfl|assumption))|refine Got.mk (fun _ _=>?_))|fail);all_goals try (conv=>whnf);all_goals try (exfalso;omega)
 all_goals
   refine CallS.mk (c:=enew_c) (s) ?_
   repeat' (first|(with_reducible refine Unf.h ?_)|((conv=>whnf);first|(refine Side.mk ?_ ?_;focus (first|with_reducible rfl|exact True.intro))|refine Got.mk (fun _ _=>?_))|fail);all_goals try (conv=>whnf);all_goals try (exfalso;omega)
 all_goals
   refine MkS.mk inferInstance eZ eDn ?_
   repeat' (first|(with_reducible refine Unf.h ?_)|fail);all_goals try (conv=>whnf);all_goals try (exfalso;omega)
 all_goals
   refine LoopS.mk (I:=Unit) (fun _=>True) (fun _=>[(49,.int .i64 0),(48,.int .i64 0),(10,.ptr 4 0)]) (fun _=>[(4,priB (.ptr 5 0) (.ptr 6 0) (.ptr 7 0) (.own 13)),(6,signB b k (pSeed s) (eTr t k (chId (pSeed s)) (chSd (pSeed s)) l)),(7,.box 176 [.arr8 s,.ptr 8 0,.own 10,.own 11,.own 12]),(8,.box 171 [.own 9]),(9,.row 283 132 eNd []),(10,.row 275 67 eSl []),(11,.row 269 2 ePn []),(12,nmO [])]) 14 (fun _=>0) () trivial ?_ ?_
   · repeat' (first|(with_reducible refine Unf.h ?_)|((conv=>whnf);first|(refine Side.mk ?_ ?_;focus (with_reducible rfl))|(with_reducible refine Unf.h ?_)|exact True.intro)|fail);all_goals try (conv=>whnf);all_goals try (exfalso;omega)
   · intro _ _
     repeat' (first|(with_reducible refine Unf.h ?_)|((conv=>whnf);first|refine Fork.mk (fun h=>?_) (fun h=>?_)|refine retK_r ?_)|fail);all_goals try (conv=>whnf);all_goals try (exfalso;omega)
     all_goals
       refine RetE.mk (c:=pop_c) (d:=((L,S),t,b,k,s)) (show List H256 from l) hll ?_
       repeat' (first|(with_reducible refine Unf.h ?_)|((conv=>whnf);first|(refine Side.mk ?_ ?_;focus (with_reducible rfl))|(with_reducible refine Unf.h ?_)|exact rfl)|fail);all_goals try (conv=>whnf);all_goals try (exfalso;omega)
theorem zAtP {n i:Nat} (h:i<n):(List.replicate n zeroPg)[i]?=some zeroPg:=by rw [List.getElem?_replicate,if_pos h]
def peps_c:Ctr where
 D:=Dir
 args:=fun _=>[.ptr 0 0]
 objs:=fun (s,l,ss,ps)=>[(0,priB (.ptr 1 0) (.ptr 2 0) (.ptr 3 0) (.own 9)),(3,.box 176 [.arr8 s,.ptr 4 0,.own 6,.own 7,.own 8]),(4,.box 171 [.own 5]),(5,.row 283 132 eNd l),(6,.row 275 67 eSl ss),(7,.row 269 2 ePn ps),(8,nmO ps)]
 nn:=10
 res:=fun (_,_,ss,_) _=>.int .i64 (ss.length:Int)
 out:=fun (s,l,ss,ps) _=>[(0,priB (.ptr 1 0) (.ptr 2 0) (.ptr 3 0) (.own 9)),(3,.box 176 [.arr8 s,.ptr 4 0,.own 6,.own 7,.own 8]),(4,.box 171 [.own 5]),(5,.row 283 132 eNd l),(6,.row 275 67 eSl ss),(7,.row 269 2 ePn ps),(8,nmO ps)]
def peps_H:Cfg:=⟨[(37,eps_c)],[],[],[],10,10,[],[],[]⟩
theorem peps_ok:peps_c.Ok Tryz.prog 15:=by
 refine fn_ok peps_H 10 rfl _ Tryz.func15 rfl rfl ⟨eps_ok,trivial⟩ rfl rfl (by kernel_rfl) (fun _=>nlb rfl) ?_
 rintro ⟨s,l,ss,ps⟩ hp hr
 try dsimp only [peps_c] at hp
 try simp only [peps_c,Rng,RngL,inR,and_true,true_and] at hr
 repeat' (first|(with_reducible refine Unf.h ?_)|fail);all_goals try (conv=>whnf);all_goals try (exfalso;omega)
 refine CallS.mk (c:=eps_c) ((s,l,ss,ps)) ?_
 repeat' (first|(with_reducible refine Unf.h ?_)|((conv=>whnf);first|(refine Side.mk ?_ ?_;focus (first|with_reducible rfl|exact True.intro|(refine congrArg (SV.int _) ?_;omega)))|refine RetE.mk () trivial ?_|refine Got.mk (fun _ _=>?_)|refine retK_r ?_|exact rfl)|fail);all_goals try (conv=>whnf);all_goals try (exfalso;omega)
def ppub_c:Ctr where
 D:=(Int×Int×H256)×(Nat×Int×ID16×H256)×List H256×H256
 pre:=fun (_,_,l,v)=>l[1]?=some v
 args:=fun _=>[.ptr 0 0]
 objs:=fun ((b,k,s),(h,k2,id,s2),l,_)=>[(0,priB (.ptr 1 0) (.ptr 2 0) (.ptr 3 0) (.own 4)),(2,signB b k s (eTr h k2 id s2 l))]
 nn:=5
 res:=fun _ _=>.own 5
 out:=fun ((b,k,s),(h,k2,id,s2),l,v) _=>[(0,priB (.ptr 1 0) (.ptr 2 0) (.ptr 3 0) (.own 4)),(2,signB b k s (eTr h k2 id s2 l)),(5,.row 5 1 eB ([0#8,0#8,0#8,2#8]++pubT h k2 id v))]
 mm:=1
def ppub_H:Cfg:=⟨[(38,hpub_c)],[],[],[],10,5,[],[],[]⟩
theorem ppub_ok:ppub_c.Ok Tryz.prog 16:=by
 refine fn_ok ppub_H 5 rfl _ Tryz.func16 rfl rfl ⟨hpub_ok,trivial⟩ rfl rfl (by kernel_rfl) (fun _=>nlb rfl) ?_
 rintro ⟨⟨b,k,s⟩,⟨h,k2,id,s2⟩,l,v⟩ hp hr
 try dsimp only [ppub_c] at hp
 try simp only [ppub_c,Rng,RngL,inR,and_true,true_and] at hr
 have hpp:hpub_c.pre ((b,k,s),(h,k2,id,s2),l,v):=hp
 repeat' (first|(with_reducible refine Unf.h ?_)|fail);all_goals try (conv=>whnf);all_goals try (exfalso;omega)
 refine CallS.mk (c:=hpub_c) (((b,k,s),(h,k2,id,s2),l,v)) ?_
 repeat' (first|(with_reducible refine Unf.h ?_)|((conv=>whnf);first|(refine Side.mk ?_ ?_;focus (first|with_reducible rfl|assumption))|refine RetE.mk () trivial ?_|refine Got.mk (fun _ _=>?_)|refine retK_r ?_|exact rfl)|fail);all_goals try (conv=>whnf);all_goals try (exfalso;omega)
def awk20_c:Ctr where
 D:=Unit
 args:=fun _=>[]
 res:=fun _ _=>.bool true
def awk20_H:Cfg:=⟨[(5,dnew_c),(8,pfrm_c),(14,pop_c),(15,peps_c),(16,ppub_c)],[],[],[],28,0,[],[],[]⟩
theorem awk20_ok:awk20_c.Ok Tryz.prog 4:=by
 refine fn_ok awk20_H 0 rfl _ Tryz.func4 rfl rfl ⟨dnew_ok,pfrm_ok,pop_ok,peps_ok,ppub_ok,trivial⟩ rfl rfl (by kernel_rfl) (fun _=>nlb rfl) ?_
 intro (_:Unit) hp hr
 try dsimp only [awk20_c] at hp
 try simp only [awk20_c,Rng,RngL,inR,and_true,true_and] at hr
 have h1:dnew_c.pre (20:Nat):=show 20≤4096 by omega
 have hl:(List.replicate 20 zeroPg).length=20:=List.length_replicate;have h2:pop_c.pre ((List.replicate 20 zeroPg,List.replicate 20 zeroPg),1,2,3,seed42):=⟨⟨by rw [hl];omega,by rw [hl];omega,rfl,zAtP (by omega),zAtP (by omega),zAtP (by omega)⟩,by omega,by omega,by omega,by omega,by omega,by omega⟩
 repeat' (first|(with_reducible refine Unf.h ?_)|fail);all_goals try (conv=>whnf);all_goals try (exfalso;omega)
 refine CallS.mk (c:=dnew_c) ((20:Nat)) ?_
 repeat' (first|(with_reducible refine Unf.h ?_)|((conv=>whnf);first|(refine Side.mk ?_ ?_;focus (first|exact True.intro|assumption|(refine congrArg (SV.int _) ?_;omega)))|refine Got.mk (fun _ _=>?_)|refine CallS.mk (c:=pfrm_c) (()) ?_)|fail);all_goals try (conv=>whnf);all_goals try (exfalso;omega)
 refine CallS.mk (c:=pop_c) (((List.replicate 20 zeroPg,List.replicate 20 zeroPg),1,2,3,seed42)) ?_
 repeat' (first|(with_reducible refine Unf.h ?_)|((conv=>whnf);first|refine Fork.mk (fun h=>?_) (fun h=>?_)|(refine Side.mk ?_ ?_;focus (first|with_reducible rfl|assumption|(refine congrArg (SV.int _) ?_;omega)))|refine Got.mk (fun _ _=>?_))|fail);all_goals try (conv=>whnf);all_goals try (exfalso;omega)
 rename_i l hll;have hll:l.length=4:=hll;obtain ⟨v,hv⟩:∃ v,(show List H256 from l)[1]?=some v:=⟨_,List.getElem?_eq_getElem (by show 1<l.length;omega)⟩
 have hpp:ppub_c.pre ((2,3,pSeed seed42),(1,3,chId (pSeed seed42),chSd (pSeed seed42)),l,v):=hv;have h60:([0#8,0#8,0#8,2#8]++pubT 1 3 (chId (pSeed seed42)) v).length=60:=by rw [List.length_append,pubT_len];rfl
 refine CallS.mk (c:=peps_c) ((seed42,[],[],[])) ?_
 repeat' (first|(with_reducible refine Unf.h ?_)|((conv=>whnf);first|refine Fork.mk (fun h=>?_) (fun h=>?_)|(refine Side.mk ?_ ?_;focus (first|with_reducible rfl|exact True.intro|(intros;(try simp only [lenS,inR,cutS,loI,hiI] at *);omega)))|refine RetE.mk () trivial ?_|refine Got.mk (fun _ _=>?_)|refine retK_r ?_|exact rfl)|fail);all_goals try (conv=>whnf);all_goals try (exfalso;omega)
 refine CallS.mk (c:=ppub_c) (((2,3,pSeed seed42),(1,3,chId (pSeed seed42),chSd (pSeed seed42)),l,v)) ?_
 repeat' (first|(with_reducible refine Unf.h ?_)|((conv=>whnf);first|(refine Side.mk ?_ ?_;focus (first|with_reducible rfl|assumption))|refine RetE.mk () trivial ?_|refine Got.mk (fun _ _=>?_)|refine retK_r ?_)|fail);all_goals try (conv=>whnf);all_goals try (exfalso;omega)
 all_goals
   refine Side.mk (decide_eq_true (congrArg (fun n:Nat=>(n:Int)) h60)) ?_
   repeat' (first|(with_reducible refine Unf.h ?_)|((conv=>whnf);exact rfl)|fail);all_goals try (conv=>whnf);all_goals try (exfalso;omega)
abbrev KI:={ n:Int // 0≤n∧n<2147483648 }
abbrev eKI (k:KI):SV:=.int .i64 k.1
abbrev Cl:=List (KI×(Int×Int))
abbrev clO (c:Cl):SO:=.mp 3 184 inferInstance eKI eDn c
theorem mkeyI:MKey Tryz.prog 3 eKI:=mkey_plain Tryz.underlying3 (fun k=>.int .i64 k.1) (fun _=>rfl) (fun a b h=>Subtype.ext (by simpa using h)) (fun a w A σ u=>by
 have h:=a.2;simp only [SV.hv,SV.h1,SV.hc,inR]
 constructor
 · rintro ⟨h1,_⟩;simpa using h1
 · rintro rfl;exact ⟨rfl,fun _=>by omega⟩)
theorem zeroDn:ZeroIs Tryz.prog 184 (eDn (0,0)):=⟨_,Tryz.zeroValue184,fun w A σ=>by simp [SV.hv,SV.h1,SV.hc,hL,inR]⟩
def kI (f:Int):KI:=if h:0≤f∧f<2147483648 then ⟨f,h⟩ else ⟨0,by omega⟩
theorem eKI_kI {f:Int} (h0:0≤f) (h1:f<2147483648):eKI (kI f)=.int .i64 f:=by
 unfold kI;rw [dif_pos ⟨h0,h1⟩]
theorem kI_inj {a b:Int} (a0:0≤a) (a1:a<2147483648) (b0:0≤b) (b1:b<2147483648) (h:kI a=kI b):a=b:=by
 unfold kI at h;rw [dif_pos ⟨a0,a1⟩,dif_pos ⟨b0,b1⟩] at h;exact congrArg Subtype.val h
def folP (tk:List Int) (t:Int):Prop:=1≤t∧t<2147483648∧tk.getLast?.getD t≤t
instance (tk:List Int) (t:Int):Decidable (folP tk t):=inferInstanceAs (Decidable (_∧_∧_))
abbrev prQ (a b:Nat):SO:=.box 124 [.ptr 1 0,.ptr 2 0,.ptr 3 0,.own a,.own b,.nils,.int .i64 0]
def pfol_c:Ctr where
 D:=List Int×Int
 pre:=fun (tk,_)=>tk.length≤1000
 args:=fun (_,t)=>[.ptr 0 0,.int .i64 t]
 objs:=fun (tk,_)=>[(0,prQ 4 5),(4,.row 3 1 eI tk)]
 nn:=6
 res:=fun (tk,t) _=>.dec (folP tk t) inferInstance
 out:=fun (tk,_) _=>[(0,prQ 4 5),(4,.row 3 1 eI tk)]
def pfol_H:Cfg:=⟨[],[(1,[10,18,22,26],[],(oA 0 (oA 1 (oA 2 (oA 3 (oA 4 (oA 5 (oA 6 (oA 7 (oA 8 (oA 9 (oB 10 (oA 11 (oA 12 (oA 13 (oA 14 (oA 15 (oA 16 (oA 17 (oB 18 (oA 19 (oA 20 (oA 21 (oB 22 (oA 23 (oA 24 (oA 25 (oB 26 (oA 27 (oA 28 (oA 29 (oA 30 .nil))))))))))))))))))))))))))))))),[])],[],[],35,6,[],[],[]⟩
theorem pfol_ok:pfol_c.Ok Tryz.prog 66:=by
 refine fn_ok pfol_H 6 rfl _ Tryz.func66 rfl rfl trivial rfl rfl (by kernel_rfl) (fun _=>nlb rfl) ?_
 rintro ⟨tk,t⟩ hp hr
 try dsimp only [pfol_c] at hp
 try simp only [pfol_c,Rng,RngL,inR,and_true,true_and] at hr
 have hp:tk.length≤1000:=hp;rcases Nat.eq_zero_or_pos tk.length with h0|h0
 · have e:tk=[]:=List.eq_nil_of_length_eq_zero h0
   have ef:folP tk t↔1≤t∧t<2147483648:=by unfold folP;rw [e];simp
   by_cases h1:1≤t
   · by_cases h2:t<2147483648
     · have ef2:folP tk t:=ef.2 ⟨h1,h2⟩
       repeat' (first|(with_reducible refine Unf.h ?_)|((conv=>whnf);first|refine Fork.mk (fun h=>?_) (fun h=>?_)|(refine Side.mk ?_ ?_;focus (first|with_reducible rfl|(refine ⟨fun h=>?_,fun h=>?_⟩<;>first|rfl|(cases h;done)|omega|(exfalso;omega)|(simp only [Bool.false_eq_true] at h;done))))|refine RetE.mk () trivial ?_|refine retK_r ?_|exact rfl)|fail);all_goals try (conv=>whnf);all_goals try (exfalso;omega)
     · have ef2:¬ folP tk t:=fun h=>h2 (ef.1 h).2
       repeat' (first|(with_reducible refine Unf.h ?_)|((conv=>whnf);first|refine Fork.mk (fun h=>?_) (fun h=>?_)|refine RetE.mk () trivial ?_|refine retK_r ?_)|fail);all_goals try (conv=>whnf);all_goals try (exfalso;omega)
       refine Side.mk ⟨fun h=>(by cases h),fun h=>absurd h ef2⟩ ?_
       repeat' (first|(with_reducible refine Unf.h ?_)|((conv=>whnf);first|(refine Side.mk ?_ ?_;focus (with_reducible rfl))|exact rfl)|fail);all_goals try (conv=>whnf);all_goals try (exfalso;omega)
   · have ef2:¬ folP tk t:=fun h=>h1 (ef.1 h).1
     repeat' (first|(with_reducible refine Unf.h ?_)|((conv=>whnf);first|refine Fork.mk (fun h=>?_) (fun h=>?_)|refine RetE.mk () trivial ?_|refine retK_r ?_)|fail);all_goals try (conv=>whnf);all_goals try (exfalso;omega)
     refine Side.mk ⟨fun h=>(by cases h),fun h=>absurd h ef2⟩ ?_
     repeat' (first|(with_reducible refine Unf.h ?_)|((conv=>whnf);first|(refine Side.mk ?_ ?_;focus (with_reducible rfl))|exact rfl)|fail);all_goals try (conv=>whnf);all_goals try (exfalso;omega)
 · have hl:tk.getLast?.getD t=tk[((tk.length:Int) - 1).toNat]'(by omega):=by
     rw [List.getLast?_eq_getElem?,List.getElem?_eq_getElem (by omega),Option.getD_some]
     congr 1;omega
   have ef:folP tk t↔1≤t∧t<2147483648∧tk[((tk.length:Int) - 1).toNat]'(by omega)≤t:=by unfold folP;rw [hl]
   by_cases h1:1≤t
   · by_cases h2:t<2147483648
     · by_cases h3:tk[((tk.length:Int) - 1).toNat]'(by omega)≤t
       · have ef2:folP tk t:=ef.2 ⟨h1,h2,h3⟩
         repeat' (first|(with_reducible refine Unf.h ?_)|((conv=>whnf);first|refine Fork.mk (fun h=>?_) (fun h=>?_)|(refine Side.mk ?_ ?_;focus (first|with_reducible rfl|omega|(intros;(try simp only [lenS,inR,cutS,loI,hiI] at *);omega)|(refine ⟨fun h=>?_,fun h=>?_⟩<;>first|rfl|(cases h;done)|omega|(exfalso;omega)|(simp only [Bool.false_eq_true] at h;done))))|(refine Idx.mk ?_ ?_;focus (omega))|refine RetE.mk () trivial ?_|refine retK_r ?_|exact rfl)|fail);all_goals try (conv=>whnf);all_goals try (exfalso;omega)
       · have ef2:¬ folP tk t:=fun h=>h3 (ef.1 h).2.2
         repeat' (first|(with_reducible refine Unf.h ?_)|((conv=>whnf);first|refine Fork.mk (fun h=>?_) (fun h=>?_)|(refine Side.mk ?_ ?_;focus (first|with_reducible rfl|omega|(intros;(try simp only [lenS,inR,cutS,loI,hiI] at *);omega)|(simp [*];done)))|(refine Idx.mk ?_ ?_;focus (omega))|refine RetE.mk () trivial ?_|refine retK_r ?_|exact rfl)|fail);all_goals try (conv=>whnf);all_goals try (exfalso;omega)
     · have ef2:¬ folP tk t:=fun h=>h2 (ef.1 h).2.1
       repeat' (first|(with_reducible refine Unf.h ?_)|((conv=>whnf);first|refine Fork.mk (fun h=>?_) (fun h=>?_)|(refine Side.mk ?_ ?_;focus (first|with_reducible rfl|(simp [*];done)))|refine RetE.mk () trivial ?_|refine retK_r ?_|exact rfl)|fail);all_goals try (conv=>whnf);all_goals try (exfalso;omega)
   · have ef2:¬ folP tk t:=fun h=>h1 (ef.1 h).1
     repeat' (first|(with_reducible refine Unf.h ?_)|((conv=>whnf);first|refine Fork.mk (fun h=>?_) (fun h=>?_)|(refine Side.mk ?_ ?_;focus (first|with_reducible rfl|(simp [*];done)))|refine RetE.mk () trivial ?_|refine retK_r ?_|exact rfl)|fail);all_goals try (conv=>whnf);all_goals try (exfalso;omega)
def tkey_c:Ctr where
 D:=(Int×ID16×H256)×List H256
 args:=fun ((k,id,s),l)=>[.fpt (eTr 1 k id s l)]
 res:=fun _ _=>.int .i64 2
def tkey_H:Cfg:=⟨[],[],[],[],10,0,[],[],[]⟩
theorem tkey_ok:tkey_c.Ok Tryz.prog 104:=by
 refine fn_ok tkey_H 0 rfl _ Tryz.func104 rfl rfl trivial rfl rfl (by kernel_rfl) (fun _=>nlb rfl) ?_
 rintro ⟨⟨k,id,s⟩,l⟩ hp hr
 try dsimp only [tkey_c] at hp
 try simp only [tkey_c,Rng,RngL,inR,and_true,true_and] at hr
 repeat' (first|(with_reducible refine Unf.h ?_)|((conv=>whnf);(refine Side.mk ?_ ?_;focus (omega)))|fail);all_goals try (conv=>whnf);all_goals try (exfalso;omega)
 refine Side.mk ⟨by decide,by decide,by unfold inR;decide⟩ ?_
 repeat' (first|(with_reducible refine Unf.h ?_)|((conv=>whnf);first|(refine Side.mk ?_ ?_;focus ((dsimp only [resS,tkey_c];(simp [*];done))))|refine RetE.mk () trivial ?_|refine retK_r ?_|exact rfl)|fail);all_goals try (conv=>whnf);all_goals try (exfalso;omega)
def hkey_c:Ctr where
 D:=(Int×H256)×(Int×ID16×H256)×List H256
 args:=fun _=>[.ptr 0 0]
 objs:=fun ((k,s),(k2,id,s2),l)=>[(0,signB 2 k s (eTr 1 k2 id s2 l))]
 nn:=1
 res:=fun _ _=>.int .i64 8
 out:=fun ((k,s),(k2,id,s2),l) _=>[(0,signB 2 k s (eTr 1 k2 id s2 l))]
def hkey_H:Cfg:=⟨[(104,tkey_c)],[(3,[3,8],[4],(oA 0 (oA 1 (oA 2 (oB 3 (oA 5 (oA 6 (oA 7 (oB 8 (oD 4 (oA 9 (oA 10 .nil))))))))))),[])],[],[],15,1,[],[],[]⟩
theorem hkey_ok:hkey_c.Ok Tryz.prog 67:=by
 refine fn_ok hkey_H 1 rfl _ Tryz.func67 rfl rfl ⟨tkey_ok,trivial⟩ rfl rfl (by kernel_rfl) (fun _=>nlb rfl) ?_
 rintro ⟨⟨k,s⟩,⟨k2,id,s2⟩,l⟩ hp hr
 try dsimp only [hkey_c] at hp
 try simp only [hkey_c,Rng,RngL,inR,and_true,true_and] at hr
 repeat' (first|(with_reducible refine Unf.h ?_)|((conv=>whnf);first|(refine Side.mk ?_ ?_;focus (first|with_reducible rfl|exact True.intro|omega))|refine Got.mk (fun _ _=>?_)|refine CallS.mk (c:=tkey_c) (((k2,id,s2),l)) ?_)|fail);all_goals try (conv=>whnf);all_goals try (exfalso;omega)
 refine Side.mk ⟨by decide,by decide,by unfold inR;decide⟩ ?_
 repeat' (first|(with_reducible refine Unf.h ?_)|((conv=>whnf);first|(refine Side.mk ?_ ?_;focus (first|with_reducible rfl|(dsimp only [resS,hkey_c];(simp [*];done))))|refine RetE.mk () trivial ?_|refine retK_r ?_|exact rfl)|fail);all_goals try (conv=>whnf);all_goals try (exfalso;omega)
def pupd_c:Ctr where
 D:=List Rq
 pre:=fun l=>l.length≤1000
 args:=fun l=>[.fs 4 eRq l]
 res:=fun l _=>.fs 2 eUp (l.map Prod.snd)
def pupd_H:Cfg:=⟨[],[],[],[],22,0,[],[],[]⟩
theorem pupd_ok:pupd_c.Ok Tryz.prog 108:=by
 refine fn_ok pupd_H 0 rfl _ Tryz.func108 rfl rfl trivial rfl rfl (by kernel_rfl) (fun _=>nlb rfl) ?_
 intro (l:List Rq) hp hr
 try dsimp only [pupd_c] at hp
 try simp only [pupd_c,Rng,RngL,inR,and_true,true_and] at hr
 have hp:l.length≤1000:=hp
 repeat' (first|(with_reducible refine Unf.h ?_)|fail);all_goals try (conv=>whnf);all_goals try (exfalso;omega)
 refine LoopS.mk (I:=Nat) (fun i=>i≤l.length) (fun i=>[(8,.int .i64 (i:Int)),(6,.fs 4 eRq l),(7,.int .i64 (l.length:Int)),(3,.own 0),(2,.nils)]) (fun i=>[(0,.row 244 2 eUp ((l.take i).map Prod.snd))]) 1 (fun i=>l.length - i) 0 (Nat.zero_le _) ?_ ?_
 · have e0:(l.take 0).map Prod.snd=[]:=rfl
   rw [e0]
   repeat' (first|(with_reducible refine Unf.h ?_)|((conv=>whnf);first|(refine Side.mk ?_ ?_;focus (first|with_reducible rfl|(refine congrArg (SV.int _) ?_;omega)))|(with_reducible refine Unf.h ?_)|exact True.intro)|fail);all_goals try (conv=>whnf);all_goals try (exfalso;omega)
 · intro i hi
   have hi:i≤l.length:=hi;rcases Nat.lt_or_ge i l.length with h|h
   · have ets:(l.take (i+1)).map Prod.snd=(l.take i).map Prod.snd++[(l[((i:Nat):Int).toNat]'h).2]:=by
       rw [List.take_succ_eq_append_getElem h,List.map_append];rfl
     repeat' (first|(with_reducible first|refine Unf.h ?_|refine loopK_n ?_)|((conv=>whnf);first|refine Fork.mk (fun h=>?_) (fun h=>?_)|(refine Side.mk ?_ ?_;focus ((intros;(try simp only [lenS,inR,cutS,loI,hiI] at *);omega)))|(refine Idx.mk ?_ ?_;focus (omega))|refine Ex.mk [_] rfl ?_)|fail);all_goals try (conv=>whnf);all_goals try (exfalso;omega)
     refine ⟨i+1,⟨by omega,by omega⟩,?_⟩
     rw [ets]
     repeat' (first|(with_reducible refine Unf.h ?_)|((conv=>whnf);first|(refine Side.mk ?_ ?_;focus (first|with_reducible rfl|(refine congrArg (SV.int _) ?_;omega)))|(with_reducible refine Unf.h ?_)|exact True.intro)|fail);all_goals try (conv=>whnf);all_goals try (exfalso;omega)
   · have e0:l.take i=l:=List.take_of_length_le h
     rw [e0]
     repeat' (first|(with_reducible refine Unf.h ?_)|((conv=>whnf);first|refine Fork.mk (fun h=>?_) (fun h=>?_)|(refine Side.mk ?_ ?_;focus (with_reducible rfl))|refine RetE.mk () trivial ?_|refine retK_r ?_|exact rfl)|fail);all_goals try (conv=>whnf);all_goals try (exfalso;omega)
end Go.Proofs.YtfljmihdeimahaaGreatDoor
namespace Go.Proofs.YtfljmihdeimahaaGreatDoor
set_option linter.all false
open Go.RowKit
def clS (c:Cl) (l:List Rq) (e:Int):Cl:=l.foldl (fun c r=>mput c (kI r.1.1) (r.1.2,e)) c
theorem clS_snoc (c:Cl) (l:List Rq) (r:Rq) (e:Int):clS c (l++[r]) e=mput (clS c l e) (kI r.1.1) (r.1.2,e):=by
 unfold clS;rw [List.foldl_append];rfl
theorem clS_len (c:Cl) (e:Int):∀ l:List Rq,(clS c l e).length≤c.length+l.length:=fun l=>by
 induction l generalizing c with
 | nil=>exact Nat.le_refl _
 | cons r l ih =>
   have h1:=ih (mput c (kI r.1.1) (r.1.2,e));have h2:=mput_len (l:=c) (a:=kI r.1.1) (b:=(r.1.2,e));show (clS (mput c (kI r.1.1) (r.1.2,e)) l e).length≤_;rw [List.length_cons];omega
abbrev Sg20:=H256×(ID16×H256)×List H256
abbrev Pst:=H256×List (List Nws)×List Int×Cl
abbrev vlR:SO:=.box 94 [.ptr 11 0,.bool false,.u32 1#32,.u32 2#32,.ptr 12 0,.bool false]
abbrev sgR (g:Sg20):SO:=signB 2 3 g.1 (eTr 1 3 g.2.1.1 g.2.1.2 g.2.2)
abbrev pO (g:Sg20) (s:H256) (es:List (List Nws)) (tk:List Int) (cl:Cl) (a b c d:Nat):List Ob:=[(0,prQ d 10),(1,vlR),(2,sgR g),(3,.box 176 [.arr8 s,.ptr 4 0,.own b,.own c,.own 8]),(4,.box 171 [.own a]),(a,.row 283 132 eNd (builtF (kvs es)).1),(b,.row 275 67 eSl (slds es)),(c,.row 269 2 ePn (peo es)),(8,nmO (peo es)),(d,.row 3 1 eI tk),(10,clO cl)]
def seaP (p:Pst) (x:Sl20):Pst:=if (sealF p.1 p.2.1 (x.2.map Prod.snd)).2=0 then (p.1,(sealF p.1 p.2.1 (x.2.map Prod.snd)).1,p.2.2.1++[x.1],clS p.2.2.2 x.2 ((sealF p.1 p.2.1 (x.2.map Prod.snd)).1.length:Int)) else p
structure PsOk (p:Pst):Prop where
 st:StOk p.2.1
 len:p.2.1.length<20
 tk:p.2.2.1.length≤1000
 cl:p.2.2.2.length≤100000
theorem sealF_err {s:H256} {es:List (List Nws)} {us:List (Bs×Bs)} (h:(sealF s es us).2≠0):(sealF s es us).1=es:=by
 unfold sealF at h ⊢
 split
 · rfl
 · split
   · rename_i h1 h2
     rw [if_neg h1,if_pos h2] at h;exact absurd rfl h
   · rfl
def pupdk_c:Ctr:={ pupd_c with kp:=true }
theorem pupdk_ok:pupdk_c.Ok Tryz.prog 108:=pupd_ok.kept fun _=>rfl
def eps2_c:Ctr where
 D:=H256×List Sld
 args:=fun _=>[.ptr 0 0]
 objs:=fun (s,ss)=>[(0,.box 176 [.arr8 s,.ptr 1 0,.own 3,.own 4,.own 5]),(3,.row 275 67 eSl ss)]
 nn:=6
 res:=fun (_,ss) _=>.int .i64 (ss.length:Int)
 out:=fun (s,ss) _=>[(0,.box 176 [.arr8 s,.ptr 1 0,.own 3,.own 4,.own 5]),(3,.row 275 67 eSl ss)]
def eps2_H:Cfg:=⟨[],[],[],[],10,6,[],[],[]⟩
theorem eps2_ok:eps2_c.Ok Tryz.prog 37:=by
 refine fn_ok eps2_H 6 rfl _ Tryz.func37 rfl rfl trivial rfl rfl (by kernel_rfl) (fun _=>nlb rfl) ?_
 rintro ⟨s,ss⟩ hp hr
 try dsimp only [eps2_c] at hp
 try simp only [eps2_c,Rng,RngL,inR,and_true,true_and] at hr
 repeat' (first|(with_reducible refine Unf.h ?_)|((conv=>whnf);first|(refine Side.mk ?_ ?_;focus (first|with_reducible rfl|(refine congrArg (SV.int _) ?_;omega)))|refine RetE.mk () trivial ?_|refine retK_r ?_|exact rfl)|fail);all_goals try (conv=>whnf);all_goals try (exfalso;omega)
def pepq_c:Ctr where
 D:=H256×List (List Nws)
 args:=fun _=>[.ptr 0 0]
 objs:=fun (s,es)=>[(0,prQ 9 10),(3,.box 176 [.arr8 s,.ptr 4 0,.own 6,.own 7,.own 8]),(6,.row 275 67 eSl (slds es))]
 nn:=11
 res:=fun (_,es) _=>.int .i64 (es.length:Int)
 out:=fun (s,es) _=>[(0,prQ 9 10),(3,.box 176 [.arr8 s,.ptr 4 0,.own 6,.own 7,.own 8]),(6,.row 275 67 eSl (slds es))]
def pepq_H:Cfg:=⟨[(37,eps2_c)],[],[],[],10,11,[],[],[]⟩
theorem pepq_ok:pepq_c.Ok Tryz.prog 15:=by
 refine fn_ok pepq_H 11 rfl _ Tryz.func15 rfl rfl ⟨eps2_ok,trivial⟩ rfl rfl (by kernel_rfl) (fun _=>nlb rfl) ?_
 rintro ⟨s,es⟩ hp hr
 try dsimp only [pepq_c] at hp
 try simp only [pepq_c,Rng,RngL,inR,and_true,true_and] at hr
 have e:=slds_len es
 repeat' (first|(with_reducible refine Unf.h ?_)|fail);all_goals try (conv=>whnf);all_goals try (exfalso;omega)
 refine CallS.mk (c:=eps2_c) ((s,slds es)) ?_
 repeat' (first|(with_reducible refine Unf.h ?_)|((conv=>whnf);first|(refine Side.mk ?_ ?_;focus (first|with_reducible rfl|exact True.intro|(refine congrArg (SV.int _) ?_;omega)))|refine RetE.mk () trivial ?_|refine Got.mk (fun _ _=>?_)|refine retK_r ?_|exact rfl)|fail);all_goals try (conv=>whnf);all_goals try (exfalso;omega)
def psea_c:Ctr where
 D:=Sg20×Pst×Sl20
 pre:=fun (_,p,x)=>PsOk p∧x.2.length≤1000∧∀ r∈x.2,RqOk r
 args:=fun (_,_,x)=>[.ptr 0 0,.int .i64 x.1,.fs 4 eRq x.2]
 objs:=fun (g,p,_)=>pO g p.1 p.2.1 p.2.2.1 p.2.2.2 5 6 7 9
 nn:=13
 res:=fun (_,p,x) _=>.int .i64 (sealF p.1 p.2.1 (x.2.map Prod.snd)).2
 out:=fun (g,p,x) _=>pO g (seaP p x).1 (seaP p x).2.1 (seaP p x).2.2.1 (seaP p x).2.2.2 13 14 15 16
 mm:=4
def psea_H:Cfg:=⟨[(108,pupdk_c),(107,eseal_c),(15,pepq_c)],[(1,[3],[5,6],(oA 0 (oA 1 (oA 2 (oB 3 (oA 4 (oD 5 (oC 6 (oA 7 .nil)))))))),[]),(8,[5,7],[3,9,11],(oA 0 (oA 1 (oA 2 (oA 4 (oB 5 (oA 6 (oB 7 (oA 8 (.alt 3 true (oD 9 (oA 10 (oC 11 .nil))) (oD 9 (oA 10 (oD 3 (oC 11 .nil))))))))))))),[2000000])],[],[],48,13,[],[],[]⟩
set_option maxHeartbeats 2000000 in
theorem psea_ok:psea_c.Ok Tryz.prog 69:=by
 refine fn_ok psea_H 13 rfl _ Tryz.func69 rfl rfl ⟨pupdk_ok,eseal_ok,pepq_ok,trivial⟩ rfl rfl (by kernel_rfl) (fun _=>nlb rfl) ?_
 rintro ⟨g,⟨s,es,tk,cl⟩,t,l⟩ hp hr
 try dsimp only [psea_c] at hp
 try simp only [psea_c,Rng,RngL,inR,and_true,true_and] at hr
 obtain ⟨⟨hst,hlen,htk,hcl⟩,hl,hrq⟩:=hp;have hst:StOk es:=hst;have hlen:es.length<20:=hlen;have htk:tk.length≤1000:=htk;have hcl:cl.length≤100000:=hcl;have hl:l.length≤1000:=hl;have hrq:∀ r∈l,RqOk r:=hrq;have hk:=mkeyI;have h1:pupdk_c.pre l:=hl;have h2:eseal_c.pre (s,es,l.map Prod.snd):=⟨hst,hlen,by simp;omega,fun u hu=>by
   obtain ⟨r,hr,rfl⟩:=List.mem_map.1 hu;have h1:=(hrq r hr).l;have h2:=(hrq r hr).v;exact ⟨by omega,by omega⟩⟩
 have hsl:=slds_len (sealF s es (l.map Prod.snd)).1;obtain ⟨hst2,hlen2⟩:StOk (sealF s es (l.map Prod.snd)).1∧(sealF s es (l.map Prod.snd)).1.length≤20:=⟨sealF_ok hst hlen,(sealF_ok hst hlen).len⟩
 repeat' (first|(with_reducible refine Unf.h ?_)|fail);all_goals try (conv=>whnf);all_goals try (exfalso;omega)
 refine CallS.mk (c:=pupdk_c) (l) ?_
 repeat' (first|(with_reducible refine Unf.h ?_)|((conv=>whnf);first|(refine Side.mk ?_ ?_;focus (first|with_reducible rfl|assumption))|refine Got.mk (fun _ _=>?_))|fail);all_goals try (conv=>whnf);all_goals try (exfalso;omega)
 refine CallS.mk (c:=eseal_c) ((s,es,l.map Prod.snd)) ?_
 by_cases he:(sealF s es (l.map Prod.snd)).2=0
 · have ef:seaP (s,es,tk,cl) (t,l)=(s,(sealF s es (l.map Prod.snd)).1,tk++[t],clS cl l ((sealF s es (l.map Prod.snd)).1.length:Int)):=if_pos he
   have hkv:∀ r∈l,eKI (kI r.1.1)=.int .i64 r.1.1:=fun r hr=>eKI_kI (hrq r hr).f0 (hrq r hr).f1
   clear hst hlen hrq
   repeat' (first|(with_reducible refine Unf.h ?_)|((conv=>whnf);first|refine Fork.mkn (fun h=>?_) (fun h=>?_)|(refine Side.mk ?_ ?_;focus (first|with_reducible rfl|assumption|(intros;(try simp only [lenS,inR,cutS,loI,hiI] at *);omega)))|refine Got.mk (fun _ _=>?_)|refine Ex.mk [_] rfl ?_)|fail);all_goals try (conv=>whnf);all_goals try (exfalso;omega)
   generalize hes2:(sealF s es (l.map Prod.snd)).1=es2 at *;refine LoopS.mk (I:=Nat) (fun i=>i≤l.length) (fun i=>[(32,.int .i64 (i:Int)),(30,.fs 4 eRq l),(31,.int .i64 (l.length:Int)),(0,.ptr 0 0),(6,.int .i64 0)]) (fun i=>pO g s es2 (tk++[t]) (clS cl (l.take i) (es2.length:Int)) 13 14 15 16) 17 (fun i=>l.length - i) 0 (Nat.zero_le _) ?_ ?_
   · have e0:clS cl (l.take 0) (es2.length:Int)=cl:=rfl
     rw [e0]
     repeat' (first|(with_reducible refine Unf.h ?_)|((conv=>whnf);first|(refine Side.mk ?_ ?_;focus (first|with_reducible rfl|(refine congrArg (SV.int _) ?_;omega)))|(with_reducible refine Unf.h ?_)|exact True.intro)|fail);all_goals try (conv=>whnf);all_goals try (exfalso;omega)
   · intro i hi
     have hi:i≤l.length:=hi;have hcl2:=clS_len cl (es2.length:Int) (l.take i);rw [List.length_take] at hcl2;rcases Nat.lt_or_ge i l.length with hil|hil
     · have hkr:=hkv (l[((i:Nat):Int).toNat]'hil) (List.getElem_mem _)
       have ets:clS cl (l.take (i+1)) (es2.length:Int)=mput (clS cl (l.take i) (es2.length:Int)) (kI (l[((i:Nat):Int).toNat]'hil).1.1) ((l[((i:Nat):Int).toNat]'hil).1.2,(es2.length:Int)):=by
         rw [List.take_succ_eq_append_getElem hil,clS_snoc];rfl
       repeat' (first|(with_reducible refine Unf.h ?_)|((conv=>whnf);first|refine Both.mk ?_ ?_|refine Both.mk ?_ ?_|refine Fork.mk (fun h=>?_) (fun h=>?_)|(refine Idx.mk ?_ ?_;focus (omega)))|fail);all_goals try (conv=>whnf);all_goals try (exfalso;omega)
       all_goals
         refine CallS.mk (c:=pepq_c) ((s,es2)) ?_
         repeat' (first|(with_reducible refine Unf.h ?_)|((conv=>whnf);first|(refine Side.mk ?_ ?_;focus (first|with_reducible rfl|exact True.intro))|refine Got.mk (fun _ _=>?_))|fail);all_goals try (conv=>whnf);all_goals try (exfalso;omega)
       all_goals
         refine UpdS.mk (kI (l[((i:Nat):Int).toNat]'hil).1.1) hkr ((l[((i:Nat):Int).toNat]'hil).1.2,(es2.length:Int)) rfl hk (Nat.lt_of_le_of_lt hcl2 (by omega)) ?_
         repeat' (first|(with_reducible first|refine Unf.h ?_|refine loopK_n ?_)|((conv=>whnf);first|(refine Side.mk ?_ ?_;focus ((intros;(try simp only [lenS,inR,cutS,loI,hiI] at *);omega)))|(with_reducible refine Unf.h ?_))|fail);all_goals try (conv=>whnf);all_goals try (exfalso;omega)
       all_goals
         refine ⟨i+1,⟨by omega,by omega⟩,?_⟩
         rw [ets]
         repeat' (first|(with_reducible refine Unf.h ?_)|((conv=>whnf);first|(refine Side.mk ?_ ?_;focus (first|with_reducible rfl|(refine congrArg (SV.int _) ?_;omega)))|(with_reducible refine Unf.h ?_)|exact True.intro)|fail);all_goals try (conv=>whnf);all_goals try (exfalso;omega)
     · have e0:l.take i=l:=List.take_of_length_le hil
       rw [e0]
       repeat' (first|(with_reducible refine Unf.h ?_)|((conv=>whnf);first|refine Fork.mk (fun h=>?_) (fun h=>?_)|(refine Side.mk ?_ ?_;focus (first|with_reducible rfl|(simp only [*,ef];done)|(dsimp only [resS,psea_c];(refine congrArg (SV.int _) ?_;omega))))|refine RetE.mk () trivial ?_|refine retK_r ?_|exact rfl)|fail);all_goals try (conv=>whnf);all_goals try (exfalso;omega)
 · have ef:seaP (s,es,tk,cl) (t,l)=(s,es,tk,cl):=if_neg he
   have ee:=sealF_err he
   repeat' (first|(with_reducible refine Unf.h ?_)|((conv=>whnf);first|refine Fork.mkn (fun h=>?_) (fun h=>?_)|(refine Side.mk ?_ ?_;focus (first|with_reducible rfl|assumption|(simp only [*,ef,ee];done)|(dsimp only [resS,psea_c];done)))|refine RetE.mk () trivial ?_|refine Got.mk (fun _ _=>?_)|refine retK_r ?_|exact rfl)|fail);all_goals try (conv=>whnf);all_goals try (exfalso;omega)
end Go.Proofs.YtfljmihdeimahaaGreatDoor
namespace Go.Proofs.YtfljmihdeimahaaGreatDoor
set_option linter.all false
open Go.RowKit
def oldB (c:Cl) (r:Rq):Bool:=match mget c (kI r.1.1) with
 | some d=>decide (r.1.2≤d.1)
 | none=>false
instance (l:List Rq):Decidable (okD l):=inferInstanceAs (Decidable (_∧_))
def okP (p:Pst) (x:Sl20):Prop:=okD x.2∧folP p.2.2.1 x.1∧p.2.1.length<8∧apaP x.2∧(∀ r∈x.2,oldB p.2.2.2 r=false)∧(sealF p.1 p.2.1 (x.2.map Prod.snd)).2=0
instance (p:Pst) (x:Sl20):Decidable (okP p x):=inferInstanceAs (Decidable (_∧_∧_∧_∧_∧_))
def stpP (p:Pst) (x:Sl20):Pst:=if okP p x then seaP p x else p
def prcl_c:Ctr where
 D:=Sg20×Pst×Sl20
 pre:=fun (_,p,x)=>PsOk p∧SlOk x
 args:=fun (_,_,x)=>[.ptr 0 0,.fs 1 eB (recB x)]
 objs:=fun (g,p,_)=>pO g p.1 p.2.1 p.2.2.1 p.2.2.2 5 6 7 9
 nn:=13
 res:=fun (_,p,x) _=>.dec (okP p x) inferInstance
 out:=fun (g,p,x) _=>pO g (stpP p x).1 (stpP p x).2.1 (stpP p x).2.2.1 (stpP p x).2.2.2 13 14 15 16
 mm:=4
def prcl_H:Cfg:=⟨[(65,dcd_c),(65,dcdX_c),(66,pfol_c),(15,pepq_c),(67,hkey_c),(68,papart_c),(69,psea_c)],[(2,[],[5,10,14,15,20],(oA 0 (oA 1 (oA 2 (oA 3 (oA 4 (oC 5 (oA 6 (oA 7 (oA 8 (oA 9 (oA 11 (oA 12 (oA 13 (.alt 10 false (oC 14 (oC 15 (oA 16 (oA 17 (oA 18 (oA 19 (oC 20 (oA 21 (oA 22 .nil))))))))) (oC 14 (oC 10 (oC 15 (oA 16 (oA 17 (oA 18 (oA 19 (oC 20 (oA 21 (oA 22 .nil)))))))))))))))))))))))),[2000000]),(7,[3,5],[6,10,11],(oA 0 (oA 1 (oA 2 (oB 3 (oA 4 (oB 5 (.alt 6 true (oA 7 (oA 8 (oA 9 (oD 10 (oC 11 (oA 12 .nil)))))) (oD 10 (oC 6 (oA 7 (oA 8 (oA 9 (oC 11 (oA 12 .nil)))))))))))))),[])],[],[],71,13,[],[],[]⟩
set_option maxHeartbeats 4000000 in
theorem prcl_ok:prcl_c.Ok Tryz.prog 36:=by
 refine fn_ok prcl_H 13 rfl _ Tryz.func36 rfl rfl ⟨dcd_ok,dcdX_ok,pfol_ok,pepq_ok,hkey_ok,papart_ok,psea_ok,trivial⟩ rfl rfl (by kernel_rfl) (fun _=>nlb rfl) ?_
 rintro ⟨g,⟨s,es,tk,cl⟩,x⟩ hp hr
 try dsimp only [prcl_c] at hp
 try simp only [prcl_c,Rng,RngL,inR,and_true,true_and] at hr
 obtain ⟨⟨hst,hlen,htk,hcl⟩,hx⟩:=hp;have hst:StOk es:=hst;have hlen:es.length<20:=hlen;have htk:tk.length≤1000:=htk;have hcl:cl.length≤100000:=hcl;have hk:=mkeyI;have hz:=zeroDn
 by_cases hd:okD x.2
 · have h1:dcd_c.pre x:=⟨hx,hd⟩
   have hl16:x.2.length≤16:=hd.1;have h2:pfol_c.pre (tk,x.1):=htk;have h3:papart_c.pre x.2:=by show x.2.length≤1000;omega
   by_cases hf:folP tk x.1
   · by_cases h8:es.length<8
     · by_cases ha:apaP x.2
       · skip
         repeat' (first|(with_reducible refine Unf.h ?_)|fail);all_goals try (conv=>whnf);all_goals try (exfalso;omega)
         refine Or2.l (CallS.mk (c:=dcd_c) (x) ?_)
         repeat' (first|(with_reducible refine Unf.h ?_)|((conv=>whnf);first|(refine Side.mk ?_ ?_;focus (first|with_reducible rfl|assumption))|refine Got.mk (fun _ _=>?_))|fail);all_goals try (conv=>whnf);all_goals try (exfalso;omega)
         refine CallS.mk (c:=pfol_c) ((tk,x.1)) ?_
         repeat' (first|(with_reducible refine Unf.h ?_)|((conv=>whnf);first|refine Both.mk ?_ ?_|refine Both.mk ?_ ?_|refine Fork.mkn (fun h=>?_) (fun h=>?_)|(refine Side.mk ?_ ?_;focus (first|with_reducible rfl|assumption))|refine RetE.mk () trivial ?_|refine Got.mk (fun _ _=>?_)|refine retK_r ?_)|fail);all_goals try (conv=>whnf);all_goals try (exfalso;omega)
         all_goals try (exact absurd hf (by assumption))
         all_goals
           refine CallS.mk (c:=pepq_c) ((s,es)) ?_
           repeat' (first|(with_reducible refine Unf.h ?_)|((conv=>whnf);first|(refine Side.mk ?_ ?_;focus (first|with_reducible rfl|exact True.intro))|refine Got.mk (fun _ _=>?_))|fail);all_goals try (conv=>whnf);all_goals try (exfalso;omega)
         all_goals
           refine CallS.mk (c:=hkey_c) (((3,g.1),(3,g.2.1.1,g.2.1.2),g.2.2)) ?_
           repeat' (first|(with_reducible refine Unf.h ?_)|((conv=>whnf);first|refine Fork.mk (fun h=>?_) (fun h=>?_)|(refine Side.mk ?_ ?_;focus (first|with_reducible rfl|exact True.intro))|refine Got.mk (fun _ _=>?_))|fail);all_goals try (conv=>whnf);all_goals try (exfalso;omega)
         all_goals
           refine CallS.mk (c:=papart_c) (x.2) ?_
           repeat' (first|(with_reducible refine Unf.h ?_)|((conv=>whnf);first|refine Fork.mkn (fun h=>?_) (fun h=>?_)|(refine Side.mk ?_ ?_;focus (first|with_reducible rfl|assumption))|refine RetE.mk () trivial ?_|refine Got.mk (fun _ _=>?_)|refine retK_r ?_)|fail);all_goals try (conv=>whnf);all_goals try (exfalso;omega)
         all_goals try (exact absurd ha (by assumption))
         all_goals
           refine LoopS.mk (I:=Nat) (fun i=>i≤x.2.length∧∀ r∈x.2.take i,oldB cl r=false) (fun i=>[(43,.int .i64 (i:Int)),(41,.fs 4 eRq x.2),(42,.int .i64 (x.2.length:Int)),(0,.ptr 0 0),(5,.int .i64 x.1),(6,.fs 4 eRq x.2),(4,.bool false)]) (fun _=>pO g s es tk cl 5 6 7 9) 13 (fun i=>x.2.length - i) 0 ⟨Nat.zero_le _,fun r hr=>by simp at hr⟩ ?_ ?_
           · repeat' (first|(with_reducible refine Unf.h ?_)|((conv=>whnf);first|(refine Side.mk ?_ ?_;focus (first|with_reducible rfl|(refine congrArg (SV.int _) ?_;omega)))|(with_reducible refine Unf.h ?_)|exact True.intro)|fail);all_goals try (conv=>whnf);all_goals try (exfalso;omega)
           · rintro i ⟨hi,hold⟩
             have hi:i≤x.2.length:=hi;have hold:∀ r∈x.2.take i,oldB cl r=false:=hold;rcases Nat.lt_or_ge i x.2.length with hil|hil
             · have hrm:(x.2[((i:Nat):Int).toNat]'hil)∈x.2:=List.getElem_mem _
               have hrq:=hx.r _ hrm;have hkr:=eKI_kI hrq.f0 hrq.f1;have hnx:oldB cl (x.2[((i:Nat):Int).toNat]'hil)=false→∀ r∈x.2.take (i+1),oldB cl r=false:=fun ho r hr=>by
                 rw [List.take_succ_eq_append_getElem hil] at hr;rcases List.mem_append.1 hr with hr|hr
                 · exact hold r hr
                 · obtain rfl:=List.mem_singleton.1 hr;exact ho
               have hoe:oldB cl (x.2[((i:Nat):Int).toNat]'hil)=(match mget cl (kI (x.2[((i:Nat):Int).toNat]'hil).1.1) with|some d=>decide ((x.2[((i:Nat):Int).toNat]'hil).1.2≤d.1)|none=>false):=rfl
               repeat' (first|(with_reducible refine Unf.h ?_)|((conv=>whnf);first|refine Both.mk ?_ ?_|refine Both.mk ?_ ?_|refine Fork.mk (fun h=>?_) (fun h=>?_)|(refine Idx.mk ?_ ?_;focus (omega)))|fail);all_goals try (conv=>whnf);all_goals try (exfalso;omega)
               all_goals
                 refine LookS.mk (kI (x.2[((i:Nat):Int).toNat]'hil).1.1) hkr hk _ hz ⟨rfl,fun _=>rfl⟩ (fun b hb=>?_) (fun hb=>?_)
                 · rw [hb] at hoe
                   by_cases hle:(x.2[((i:Nat):Int).toNat]'hil).1.2≤b.1
                   · have hno:¬ okP (s,es,tk,cl) x:=fun h=>by
                       have h1:=h.2.2.2.2.1 _ hrm;have h1:oldB cl (x.2[((i:Nat):Int).toNat]'hil)=false:=h1;rw [hoe] at h1;have h2:decide ((x.2[((i:Nat):Int).toNat]'hil).1.2≤b.1)=false:=h1;rw [decide_eq_true hle] at h2;cases h2
                     have ef:stpP (s,es,tk,cl) x=(s,es,tk,cl):=if_neg hno
                     repeat' (first|(with_reducible refine Unf.h ?_)|((conv=>whnf);first|refine Fork.mk (fun h=>?_) (fun h=>?_)|(refine Side.mk ?_ ?_;focus (first|with_reducible rfl|(simp only [*,ef];done)|(simp [*,ef];done)))|refine RetE.mk () trivial ?_|(with_reducible refine Unf.h ?_)|refine retK_r ?_|exact rfl)|fail);all_goals try (conv=>whnf);all_goals try (exfalso;omega)
                   · repeat' (first|(with_reducible first|refine Unf.h ?_|refine loopK_n ?_)|((conv=>whnf);first|refine Fork.mk (fun h=>?_) (fun h=>?_)|(refine Side.mk ?_ ?_;focus ((intros;(try simp only [lenS,inR,cutS,loI,hiI] at *);omega)))|(with_reducible refine Unf.h ?_))|fail);all_goals try (conv=>whnf);all_goals try (exfalso;omega)
                     refine ⟨i+1,⟨by omega,by omega,hnx (hoe.trans (decide_eq_false hle))⟩,?_⟩
                     repeat' (first|(with_reducible refine Unf.h ?_)|((conv=>whnf);first|(refine Side.mk ?_ ?_;focus (first|with_reducible rfl|(refine congrArg (SV.int _) ?_;omega)))|(with_reducible refine Unf.h ?_)|exact True.intro)|fail);all_goals try (conv=>whnf);all_goals try (exfalso;omega)
                 · rw [hb] at hoe
                   repeat' (first|(with_reducible first|refine Unf.h ?_|refine loopK_n ?_)|((conv=>whnf);first|(refine Side.mk ?_ ?_;focus ((intros;(try simp only [lenS,inR,cutS,loI,hiI] at *);omega)))|(with_reducible refine Unf.h ?_))|fail);all_goals try (conv=>whnf);all_goals try (exfalso;omega)
                   refine ⟨i+1,⟨by omega,by omega,hnx hoe⟩,?_⟩
                   repeat' (first|(with_reducible refine Unf.h ?_)|((conv=>whnf);first|(refine Side.mk ?_ ?_;focus (first|with_reducible rfl|(refine congrArg (SV.int _) ?_;omega)))|(with_reducible refine Unf.h ?_)|exact True.intro)|fail);all_goals try (conv=>whnf);all_goals try (exfalso;omega)
             · have e0:x.2.take i=x.2:=List.take_of_length_le hil
               rw [e0] at hold;have hps:psea_c.pre (g,(s,es,tk,cl),x):=⟨⟨hst,hlen,htk,hcl⟩,by show x.2.length≤1000;omega,hx.r⟩
               have hok:okP (s,es,tk,cl) x↔(sealF s es (x.2.map Prod.snd)).2=0:=⟨fun h=>h.2.2.2.2.2,fun h=>⟨hd,hf,h8,ha,hold,h⟩⟩
               have ef:stpP (s,es,tk,cl) x=seaP (s,es,tk,cl) x:=by
                 by_cases he:(sealF s es (x.2.map Prod.snd)).2=0
                 · exact if_pos (hok.2 he)
                 · rw [show stpP (s,es,tk,cl) x=(s,es,tk,cl) from if_neg fun h=>he (hok.1 h)]
                   exact (if_neg he).symm
               repeat' (first|(with_reducible refine Unf.h ?_)|((conv=>whnf);refine Fork.mk (fun h=>?_) (fun h=>?_))|fail);all_goals try (conv=>whnf);all_goals try (exfalso;omega)
               refine CallS.mk (c:=psea_c) ((g,(s,es,tk,cl),x)) ?_
               repeat' (first|(with_reducible refine Unf.h ?_)|((conv=>whnf);first|(refine Side.mk ?_ ?_;focus (first|with_reducible rfl|assumption|(simp only [*,ef];done)))|refine RetE.mk () trivial ?_|refine Got.mk (fun _ _=>?_)|refine retK_r ?_|exact rfl)|fail);all_goals try (conv=>whnf);all_goals try (exfalso;omega)
       · have hno:¬ okP (s,es,tk,cl) x:=fun h=>ha h.2.2.2.1
         have ef:stpP (s,es,tk,cl) x=(s,es,tk,cl):=if_neg hno
         repeat' (first|(with_reducible refine Unf.h ?_)|fail);all_goals try (conv=>whnf);all_goals try (exfalso;omega)
         refine Or2.l (CallS.mk (c:=dcd_c) (x) ?_)
         repeat' (first|(with_reducible refine Unf.h ?_)|((conv=>whnf);first|(refine Side.mk ?_ ?_;focus (first|with_reducible rfl|assumption))|refine Got.mk (fun _ _=>?_))|fail);all_goals try (conv=>whnf);all_goals try (exfalso;omega)
         refine CallS.mk (c:=pfol_c) ((tk,x.1)) ?_
         repeat' (first|(with_reducible refine Unf.h ?_)|((conv=>whnf);first|refine Both.mk ?_ ?_|refine Both.mk ?_ ?_|refine Fork.mkn (fun h=>?_) (fun h=>?_)|(refine Side.mk ?_ ?_;focus (first|with_reducible rfl|assumption|(simp only [*,ef];done)|(simp [*,ef];done)))|refine RetE.mk () trivial ?_|refine Got.mk (fun _ _=>?_)|refine retK_r ?_|exact rfl)|fail);all_goals try (conv=>whnf);all_goals try (exfalso;omega)
         all_goals try (exact absurd hf (by assumption))
         all_goals
           refine CallS.mk (c:=pepq_c) ((s,es)) ?_
           repeat' (first|(with_reducible refine Unf.h ?_)|((conv=>whnf);first|(refine Side.mk ?_ ?_;focus (first|with_reducible rfl|exact True.intro))|refine Got.mk (fun _ _=>?_))|fail);all_goals try (conv=>whnf);all_goals try (exfalso;omega)
         all_goals
           refine CallS.mk (c:=hkey_c) (((3,g.1),(3,g.2.1.1,g.2.1.2),g.2.2)) ?_
           repeat' (first|(with_reducible refine Unf.h ?_)|((conv=>whnf);first|refine Fork.mk (fun h=>?_) (fun h=>?_)|(refine Side.mk ?_ ?_;focus (first|with_reducible rfl|exact True.intro))|refine Got.mk (fun _ _=>?_))|fail);all_goals try (conv=>whnf);all_goals try (exfalso;omega)
         all_goals
           refine CallS.mk (c:=papart_c) (x.2) ?_
           repeat' (first|(with_reducible refine Unf.h ?_)|((conv=>whnf);first|refine Fork.mkn (fun h=>?_) (fun h=>?_)|(refine Side.mk ?_ ?_;focus (first|with_reducible rfl|assumption|(simp only [*,ef];done)|(simp [*,ef];done)))|refine RetE.mk () trivial ?_|refine Got.mk (fun _ _=>?_)|refine retK_r ?_|exact rfl)|fail);all_goals try (conv=>whnf);all_goals try (exfalso;omega)
         all_goals try (exact absurd (by assumption) ha)
     · have hno:¬ okP (s,es,tk,cl) x:=fun h=>h8 h.2.2.1
       have ef:stpP (s,es,tk,cl) x=(s,es,tk,cl):=if_neg hno
       repeat' (first|(with_reducible refine Unf.h ?_)|fail);all_goals try (conv=>whnf);all_goals try (exfalso;omega)
       refine Or2.l (CallS.mk (c:=dcd_c) (x) ?_)
       repeat' (first|(with_reducible refine Unf.h ?_)|((conv=>whnf);first|(refine Side.mk ?_ ?_;focus (first|with_reducible rfl|assumption))|refine Got.mk (fun _ _=>?_))|fail);all_goals try (conv=>whnf);all_goals try (exfalso;omega)
       refine CallS.mk (c:=pfol_c) ((tk,x.1)) ?_
       repeat' (first|(with_reducible refine Unf.h ?_)|((conv=>whnf);first|refine Both.mk ?_ ?_|refine Both.mk ?_ ?_|refine Fork.mkn (fun h=>?_) (fun h=>?_)|(refine Side.mk ?_ ?_;focus (first|with_reducible rfl|assumption|(simp only [*,ef];done)|(simp [*,ef];done)))|refine RetE.mk () trivial ?_|refine Got.mk (fun _ _=>?_)|refine retK_r ?_|exact rfl)|fail);all_goals try (conv=>whnf);all_goals try (exfalso;omega)
       all_goals try (exact absurd hf (by assumption))
       all_goals
         refine CallS.mk (c:=pepq_c) ((s,es)) ?_
         repeat' (first|(with_reducible refine Unf.h ?_)|((conv=>whnf);first|(refine Side.mk ?_ ?_;focus (first|with_reducible rfl|exact True.intro))|refine Got.mk (fun _ _=>?_))|fail);all_goals try (conv=>whnf);all_goals try (exfalso;omega)
       all_goals
         refine CallS.mk (c:=hkey_c) (((3,g.1),(3,g.2.1.1,g.2.1.2),g.2.2)) ?_
         repeat' (first|(with_reducible refine Unf.h ?_)|((conv=>whnf);first|refine Fork.mk (fun h=>?_) (fun h=>?_)|(refine Side.mk ?_ ?_;focus (first|with_reducible rfl|exact True.intro|(simp only [*,ef];done)|(simp [*,ef];done)))|refine RetE.mk () trivial ?_|refine Got.mk (fun _ _=>?_)|refine retK_r ?_|exact rfl)|fail);all_goals try (conv=>whnf);all_goals try (exfalso;omega)
   · have hno:¬ okP (s,es,tk,cl) x:=fun h=>hf h.2.1
     have ef:stpP (s,es,tk,cl) x=(s,es,tk,cl):=if_neg hno
     repeat' (first|(with_reducible refine Unf.h ?_)|fail);all_goals try (conv=>whnf);all_goals try (exfalso;omega)
     refine Or2.l (CallS.mk (c:=dcd_c) (x) ?_)
     repeat' (first|(with_reducible refine Unf.h ?_)|((conv=>whnf);first|(refine Side.mk ?_ ?_;focus (first|with_reducible rfl|assumption))|refine Got.mk (fun _ _=>?_))|fail);all_goals try (conv=>whnf);all_goals try (exfalso;omega)
     refine CallS.mk (c:=pfol_c) ((tk,x.1)) ?_
     repeat' (first|(with_reducible refine Unf.h ?_)|((conv=>whnf);first|refine Both.mk ?_ ?_|refine Both.mk ?_ ?_|refine Fork.mkn (fun h=>?_) (fun h=>?_)|(refine Side.mk ?_ ?_;focus (first|with_reducible rfl|assumption|(simp only [*,ef];done)|(simp [*,ef];done)))|refine RetE.mk () trivial ?_|refine Got.mk (fun _ _=>?_)|refine retK_r ?_|exact rfl)|fail);all_goals try (conv=>whnf);all_goals try (exfalso;omega)
     all_goals try (exact absurd (by assumption) hf)
 · have h1:dcdX_c.pre x:=⟨hx,hd⟩
   have hno:¬ okP (s,es,tk,cl) x:=fun h=>hd h.1
   have ef:stpP (s,es,tk,cl) x=(s,es,tk,cl):=if_neg hno
   repeat' (first|(with_reducible refine Unf.h ?_)|fail);all_goals try (conv=>whnf);all_goals try (exfalso;omega)
   refine Or2.r (CallS.mk (c:=dcdX_c) (x) ?_)
   repeat' (first|(with_reducible refine Unf.h ?_)|((conv=>whnf);first|refine Both.mk ?_ ?_|refine Both.mk ?_ ?_|(refine Side.mk ?_ ?_;focus (first|with_reducible rfl|assumption|(simp only [*,ef];done)|(simp [*,ef];done)))|refine RetE.mk () trivial ?_|refine Got.mk (fun _ _=>?_)|refine retK_r ?_|exact rfl)|fail);all_goals try (conv=>whnf);all_goals try (exfalso;omega)
end Go.Proofs.YtfljmihdeimahaaGreatDoor
namespace Go.Proofs.YtfljmihdeimahaaGreatDoor
set_option linter.all false
open Go.RowKit
theorem mkF_nat (g:BitVec 32) (p:Int):(mkF g p).toNat=g.toNat*2^32+(BitVec.ofInt 32 p).toNat:=by
 unfold mkF;rw [BitVec.toNat_or,BitVec.toNat_shiftLeft,BitVec.toNat_setWidth,BitVec.toNat_setWidth];have h1:=g.isLt;have h2:=(BitVec.ofInt 32 p).isLt;have e0:(32#64).toNat=32:=rfl;have e1:g.toNat % 2^64=g.toNat:=Nat.mod_eq_of_lt (by omega)
 have e2:(BitVec.ofInt 32 p).toNat % 2^64=(BitVec.ofInt 32 p).toNat:=Nat.mod_eq_of_lt (by omega)
 have e3:g.toNat <<< 32 % 2^64=g.toNat <<< 32:=Nat.mod_eq_of_lt (by rw [Nat.shiftLeft_eq];omega)
 rw [e0,e1,e2,e3,← Nat.shiftLeft_add_eq_or_of_lt h2,Nat.shiftLeft_eq]
theorem mkF_gen (g:BitVec 32) (p:Int):(mkF g p >>> (32#64).toNat).setWidth 32=g:=by
 apply BitVec.eq_of_toNat_eq
 rw [BitVec.toNat_setWidth,BitVec.toNat_ushiftRight,mkF_nat,Nat.shiftRight_eq_div_pow];have h1:=g.isLt;have h2:=(BitVec.ofInt 32 p).isLt;have e0:(32#64).toNat=32:=rfl;rw [e0];omega
theorem mkF_place {g:BitVec 32} {p:Int} (h0:0≤p) (h:p<4294967296):(((mkF g p).setWidth 32).toNat:Int)=p:=by
 rw [BitVec.toNat_setWidth,mkF_nat,BitVec.toNat_ofInt];have h1:=g.isLt;omega
def qz_c:Ctr where
 D:=Nat×Bs
 pre:=fun (n,r)=>n≤1000∧r.length≤90000
 args:=fun (n,_)=>[.ptr 0 0,.int .i64 (n:Int)]
 objs:=fun (n,r)=>[(0,rdO (List.replicate n 0#8++r))]
 nn:=1
 res:=fun (n,_) _=>.fs 1 eB (List.replicate n 0#8)
 out:=fun (_,r) _=>[(0,rdO r)]
def qz_H:Cfg:=⟨[(110,rtk_c)],[],[],[],8,1,[],[],[]⟩
theorem qz_ok:qz_c.Ok Tryz.prog 77:=by
 refine fn_ok qz_H 1 rfl _ Tryz.func77 rfl rfl ⟨rtk_ok,trivial⟩ rfl rfl (by kernel_rfl) (fun _=>nlb rfl) ?_
 rintro ⟨n,r⟩ hp hr
 try dsimp only [qz_c] at hp
 try simp only [qz_c,Rng,RngL,inR,and_true,true_and] at hr
 obtain ⟨hp1,hp2⟩:=hp;have hp1:n≤1000:=hp1;have hp2:r.length≤90000:=hp2;have hpn:rtk_c.pre (List.replicate n 0#8++r,n):=⟨by simp,by simp;omega⟩
 have et:List.take n (List.replicate n 0#8++r)=List.replicate n 0#8:=List.take_left' (zl n);have ed:List.drop n (List.replicate n 0#8++r)=r:=List.drop_left' (zl n)
 repeat' (first|(with_reducible refine Unf.h ?_)|fail);all_goals try (conv=>whnf);all_goals try (exfalso;omega)
 refine CallS.mk (c:=rtk_c) ((List.replicate n 0#8++r,n)) ?_
 repeat' (first|(with_reducible refine Unf.h ?_)|((conv=>whnf);first|(refine Side.mk ?_ ?_;focus (first|with_reducible rfl|assumption|(simp only [*,et,ed];done)))|refine RetE.mk () trivial ?_|refine Got.mk (fun _ _=>?_)|refine retK_r ?_|exact rfl)|fail);all_goals try (conv=>whnf);all_goals try (exfalso;omega)
theorem pgF_nest (g:BitVec 32) (p k:Int) (b:Bs):pgF g p k b=beN 8 (mkF g p)++(beN 1 (BitVec.ofInt 64 k)++(beN 1 (BitVec.ofInt 64 (b.length:Int))++(b++(List.replicate (110 - b.length) 0#8++(beN 8 (mkF g p)++[]))))):=by
 unfold pgF;simp only [List.append_assoc,List.nil_append,List.append_nil]
def wpd_c:Ctr where
 D:=(BitVec 32×Nat×Int×Bs)×BitVec 32
 pre:=fun ((g,p,k,b),l)=>p≤100000∧0≤k∧k≤3∧b.length≤110∧(b.length=110∨2≤k)∧l.toNat≤g.toNat
 args:=fun ((g,p,k,b),l)=>[.fs 1 eB (pgF g (p:Int) k b),.int .i64 (p:Int),.u32 l]
 res:=fun ((g,p,k,b),_) _=>.tup [.agg (ePt g (p:Int) k b),.bool true]
def wpd_H:Cfg:=⟨[(41,rnew_c),(74,qu64_c),(86,qu8_c),(77,qpl_c),(77,qz_c),(44,rdn_c)],[(16,[0,7,12,18],[22],(oB 0 (oA 1 (oA 2 (oA 3 (oA 4 (oA 5 (oA 6 (oB 7 (oA 8 (oA 9 (oA 10 (oA 11 (oB 12 (oA 13 (oA 14 (oA 15 (oA 16 (oA 17 (oB 18 (oA 19 (oA 20 (oA 21 (oD 22 (oA 23 .nil)))))))))))))))))))))))),[6])],[],[],89,0,[],[],[]⟩
set_option maxHeartbeats 2000000 in
theorem wpd_ok:wpd_c.Ok Tryz.prog 48:=by
 refine fn_ok wpd_H 0 rfl _ Tryz.func48 rfl rfl ⟨rnew_ok,qu64_ok,qu8_ok,qpl_ok,qz_ok,rdn_ok,trivial⟩ rfl rfl (by kernel_rfl) (fun _=>nlb rfl) ?_
 rintro ⟨⟨g,p,k,b⟩,l⟩ hp hr
 try dsimp only [wpd_c] at hp
 try simp only [wpd_c,Rng,RngL,inR,and_true,true_and] at hr
 obtain ⟨hp1,hp2,hp3,hp4,hp5,hp6⟩:=hp;have hp1:p≤100000:=hp1;have hp2:0≤k:=hp2;have hp3:k≤3:=hp3;have hp4:b.length≤110:=hp4;have hp5:b.length=110∨2≤k:=hp5;have hp6:l.toNat≤g.toNat:=hp6;have hn:=pgF_nest g (p:Int) k b;have ek:(110:Int) - (b.length:Int)=((110 - b.length:Nat):Int):=by omega
 have hm:110 - b.length≤110:=by omega
 have hg:=mkF_gen g (p:Int);have hpl:=mkF_place (g:=g) (p:=(p:Int)) (by omega) (by omega)
 have hlen:=pgF_len g (p:Int) k hp4;obtain ⟨z,hz⟩:∃ z,z=List.replicate (110 - b.length) 0#8++(beN 8 (mkF g (p:Int))++[]):=⟨_,rfl⟩;have hzl:z.length≤118:=by rw [hz,List.length_append,zl,beL];simp only [List.length_nil];omega
 have h2:qu64_c.pre (mkF g (p:Int),beN 1 (BitVec.ofInt 64 k)++(beN 1 (BitVec.ofInt 64 (b.length:Int))++(b++z))):=by
   show (beN 1 (BitVec.ofInt 64 k)++(beN 1 (BitVec.ofInt 64 (b.length:Int))++(b++z))).length≤900000;rw [beL,beL,List.length_append];omega
 have h3:qu8_c.pre (k,beN 1 (BitVec.ofInt 64 (b.length:Int))++(b++z)):=⟨hp2,by omega,by rw [beL,List.length_append];omega⟩
 have h4:qu8_c.pre ((b.length:Int),b++z):=⟨by omega,by omega,by rw [List.length_append];omega⟩
 have h5:qpl_c.pre (b,z):=⟨by show b.length≤900000;omega,by show z.length≤90000;omega⟩
 have h6:qz_c.pre (110 - b.length,beN 8 (mkF g (p:Int))++[]):=⟨by show 110 - b.length≤1000;omega,by rw [beL];simp⟩
 have h7:qu64_c.pre (mkF g (p:Int),[]):=show 0≤900000 by omega
 rw [← hz] at hn;generalize hmm:110 - b.length=m at *;have h1:rnew_c.pre (beN 8 (mkF g (p:Int))++(beN 1 (BitVec.ofInt 64 k)++(beN 1 (BitVec.ofInt 64 (b.length:Int))++(b++z)))):=by
   show (beN 8 (mkF g (p:Int))++(beN 1 (BitVec.ofInt 64 k)++(beN 1 (BitVec.ofInt 64 (b.length:Int))++(b++z)))).length≤1000000;rw [beL,beL,beL,List.length_append];omega
 repeat' (first|(with_reducible refine Unf.h ?_)|fail);all_goals try (conv=>whnf);all_goals try (exfalso;omega)
 rw [hn];refine CallS.mk (c:=rnew_c) ((beN 8 (mkF g (p:Int))++(beN 1 (BitVec.ofInt 64 k)++(beN 1 (BitVec.ofInt 64 (b.length:Int))++(b++z))))) ?_
 repeat' (first|(with_reducible refine Unf.h ?_)|((conv=>whnf);first|(refine Side.mk ?_ ?_;focus (first|with_reducible rfl|assumption))|refine Got.mk (fun _ _=>?_))|fail);all_goals try (conv=>whnf);all_goals try (exfalso;omega)
 refine CallS.mk (c:=qu64_c) ((mkF g (p:Int),beN 1 (BitVec.ofInt 64 k)++(beN 1 (BitVec.ofInt 64 (b.length:Int))++(b++z)))) ?_
 repeat' (first|(with_reducible refine Unf.h ?_)|((conv=>whnf);first|(refine Side.mk ?_ ?_;focus (first|with_reducible rfl|assumption))|refine Got.mk (fun _ _=>?_))|fail);all_goals try (conv=>whnf);all_goals try (exfalso;omega)
 refine CallS.mk (c:=qu8_c) ((k,beN 1 (BitVec.ofInt 64 (b.length:Int))++(b++z))) ?_
 repeat' (first|(with_reducible refine Unf.h ?_)|((conv=>whnf);first|(refine Side.mk ?_ ?_;focus (first|with_reducible rfl|assumption))|refine Got.mk (fun _ _=>?_))|fail);all_goals try (conv=>whnf);all_goals try (exfalso;omega)
 refine CallS.mk (c:=qu8_c) (((b.length:Int),b++z)) ?_
 repeat' (first|(with_reducible refine Unf.h ?_)|((conv=>whnf);first|refine Fork.mk (fun h=>?_) (fun h=>?_)|(refine Side.mk ?_ ?_;focus (first|with_reducible rfl|assumption))|refine Got.mk (fun _ _=>?_))|fail);all_goals try (conv=>whnf);all_goals try (exfalso;omega)
 refine Or2.l (CallS.mk (c:=qpl_c) ((b,z)) ?_)
 repeat' (first|(with_reducible refine Unf.h ?_)|((conv=>whnf);first|(refine Side.mk ?_ ?_;focus (first|with_reducible rfl|assumption|(intros;(try simp only [lenS,inR,cutS,loI,hiI,hg,hpl] at *);omega)))|refine Got.mk (fun _ _=>?_))|fail);all_goals try (conv=>whnf);all_goals try (exfalso;omega)
 rw [ek,hz];refine Or2.r (CallS.mk (c:=qz_c) ((m,beN 8 (mkF g (p:Int))++[])) ?_)
 repeat' (first|(with_reducible refine Unf.h ?_)|((conv=>whnf);first|(refine Side.mk ?_ ?_;focus (first|with_reducible rfl|assumption))|refine Got.mk (fun _ _=>?_))|fail);all_goals try (conv=>whnf);all_goals try (exfalso;omega)
 have hl:(List.replicate m 0#8).length=m:=zl _;refine LoopS.autoN (I:=Nat) (fun i=>i≤m) (fun i=>[(43,.int .i64 (i:Int))]) (fun _=>[(0,.box 139 [.u32 0#32,.int .i64 0,.int .i64 0,.nils]),(1,rdO (beN 8 (mkF g (p:Int))++[])),(2,.box 139 [.u32 g,.int .i64 (p:Int),.int .i64 k,.fs 1 eB b])]) 3 (fun i=>m - i) 0 (Nat.zero_le _) ?_ ?_
 · repeat' (first|(with_reducible refine Unf.h ?_)|((conv=>whnf);first|(refine Side.mk ?_ ?_;focus (first|with_reducible rfl|(refine congrArg (SV.int _) ?_;omega)|(simp only [*,hg,hpl];done)))|(with_reducible refine Unf.h ?_)|exact True.intro)|fail);all_goals try (conv=>whnf);all_goals try (exfalso;omega)
 · intro i hi
   have hi:i≤m:=hi;rcases Nat.lt_or_ge i m with h|h
   · have hz0:(List.replicate m 0#8)[((i:Nat):Int).toNat]'(by rw [hl];omega)=0#8:=List.getElem_replicate ..
     repeat' (first|(with_reducible first|refine Unf.h ?_|refine loopK_n ?_)|((conv=>whnf);first|refine Fork.mkn (fun h=>?_) (fun h=>?_)|refine Fork.mk (fun h=>?_) (fun h=>?_)|(refine Side.mk ?_ ?_;focus ((intros;(try simp only [lenS,inR,cutS,loI,hiI] at *);omega)))|(refine Idx.mk ?_ ?_;focus (omega))|refine RetE.mk () trivial ?_|refine retK_r ?_)|fail);all_goals try (conv=>whnf);all_goals try (exfalso;omega)
     all_goals try (exact absurd hz0 (by assumption))
     all_goals
       refine ⟨i+1,⟨by omega,by omega⟩,?_⟩
       repeat' (first|(with_reducible refine Unf.h ?_)|((conv=>whnf);first|(refine Side.mk ?_ ?_;focus (first|with_reducible rfl|(refine congrArg (SV.int _) ?_;omega)))|(with_reducible refine Unf.h ?_)|exact True.intro)|fail);all_goals try (conv=>whnf);all_goals try (exfalso;omega)
   · repeat' (first|(with_reducible refine Unf.h ?_)|((conv=>whnf);refine Fork.mk (fun h=>?_) (fun h=>?_))|fail);all_goals try (conv=>whnf);all_goals try (exfalso;omega)
     refine CallS.mk (c:=qu64_c) ((mkF g (p:Int),([]:Bs))) ?_
     repeat' (first|(with_reducible refine Unf.h ?_)|((conv=>whnf);first|refine Fork.mk (fun h=>?_) (fun h=>?_)|(refine Side.mk ?_ ?_;focus (first|with_reducible rfl|assumption|omega))|refine RetE.mk () trivial ?_|refine Got.mk (fun _ _=>?_)|refine retK_r ?_)|fail);all_goals try (conv=>whnf);all_goals try (exfalso;omega)
     all_goals try (exact absurd rfl (by assumption))
     all_goals
       refine CallS.mk (c:=rdn_c) (([]:Bs)) ?_
       repeat' (first|(with_reducible refine Unf.h ?_)|((conv=>whnf);first|refine Fork.mkn (fun h=>?_) (fun h=>?_)|refine Fork.mk (fun h=>?_) (fun h=>?_)|(refine Side.mk ?_ ?_;focus (first|with_reducible rfl|exact True.intro|omega|exact dF (by omega)|(simp [*];done)))|refine RetE.mk () trivial ?_|refine Got.mk (fun _ _=>?_)|refine retK_r ?_|exact rfl)|fail);all_goals try (conv=>whnf);all_goals try (exfalso;omega)
     all_goals
       exfalso
       have hk:k=2∨k=3:=by omega
       rcases hk with rfl|rfl
       all_goals exact absurd (by assumption) (by decide)
end Go.Proofs.YtfljmihdeimahaaGreatDoor
namespace Go.Proofs.YtfljmihdeimahaaGreatDoor
set_option linter.all false
open Go.RowKit
theorem encS_nest (s:BitVec 64) (v:Bs):encS s v=beN 8 s++(strB v++(List.replicate (110 - v.length) 0#8++(beN 8 s++[]))):=by
 unfold encS;simp only [List.append_assoc,List.append_nil]
def sdc_c:Ctr where
 D:=BitVec 64×Bs
 pre:=fun (s,v)=>s≠0#64∧v.length≤110
 args:=fun (s,v)=>[.fs 1 eB (encS s v)]
 res:=fun (s,v) _=>.tup [.u64 s,.fs 1 eB v,.bool true]
def sdc_H:Cfg:=⟨[(41,rnew_c),(74,qu64_c),(75,qst_c),(76,rfl_c),(77,qz_c),(44,rdn_c)],[],[],[],35,0,[],[],[]⟩
set_option maxHeartbeats 2000000 in
theorem sdc_ok:sdc_c.Ok Tryz.prog 40:=by
 refine fn_ok sdc_H 0 rfl _ Tryz.func40 rfl rfl ⟨rnew_ok,qu64_ok,qst_ok,rfl_ok,qz_ok,rdn_ok,trivial⟩ rfl rfl (by kernel_rfl) (fun _=>nlb rfl) ?_
 rintro ⟨s,v⟩ hp hr
 try dsimp only [sdc_c] at hp
 try simp only [sdc_c,Rng,RngL,inR,and_true,true_and] at hr
 obtain ⟨hp1,hp2⟩:=hp;have hp1:s≠0#64:=hp1;have hp2:v.length≤110:=hp2;have hn:=encS_nest s v;have hlen:=encS_len s hp2;have ek:(110:Int) - (v.length:Int)=((110 - v.length:Nat):Int):=by omega
 have hm:110 - v.length≤110:=by omega
 obtain ⟨z,hz⟩:∃ z,z=List.replicate (110 - v.length) 0#8++(beN 8 s++[]):=⟨_,rfl⟩;have hzl:z.length≤118:=by rw [hz,List.length_append,zl,beL];simp only [List.length_nil];omega
 have hsl:(strB v++z).length≤300:=by unfold strB;rw [List.length_append,List.length_append,beN_len];omega
 have h2:qu64_c.pre (s,strB v++z):=by show (strB v++z).length≤900000;omega
 have h3:qst_c.pre (v,z,110):=⟨by omega,by omega,by omega,hp2⟩
 have h6:qz_c.pre (110 - v.length,beN 8 s++[]):=⟨by show 110 - v.length≤1000;omega,by rw [beL];simp⟩
 have h7:qu64_c.pre (s,[]):=show 0≤900000 by omega
 rw [← hz] at hn;generalize hmm:110 - v.length=m at *;have h1:rnew_c.pre (beN 8 s++(strB v++z)):=by
   show (beN 8 s++(strB v++z)).length≤1000000;rw [beL];omega
 repeat' (first|(with_reducible refine Unf.h ?_)|fail);all_goals try (conv=>whnf);all_goals try (exfalso;omega)
 rw [hn];refine CallS.mk (c:=rnew_c) ((beN 8 s++(strB v++z))) ?_
 repeat' (first|(with_reducible refine Unf.h ?_)|((conv=>whnf);first|(refine Side.mk ?_ ?_;focus (first|with_reducible rfl|assumption))|refine Got.mk (fun _ _=>?_))|fail);all_goals try (conv=>whnf);all_goals try (exfalso;omega)
 refine CallS.mk (c:=qu64_c) ((s,strB v++z)) ?_
 repeat' (first|(with_reducible refine Unf.h ?_)|((conv=>whnf);first|(refine Side.mk ?_ ?_;focus (first|with_reducible rfl|assumption))|refine Got.mk (fun _ _=>?_))|fail);all_goals try (conv=>whnf);all_goals try (exfalso;omega)
 refine CallS.mk (c:=qst_c) ((v,z,110)) ?_
 repeat' (first|(with_reducible refine Unf.h ?_)|((conv=>whnf);first|(refine Side.mk ?_ ?_;focus (first|with_reducible rfl|assumption|(refine congrArg (SV.int _) ?_;omega)))|refine Got.mk (fun _ _=>?_))|fail);all_goals try (conv=>whnf);all_goals try (exfalso;omega)
 refine CallS.mk (c:=rfl_c) (z) ?_
 repeat' (first|(with_reducible refine Unf.h ?_)|((conv=>whnf);first|(refine Side.mk ?_ ?_;focus (first|with_reducible rfl|exact True.intro|(intros;(try simp only [lenS,inR,cutS,loI,hiI] at *);omega)))|refine Got.mk (fun _ _=>?_))|fail);all_goals try (conv=>whnf);all_goals try (exfalso;omega)
 rw [ek,hz];refine CallS.mk (c:=qz_c) ((m,beN 8 s++[])) ?_
 repeat' (first|(with_reducible refine Unf.h ?_)|((conv=>whnf);first|(refine Side.mk ?_ ?_;focus (first|with_reducible rfl|assumption))|refine Got.mk (fun _ _=>?_))|fail);all_goals try (conv=>whnf);all_goals try (exfalso;omega)
 refine CallS.mk (c:=qu64_c) ((s,([]:Bs))) ?_
 repeat' (first|(with_reducible refine Unf.h ?_)|((conv=>whnf);first|refine Fork.mkn (fun h=>?_) (fun h=>?_)|refine Fork.mk (fun h=>?_) (fun h=>?_)|(refine Side.mk ?_ ?_;focus (first|with_reducible rfl|assumption))|refine RetE.mk () trivial ?_|refine Got.mk (fun _ _=>?_)|refine retK_r ?_)|fail);all_goals try (conv=>whnf);all_goals try (exfalso;omega)
 all_goals try (exact absurd rfl (by assumption))
 all_goals try (exact absurd (by assumption) hp1)
 all_goals
   refine CallS.mk (c:=rdn_c) (([]:Bs)) ?_
   repeat' (first|(with_reducible refine Unf.h ?_)|((conv=>whnf);first|(refine Side.mk ?_ ?_;focus (first|with_reducible rfl|exact True.intro|(simp [*];done)))|refine RetE.mk () trivial ?_|refine Got.mk (fun _ _=>?_)|refine retK_r ?_|exact rfl)|fail);all_goals try (conv=>whnf);all_goals try (exfalso;omega)
def sld1_c:Ctr where
 D:=(List Pg×List Pg×List (Nat×Pg))×Bs×Pg
 pre:=fun ((L,S,_),v,p)=>2≤L.length∧S[0]?=some zeroPg∧S[1]?=some p∧p.toList=encS 1#64 v∧v.length≤110
 args:=fun _=>[.ptr 0 0,.int .i64 0]
 objs:=fun ((L,S,q),_)=>devs L S q
 nn:=4
 res:=fun (_,v,_) _=>.tup [.u64 1#64,.fs 1 eB v,.int .i64 0]
 out:=fun ((L,S,q),_) _=>devs L S q
def sld1_H:Cfg:=⟨[(39,drd_c),(40,sdcZ_c),(40,sdc_c)],[],[],[],55,4,[],[],[]⟩
theorem sld1_ok:sld1_c.Ok Tryz.prog 18:=by
 refine fn_ok sld1_H 4 rfl _ Tryz.func18 rfl rfl ⟨drd_ok,sdcZ_ok,sdc_ok,trivial⟩ rfl rfl (by kernel_rfl) (fun _=>nlb rfl) ?_
 rintro ⟨⟨L,S,q⟩,v,p⟩ hp hr
 try dsimp only [sld1_c] at hp
 try simp only [sld1_c,Rng,RngL,inR,and_true,true_and] at hr
 obtain ⟨hp1,hp2,hp3,hp4,hp5⟩:=hp;have hp1:2≤L.length:=hp1;have hp2:S[0]?=some zeroPg:=hp2;have hp3:S[1]?=some p:=hp3;have hp4:p.toList=encS 1#64 v:=hp4;have hr0:drd_c.pre ((L,S,q),0,zeroPg):=⟨by show 0<L.length;omega,hp2⟩
 have hr1:drd_c.pre ((L,S,q),1,p):=⟨by show 1<L.length;omega,hp3⟩
 have hd:sdc_c.pre (1#64,v):=⟨by decide,hp5⟩
 have el:=zeroPg_list
 repeat' (first|(with_reducible refine Unf.h ?_)|fail);all_goals try (conv=>whnf);all_goals try (exfalso;omega)
 refine LoopS.mk (I:=Nat) (fun i=>i≤2) (fun i=>[(17,.int .i64 (i:Int)),(7,.u64 (match i with|2=>1#64|_=>0#64)),(8,match i with|2=>.fs 1 eB v|_=>.nils),(0,.ptr 0 0),(1,.int .i64 0)]) (fun _=>devs L S q) 4 (fun i=>2 - i) 0 (Nat.zero_le _) ?_ ?_
 · repeat' (first|(with_reducible refine Unf.h ?_)|((conv=>whnf);first|(refine Side.mk ?_ ?_;focus (first|with_reducible rfl|(refine congrArg (SV.int _) ?_;omega)|(split<;>first|rfl|(exfalso;omega))))|(with_reducible refine Unf.h ?_)|exact True.intro)|fail);all_goals try (conv=>whnf);all_goals try (exfalso;omega)
 · intro i hi
   have hi3:i=0∨i=1∨i=2:=by omega
   rcases hi3 with rfl|rfl|rfl
   · repeat' (first|(with_reducible refine Unf.h ?_)|((conv=>whnf);first|refine Fork.mk (fun h=>?_) (fun h=>?_)|(refine Side.mk ?_ ?_;focus ((intros;(try simp only [lenS,inR,cutS,loI,hiI] at *);omega))))|fail);all_goals try (conv=>whnf);all_goals try (exfalso;omega)
     refine CallS.mk (c:=drd_c) (((L,S,q),0,zeroPg)) ?_
     repeat' (first|(with_reducible refine Unf.h ?_)|((conv=>whnf);first|refine Fork.mkn (fun h=>?_) (fun h=>?_)|(refine Side.mk ?_ ?_;focus (first|with_reducible rfl|assumption|(refine congrArg (SV.int _) ?_;omega)))|refine Got.mk (fun _ _=>?_))|fail);all_goals try (conv=>whnf);all_goals try (exfalso;omega)
     refine Or2.l (CallS.mk (c:=sdcZ_c) (()) ?_)
     repeat' (first|(with_reducible first|refine Unf.h ?_|refine loopK_n ?_)|((conv=>whnf);first|(refine Side.mk ?_ ?_;focus (first|exact True.intro|(intros;(try simp only [lenS,inR,cutS,loI,hiI] at *);omega)|(simp only [*];done)))|refine Got.mk (fun _ _=>?_))|fail);all_goals try (conv=>whnf);all_goals try (exfalso;omega)
     refine ⟨1,⟨by omega,by omega⟩,?_⟩
     repeat' (first|(with_reducible refine Unf.h ?_)|((conv=>whnf);first|(refine Side.mk ?_ ?_;focus (first|with_reducible rfl|(refine congrArg (SV.int _) ?_;omega)|(split<;>first|rfl|(exfalso;omega))))|(with_reducible refine Unf.h ?_)|exact True.intro)|fail);all_goals try (conv=>whnf);all_goals try (exfalso;omega)
   · repeat' (first|(with_reducible refine Unf.h ?_)|((conv=>whnf);first|refine Fork.mk (fun h=>?_) (fun h=>?_)|(refine Side.mk ?_ ?_;focus ((intros;(try simp only [lenS,inR,cutS,loI,hiI] at *);omega))))|fail);all_goals try (conv=>whnf);all_goals try (exfalso;omega)
     refine CallS.mk (c:=drd_c) (((L,S,q),1,p)) ?_
     repeat' (first|(with_reducible refine Unf.h ?_)|((conv=>whnf);first|refine Fork.mkn (fun h=>?_) (fun h=>?_)|(refine Side.mk ?_ ?_;focus (first|with_reducible rfl|assumption|(refine congrArg (SV.int _) ?_;omega)))|refine Got.mk (fun _ _=>?_))|fail);all_goals try (conv=>whnf);all_goals try (exfalso;omega)
     rw [hp4];refine Or2.r (CallS.mk (c:=sdc_c) ((1#64,v)) ?_)
     repeat' (first|(with_reducible first|refine Unf.h ?_|refine loopK_n ?_)|((conv=>whnf);first|refine Fork.mk (fun h=>?_) (fun h=>?_)|(refine Side.mk ?_ ?_;focus (first|with_reducible rfl|assumption|(intros;(try simp only [lenS,inR,cutS,loI,hiI] at *);omega)|(simp [*];done)))|refine Got.mk (fun _ _=>?_))|fail);all_goals try (conv=>whnf);all_goals try (exfalso;omega)
     all_goals try (exfalso;exact h (by decide))
     all_goals
       refine ⟨2,⟨by omega,by omega⟩,?_⟩
       repeat' (first|(with_reducible refine Unf.h ?_)|((conv=>whnf);first|(refine Side.mk ?_ ?_;focus (first|with_reducible rfl|(refine congrArg (SV.int _) ?_;omega)|(simp only [*];done)))|(with_reducible refine Unf.h ?_)|exact True.intro)|fail);all_goals try (conv=>whnf);all_goals try (exfalso;omega)
   · repeat' (first|(with_reducible refine Unf.h ?_)|((conv=>whnf);first|refine Fork.mk (fun h=>?_) (fun h=>?_)|(refine Side.mk ?_ ?_;focus (first|with_reducible rfl|(simp only [*];done)))|refine RetE.mk () trivial ?_|refine retK_r ?_|exact rfl)|fail);all_goals try (conv=>whnf);all_goals try (exfalso;omega)
def ssv1_c:Ctr where
 D:=(List Pg×List Pg)×Bs×Pg×Bs
 pre:=fun ((L,S),v,p,u)=>2≤L.length∧2≤S.length∧S[0]?=some zeroPg∧S[1]?=some p∧p.toList=encS 1#64 v∧v.length≤110∧u.length≤110
 args:=fun (_,_,_,u)=>[.ptr 0 0,.int .i64 0,.fs 1 eB u]
 objs:=fun ((L,S),_)=>devs L S []
 nn:=4
 E:=Pg
 post:=fun (_,_,_,u) p=>p.toList=encS 2#64 u
 res:=fun _ _=>.tup [.u64 2#64,.int .i64 0]
 out:=fun ((L,S),_) p=>devN 4 5 6 (L.set 0 p) (S.set 0 p) []
 mm:=3
def ssv1_H:Cfg:=⟨[(18,sld1_c),(82,sten_c),(52,dwr_c),(59,dfl_c)],[],[],[],59,4,[],[],[]⟩
theorem ssv1_ok:ssv1_c.Ok Tryz.prog 45:=by
 refine fn_ok ssv1_H 4 rfl _ Tryz.func45 rfl rfl ⟨sld1_ok,sten_ok,dwr_ok,dfl_ok,trivial⟩ rfl rfl (by kernel_rfl) (fun _=>nlb rfl) ?_
 rintro ⟨⟨L,S⟩,v,p1,u⟩ hp hr
 try dsimp only [ssv1_c] at hp
 try simp only [ssv1_c,Rng,RngL,inR,and_true,true_and] at hr
 obtain ⟨hp1,hp2,hp3,hp4,hp5,hp6,hp7⟩:=hp;have hp1:2≤L.length:=hp1;have hp2:2≤S.length:=hp2;have hp7:u.length≤110:=hp7;have h1:sld1_c.pre ((L,S,[]),v,p1):=⟨hp1,hp3,hp4,hp5,hp6⟩;have h2:sten_c.pre (2#64,u):=hp7;have h3:dwr_c.pre ((L,S,[]),0,encS 2#64 u):=⟨by show 0<L.length;omega,by show 0<S.length;omega,encS_len _ hp7,by show ([]:List (Nat×Pg)).length≤100000;simp⟩
 have es:(1#64+1#64:BitVec 64)=2#64:=by decide
 have en:¬ (1#64+1#64:BitVec 64)=0#64:=by decide
 clear hp3 hp4 hp5
 repeat' (first|(with_reducible refine Unf.h ?_)|((conv=>whnf);refine Fork.mk (fun h=>?_) (fun h=>?_))|fail);all_goals try (conv=>whnf);all_goals try (exfalso;omega)
 refine CallS.mk (c:=sld1_c) (((L,S,[]),v,p1)) ?_
 repeat' (first|(with_reducible refine Unf.h ?_)|((conv=>whnf);first|refine Fork.mkn (fun h=>?_) (fun h=>?_)|refine Fork.mk (fun h=>?_) (fun h=>?_)|(refine Side.mk ?_ ?_;focus (first|with_reducible rfl|assumption))|refine Got.mk (fun _ _=>?_)|refine retK_r ?_)|fail);all_goals try (conv=>whnf);all_goals try (exfalso;omega)
 · exact absurd (by assumption) en
 refine CallS.mk (c:=sten_c) ((2#64,u)) ?_
 repeat' (first|(with_reducible refine Unf.h ?_)|((conv=>whnf);first|refine Fork.mkn (fun h=>?_) (fun h=>?_)|(refine Side.mk ?_ ?_;focus (first|with_reducible rfl|assumption|(intros;(try simp only [lenS,inR,cutS,loI,hiI,es] at *);omega)|(simp only [*,es];done)|(simp [*,es];done)))|refine Got.mk (fun _ _=>?_))|fail);all_goals try (conv=>whnf);all_goals try (exfalso;omega)
 refine CallS.mk (c:=dwr_c) (((L,S,[]),0,encS 2#64 u)) ?_
 repeat' (first|(with_reducible refine Unf.h ?_)|((conv=>whnf);first|refine Fork.mkn (fun h=>?_) (fun h=>?_)|(refine Side.mk ?_ ?_;focus (first|with_reducible rfl|assumption|(simp [*];done)))|refine Got.mk (fun _ _=>?_))|fail);all_goals try (conv=>whnf);all_goals try (exfalso;omega)
 rename_i p hpp;have hpp:p.toList=encS 2#64 u:=hpp;have h4:dfl_c.pre (L,S.set 0 p,[]++[(0,p)]):=⟨(by show (1:Nat)≤100000;omega),fun x hx=>by
   have hx:x∈[(0,p)]:=hx;obtain rfl:=List.mem_singleton.1 hx;show 0<L.length;omega⟩
 have hfl:flF L ([]++[(0,p)])=L.set 0 p:=rfl;refine CallS.mk (c:=dfl_c) ((L,S.set 0 p,[]++[(0,p)])) ?_
 repeat' (first|(with_reducible refine Unf.h ?_)|((conv=>whnf);(refine Side.mk ?_ ?_;focus (with_reducible rfl)))|fail);all_goals try (conv=>whnf);all_goals try (exfalso;omega)
 refine Side.mk rfl ?_
 repeat' (first|(with_reducible refine Unf.h ?_)|((conv=>whnf);first|refine Fork.mkn (fun h=>?_) (fun h=>?_)|(refine Side.mk ?_ ?_;focus (assumption))|refine Got.mk (fun _ _=>?_)|refine retK_r ?_)|fail);all_goals try (conv=>whnf);all_goals try (exfalso;omega)
 refine RetE.mk (c:=ssv1_c) (d:=((L,S),v,p1,u)) (show Pg from p) hpp ?_
 repeat' (first|(with_reducible refine Unf.h ?_)|((conv=>whnf);first|(refine Side.mk ?_ ?_;focus (first|with_reducible rfl|(simp only [*,hfl];done)))|(with_reducible refine Unf.h ?_)|exact rfl)|fail);all_goals try (conv=>whnf);all_goals try (exfalso;omega)
end Go.Proofs.YtfljmihdeimahaaGreatDoor
namespace Go.Proofs.YtfljmihdeimahaaGreatDoor
set_option linter.all false
open Go.RowKit
def vdc_c:Ctr where
 D:=BitVec 32×BitVec 32
 pre:=fun (l,g)=>0<l.toNat∧l.toNat≤g.toNat∧g.toNat<4294967295
 args:=fun (l,g)=>[.fs 1 eB (vsB l g)]
 res:=fun (l,g) _=>.tup [.agg [.bool false,.u32 l,.u32 g],.bool true]
theorem vsB_nest (l g:BitVec 32):vsB l g=beN 1 0#64++(beN 4 (l.setWidth 64)++(beN 4 (g.setWidth 64)++[])):=by
 unfold vsB;simp only [List.append_assoc,List.nil_append,List.append_nil]
def vdc_H:Cfg:=⟨[(41,rnew_c),(42,qflg_c),(43,qu32_c),(44,rdn_c)],[(3,[5,10,12,17],[0,2,20],(oA 1 (.alt 0 true (oD 2 (oA 3 (oA 4 (oB 5 (oA 6 (oA 7 (oA 8 (oA 9 (oB 10 (oA 11 (oB 12 (oA 13 (oA 14 (oA 15 (oA 16 (oB 17 (oA 18 (oA 19 (oD 20 (oA 21 .nil)))))))))))))))))))) (oD 2 (oA 3 (oA 4 (oB 5 (oA 6 (oA 7 (oA 8 (oA 9 (oB 10 (oA 11 (oB 12 (oA 13 (oA 14 (oA 15 (oA 16 (oB 17 (oA 18 (oA 19 (oD 0 (oD 20 (oA 21 .nil))))))))))))))))))))))),[2,1000004])],[],[],35,0,[],[],[]⟩
theorem vdc_ok:vdc_c.Ok Tryz.prog 19:=by
 refine fn_ok vdc_H 0 rfl _ Tryz.func19 rfl rfl ⟨rnew_ok,qflg_ok,qu32_ok,rdn_ok,trivial⟩ rfl rfl (by kernel_rfl) (fun _=>nlb rfl) ?_
 rintro ⟨l,g⟩ hp hr
 try dsimp only [vdc_c] at hp
 try simp only [vdc_c,Rng,RngL,inR,and_true,true_and] at hr
 obtain ⟨hp1,hp2,hp3⟩:=hp;have hp1:0<l.toNat:=hp1;have hp2:l.toNat≤g.toNat:=hp2;have hp3:g.toNat<4294967295:=hp3;have hn:=vsB_nest l g;have h1:rnew_c.pre (beN 1 0#64++(beN 4 (l.setWidth 64)++(beN 4 (g.setWidth 64)++[]))):=by
   show (beN 1 0#64++(beN 4 (l.setWidth 64)++(beN 4 (g.setWidth 64)++[]))).length≤1000000;rw [beL,beL,beL];simp
 have h2:qflg_c.pre (beN 4 (l.setWidth 64)++(beN 4 (g.setWidth 64)++[])):=by
   show (beN 4 (l.setWidth 64)++(beN 4 (g.setWidth 64)++[])).length≤900000;rw [beL,beL];simp
 have h3:qu32_c.pre (l,beN 4 (g.setWidth 64)++[]):=by
   show (beN 4 (g.setWidth 64)++[]).length≤900000;rw [beL];simp
 have h4:qu32_c.pre (g,[]):=show 0≤900000 by omega
 have e0:(0#32).toNat=0:=rfl;have e1:(4294967295#32).toNat=4294967295:=rfl
 repeat' (first|(with_reducible refine Unf.h ?_)|fail);all_goals try (conv=>whnf);all_goals try (exfalso;omega)
 rw [hn];refine CallS.mk (c:=rnew_c) ((beN 1 0#64++(beN 4 (l.setWidth 64)++(beN 4 (g.setWidth 64)++[])))) ?_
 repeat' (first|(with_reducible refine Unf.h ?_)|fail);all_goals try (conv=>whnf);all_goals try (exfalso;omega)
 refine Side.mk rfl ?_
 repeat' (first|(with_reducible refine Unf.h ?_)|((conv=>whnf);first|(refine Side.mk ?_ ?_;focus (assumption))|refine Got.mk (fun _ _=>?_))|fail);all_goals try (conv=>whnf);all_goals try (exfalso;omega)
 refine CallS.mk (c:=qflg_c) ((beN 4 (l.setWidth 64)++(beN 4 (g.setWidth 64)++[]))) ?_
 repeat' (first|(with_reducible refine Unf.h ?_)|fail);all_goals try (conv=>whnf);all_goals try (exfalso;omega)
 all_goals first|(refine Side.mk rfl ?_;repeat' (first|(with_reducible refine Unf.h ?_)|((conv=>whnf);first|(refine Side.mk ?_ ?_;focus (first|with_reducible rfl|assumption))|refine Got.mk (fun _ _=>?_))|fail);all_goals try (conv=>whnf);all_goals try (exfalso;omega))|skip
 refine CallS.mk (c:=qu32_c) ((l,beN 4 (g.setWidth 64)++[])) ?_
 repeat' (first|(with_reducible refine Unf.h ?_)|fail);all_goals try (conv=>whnf);all_goals try (exfalso;omega)
 all_goals first|(refine Side.mk rfl ?_;repeat' (first|(with_reducible refine Unf.h ?_)|((conv=>whnf);first|(refine Side.mk ?_ ?_;focus (first|with_reducible rfl|assumption))|refine Got.mk (fun _ _=>?_))|fail);all_goals try (conv=>whnf);all_goals try (exfalso;omega))|skip
 refine CallS.mk (c:=qu32_c) ((g,([]:Bs))) ?_
 repeat' (first|(with_reducible refine Unf.h ?_)|((conv=>whnf);first|refine Both.mk ?_ ?_|refine Both.mk ?_ ?_|(refine Side.mk ?_ ?_;focus (first|with_reducible rfl|assumption))|refine Got.mk (fun _ _=>?_))|fail);all_goals try (conv=>whnf);all_goals try (exfalso;omega)
 all_goals first|(refine Side.mk rfl ?_;all_goals try (conv=>whnf);all_goals try (exfalso;omega))|skip
 all_goals
   refine CallS.mk (c:=rdn_c) (([]:Bs)) ?_
   repeat' (first|(with_reducible refine Unf.h ?_)|((conv=>whnf);first|refine Fork.mk (fun h=>?_) (fun h=>?_)|(refine Side.mk ?_ ?_;focus (first|with_reducible rfl|exact True.intro|(intros;(try simp only [lenS,inR,cutS,loI,hiI] at *);omega)|exact dF (by omega)|(simp [*];done)))|refine RetE.mk () trivial ?_|refine Got.mk (fun _ _=>?_)|refine retK_r ?_|exact rfl)|fail);all_goals try (conv=>whnf);all_goals try (exfalso;omega)
def vsv1_c:Ctr where
 D:=(List Pg×List Pg)×(BitVec 32×BitVec 32)×(Bs×Pg)×BitVec 32×BitVec 32
 pre:=fun ((L,S),_,(v,p),_)=>2≤L.length∧2≤S.length∧S[0]?=some zeroPg∧S[1]?=some p∧p.toList=encS 1#64 v∧v.length≤110
 args:=fun (_,_,_,l,g)=>[.ptr 4 0,.agg [.bool false,.u32 l,.u32 g]]
 objs:=fun ((L,S),(l0,g0),_)=>(4,vltB l0 g0 .nilp)::devs L S []
 nn:=5
 E:=Pg
 post:=fun (_,_,_,l,g) p=>p.toList=encS 2#64 (vsB l g)
 res:=fun _ _=>.int .i64 0
 out:=fun ((L,S),_,_,l,g) p=>devN 5 6 7 (L.set 0 p) (S.set 0 p) []++[(4,vltB l g .nilp)]
 mm:=3
def vsv1_H:Cfg:=⟨[(46,venc_c),(45,ssv1_c)],[(1,[],[3,4,5,6],(oA 0 (oA 1 (oA 2 (.alt 3 false (oC 4 (oC 5 (oC 6 (oA 7 (oA 8 (oA 9 (oA 10 (oA 11 .nil)))))))) (oC 4 (.alt 3 false (oC 5 (oC 6 (oA 7 (oA 8 (oA 9 (oA 10 (oA 11 .nil))))))) (oC 5 (oC 3 (oC 6 (oA 7 (oA 8 (oA 9 (oA 10 (oA 11 .nil)))))))))))))),[])],[],[],26,5,[],[],[]⟩
theorem vsv1_ok:vsv1_c.Ok Tryz.prog 20:=by
 refine fn_ok vsv1_H 5 rfl _ Tryz.func20 rfl rfl ⟨venc_ok,ssv1_ok,trivial⟩ rfl rfl (by kernel_rfl) (fun _=>nlb rfl) ?_
 rintro ⟨⟨L,S⟩,⟨l0,g0⟩,⟨v,p1⟩,l,g⟩ hp hr
 try dsimp only [vsv1_c] at hp
 try simp only [vsv1_c,Rng,RngL,inR,and_true,true_and] at hr
 obtain ⟨hp1,hp2,hp3,hp4,hp5,hp6⟩:=hp;have hp1:2≤L.length:=hp1;have hp2:2≤S.length:=hp2;have h1:ssv1_c.pre ((L,S),v,p1,vsB l g):=⟨hp1,hp2,hp3,hp4,hp5,hp6,by rw [vsB_len];omega⟩
 clear hp3 hp4 hp5
 repeat' (first|(with_reducible refine Unf.h ?_)|((conv=>whnf);first|refine Both.mk ?_ ?_|refine Both.mk ?_ ?_|(refine Side.mk ?_ ?_;focus (first|with_reducible rfl|exact True.intro))|refine Got.mk (fun _ _=>?_)|refine CallS.mk (c:=venc_c) ((l,g)) ?_)|fail);all_goals try (conv=>whnf);all_goals try (exfalso;omega)
 all_goals
   refine CallS.mk (c:=ssv1_c) (((L,S),v,p1,vsB l g)) ?_
   repeat' (first|(with_reducible refine Unf.h ?_)|((conv=>whnf);first|refine Fork.mkn (fun h=>?_) (fun h=>?_)|(refine Side.mk ?_ ?_;focus (first|with_reducible rfl|assumption))|refine Got.mk (fun _ _=>?_)|refine retK_r ?_)|fail);all_goals try (conv=>whnf);all_goals try (exfalso;omega)
 all_goals
   rename_i p hpp;refine RetE.mk (c:=vsv1_c) (d:=((L,S),(l0,g0),(v,p1),l,g)) (show Pg from p) hpp ?_
   repeat' (first|(with_reducible refine Unf.h ?_)|((conv=>whnf);first|(refine Side.mk ?_ ?_;focus (first|with_reducible rfl|(refine congrArg (SV.int _) ?_;omega)))|exact rfl)|fail);all_goals try (conv=>whnf);all_goals try (exfalso;omega)
abbrev devB (a b c:Nat):SO:=.box 83 [.own a,.own b,.own c,.int .i64 (-1),.bool false]
abbrev Log4:=Int×Int×BitVec 32×Nat
def lflu_c:Ctr where
 D:=(List Pg×List Pg×List (Nat×Pg))×Log4
 pre:=fun ((L,_,q),_)=>q.length≤100000∧∀ p∈q,p.1<L.length
 args:=fun _=>[.ptr 0 0]
 objs:=fun ((L,S,q),f,c,g,nx)=>[(0,logB f c g nx),(1,devB 2 3 4),(2,.row 189 128 ePg L),(3,.row 189 128 ePg S),(4,.row 208 129 eQw q)]
 nn:=5
 res:=fun _ _=>.int .i64 0
 out:=fun ((L,S,q),f,c,g,nx) _=>[(0,logB f c g nx),(1,devB 5 3 6),(5,.row 189 128 ePg (flF L q)),(3,.row 189 128 ePg S),(6,.row 208 129 eQw [])]
 mm:=2
def lflu_H:Cfg:=⟨[(59,dfl_c),(53,ldone_c)],[],[],[],18,5,[],[],[]⟩
theorem lflu_ok:lflu_c.Ok Tryz.prog 32:=by
 refine fn_ok lflu_H 5 rfl _ Tryz.func32 rfl rfl ⟨dfl_ok,ldone_ok,trivial⟩ rfl rfl (by kernel_rfl) (fun _=>nlb rfl) ?_
 rintro ⟨⟨L,S,q⟩,f,c,g,nx⟩ hp hr
 try dsimp only [lflu_c] at hp
 try simp only [lflu_c,Rng,RngL,inR,and_true,true_and] at hr
 have h1:dfl_c.pre (L,S,q):=hp;have h2:ldone_c.pre ((f,c,g,nx),0):=by show (0:Int)≠6;decide
 repeat' (first|(with_reducible refine Unf.h ?_)|fail);all_goals try (conv=>whnf);all_goals try (exfalso;omega)
 refine CallS.mk (c:=dfl_c) ((L,S,q)) ?_
 repeat' (first|(with_reducible refine Unf.h ?_)|((conv=>whnf);first|(refine Side.mk ?_ ?_;focus (first|with_reducible rfl|assumption))|refine Got.mk (fun _ _=>?_))|fail);all_goals try (conv=>whnf);all_goals try (exfalso;omega)
 refine CallS.mk (c:=ldone_c) (((f,c,g,nx),0)) ?_
 repeat' (first|(with_reducible refine Unf.h ?_)|((conv=>whnf);first|(refine Side.mk ?_ ?_;focus (first|with_reducible rfl|assumption|(refine congrArg (SV.int _) ?_;omega)))|refine RetE.mk () trivial ?_|refine Got.mk (fun _ _=>?_)|refine retK_r ?_|exact rfl)|fail);all_goals try (conv=>whnf);all_goals try (exfalso;omega)
end Go.Proofs.YtfljmihdeimahaaGreatDoor
namespace Go.Proofs.YtfljmihdeimahaaGreatDoor
set_option linter.all false
open Go.RowKit
def toPg (l:Bs):Pg:=Vector.ofFn fun i:Fin 128=>l.getD i.1 0#8
theorem toPg_of {p:Pg} {l:Bs} (h:p.toList=l):p=toPg l:=by
 subst h
 apply Vector.ext
 intro i hi
 simp [toPg,List.getD_eq_getElem?_getD,hi]
def kdF (i n:Nat):Int:=(if i=0 then 1 else 0)+(if i+1=n then 2 else 0)
def ctB (b:Bs) (i:Nat):Bs:=cutL b (some ((i:Int)*110)) (some (min (((i:Int)+1)*110) (b.length:Int)))
abbrev pgR (g:BitVec 32) (nx:Nat) (b:Bs) (i:Nat):Bs:=pgF g ((nx:Int)+(i:Int)+1) (kdF i (nPt b.length)) (ctB b i)
def apS (S:List Pg) (a:Nat) (g:BitVec 32) (nx:Nat) (b:Bs):Nat→List Pg
 | 0=>S
 | i+1=>(apS S a g nx b i).set (a+i) (toPg (pgR g nx b i))
def apQ (q:List (Nat×Pg)) (a:Nat) (g:BitVec 32) (nx:Nat) (b:Bs):Nat→List (Nat×Pg)
 | 0=>q
 | i+1=>apQ q a g nx b i++[(a+i,toPg (pgR g nx b i))]
theorem apS_len (S:List Pg) (a:Nat) (g:BitVec 32) (nx:Nat) (b:Bs):∀ i,(apS S a g nx b i).length=S.length
 | 0=>rfl
 | i+1=>by unfold apS;rw [List.length_set,apS_len S a g nx b i]
theorem apQ_len (q:List (Nat×Pg)) (a:Nat) (g:BitVec 32) (nx:Nat) (b:Bs):∀ i,(apQ q a g nx b i).length=q.length+i
 | 0=>rfl
 | i+1=>by unfold apQ;rw [List.length_append,apQ_len q a g nx b i];rfl
theorem ctB_len {b:Bs} {i:Nat} (h:i<nPt b.length) (hb:1≤b.length):(ctB b i).length≤110∧i*110≤min ((i+1)*110) b.length:=by
 unfold nPt at h;have h1:i*110<b.length:=by omega
 constructor
 · unfold ctB cutL
   simp only [List.length_drop,List.length_take];omega
 · omega
def lapp_c:Ctr where
 D:=(List Pg×List Pg×List (Nat×Pg))×(Nat×Nat×BitVec 32×Nat)×Bs
 pre:=fun ((L,S,q),(f,c,_,nx),b)=>1≤b.length∧b.length≤6000∧nx+nPt b.length≤c∧f+c≤L.length∧L.length≤4096∧S.length=L.length∧q.length≤10000
 args:=fun (_,_,b)=>[.ptr 0 0,.fs 1 eB b]
 objs:=fun ((L,S,q),(f,c,g,nx),_)=>[(0,logB (f:Int) (c:Int) g nx),(1,devB 2 3 4),(2,.row 189 128 ePg L),(3,.row 189 128 ePg S),(4,.row 208 129 eQw q)]
 nn:=5
 res:=fun _ _=>.int .i64 0
 out:=fun ((L,S,q),(f,c,g,nx),b) _=>[(0,logB (f:Int) (c:Int) g (nx+nPt b.length)),(1,devB 2 6 5),(2,.row 189 128 ePg L),(6,.row 189 128 ePg (apS S (f+nx) g nx b (nPt b.length))),(5,.row 208 129 eQw (apQ q (f+nx) g nx b (nPt b.length)))]
 mm:=2
def lapp_H:Cfg:=⟨[(49,lprt_c),(50,lroom_c),(51,wpg_c),(52,dwr_c),(53,ldone_c)],[(11,[3,7],[22,23],(oA 0 (oA 1 (oA 2 (oB 3 (oA 4 (oA 5 (oA 6 (oB 7 (oA 8 (oA 9 (oA 10 (oA 11 (oA 12 (oA 13 (oA 14 (oA 15 (oA 16 (oA 17 (oA 18 (oA 19 (oA 20 (oA 21 (oD 22 (oC 23 .nil)))))))))))))))))))))))),[]),(19,[],[3,7,11,16],(oA 0 (oA 1 (oA 2 (oA 4 (oA 5 (oA 6 (oA 8 (oA 9 (oA 10 (oA 13 (oA 15 (.alt 3 false (.alt 7 false (oC 11 (oA 12 (oA 14 (oC 16 (oA 17 .nil))))) (oC 11 (oC 7 (oA 12 (oA 14 (oC 16 (oA 17 .nil))))))) (.alt 7 false (.alt 3 false (oC 11 (oA 12 (oA 14 (oC 16 (oA 17 .nil))))) (oC 11 (oA 12 (oA 14 (oC 3 (oC 16 (oA 17 .nil))))))) (oC 11 (.alt 3 false (oC 7 (oA 12 (oA 14 (oC 16 (oA 17 .nil))))) (oC 7 (oA 12 (oA 14 (oC 3 (oC 16 (oA 17 .nil))))))))))))))))))))),[2000000])],[59,67],[],111,5,[],[],[]⟩
set_option maxHeartbeats 400000 in
theorem lapp_ok:lapp_c.Ok Tryz.prog 28:=by
 refine fn_ok lapp_H 5 rfl _ Tryz.func28 rfl rfl ⟨lprt_ok,lroom_ok,wpg_ok,dwr_ok,ldone_ok,trivial⟩ rfl rfl (by kernel_rfl) (fun _=>nlb rfl) ?_
 rintro ⟨⟨L,S,q⟩,⟨f,c,g,nx⟩,b⟩ hp hr
 try dsimp only [lapp_c] at hp
 try simp only [lapp_c,Rng,RngL,inR,and_true,true_and] at hr
 obtain ⟨hp1,hp2,hp3,hp4,hp5,hp6,hp7⟩:=hp;have hp1:1≤b.length:=hp1;have hp2:b.length≤6000:=hp2;have hp3:nx+nPt b.length≤c:=hp3;have hp4:f+c≤L.length:=hp4;have hp5:L.length≤4096:=hp5;have hp6:S.length=L.length:=hp6;have hp7:q.length≤10000:=hp7;have h1:lprt_c.pre b.length:=⟨hp1,by omega⟩
 have h2:lroom_c.pre ((f:Int),(c:Int),g,nx):=⟨by omega,by omega,by omega⟩
 obtain ⟨n,hn⟩:∃ n,nPt b.length=n:=⟨_,rfl⟩
 repeat' (first|(with_reducible refine Unf.h ?_)|((conv=>whnf);first|refine Fork.mk (fun h=>?_) (fun h=>?_)|(refine Side.mk ?_ ?_;focus (first|with_reducible rfl|assumption))|refine Got.mk (fun _ _=>?_)|refine CallS.mk (c:=lprt_c) (b.length) ?_|refine CallS.mk (c:=lroom_c) (((f:Int),(c:Int),g,nx)) ?_)|fail);all_goals try (conv=>whnf);all_goals try (exfalso;omega)
 refine LoopS.mk (I:=Nat) (fun i=>i≤nPt b.length) (fun i=>[(33,.int .i64 (i:Int)),(32,.int .i64 (nPt b.length:Int)),(5,.int .i64 (nPt b.length:Int)),(0,.ptr 0 0),(1,.fs 1 eB b),(4,.int .i64 0)]) (fun i=>[(0,logB (f:Int) (c:Int) g nx),(1,devB 2 5 6),(2,.row 189 128 ePg L),(5,.row 189 128 ePg (apS S (f+nx) g nx b i)),(6,.row 208 129 eQw (apQ q (f+nx) g nx b i))]) 7 (fun i=>nPt b.length - i) 0 (Nat.zero_le _) ?_ ?_
 · repeat' (first|(with_reducible refine Unf.h ?_)|((conv=>whnf);first|(refine Side.mk ?_ ?_;focus (first|with_reducible rfl|(refine congrArg (SV.int _) ?_;omega)|(simp only [*,apS,apQ];done)))|(with_reducible refine Unf.h ?_)|exact True.intro)|fail);all_goals try (conv=>whnf);all_goals try (exfalso;omega)
 · intro i hi
   have hsl:=apS_len S (f+nx) g nx b i;have hql:=apQ_len q (f+nx) g nx b i;rcases Nat.lt_or_ge i (nPt b.length) with h|h
   · obtain ⟨hc1,hc2⟩:=ctB_len h hp1
     have hkd:(kdF i (nPt b.length)=0∨kdF i (nPt b.length)=1∨kdF i (nPt b.length)=2∨kdF i (nPt b.length)=3):=by
       unfold kdF;split<;>split<;>simp
     have hpg:wpg_c.pre (g,(nx:Int)+(i:Int)+1,kdF i (nPt b.length),ctB b i):=⟨by omega,by omega,hc1⟩
     have hpw:dwr_c.pre ((L,apS S (f+nx) g nx b i,apQ q (f+nx) g nx b i),f+nx+i,pgR g nx b i):=⟨by show f+nx+i<L.length;omega,by show f+nx+i<(apS S (f+nx) g nx b i).length;omega,pgF_len _ _ _ hc1,by show (apQ q (f+nx) g nx b i).length≤100000;unfold nPt at h;omega⟩
     have hk1:∃ k1:Int,k1=(if i=0 then 1 else 0):=⟨_,rfl⟩
     obtain ⟨k1,hk1⟩:=hk1
     repeat' (first|(with_reducible refine Unf.h ?_)|((conv=>whnf);first|refine Fork.mk (fun h=>?_) (fun h=>?_)|(refine Side.mk ?_ ?_;focus ((intros;(try simp only [lenS,inR,cutS,loI,hiI] at *);omega))))|fail);all_goals try (conv=>whnf);all_goals try (exfalso;omega)
     refine CutS.mk (I:=Unit) (fun _=>True) (fun _=>[(7,.ptr 7 0),(6,.int .i64 (i:Int)),(33,.int .i64 (i:Int)),(32,.int .i64 (nPt b.length:Int)),(5,.int .i64 (nPt b.length:Int)),(0,.ptr 0 0),(1,.fs 1 eB b),(4,.int .i64 0)]) (fun _=>[(7,.box 139 [.u32 g,.int .i64 ((nx:Int)+(i:Int)+1),.int .i64 k1,.fs 1 eB (ctB b i)]),(0,logB (f:Int) (c:Int) g nx),(1,devB 2 5 6),(2,.row 189 128 ePg L),(5,.row 189 128 ePg (apS S (f+nx) g nx b i)),(6,.row 208 129 eQw (apQ q (f+nx) g nx b i))]) 8 ?_ ?_
     · repeat' (first|(with_reducible first|refine Unf.h ?_|refine cutK_n ?_)|((conv=>whnf);first|refine Fork.mk (fun h=>?_) (fun h=>?_)|(refine Side.mk ?_ ?_;focus (omega)))|fail);all_goals try (conv=>whnf);all_goals try (exfalso;omega)
       all_goals
         refine ⟨(),trivial,?_⟩
         repeat' (first|(with_reducible refine Unf.h ?_)|((conv=>whnf);first|(refine Side.mk ?_ ?_;focus (first|with_reducible rfl|(refine congrArg (SV.int _) ?_;omega)|(simp only [*,ctB];done)))|(with_reducible refine Unf.h ?_)|exact True.intro)|fail);all_goals try (conv=>whnf);all_goals try (exfalso;omega)
       all_goals
         refine Side.mk (congrArg (SV.int _) (by rw [hk1,if_pos (by omega)];rfl)) ?_
         repeat' (first|(with_reducible refine Unf.h ?_)|((conv=>whnf);first|(refine Side.mk ?_ ?_;focus (first|with_reducible rfl|(simp only [*,ctB];done)))|exact True.intro)|fail);all_goals try (conv=>whnf);all_goals try (exfalso;omega)
     · intro _ _
       have hk0:k1=0∨k1=1:=by rw [hk1];split<;>simp
       repeat' (first|(with_reducible refine Unf.h ?_)|fail);all_goals try (conv=>whnf);all_goals try (exfalso;omega)
       refine CutS.mk (I:=Unit) (fun _=>True) (fun _=>[(7,.ptr 7 0),(6,.int .i64 (i:Int)),(33,.int .i64 (i:Int)),(32,.int .i64 (nPt b.length:Int)),(5,.int .i64 (nPt b.length:Int)),(0,.ptr 0 0),(1,.fs 1 eB b),(4,.int .i64 0)]) (fun _=>[(7,.box 139 [.u32 g,.int .i64 ((nx:Int)+(i:Int)+1),.int .i64 (kdF i (nPt b.length)),.fs 1 eB (ctB b i)]),(0,logB (f:Int) (c:Int) g nx),(1,devB 2 5 6),(2,.row 189 128 ePg L),(5,.row 189 128 ePg (apS S (f+nx) g nx b i)),(6,.row 208 129 eQw (apQ q (f+nx) g nx b i))]) 8 ?_ ?_
       · have hq1:i+1=nPt b.length→kdF i (nPt b.length)=((k1.toNat ||| (2:Int).toNat:Nat):Int):=fun h=>by
           unfold kdF;rw [if_pos h,← hk1];rcases hk0 with rfl|rfl<;>rfl
         have hq2:¬ i+1=nPt b.length→kdF i (nPt b.length)=k1:=fun h=>by
           unfold kdF;rw [if_neg h,← hk1];omega
         repeat' (first|(with_reducible first|refine Unf.h ?_|refine cutK_n ?_)|((conv=>whnf);first|refine Fork.mk (fun h=>?_) (fun h=>?_)|(refine Side.mk ?_ ?_;focus (first|omega|(intros;(try simp only [lenS,inR,cutS,loI,hiI] at *);omega))))|fail);all_goals try (conv=>whnf);all_goals try (exfalso;omega)
         all_goals
           refine ⟨(),trivial,?_⟩
           first
             | (have hq:=hq1 (by omega);rw [hq];repeat' (first|(with_reducible refine Unf.h ?_)|((conv=>whnf);first|(refine Side.mk ?_ ?_;focus (with_reducible rfl))|(with_reducible refine Unf.h ?_)|exact True.intro)|fail);all_goals try (conv=>whnf);all_goals try (exfalso;omega);done)
             | (have hq:=hq2 (by omega);rw [hq];repeat' (first|(with_reducible refine Unf.h ?_)|((conv=>whnf);first|(refine Side.mk ?_ ?_;focus (with_reducible rfl))|(with_reducible refine Unf.h ?_)|exact True.intro)|fail);all_goals try (conv=>whnf);all_goals try (exfalso;omega);done)
       · intro _ _
         repeat' (first|(with_reducible refine Unf.h ?_)|fail);all_goals try (conv=>whnf);all_goals try (exfalso;omega)
         refine CallS.mk (c:=wpg_c) ((g,(nx:Int)+(i:Int)+1,kdF i (nPt b.length),ctB b i)) ?_
         repeat' (first|(with_reducible refine Unf.h ?_)|((conv=>whnf);first|refine Both.mk ?_ ?_|refine Both.mk ?_ ?_|refine Fork.mkn (fun h=>?_) (fun h=>?_)|(refine Side.mk ?_ ?_;focus (first|with_reducible rfl|assumption|(intros;(try simp only [lenS,inR,cutS,loI,hiI] at *);omega)))|refine Got.mk (fun _ _=>?_))|fail);all_goals try (conv=>whnf);all_goals try (exfalso;omega)
         all_goals
           refine CallS.mk (c:=dwr_c) (((L,apS S (f+nx) g nx b i,apQ q (f+nx) g nx b i),f+nx+i,pgR g nx b i)) ?_;clear hpg hkd hk1 hk0 hc1 hc2 hp1 hp2
           repeat' (first|(with_reducible first|refine Unf.h ?_|refine loopK_n ?_)|((conv=>whnf);first|refine Fork.mkn (fun h=>?_) (fun h=>?_)|(refine Side.mk ?_ ?_;focus (first|with_reducible rfl|assumption|(refine congrArg (SV.int _) ?_;omega)|(intros;(try simp only [lenS,inR,cutS,loI,hiI] at *);omega)))|refine Got.mk (fun _ _=>?_))|fail);all_goals try (conv=>whnf);all_goals try (exfalso;omega)
         all_goals
           clear hpw;rename_i p hpp;have hpp2:toPg (pgR g nx b i)=p:=(toPg_of hpp).symm;have eS:apS S (f+nx) g nx b (i+1)=(apS S (f+nx) g nx b i).set (f+nx+i) p:=by rw [← hpp2];rfl
           have eQ:apQ q (f+nx) g nx b (i+1)=apQ q (f+nx) g nx b i++[((f+nx+i,(show Pg from p)):Nat×Pg)]:=by rw [← hpp2];rfl
           clear hpp hpp2;refine ⟨i+1,⟨by omega,by omega⟩,?_⟩
           rw [eS,eQ];clear eS eQ
           repeat' (first|(with_reducible refine Unf.h ?_)|((conv=>whnf);first|(refine Side.mk ?_ ?_;focus (first|with_reducible rfl|(refine congrArg (SV.int _) ?_;omega)))|(with_reducible refine Unf.h ?_)|exact True.intro)|fail);all_goals try (conv=>whnf);all_goals try (exfalso;omega)
   · obtain rfl:i=nPt b.length:=by omega
     repeat' (first|(with_reducible refine Unf.h ?_)|((conv=>whnf);first|refine Fork.mk (fun h=>?_) (fun h=>?_)|(refine Side.mk ?_ ?_;focus (first|with_reducible rfl|(refine congrArg (SV.int _) ?_;omega)|(intros;(try simp only [lenS,inR,cutS,loI,hiI] at *);omega)))|refine RetE.mk () trivial ?_|refine retK_r ?_|exact rfl)|fail);all_goals try (conv=>whnf);all_goals try (exfalso;omega)
def lappF_c:Ctr where
 D:=(List Pg×List Pg×List (Nat×Pg))×(Nat×Nat×BitVec 32×Nat)×Bs
 pre:=fun (_,(_,c,_,nx),b)=>1≤b.length∧b.length≤6000∧c<nx+nPt b.length∧nx≤100000∧c≤100000
 args:=fun (_,_,b)=>[.ptr 0 0,.fs 1 eB b]
 objs:=fun ((L,S,q),(f,c,g,nx),_)=>[(0,logB (f:Int) (c:Int) g nx),(1,devB 2 3 4),(2,.row 189 128 ePg L),(3,.row 189 128 ePg S),(4,.row 208 129 eQw q)]
 nn:=5
 res:=fun _ _=>.int .i64 5
 out:=fun ((L,S,q),(f,c,g,nx),_) _=>[(0,logB (f:Int) (c:Int) g nx),(1,devB 2 3 4),(2,.row 189 128 ePg L),(3,.row 189 128 ePg S),(4,.row 208 129 eQw q)]
def lappF_H:Cfg:=⟨[(49,lprt_c),(50,lroom_c),(51,wpg_c),(52,dwr_c),(53,ldone_c)],[(11,[3,7],[22,23],(oA 0 (oA 1 (oA 2 (oB 3 (oA 4 (oA 5 (oA 6 (oB 7 (oA 8 (oA 9 (oA 10 (oA 11 (oA 12 (oA 13 (oA 14 (oA 15 (oA 16 (oA 17 (oA 18 (oA 19 (oA 20 (oA 21 (oD 22 (oC 23 .nil)))))))))))))))))))))))),[]),(19,[3,7,11],[16],(oA 0 (oA 1 (oA 2 (oB 3 (oA 4 (oA 5 (oA 6 (oB 7 (oA 8 (oA 9 (oA 10 (oB 11 (oA 12 (oA 13 (oA 14 (oA 15 (oC 16 (oA 17 .nil)))))))))))))))))),[])],[],[],111,5,[],[],[]⟩
theorem lappF_ok:lappF_c.Ok Tryz.prog 28:=by
 refine fn_ok lappF_H 5 rfl _ Tryz.func28 rfl rfl ⟨lprt_ok,lroom_ok,wpg_ok,dwr_ok,ldone_ok,trivial⟩ rfl rfl (by kernel_rfl) (fun _=>nlb rfl) ?_
 rintro ⟨⟨L,S,q⟩,⟨f,c,g,nx⟩,b⟩ hp hr
 try dsimp only [lappF_c] at hp
 try simp only [lappF_c,Rng,RngL,inR,and_true,true_and] at hr
 obtain ⟨hp1,hp2,hp3,hp4,hp5⟩:=hp;have hp1:1≤b.length:=hp1;have hp2:b.length≤6000:=hp2;have hp3:c<nx+nPt b.length:=hp3;have hp4:nx≤100000:=hp4;have hp5:c≤100000:=hp5;have h1:lprt_c.pre b.length:=⟨hp1,by omega⟩
 have h2:lroom_c.pre ((f:Int),(c:Int),g,nx):=⟨by omega,by omega,by omega⟩
 repeat' (first|(with_reducible refine Unf.h ?_)|((conv=>whnf);first|refine Fork.mk (fun h=>?_) (fun h=>?_)|(refine Side.mk ?_ ?_;focus (first|with_reducible rfl|assumption|(refine congrArg (SV.int _) ?_;omega)))|refine RetE.mk () trivial ?_|refine Got.mk (fun _ _=>?_)|refine retK_r ?_|exact rfl|refine CallS.mk (c:=lprt_c) (b.length) ?_|refine CallS.mk (c:=lroom_c) (((f:Int),(c:Int),g,nx)) ?_)|fail);all_goals try (conv=>whnf);all_goals try (exfalso;omega)
end Go.Proofs.YtfljmihdeimahaaGreatDoor
namespace Go.Proofs.YtfljmihdeimahaaGreatDoor
set_option linter.all false
open Go.RowKit
def wpdY_c:Ctr where
 D:=BitVec 32×Nat
 args:=fun (l,n)=>[.fs 1 eB z128,.int .i64 ((n:Int)+1),.u32 l]
 res:=fun _ _=>.tup [.agg [.u32 0#32,.int .i64 0,.int .i64 0,.fs 1 eB []],.bool false]
def wpdY_H:Cfg:=⟨[(41,rnew_c),(74,zu64_c),(86,zu8_c),(77,zpl_c),(44,rdn_c)],[(16,[0,7,12,18],[22],(oB 0 (oA 1 (oA 2 (oA 3 (oA 4 (oA 5 (oA 6 (oB 7 (oA 8 (oA 9 (oA 10 (oA 11 (oB 12 (oA 13 (oA 14 (oA 15 (oA 16 (oA 17 (oB 18 (oA 19 (oA 20 (oA 21 (oD 22 (oA 23 .nil)))))))))))))))))))))))),[6])],[],[],89,0,[],[],[]⟩
theorem wpdY_ok:wpdY_c.Ok Tryz.prog 48:=by
 refine fn_ok wpdY_H 0 rfl _ Tryz.func48 rfl rfl ⟨rnew_ok,zu64_ok,zu8_ok,zpl_ok,rdn_ok,trivial⟩ rfl rfl (by kernel_rfl) (fun _=>nlb rfl) ?_
 rintro ⟨l,n⟩ hp hr
 try dsimp only [wpdY_c] at hp
 try simp only [wpdY_c,Rng,RngL,inR,and_true,true_and] at hr
 have hp1:rnew_c.pre z128:=by show z128.length≤1000000;rw [zl];omega
 have hp2:zu64_c.pre (120:Nat):=show 120≤1000 by omega
 have hp3:zu8_c.pre (119:Nat):=show 119≤1000 by omega
 have hp4:zu8_c.pre (118:Nat):=show 118≤1000 by omega
 have hp5:zpl_c.pre (0,118):=⟨by omega,by omega⟩
 have hp6:zpl_c.pre (110,8):=⟨by omega,by omega⟩
 have hp7:zu64_c.pre (0:Nat):=show 0≤1000 by omega
 repeat' (first|(with_reducible refine Unf.h ?_)|fail);all_goals try (conv=>whnf);all_goals try (exfalso;omega)
 refine CallS.mk (c:=rnew_c) (z128) ?_
 repeat' (first|(with_reducible refine Unf.h ?_)|((conv=>whnf);first|(refine Side.mk ?_ ?_;focus (first|with_reducible rfl|assumption))|refine Got.mk (fun _ _=>?_))|fail);all_goals try (conv=>whnf);all_goals try (exfalso;omega)
 refine CallS.mk (c:=zu64_c) ((120:Nat)) ?_
 repeat' (first|(with_reducible refine Unf.h ?_)|((conv=>whnf);first|(refine Side.mk ?_ ?_;focus (first|with_reducible rfl|assumption))|refine Got.mk (fun _ _=>?_))|fail);all_goals try (conv=>whnf);all_goals try (exfalso;omega)
 refine CallS.mk (c:=zu8_c) ((119:Nat)) ?_
 repeat' (first|(with_reducible refine Unf.h ?_)|((conv=>whnf);first|(refine Side.mk ?_ ?_;focus (first|with_reducible rfl|assumption))|refine Got.mk (fun _ _=>?_))|fail);all_goals try (conv=>whnf);all_goals try (exfalso;omega)
 refine CallS.mk (c:=zu8_c) ((118:Nat)) ?_
 repeat' (first|(with_reducible refine Unf.h ?_)|((conv=>whnf);first|refine Fork.mk (fun h=>?_) (fun h=>?_)|(refine Side.mk ?_ ?_;focus (first|with_reducible rfl|assumption))|refine Got.mk (fun _ _=>?_))|fail);all_goals try (conv=>whnf);all_goals try (exfalso;omega)
 refine CallS.mk (c:=zpl_c) ((0,118)) ?_
 repeat' (first|(with_reducible refine Unf.h ?_)|((conv=>whnf);first|(refine Side.mk ?_ ?_;focus (first|with_reducible rfl|assumption|(refine congrArg (SV.int _) ?_;omega)|(intros;(try simp only [lenS,inR,cutS,loI,hiI] at *);omega)))|refine Got.mk (fun _ _=>?_))|fail);all_goals try (conv=>whnf);all_goals try (exfalso;omega)
 refine CallS.mk (c:=zpl_c) ((110,8)) ?_
 repeat' (first|(with_reducible refine Unf.h ?_)|((conv=>whnf);first|(refine Side.mk ?_ ?_;focus (first|with_reducible rfl|assumption|(refine congrArg (SV.int _) ?_;omega)))|refine Got.mk (fun _ _=>?_))|fail);all_goals try (conv=>whnf);all_goals try (exfalso;omega)
 have hl:(List.replicate 110 0#8).length=110:=zl _;refine LoopS.autoN (I:=Nat) (fun i=>i≤110) (fun i=>[(43,.int .i64 (i:Int))]) (fun _=>[(0,.box 139 [.u32 0#32,.int .i64 0,.int .i64 0,.nils]),(1,rdO (List.replicate 8 0#8)),(2,.box 139 [.u32 0#32,.int .i64 0,.int .i64 0,.fs 1 eB []])]) 3 (fun i=>110 - i) 0 (Nat.zero_le _) ?_ ?_
 · repeat' (first|(with_reducible refine Unf.h ?_)|((conv=>whnf);first|(refine Side.mk ?_ ?_;focus (first|with_reducible rfl|(refine congrArg (SV.int _) ?_;omega)|(simp [*];done)))|(with_reducible refine Unf.h ?_)|exact True.intro)|fail);all_goals try (conv=>whnf);all_goals try (exfalso;omega)
 · intro i hi
   rcases Nat.lt_or_ge i 110 with h|h
   · have hz0:(List.replicate 110 0#8)[((i:Nat):Int).toNat]'(by rw [hl];omega)=0#8:=List.getElem_replicate ..
     repeat' (first|(with_reducible first|refine Unf.h ?_|refine loopK_n ?_)|((conv=>whnf);first|refine Fork.mkn (fun h=>?_) (fun h=>?_)|refine Fork.mk (fun h=>?_) (fun h=>?_)|(refine Side.mk ?_ ?_;focus (first|with_reducible rfl|(intros;(try simp only [lenS,inR,cutS,loI,hiI] at *);omega)))|(refine Idx.mk ?_ ?_;focus (omega))|refine RetE.mk () trivial ?_|refine retK_r ?_|exact rfl)|fail);all_goals try (conv=>whnf);all_goals try (exfalso;omega)
     all_goals
       refine ⟨i+1,⟨by omega,by omega⟩,?_⟩
       repeat' (first|(with_reducible refine Unf.h ?_)|((conv=>whnf);first|(refine Side.mk ?_ ?_;focus (first|with_reducible rfl|(refine congrArg (SV.int _) ?_;omega)))|(with_reducible refine Unf.h ?_)|exact True.intro)|fail);all_goals try (conv=>whnf);all_goals try (exfalso;omega)
   · repeat' (first|(with_reducible refine Unf.h ?_)|((conv=>whnf);refine Fork.mk (fun h=>?_) (fun h=>?_))|fail);all_goals try (conv=>whnf);all_goals try (exfalso;omega)
     refine CallS.mk (c:=zu64_c) ((0:Nat)) ?_
     repeat' (first|(with_reducible refine Unf.h ?_)|((conv=>whnf);first|refine Fork.mk (fun h=>?_) (fun h=>?_)|(refine Side.mk ?_ ?_;focus (first|with_reducible rfl|assumption|omega))|refine RetE.mk () trivial ?_|refine Got.mk (fun _ _=>?_)|refine retK_r ?_|exact rfl)|fail);all_goals try (conv=>whnf);all_goals try (exfalso;omega)
     all_goals
       refine CallS.mk (c:=rdn_c) ((List.replicate 0 0#8)) ?_
       repeat' (first|(with_reducible refine Unf.h ?_)|((conv=>whnf);first|refine Fork.mkn (fun h=>?_) (fun h=>?_)|refine Fork.mk (fun h=>?_) (fun h=>?_)|(refine Side.mk ?_ ?_;focus (first|with_reducible rfl|exact True.intro|omega))|refine RetE.mk () trivial ?_|refine Got.mk (fun _ _=>?_)|refine retK_r ?_|exact rfl)|fail);all_goals try (conv=>whnf);all_goals try (exfalso;omega)
def baseP (rs:List Bs):Nat:=(rs.map fun r=>nPt r.length).sum
theorem baseP_snoc (rs:List Bs) (j:Nat) (h:j<rs.length):baseP (rs.take (j+1))=baseP (rs.take j)+nPt rs[j].length:=by
 unfold baseP;rw [List.take_succ_eq_append_getElem h,List.map_append,List.sum_append];simp
theorem baseP_le (rs:List Bs) (j:Nat):baseP (rs.take j)≤baseP rs:=by
 have e:baseP rs=baseP (rs.take j)+baseP (rs.drop j):=by
   unfold baseP;rw [← List.sum_append,← List.map_append,List.take_append_drop]
 omega
theorem baseP_len:∀ rs:List Bs,rs.length≤baseP rs
 | []=>Nat.zero_le _
 | r::rs=>by
   have h:=baseP_len rs;have h1:baseP (r::rs)=nPt r.length+baseP rs:=by unfold baseP;rw [List.map_cons,List.sum_cons]
   have h2:1≤nPt r.length:=by unfold nPt;omega
   rw [List.length_cons];omega
structure LogAt (S:List Pg) (f c:Nat) (l:BitVec 32) (rs:List Bs):Prop where
 few:∀ r∈rs,1≤r.length∧r.length≤6000
 fit:baseP rs≤c
 pg:∀ j (h:j<rs.length) i,i<nPt rs[j].length→∃ p,S[f+(baseP (rs.take j)+i)]?=some p∧p.toList=pgF l ((baseP (rs.take j)+i+1:Nat):Int) (kdF i (nPt rs[j].length)) (ctB rs[j] i)
 fin:baseP rs<c→S[f+baseP rs]?=some zeroPg
theorem ctB_take {b:Bs} {i:Nat} (h:i<nPt b.length) (hb:1≤b.length):b.take (i*110)++ctB b i=b.take ((i+1)*110):=by
 have h2:=(ctB_len h hb).2;have e:ctB b i=(b.take (min ((i+1)*110) b.length)).drop (i*110):=by
   unfold ctB cutL;dsimp only;rw [show ((i:Int)*110).toNat=i*110 by omega,show (min (((i:Int)+1)*110) (b.length:Int)).toNat=min ((i+1)*110) b.length by omega]
 have e2:b.take (i*110)=(b.take (min ((i+1)*110) b.length)).take (i*110):=by
   rw [List.take_take,Nat.min_eq_left h2]
 rw [e,e2,List.take_append_drop,← List.take_eq_take_min]
theorem ctB_last {b:Bs} {i:Nat} (h:i+1=nPt b.length):b.take ((i+1)*110)=b:=by
 unfold nPt at h;exact List.take_of_length_le (by omega)
theorem ctB_full {b:Bs} {i:Nat} (h:i+1<nPt b.length):(ctB b i).length=110:=by
 unfold nPt at h;unfold ctB cutL;simp only [List.length_drop,List.length_take];omega
abbrev eBs (b:Bs):List SV:=[.fs 1 eB b]
abbrev logD (f c:Int) (g:BitVec 32) (nx:Nat):SO:=.box 137 [.ptr 0 0,.int .i64 f,.int .i64 c,.u32 g,.int .i64 (nx:Int),.bool false]
def wop_c:Ctr where
 D:=(List Pg×List Pg×List (Nat×Pg))×(Nat×Nat×BitVec 32×BitVec 32)×List Bs
 pre:=fun ((L,S,_),(f,c,l,g),rs)=>f+c≤L.length∧L.length≤4096∧0<l.toNat∧l.toNat≤g.toNat∧LogAt S f c l rs
 args:=fun (_,(f,c,l,g),_)=>[.ptr 0 0,.int .i64 (f:Int),.int .i64 (c:Int),.u32 l,.u32 g]
 objs:=fun ((L,S,q),_)=>devs L S q
 nn:=4
 res:=fun _ _=>.tup [.ptr 4 0,.own 5,.int .i64 0]
 out:=fun ((L,S,q),(f,c,_,g),rs) _=>devs L S q++[(4,logD (f:Int) (c:Int) g (baseP rs)),(5,.row 42 1 eBs rs)]
 mm:=2
def wop_H:Cfg:=⟨[(47,wmay_c),(39,drd_c),(48,wpd_c),(48,wpdY_c)],[(17,[1,3],[],(oA 0 (oB 1 (oA 2 (oB 3 (oA 4 (oA 5 .nil)))))),[])],[],[],106,4,[],[],[]⟩
set_option maxHeartbeats 4000000 in
theorem wop_ok:wop_c.Ok Tryz.prog 21:=by
 refine fn_ok wop_H 4 rfl _ Tryz.func21 rfl rfl ⟨wmay_ok,drd_ok,wpd_ok,wpdY_ok,trivial⟩ rfl rfl (by kernel_rfl) (fun _=>nlb rfl) ?_
 rintro ⟨⟨L,S,q⟩,⟨f,c,l,g⟩,rs⟩ hp hr
 try dsimp only [wop_c] at hp
 try simp only [wop_c,Rng,RngL,inR,and_true,true_and] at hr
 obtain ⟨hp1,hp0,hp2,hp3,hlog⟩:=hp;have hp1:f+c≤L.length:=hp1;have hp0:L.length≤4096:=hp0;have hm:wmay_c.pre ((L,S,q),f,c,l,g):=⟨hp1,by omega,hp2,hp3⟩
 have el:=zeroPg_list;have hl0:¬ l=0#32:=fun h=>by subst h;exact absurd hp2 (by decide)
 have hfit:=hlog.fit;have hbln:=baseP_len rs
 repeat' (first|(with_reducible refine Unf.h ?_)|((conv=>whnf);first|(refine Side.mk ?_ ?_;focus (first|with_reducible rfl|assumption))|refine Got.mk (fun _ _=>?_)|refine CallS.mk (c:=wmay_c) (((L,S,q),f,c,l,g)) ?_)|fail);all_goals try (conv=>whnf);all_goals try (exfalso;omega)
 refine LoopS.mk (I:=Nat) (fun j=>j≤rs.length) (fun j=>[(15,.int .i64 (baseP (rs.take j):Int)),(14,.own 5),(13,.ptr 4 0),(0,.ptr 0 0),(1,.int .i64 (f:Int)),(2,.int .i64 (c:Int)),(3,.u32 l),(4,.u32 g),(10,.nilp),(11,.nils),(12,.int .i64 0)]) (fun j=>devs L S q++[(4,logD (f:Int) (c:Int) g (baseP (rs.take j))),(5,.row 42 1 eBs (rs.take j))]) 6 (fun j=>rs.length - j) 0 (Nat.zero_le _) ?_ ?_
 · have e0:rs.take 0=[]:=rfl
   have e1:baseP []=0:=rfl
   repeat' (first|(with_reducible refine Unf.h ?_)|((conv=>whnf);first|(refine Side.mk ?_ ?_;focus (first|with_reducible rfl|assumption|(simp [*,e0,e1];done)))|(with_reducible refine Unf.h ?_)|exact True.intro)|fail);all_goals try (conv=>whnf);all_goals try (exfalso;omega)
 · intro j hj
   have hj:j≤rs.length:=hj;have hbl:=baseP_le rs j;have hjl:(rs.take j).length≤4096:=by rw [List.length_take];omega
   rcases Nat.lt_or_ge j rs.length with h|h
   · obtain ⟨r,hrj⟩:∃ r,rs[j]=r:=⟨_,rfl⟩
     obtain ⟨hr1,hr2⟩:=hlog.few r (hrj▸List.getElem_mem _);have hsn:=baseP_snoc rs j h;have hpgs:=hlog.pg j h;rw [hrj] at hsn hpgs;have hbl2:=baseP_le rs (j+1);have hnp:1≤nPt r.length:=by unfold nPt;omega
     generalize hbs:baseP (rs.take j)=bs at *;have hts:rs.take (j+1)=rs.take j++[r]:=by rw [List.take_succ_eq_append_getElem h,hrj]
     repeat' (first|(with_reducible refine Unf.h ?_)|((conv=>whnf);refine Fork.mk (fun h=>?_) (fun h=>?_))|fail);all_goals try (conv=>whnf);all_goals try (exfalso;omega)
     refine LoopS.mk (I:=Nat) (fun i=>i<nPt r.length) (fun i=>[(15,.int .i64 ((bs+i:Nat):Int)),(16,.own 6),(17,.u32 (if i=0 then 0#32 else l)),(14,.own 5),(13,.ptr 4 0),(0,.ptr 0 0),(1,.int .i64 (f:Int)),(2,.int .i64 (c:Int)),(3,.u32 l),(4,.u32 g),(10,.nilp),(11,.nils),(12,.int .i64 0)]) (fun i=>devs L S q++[(4,logD (f:Int) (c:Int) g bs),(5,.row 42 1 eBs (rs.take j)),(6,.row 5 1 eB (r.take (i*110)))]) 7 (fun i=>nPt r.length - i) 0 (by show 0<nPt r.length;omega) ?_ ?_
     · have e0:r.take (0*110)=[]:=by simp
       have e1:(if (0:Nat)=0 then 0#32 else l)=0#32:=rfl
       rw [e0,e1]
       repeat' (first|(with_reducible refine Unf.h ?_)|((conv=>whnf);first|(refine Side.mk ?_ ?_;focus (first|with_reducible rfl|(refine congrArg (SV.int _) ?_;omega)))|(with_reducible refine Unf.h ?_)|exact True.intro)|fail);all_goals try (conv=>whnf);all_goals try (exfalso;omega)
     · intro i hi
       have hi:i<nPt r.length:=hi;obtain ⟨p,hpS,hpl⟩:=hpgs i hi;have hrd:drd_c.pre ((L,S,q),f+(bs+i),p):=⟨by show f+(bs+i)<L.length;omega,hpS⟩
       obtain ⟨hc1,hc2⟩:=ctB_len hi hr1;have hct:=ctB_take hi hr1;have hk4:(i=0∧i+1=nPt r.length∧kdF i (nPt r.length)=3)∨(i=0∧i+1<nPt r.length∧kdF i (nPt r.length)=1)∨(0<i∧i+1=nPt r.length∧kdF i (nPt r.length)=2)∨(0<i∧i+1<nPt r.length∧kdF i (nPt r.length)=0):=by
         unfold kdF
         by_cases h0:i=0
         · by_cases h1:i+1=nPt r.length
           · left;refine ⟨h0,h1,?_⟩;rw [if_pos h0,if_pos h1];rfl
           · right;left;refine ⟨h0,by omega,?_⟩;rw [if_pos h0,if_neg h1];rfl
         · by_cases h1:i+1=nPt r.length
           · right;right;left;refine ⟨by omega,h1,?_⟩;rw [if_neg h0,if_pos h1];rfl
           · right;right;right;refine ⟨by omega,by omega,?_⟩;rw [if_neg h0,if_neg h1];rfl
       have hlr2:(r.take (i*110)++ctB r i).length≤6000:=by rw [hct,List.length_take];omega
       have hlr:(r.take ((i+1)*110)).length≤6000:=by rw [List.length_take];omega
       have hwp:∀ k,kdF i (nPt r.length)=k→((ctB r i).length=110∨2≤k)→0≤k→k≤3→wpd_c.pre ((l,bs+i+1,k,ctB r i),l):=fun k h1 h2 h3 h4=>⟨by omega,h3,h4,hc1,h2,Nat.le_refl _⟩
       clear hm hr hpgs hlog;rcases hk4 with ⟨h0,h1,hk⟩|⟨h0,h1,hk⟩|⟨h0,h1,hk⟩|⟨h0,h1,hk⟩
       · have hw:=hwp 3 hk (.inr (by omega)) (by omega) (by omega)
         rw [hk] at hpl;have hlast:r.take ((i+1)*110)=r:=ctB_last h1;rw [if_pos h0]
         repeat' (first|(with_reducible refine Unf.h ?_)|((conv=>whnf);first|refine Fork.mk (fun h=>?_) (fun h=>?_)|(refine Side.mk ?_ ?_;focus ((intros;(try simp only [lenS,inR,cutS,loI,hiI] at *);omega))))|fail);all_goals try (conv=>whnf);all_goals try (exfalso;omega)
         refine CallS.mk (c:=drd_c) (((L,S,q),f+(bs+i),p)) ?_
         repeat' (first|(with_reducible refine Unf.h ?_)|((conv=>whnf);first|refine Fork.mkn (fun h=>?_) (fun h=>?_)|(refine Side.mk ?_ ?_;focus (first|with_reducible rfl|assumption|(refine congrArg (SV.int _) ?_;omega)|(intros;(try simp only [lenS,inR,cutS,loI,hiI] at *);omega)))|refine Got.mk (fun _ _=>?_))|fail);all_goals try (conv=>whnf);all_goals try (exfalso;omega)
         rw [hpl];refine Or2.l (CallS.mk (c:=wpd_c) (((l,bs+i+1,3,ctB r i),l)) ?_)
         repeat' (first|(with_reducible first|refine Unf.h ?_|refine loopK_n ?_)|((conv=>whnf);first|refine Fork.mkn (fun h=>?_) (fun h=>?_)|refine Fork.mk (fun h=>?_) (fun h=>?_)|(refine Side.mk ?_ ?_;focus (first|with_reducible rfl|assumption|omega|(refine congrArg (SV.int _) ?_;omega)|(intros;(try simp only [lenS,inR,cutS,loI,hiI] at *);omega)))|refine RetE.mk () trivial ?_|refine Got.mk (fun _ _=>?_)|refine Ex.mk _ rfl ?_|refine Ex.mk [_] rfl ?_|refine retK_r ?_)|fail);all_goals try (conv=>whnf);all_goals try (exfalso;omega)
         all_goals try (exact absurd h (by decide))
         all_goals try (exact absurd (by decide) h)
         all_goals try (exact absurd (by rw [decide_eq_false hl0];decide) h)
         all_goals try (exact absurd rfl (by assumption))
         all_goals try (exact absurd (by assumption) hl0)
         all_goals try (exfalso;omega)
         refine ⟨j+1,⟨by omega,by omega⟩,?_⟩
         rw [hsn,hts,hct,hlast]
         repeat' (first|(with_reducible refine Unf.h ?_)|((conv=>whnf);first|(refine Side.mk ?_ ?_;focus (first|with_reducible rfl|(refine congrArg (SV.int _) ?_;omega)))|(with_reducible refine Unf.h ?_)|exact True.intro)|fail);all_goals try (conv=>whnf);all_goals try (exfalso;omega)
       · have hw:=hwp 1 hk (.inl (ctB_full h1)) (by omega) (by omega)
         rw [hk] at hpl;rw [if_pos h0]
         repeat' (first|(with_reducible refine Unf.h ?_)|((conv=>whnf);first|refine Fork.mk (fun h=>?_) (fun h=>?_)|(refine Side.mk ?_ ?_;focus ((intros;(try simp only [lenS,inR,cutS,loI,hiI] at *);omega))))|fail);all_goals try (conv=>whnf);all_goals try (exfalso;omega)
         refine CallS.mk (c:=drd_c) (((L,S,q),f+(bs+i),p)) ?_
         repeat' (first|(with_reducible refine Unf.h ?_)|((conv=>whnf);first|refine Fork.mkn (fun h=>?_) (fun h=>?_)|(refine Side.mk ?_ ?_;focus (first|with_reducible rfl|assumption|(refine congrArg (SV.int _) ?_;omega)|(intros;(try simp only [lenS,inR,cutS,loI,hiI] at *);omega)))|refine Got.mk (fun _ _=>?_))|fail);all_goals try (conv=>whnf);all_goals try (exfalso;omega)
         rw [hpl];refine Or2.l (CallS.mk (c:=wpd_c) (((l,bs+i+1,1,ctB r i),l)) ?_)
         repeat' (first|(with_reducible first|refine Unf.h ?_|refine loopK_n ?_)|((conv=>whnf);first|refine Fork.mkn (fun h=>?_) (fun h=>?_)|refine Fork.mk (fun h=>?_) (fun h=>?_)|(refine Side.mk ?_ ?_;focus (first|with_reducible rfl|assumption|omega|(refine congrArg (SV.int _) ?_;omega)|(intros;(try simp only [lenS,inR,cutS,loI,hiI] at *);omega)))|refine RetE.mk () trivial ?_|refine Got.mk (fun _ _=>?_)|refine Ex.mk _ rfl ?_|refine Ex.mk [_] rfl ?_|refine retK_r ?_)|fail);all_goals try (conv=>whnf);all_goals try (exfalso;omega)
         all_goals try (exact absurd h (by decide))
         all_goals try (exact absurd (by decide) h)
         all_goals try (exact absurd (by rw [decide_eq_false hl0];decide) h)
         all_goals try (exact absurd rfl (by assumption))
         all_goals try (exact absurd (by assumption) hl0)
         all_goals try (exfalso;omega)
         refine ⟨i+1,⟨by omega,by omega⟩,?_⟩
         rw [← hct,if_neg (Nat.succ_ne_zero i)]
         repeat' (first|(with_reducible refine Unf.h ?_)|((conv=>whnf);first|(refine Side.mk ?_ ?_;focus (first|with_reducible rfl|(refine congrArg (SV.int _) ?_;omega)))|(with_reducible refine Unf.h ?_)|exact True.intro)|fail);all_goals try (conv=>whnf);all_goals try (exfalso;omega)
       · have hw:=hwp 2 hk (.inr (by omega)) (by omega) (by omega)
         rw [hk] at hpl;have hlast:r.take ((i+1)*110)=r:=ctB_last h1;rw [if_neg (by omega)]
         repeat' (first|(with_reducible refine Unf.h ?_)|((conv=>whnf);first|refine Fork.mk (fun h=>?_) (fun h=>?_)|(refine Side.mk ?_ ?_;focus ((intros;(try simp only [lenS,inR,cutS,loI,hiI] at *);omega))))|fail);all_goals try (conv=>whnf);all_goals try (exfalso;omega)
         refine CallS.mk (c:=drd_c) (((L,S,q),f+(bs+i),p)) ?_
         repeat' (first|(with_reducible refine Unf.h ?_)|((conv=>whnf);first|refine Fork.mkn (fun h=>?_) (fun h=>?_)|(refine Side.mk ?_ ?_;focus (first|with_reducible rfl|assumption|(refine congrArg (SV.int _) ?_;omega)|(intros;(try simp only [lenS,inR,cutS,loI,hiI] at *);omega)))|refine Got.mk (fun _ _=>?_))|fail);all_goals try (conv=>whnf);all_goals try (exfalso;omega)
         rw [hpl];refine Or2.l (CallS.mk (c:=wpd_c) (((l,bs+i+1,2,ctB r i),l)) ?_)
         repeat' (first|(with_reducible first|refine Unf.h ?_|refine loopK_n ?_)|((conv=>whnf);first|refine Fork.mkn (fun h=>?_) (fun h=>?_)|refine Fork.mk (fun h=>?_) (fun h=>?_)|(refine Side.mk ?_ ?_;focus (first|with_reducible rfl|assumption|omega|(refine congrArg (SV.int _) ?_;omega)|(intros;(try simp only [lenS,inR,cutS,loI,hiI] at *);omega)))|refine RetE.mk () trivial ?_|refine Got.mk (fun _ _=>?_)|refine Ex.mk _ rfl ?_|refine Ex.mk [_] rfl ?_|refine retK_r ?_)|fail);all_goals try (conv=>whnf);all_goals try (exfalso;omega)
         all_goals try (exact absurd h (by decide))
         all_goals try (exact absurd (by decide) h)
         all_goals try (exact absurd (by rw [decide_eq_false hl0];decide) h)
         all_goals try (exact absurd rfl (by assumption))
         all_goals try (exact absurd (by assumption) hl0)
         all_goals try (exfalso;omega)
         refine ⟨j+1,⟨by omega,by omega⟩,?_⟩
         rw [hsn,hts,hct,hlast]
         repeat' (first|(with_reducible refine Unf.h ?_)|((conv=>whnf);first|(refine Side.mk ?_ ?_;focus (first|with_reducible rfl|(refine congrArg (SV.int _) ?_;omega)))|(with_reducible refine Unf.h ?_)|exact True.intro)|fail);all_goals try (conv=>whnf);all_goals try (exfalso;omega)
       · have hw:=hwp 0 hk (.inl (ctB_full h1)) (by omega) (by omega)
         rw [hk] at hpl;rw [if_neg (by omega)]
         repeat' (first|(with_reducible refine Unf.h ?_)|((conv=>whnf);first|refine Fork.mk (fun h=>?_) (fun h=>?_)|(refine Side.mk ?_ ?_;focus ((intros;(try simp only [lenS,inR,cutS,loI,hiI] at *);omega))))|fail);all_goals try (conv=>whnf);all_goals try (exfalso;omega)
         refine CallS.mk (c:=drd_c) (((L,S,q),f+(bs+i),p)) ?_
         repeat' (first|(with_reducible refine Unf.h ?_)|((conv=>whnf);first|refine Fork.mkn (fun h=>?_) (fun h=>?_)|(refine Side.mk ?_ ?_;focus (first|with_reducible rfl|assumption|(refine congrArg (SV.int _) ?_;omega)|(intros;(try simp only [lenS,inR,cutS,loI,hiI] at *);omega)))|refine Got.mk (fun _ _=>?_))|fail);all_goals try (conv=>whnf);all_goals try (exfalso;omega)
         rw [hpl];refine Or2.l (CallS.mk (c:=wpd_c) (((l,bs+i+1,0,ctB r i),l)) ?_)
         repeat' (first|(with_reducible first|refine Unf.h ?_|refine loopK_n ?_)|((conv=>whnf);first|refine Fork.mkn (fun h=>?_) (fun h=>?_)|refine Fork.mk (fun h=>?_) (fun h=>?_)|(refine Side.mk ?_ ?_;focus (first|with_reducible rfl|assumption|omega|(refine congrArg (SV.int _) ?_;omega)|(intros;(try simp only [lenS,inR,cutS,loI,hiI] at *);omega)))|refine RetE.mk () trivial ?_|refine Got.mk (fun _ _=>?_)|refine Ex.mk _ rfl ?_|refine Ex.mk [_] rfl ?_|refine retK_r ?_)|fail);all_goals try (conv=>whnf);all_goals try (exfalso;omega)
         all_goals try (exact absurd h (by decide))
         all_goals try (exact absurd (by decide) h)
         all_goals try (exact absurd (by rw [decide_eq_false hl0];decide) h)
         all_goals try (exact absurd rfl (by assumption))
         all_goals try (exact absurd (by assumption) hl0)
         all_goals try (exfalso;omega)
         refine ⟨i+1,⟨by omega,by omega⟩,?_⟩
         rw [← hct,if_neg (Nat.succ_ne_zero i)]
         repeat' (first|(with_reducible refine Unf.h ?_)|((conv=>whnf);first|(refine Side.mk ?_ ?_;focus (first|with_reducible rfl|(refine congrArg (SV.int _) ?_;omega)))|(with_reducible refine Unf.h ?_)|exact True.intro)|fail);all_goals try (conv=>whnf);all_goals try (exfalso;omega)
   · have e0:rs.take j=rs:=List.take_of_length_le h
     rw [e0];have hfin:=hlog.fin;rcases Nat.lt_or_ge (baseP rs) c with h1|h1
     · have hrd:drd_c.pre ((L,S,q),f+baseP rs,zeroPg):=⟨by show f+baseP rs<L.length;omega,hfin h1⟩
       clear hlog hfin
       repeat' (first|(with_reducible refine Unf.h ?_)|((conv=>whnf);refine Fork.mk (fun h=>?_) (fun h=>?_))|fail);all_goals try (conv=>whnf);all_goals try (exfalso;omega)
       refine LoopS.mk (I:=Unit) (fun _=>True) (fun _=>[(15,.int .i64 (baseP rs:Int)),(14,.own 5),(3,.u32 l),(16,.nils),(17,.u32 0#32),(13,.ptr 4 0),(0,.ptr 0 0),(1,.int .i64 (f:Int)),(2,.int .i64 (c:Int)),(4,.u32 g),(10,.nilp),(11,.nils),(12,.int .i64 0)]) (fun _=>devs L S q++[(4,logD (f:Int) (c:Int) g (baseP rs)),(5,.row 42 1 eBs rs)]) 6 (fun _=>0) () trivial ?_ ?_
       · repeat' (first|(with_reducible refine Unf.h ?_)|((conv=>whnf);first|(refine Side.mk ?_ ?_;focus (with_reducible rfl))|(with_reducible refine Unf.h ?_)|exact True.intro)|fail);all_goals try (conv=>whnf);all_goals try (exfalso;omega)
       · intro _ _
         repeat' (first|(with_reducible refine Unf.h ?_)|((conv=>whnf);first|refine Fork.mk (fun h=>?_) (fun h=>?_)|(refine Side.mk ?_ ?_;focus ((intros;(try simp only [lenS,inR,cutS,loI,hiI] at *);omega))))|fail);all_goals try (conv=>whnf);all_goals try (exfalso;omega)
         refine CallS.mk (c:=drd_c) (((L,S,q),f+baseP rs,zeroPg)) ?_
         repeat' (first|(with_reducible refine Unf.h ?_)|((conv=>whnf);first|refine Fork.mkn (fun h=>?_) (fun h=>?_)|(refine Side.mk ?_ ?_;focus (first|with_reducible rfl|assumption|(refine congrArg (SV.int _) ?_;omega)|(intros;(try simp only [lenS,inR,cutS,loI,hiI] at *);omega)))|refine Got.mk (fun _ _=>?_))|fail);all_goals try (conv=>whnf);all_goals try (exfalso;omega)
         rw [el];refine Or2.r (CallS.mk (c:=wpdY_c) ((l,baseP rs)) ?_)
         repeat' (first|(with_reducible refine Unf.h ?_)|((conv=>whnf);first|(refine Side.mk ?_ ?_;focus (first|with_reducible rfl|exact True.intro))|refine RetE.mk () trivial ?_|refine Got.mk (fun _ _=>?_)|refine retK_r ?_|exact rfl)|fail);all_goals try (conv=>whnf);all_goals try (exfalso;omega)
     · repeat' (first|(with_reducible refine Unf.h ?_)|((conv=>whnf);first|refine Fork.mk (fun h=>?_) (fun h=>?_)|(refine Side.mk ?_ ?_;focus (with_reducible rfl))|refine RetE.mk () trivial ?_|refine retK_r ?_|exact rfl)|fail);all_goals try (conv=>whnf);all_goals try (exfalso;omega)
end Go.Proofs.YtfljmihdeimahaaGreatDoor
namespace Go.Proofs.YtfljmihdeimahaaGreatDoor
set_option linter.all false
open Go.RowKit
theorem LogAt.set {S:List Pg} {f c:Nat} {l:BitVec 32} {rs:List Bs} (h:LogAt S f c l rs) {k:Nat} (hk:k<f) (p:Pg):LogAt (S.set k p) f c l rs where
 few:=h.few
 fit:=h.fit
 pg:=fun j hj i hi=>by
   obtain ⟨q,h1,h2⟩:=h.pg j hj i hi;exact ⟨q,by rw [List.getElem?_set_ne (by omega)];exact h1,h2⟩
 fin:=fun hc=>by rw [List.getElem?_set_ne (by omega)];exact h.fin hc
def vop1_c:Ctr where
 D:=(List Pg×List Pg)×Pg×List Bs
 pre:=fun ((L,S),p1,rs)=>4≤L.length∧L.length≤4096∧S.length=L.length∧S[0]?=some zeroPg∧S[1]?=some p1∧p1.toList=encS 1#64 (vsB 1#32 1#32)∧LogAt S 2 ((L.length - 2) / 2) 1#32 rs
 args:=fun _=>[.ptr 0 0]
 objs:=fun ((L,S),_)=>devs L S []
 nn:=4
 E:=Pg
 post:=fun _ p=>p.toList=encS 2#64 (vsB 1#32 2#32)
 res:=fun _ _=>.tup [.ptr 7 0,.own 9,.int .i64 0]
 out:=fun ((L,S),_,rs) p=>devN 4 5 6 (L.set 0 p) (S.set 0 p) []++[(7,vltB 1#32 2#32 (.ptr 8 0)),(8,.box 137 [.ptr 0 0,.int .i64 2,.int .i64 (((L.length - 2) / 2:Nat):Int),.u32 2#32,.int .i64 (baseP rs:Int),.bool false]),(9,.row 42 1 eBs rs)]
 mm:=6
def vop1_H:Cfg:=⟨[(17,dpgs_c),(18,sld1_c),(19,vdc_c),(20,vsv1_c),(22,vfr_c),(23,vsp_c),(21,wop_c)],[(17,[3,8,10],[4,6,11],(oA 0 (oA 1 (oA 2 (oB 3 (oA 5 (oA 7 (oB 8 (oA 9 (oB 10 (oD 4 (oD 6 (oC 11 (oA 12 (oA 13 (oA 14 (oA 15 (oA 16 (oA 17 (oA 18 .nil))))))))))))))))))),[2000011,1000000])],[],[],76,4,[],[],[]⟩
theorem vop1_ok:vop1_c.Ok Tryz.prog 6:=by
 refine fn_ok vop1_H 4 rfl _ Tryz.func6 rfl rfl ⟨dpgs_ok,sld1_ok,vdc_ok,vsv1_ok,vfr_ok,vsp_ok,wop_ok,trivial⟩ rfl rfl (by kernel_rfl) (fun _=>nlb rfl) ?_
 rintro ⟨⟨L,S⟩,p1,rs⟩ hp hr
 try dsimp only [vop1_c] at hp
 try simp only [vop1_c,Rng,RngL,inR,and_true,true_and] at hr
 obtain ⟨hp1,hp2,hp3,hp4,hp5,hp6,hp7⟩:=hp;have hp1:4≤L.length:=hp1;have hp2:L.length≤4096:=hp2;have hp3:S.length=L.length:=hp3;have hvl:=vsB_len 1#32 1#32;have h1:sld1_c.pre ((L,S,[]),vsB 1#32 1#32,p1):=⟨by show 2≤L.length;omega,hp4,hp5,hp6,by rw [hvl];omega⟩
 have h2:vsv1_c.pre ((L,S),(0#32,0#32),(vsB 1#32 1#32,p1),1#32,2#32):=⟨by show 2≤L.length;omega,by show 2≤S.length;omega,hp4,hp5,hp6,by rw [hvl];omega⟩
 have hd:vdc_c.pre (1#32,1#32):=⟨by decide,by decide,by decide⟩
 have h3:∀ p,vsp_c.pre ((L.set 0 p,S.set 0 p,[]),1#32,2#32):=fun p=>⟨by show 2≤(L.set 0 p).length;rw [List.length_set];omega,by show (L.set 0 p).length≤100000;rw [List.length_set];omega⟩
 have es:(1#32+1#32:BitVec 32)=2#32:=by decide
 have hls:∀ p:Pg,LogAt (S.set 0 p) 2 ((L.length - 2) / 2) 1#32 rs:=fun p=>hp7.set (by omega) p
 clear hp4 hp5 hp6 hp7
 repeat' (first|(with_reducible refine Unf.h ?_)|((conv=>whnf);first|refine Fork.mk (fun h=>?_) (fun h=>?_)|(refine Side.mk ?_ ?_;focus (first|with_reducible rfl|exact True.intro))|refine Got.mk (fun _ _=>?_)|refine CallS.mk (c:=dpgs_c) ((L,S,[])) ?_)|fail);all_goals try (conv=>whnf);all_goals try (exfalso;omega)
 refine CallS.mk (c:=sld1_c) (((L,S,[]),vsB 1#32 1#32,p1)) ?_
 repeat' (first|(with_reducible refine Unf.h ?_)|((conv=>whnf);first|refine Fork.mkn (fun h=>?_) (fun h=>?_)|refine Fork.mk (fun h=>?_) (fun h=>?_)|(refine Side.mk ?_ ?_;focus (first|with_reducible rfl|assumption))|refine Got.mk (fun _ _=>?_))|fail);all_goals try (conv=>whnf);all_goals try (exfalso;omega)
 all_goals try (exfalso;exact h (by decide))
 refine CallS.mk (c:=vdc_c) ((1#32,1#32)) ?_
 repeat' (first|(with_reducible refine Unf.h ?_)|((conv=>whnf);first|(refine Side.mk ?_ ?_;focus (first|with_reducible rfl|assumption))|refine Got.mk (fun _ _=>?_))|fail);all_goals try (conv=>whnf);all_goals try (exfalso;omega)
 refine CallS.mk (c:=vsv1_c) (((L,S),(0#32,0#32),(vsB 1#32 1#32,p1),1#32,2#32)) ?_
 repeat' (first|(with_reducible refine Unf.h ?_)|((conv=>whnf);first|refine Fork.mkn (fun h=>?_) (fun h=>?_)|(refine Side.mk ?_ ?_;focus (first|with_reducible rfl|assumption|(simp only [*,es];done)))|refine Got.mk (fun _ _=>?_))|fail);all_goals try (conv=>whnf);all_goals try (exfalso;omega)
 rename_i p hpp;have hpp:p.toList=encS 2#64 (vsB 1#32 2#32):=hpp;have hl:(L.set 0 p).length=L.length:=List.length_set ..;have h4:wop_c.pre ((L.set 0 p,S.set 0 p,[]),(2,((L.set 0 p).length - 2) / 2,1#32,2#32),rs):=⟨by show 2+((L.set 0 p).length - 2) / 2≤(L.set 0 p).length;omega,by show (L.set 0 p).length≤4096;omega,by decide,by decide,by show LogAt (S.set 0 p) 2 (((L.set 0 p).length - 2) / 2) 1#32 rs;rw [hl];exact hls p⟩
 have h3:=h3 p;refine CallS.mk (c:=vfr_c) (((L.set 0 p,S.set 0 p,[]),1#32,2#32)) ?_
 repeat' (first|(with_reducible refine Unf.h ?_)|((conv=>whnf);first|(refine Side.mk ?_ ?_;focus (first|with_reducible rfl|exact True.intro))|refine Got.mk (fun _ _=>?_))|fail);all_goals try (conv=>whnf);all_goals try (exfalso;omega)
 refine CallS.mk (c:=vsp_c) (((L.set 0 p,S.set 0 p,[]),1#32,2#32)) ?_
 repeat' (first|(with_reducible refine Unf.h ?_)|((conv=>whnf);first|(refine Side.mk ?_ ?_;focus (first|with_reducible rfl|assumption))|refine Got.mk (fun _ _=>?_))|fail);all_goals try (conv=>whnf);all_goals try (exfalso;omega)
 refine CallS.mk (c:=wop_c) (((L.set 0 p,S.set 0 p,[]),(2,((L.set 0 p).length - 2) / 2,1#32,2#32),rs)) ?_
 repeat' (first|(with_reducible refine Unf.h ?_)|((conv=>whnf);first|refine Fork.mkn (fun h=>?_) (fun h=>?_)|(refine Side.mk ?_ ?_;focus (first|with_reducible rfl|assumption|(refine congrArg (SV.int _) ?_;omega)|(simp only [*,es];done)))|refine Got.mk (fun _ _=>?_)|refine retK_r ?_)|fail);all_goals try (conv=>whnf);all_goals try (exfalso;omega)
 refine RetE.mk (c:=vop1_c) (d:=((L,S),p1,rs)) (show Pg from p) hpp ?_
 repeat' (first|(with_reducible refine Unf.h ?_)|((conv=>whnf);first|(refine Side.mk ?_ ?_;focus (first|with_reducible rfl|(refine congrArg (SV.int _) ?_;omega)))|(with_reducible refine Unf.h ?_)|exact rfl)|fail);all_goals try (conv=>whnf);all_goals try (exfalso;omega)
end Go.Proofs.YtfljmihdeimahaaGreatDoor
namespace Go.Proofs.YtfljmihdeimahaaGreatDoor
set_option linter.all false
open Go.RowKit
def okAll:Pst→List Sl20→Prop
 | _,[]=>True
 | p,x::xs=>okP p x∧okAll (seaP p x) xs
theorem okAll_snoc:∀ (xs:List Sl20) (p:Pst) (x:Sl20),okAll p (xs++[x])↔okAll p xs∧okP (xs.foldl seaP p) x
 | [],p,x=>by show (okP p x∧True)↔(True∧okP p x);simp
 | y::ys,p,x=>by
   show (okP p y∧okAll (seaP p y) (ys++[x]))↔((okP p y∧okAll (seaP p y) ys)∧okP (ys.foldl seaP (seaP p y)) x);rw [okAll_snoc ys,and_assoc]
theorem okAll_take {p:Pst} {xs:List Sl20} (h:okAll p xs):∀ i,okAll p (xs.take i):=fun i=>by
 induction xs generalizing p i with
 | nil=>rw [List.take_nil];trivial
 | cons x xs ih =>
   cases i with
   | zero=>trivial
   | succ i=>exact ⟨h.1,ih h.2 i⟩
structure PsN (n:Nat) (p:Pst):Prop where
 st:StOk p.2.1
 len:p.2.1.length≤n
 tk:p.2.2.1.length≤n
 cl:p.2.2.2.length≤20*n
theorem PsN.ok {n:Nat} {p:Pst} (h:PsN n p) (hn:n<20):PsOk p:=⟨h.st,by have:=h.len;omega,by have:=h.tk;omega,by have:=h.cl;omega⟩
theorem PsN.sea {n:Nat} {p:Pst} {x:Sl20} (h:PsN n p) (hn:n<20) (hx:SlOk x):PsN (n+1) (seaP p x):=by
 have h1:=h.len;have h2:=h.tk;have h3:=h.cl;unfold seaP
 split
 · have h4:=sealF_len (seed:=p.1) (es:=p.2.1) (us:=x.2.map Prod.snd)
   have h5:=clS_len p.2.2.2 ((sealF p.1 p.2.1 (x.2.map Prod.snd)).1.length:Int) x.2;have h6:=hx.n;exact ⟨sealF_ok h.st (by omega),by show (sealF p.1 p.2.1 (x.2.map Prod.snd)).1.length≤n+1;omega,by show (p.2.2.1++[x.1]).length≤n+1;rw [List.length_append];simp;omega,by show (clS p.2.2.2 x.2 ((sealF p.1 p.2.1 (x.2.map Prod.snd)).1.length:Int)).length≤20*(n+1);omega⟩
 · exact ⟨h.st,by omega,by omega,by omega⟩
theorem PsN.fold:∀ {xs:List Sl20} {n:Nat} {p:Pst},PsN n p→n+xs.length≤20→(∀ x∈xs,SlOk x)→PsN (n+xs.length) (xs.foldl seaP p)
 | [],_,_,h,_,_=>h
 | x::xs,n,p,h,hn,hx=>by
   have hn':n+(xs.length+1)≤20:=hn;have h2:=PsN.fold (xs:=xs) (h.sea (by omega) (hx x (by simp))) (by omega) fun y hy=>hx y (by simp [hy])
   rw [show n+1+xs.length=n+(x::xs).length by rw [List.length_cons];omega] at h2
   exact h2
theorem PsN.zero (s:H256):PsN 0 (s,[],[],[]):=⟨StOk.nil,Nat.le_refl _,Nat.le_refl _,Nat.le_refl _⟩
abbrev qO (g:Sg20) (p:Pst) (c:Nat) (nx:Nat):List Ob:=[(4,.box 124 [.ptr 5 0,.ptr 6 0,.ptr 7 0,.own 14,.own 13,.nils,.int .i64 0]),(5,.box 94 [.ptr 0 0,.bool false,.u32 1#32,.u32 2#32,.ptr 15 0,.bool false]),(15,.box 137 [.ptr 0 0,.int .i64 2,.int .i64 (c:Int),.u32 2#32,.int .i64 (nx:Int),.bool false]),(6,signB 2 3 g.1 (eTr 1 3 g.2.1.1 g.2.1.2 g.2.2)),(7,.box 176 [.arr8 p.1,.ptr 8 0,.own 10,.own 11,.own 12]),(8,.box 171 [.own 9]),(9,.row 283 132 eNd (builtF (kvs p.2.1)).1),(10,.row 275 67 eSl (slds p.2.1)),(11,.row 269 2 ePn (peo p.2.1)),(12,nmO (peo p.2.1)),(14,.row 3 1 eI p.2.2.1),(13,clO p.2.2.2)]
abbrev sgnr (s:H256) (l:List H256):Sg20:=(pSeed s,(chId (pSeed s),chSd (pSeed s)),l)
abbrev Dv20:=(List Pg×List Pg)×Pg×List Sl20
def dvPre (d:Dv20):Prop:=vop1_c.pre (d.1,d.2.1,d.2.2.map recB)∧d.2.2.length≤4∧∀ x∈d.2.2,SlOk x
def popA_c:Ctr where
 D:=Dv20×H256
 pre:=fun (d,s)=>dvPre d∧okAll (s,[],[],[]) d.2.2
 args:=fun (_,s)=>[.ptr 0 0,.agg (eFo 1 2 3 s)]
 objs:=fun (((L,S),_,_),_)=>devs L S []
 nn:=4
 E:=Pg×List H256
 post:=fun _ e=>e.1.toList=encS 2#64 (vsB 1#32 2#32)∧e.2.length=4
 res:=fun _ _=>.tup [.ptr 4 0,.int .i64 0]
 out:=fun (((L,S),_,xs),s) e=>devN 16 17 18 (L.set 0 e.1) (S.set 0 e.1) []++qO (sgnr s e.2) (xs.foldl seaP (s,[],[],[])) ((L.length - 2) / 2) (baseP (xs.map recB))
 mm:=15
def popA_H:Cfg:=⟨[(34,htaggedk_c),(33,hnew_c),(6,vop1_c),(35,enew_c),(36,prcl_c)],[(1,[1,3,5],[8,9,10],(oA 0 (oB 1 (oA 2 (oB 3 (oA 4 (oB 5 (oA 6 (oA 7 (oD 8 (oD 9 (oC 10 (oA 11 (oA 12 (oA 13 (oA 14 (oA 15 .nil)))))))))))))))),[])],[],[],59,4,[],[],[]⟩
set_option maxHeartbeats 2000000 in
theorem popA_ok:popA_c.Ok Tryz.prog 14:=by
 refine fn_ok popA_H 4 rfl _ Tryz.func14 rfl rfl ⟨htaggedk_ok,hnew_ok,vop1_ok,enew_ok,prcl_ok,trivial⟩ rfl rfl (by kernel_rfl) (fun _=>nlb rfl) ?_
 rintro ⟨⟨⟨L,S⟩,p1,xs⟩,s⟩ hp hr
 try dsimp only [popA_c] at hp
 try simp only [popA_c,Rng,RngL,inR,and_true,true_and] at hr
 obtain ⟨⟨hpv,hx4,hxs⟩,hall⟩:=hp;have hpx:hnew_c.pre (1,2,3,pSeed s):=⟨by omega,by omega,by omega,by omega,by omega,by omega⟩
 have hpt:=ptag_pre s;have hpv:vop1_c.pre ((L,S),p1,xs.map recB):=hpv;have hx4:xs.length≤4:=hx4;have hxs:∀ x∈xs,SlOk x:=hxs;have hall:okAll (s,[],[],[]) xs:=hall
 repeat' (first|(with_reducible refine Unf.h ?_)|((conv=>whnf);(refine Side.mk ?_ ?_;focus (first|exact True.intro|(intros;(try simp only [lenS,inR,cutS,loI,hiI,cutv2,eP,List.map_cons,List.map_nil] at *);omega))))|fail);all_goals try (conv=>whnf);all_goals try (exfalso;omega)
 all_goals
   refine CallS.mk (c:=htaggedk_c) ((112#8,[s.toList])) ?_
   repeat' (first|(with_reducible refine Unf.h ?_)|((conv=>whnf);first|(refine Side.mk ?_ ?_;focus (first|with_reducible rfl|assumption|(simp only [*,cutv2,eP,List.map_cons,List.map_nil];done)))|refine Got.mk (fun _ _=>?_))|fail);all_goals try (conv=>whnf);all_goals try (exfalso;omega)
 all_goals
   refine CallS.mk (c:=hnew_c) ((1,2,3,pSeed s)) ?_
   repeat' (first|(with_reducible refine Unf.h ?_)|((conv=>whnf);first|refine Fork.mkn (fun h=>?_) (fun h=>?_)|(refine Side.mk ?_ ?_;focus (first|with_reducible rfl|assumption|(refine congrArg (SV.int _) ?_;omega)|(simp only [*,pSeed];done)))|refine Got.mk (fun _ _=>?_))|fail);all_goals try (conv=>whnf);all_goals try (exfalso;omega)
 all_goals
   rename_i l hll;refine CallS.mk (c:=vop1_c) (((L,S),p1,xs.map recB)) ?_
   repeat' (first|(with_reducible refine Unf.h ?_)|((conv=>whnf);first|refine Fork.mkn (fun h=>?_) (fun h=>?_)|(refine Side.mk ?_ ?_;focus (first|with_reducible rfl|assumption))|refine Got.mk (fun _ _=>?_))|fail);all_goals try (conv=>whnf);all_goals try (exfalso;omega)
 all_goals
   rename_i p hpp;have hpp:p.toList=encS 2#64 (vsB 1#32 2#32):=hpp;refine CallS.mk (c:=enew_c) (s) ?_
   repeat' (first|(with_reducible refine Unf.h ?_)|((conv=>whnf);first|(refine Side.mk ?_ ?_;focus (first|with_reducible rfl|exact True.intro))|refine Got.mk (fun _ _=>?_))|fail);all_goals try (conv=>whnf);all_goals try (exfalso;omega)
 all_goals
   refine MkS.mk inferInstance eKI eDn ?_
   repeat' (first|(with_reducible refine Unf.h ?_)|fail);all_goals try (conv=>whnf);all_goals try (exfalso;omega)
 all_goals
   have hml:(xs.map recB).length=xs.length:=List.length_map ..;have f1:(builtF (kvs [])).1=[]:=rfl;have f2:slds []=[]:=rfl;have f3:peo []=[]:=rfl;clear hpx hpt hpv;refine LoopS.mk (I:=Nat) (fun i=>i≤xs.length∧okAll (s,[],[],[]) (xs.take i)) (fun i=>[(49,.int .i64 (i:Int)),(48,.int .i64 (xs.length:Int)),(47,.own 19),(10,.ptr 4 0),(4,.nilp),(5,.int .i64 0),(0,.ptr 0 0)]) (fun i=>devN 16 17 18 (L.set 0 p) (S.set 0 p) []++qO (sgnr s l) ((xs.take i).foldl seaP (s,[],[],[])) ((L.length - 2) / 2) (baseP (xs.map recB))++[(19,.row 42 1 eBs (xs.map recB))]) 20 (fun i=>xs.length - i) 0 ⟨Nat.zero_le _,trivial⟩ ?_ ?_
   · have e0:(xs.take 0).foldl seaP (s,[],[],[])=(s,[],[],[]):=rfl
     rw [e0]
     repeat' (first|(with_reducible refine Unf.h ?_)|((conv=>whnf);first|(refine Side.mk ?_ ?_;focus (first|with_reducible rfl|(refine congrArg (SV.int _) ?_;omega)|(simp only [*,f1,f2,f3,hml];done)))|(with_reducible refine Unf.h ?_)|exact True.intro)|fail);all_goals try (conv=>whnf);all_goals try (exfalso;omega)
   · rintro i ⟨hi,hok⟩
     have hi:i≤xs.length:=hi;have hok:okAll (s,[],[],[]) (xs.take i):=hok;have hpn:PsN (0+(xs.take i).length) ((xs.take i).foldl seaP (s,[],[],[])):=PsN.fold (PsN.zero s) (by rw [List.length_take];omega) fun x hx=>hxs x (List.mem_of_mem_take hx)
     have hpo:=hpn.ok (by rw [List.length_take];omega)
     rcases Nat.lt_or_ge i xs.length with hil|hil
     · obtain ⟨x,hxi⟩:∃ x,xs[i]=x:=⟨_,rfl⟩
       have htk:xs.take (i+1)=xs.take i++[x]:=by rw [List.take_succ_eq_append_getElem hil,hxi]
       have hxk:SlOk x:=hxs x (hxi▸List.getElem_mem _);have hrx:∀ h,(xs.map recB)[((i:Nat):Int).toNat]'h=recB x:=fun h=>by
         rw [List.getElem_map];exact congrArg recB hxi
       have hst1:(xs.take (i+1)).foldl seaP (s,[],[],[])=seaP ((xs.take i).foldl seaP (s,[],[],[])) x:=by rw [htk,List.foldl_append];rfl
       have hok1:=okAll_snoc (xs.take i) (s,[],[],[]) x;rw [← htk] at hok1;generalize hP:(xs.take i).foldl seaP (s,[],[],[])=P at *;have hpc:prcl_c.pre (sgnr s l,P,x):=⟨hpo,hxk⟩;have hko:okP P x:=(hok1.1 (okAll_take hall (i+1))).2;have ef:stpP P x=seaP P x:=if_pos hko
       repeat' (first|(with_reducible refine Unf.h ?_)|((conv=>whnf);first|refine Fork.mk (fun h=>?_) (fun h=>?_)|(refine Side.mk ?_ ?_;focus (omega))|(refine Idx.mk ?_ ?_;focus (omega)))|fail);all_goals try (conv=>whnf);all_goals try (exfalso;omega)
       simp only [hrx];refine CallS.mk (c:=prcl_c) ((sgnr s l,P,x)) ?_
       repeat' (first|(with_reducible first|refine Unf.h ?_|refine loopK_n ?_)|((conv=>whnf);first|refine Fork.mkn (fun h=>?_) (fun h=>?_)|(refine Side.mk ?_ ?_;focus (first|with_reducible rfl|assumption|(intros;(try simp only [lenS,inR,cutS,loI,hiI,ef] at *);omega)))|refine Got.mk (fun _ _=>?_)|refine retK_r ?_)|fail);all_goals try (conv=>whnf);all_goals try (exfalso;omega)
       all_goals try (exact absurd hko (by assumption))
       refine ⟨i+1,⟨by omega,by omega,okAll_take hall (i+1)⟩,?_⟩
       rw [hst1]
       repeat' (first|(with_reducible refine Unf.h ?_)|((conv=>whnf);first|(refine Side.mk ?_ ?_;focus (first|with_reducible rfl|(refine congrArg (SV.int _) ?_;omega)|(simp only [*,ef];done)))|(with_reducible refine Unf.h ?_)|exact True.intro)|fail);all_goals try (conv=>whnf);all_goals try (exfalso;omega)
     · have e0:xs.take i=xs:=List.take_of_length_le hil
       rw [e0] at hok ⊢
       repeat' (first|(with_reducible refine Unf.h ?_)|((conv=>whnf);first|refine Fork.mk (fun h=>?_) (fun h=>?_)|refine retK_r ?_)|fail);all_goals try (conv=>whnf);all_goals try (exfalso;omega)
       refine RetE.mk (c:=popA_c) (d:=(((L,S),p1,xs),s)) (show Pg×List H256 from (p,l)) ⟨hpp,hll⟩ ?_
       repeat' (first|(with_reducible refine Unf.h ?_)|((conv=>whnf);first|(refine Side.mk ?_ ?_;focus (with_reducible rfl))|(with_reducible refine Unf.h ?_)|exact rfl)|fail);all_goals try (conv=>whnf);all_goals try (exfalso;omega)
end Go.Proofs.YtfljmihdeimahaaGreatDoor
namespace Go.Proofs.YtfljmihdeimahaaGreatDoor
set_option linter.all false
open Go.RowKit
def popB_c:Ctr where
 D:=Dv20×H256
 pre:=fun (d,s)=>dvPre d∧¬ okAll (s,[],[],[]) d.2.2
 args:=fun (_,s)=>[.ptr 0 0,.agg (eFo 1 2 3 s)]
 objs:=fun (((L,S),_,_),_)=>devs L S []
 nn:=4
 res:=fun _ _=>.tup [.nilp,.int .i64 2]
def popB_H:Cfg:=⟨[(34,htaggedk_c),(33,hnew_c),(6,vop1_c),(35,enew_c),(36,prcl_c)],[(1,[1,3,5],[8,9,10],(oA 0 (oB 1 (oA 2 (oB 3 (oA 4 (oB 5 (oA 6 (oA 7 (oD 8 (oD 9 (oC 10 (oA 11 (oA 12 (oA 13 (oA 14 (oA 15 .nil)))))))))))))))),[])],[],[],59,4,[],[],[]⟩
set_option maxHeartbeats 2000000 in
theorem popB_ok:popB_c.Ok Tryz.prog 14:=by
 refine fn_ok popB_H 4 rfl _ Tryz.func14 rfl rfl ⟨htaggedk_ok,hnew_ok,vop1_ok,enew_ok,prcl_ok,trivial⟩ rfl rfl (by kernel_rfl) (fun _=>nlb rfl) ?_
 rintro ⟨⟨⟨L,S⟩,p1,xs⟩,s⟩ hp hr
 try dsimp only [popB_c] at hp
 try simp only [popB_c,Rng,RngL,inR,and_true,true_and] at hr
 obtain ⟨⟨hpv,hx4,hxs⟩,hall⟩:=hp;have hpx:hnew_c.pre (1,2,3,pSeed s):=⟨by omega,by omega,by omega,by omega,by omega,by omega⟩
 have hpt:=ptag_pre s;have hpv:vop1_c.pre ((L,S),p1,xs.map recB):=hpv;have hx4:xs.length≤4:=hx4;have hxs:∀ x∈xs,SlOk x:=hxs;have hall:¬ okAll (s,[],[],[]) xs:=hall
 repeat' (first|(with_reducible refine Unf.h ?_)|((conv=>whnf);(refine Side.mk ?_ ?_;focus (first|exact True.intro|(intros;(try simp only [lenS,inR,cutS,loI,hiI,cutv2,eP,List.map_cons,List.map_nil] at *);omega))))|fail);all_goals try (conv=>whnf);all_goals try (exfalso;omega)
 all_goals
   refine CallS.mk (c:=htaggedk_c) ((112#8,[s.toList])) ?_
   repeat' (first|(with_reducible refine Unf.h ?_)|((conv=>whnf);first|(refine Side.mk ?_ ?_;focus (first|with_reducible rfl|assumption|(simp only [*,cutv2,eP,List.map_cons,List.map_nil];done)))|refine Got.mk (fun _ _=>?_))|fail);all_goals try (conv=>whnf);all_goals try (exfalso;omega)
 all_goals
   refine CallS.mk (c:=hnew_c) ((1,2,3,pSeed s)) ?_
   repeat' (first|(with_reducible refine Unf.h ?_)|((conv=>whnf);first|refine Fork.mkn (fun h=>?_) (fun h=>?_)|(refine Side.mk ?_ ?_;focus (first|with_reducible rfl|assumption|(refine congrArg (SV.int _) ?_;omega)|(simp only [*,pSeed];done)))|refine Got.mk (fun _ _=>?_))|fail);all_goals try (conv=>whnf);all_goals try (exfalso;omega)
 all_goals
   rename_i l hll;refine CallS.mk (c:=vop1_c) (((L,S),p1,xs.map recB)) ?_
   repeat' (first|(with_reducible refine Unf.h ?_)|((conv=>whnf);first|refine Fork.mkn (fun h=>?_) (fun h=>?_)|(refine Side.mk ?_ ?_;focus (first|with_reducible rfl|assumption))|refine Got.mk (fun _ _=>?_))|fail);all_goals try (conv=>whnf);all_goals try (exfalso;omega)
 all_goals
   rename_i p hpp;have hpp:p.toList=encS 2#64 (vsB 1#32 2#32):=hpp;refine CallS.mk (c:=enew_c) (s) ?_
   repeat' (first|(with_reducible refine Unf.h ?_)|((conv=>whnf);first|(refine Side.mk ?_ ?_;focus (first|with_reducible rfl|exact True.intro))|refine Got.mk (fun _ _=>?_))|fail);all_goals try (conv=>whnf);all_goals try (exfalso;omega)
 all_goals
   refine MkS.mk inferInstance eKI eDn ?_
   repeat' (first|(with_reducible refine Unf.h ?_)|fail);all_goals try (conv=>whnf);all_goals try (exfalso;omega)
 all_goals
   have hml:(xs.map recB).length=xs.length:=List.length_map ..;have f1:(builtF (kvs [])).1=[]:=rfl;have f2:slds []=[]:=rfl;have f3:peo []=[]:=rfl;clear hpx hpt hpv;refine LoopS.mk (I:=Nat) (fun i=>i≤xs.length∧okAll (s,[],[],[]) (xs.take i)) (fun i=>[(49,.int .i64 (i:Int)),(48,.int .i64 (xs.length:Int)),(47,.own 19),(10,.ptr 4 0),(4,.nilp),(5,.int .i64 0),(0,.ptr 0 0)]) (fun i=>devN 16 17 18 (L.set 0 p) (S.set 0 p) []++qO (sgnr s l) ((xs.take i).foldl seaP (s,[],[],[])) ((L.length - 2) / 2) (baseP (xs.map recB))++[(19,.row 42 1 eBs (xs.map recB))]) 20 (fun i=>xs.length - i) 0 ⟨Nat.zero_le _,trivial⟩ ?_ ?_
   · have e0:(xs.take 0).foldl seaP (s,[],[],[])=(s,[],[],[]):=rfl
     rw [e0]
     repeat' (first|(with_reducible refine Unf.h ?_)|((conv=>whnf);first|(refine Side.mk ?_ ?_;focus (first|with_reducible rfl|(refine congrArg (SV.int _) ?_;omega)|(simp only [*,f1,f2,f3,hml];done)))|(with_reducible refine Unf.h ?_)|exact True.intro)|fail);all_goals try (conv=>whnf);all_goals try (exfalso;omega)
   · rintro i ⟨hi,hok⟩
     have hi:i≤xs.length:=hi;have hok:okAll (s,[],[],[]) (xs.take i):=hok;have hpn:PsN (0+(xs.take i).length) ((xs.take i).foldl seaP (s,[],[],[])):=PsN.fold (PsN.zero s) (by rw [List.length_take];omega) fun x hx=>hxs x (List.mem_of_mem_take hx)
     have hpo:=hpn.ok (by rw [List.length_take];omega)
     rcases Nat.lt_or_ge i xs.length with hil|hil
     · obtain ⟨x,hxi⟩:∃ x,xs[i]=x:=⟨_,rfl⟩
       have htk:xs.take (i+1)=xs.take i++[x]:=by rw [List.take_succ_eq_append_getElem hil,hxi]
       have hxk:SlOk x:=hxs x (hxi▸List.getElem_mem _);have hrx:∀ h,(xs.map recB)[((i:Nat):Int).toNat]'h=recB x:=fun h=>by
         rw [List.getElem_map];exact congrArg recB hxi
       have hst1:(xs.take (i+1)).foldl seaP (s,[],[],[])=seaP ((xs.take i).foldl seaP (s,[],[],[])) x:=by rw [htk,List.foldl_append];rfl
       have hok1:=okAll_snoc (xs.take i) (s,[],[],[]) x;rw [← htk] at hok1;generalize hP:(xs.take i).foldl seaP (s,[],[],[])=P at *;have hpc:prcl_c.pre (sgnr s l,P,x):=⟨hpo,hxk⟩
       by_cases hko:okP P x
       · have ef:stpP P x=seaP P x:=if_pos hko
         repeat' (first|(with_reducible refine Unf.h ?_)|((conv=>whnf);first|refine Fork.mk (fun h=>?_) (fun h=>?_)|(refine Side.mk ?_ ?_;focus (omega))|(refine Idx.mk ?_ ?_;focus (omega)))|fail);all_goals try (conv=>whnf);all_goals try (exfalso;omega)
         simp only [hrx];refine CallS.mk (c:=prcl_c) ((sgnr s l,P,x)) ?_
         repeat' (first|(with_reducible first|refine Unf.h ?_|refine loopK_n ?_)|((conv=>whnf);first|refine Fork.mkn (fun h=>?_) (fun h=>?_)|(refine Side.mk ?_ ?_;focus (first|with_reducible rfl|assumption|(intros;(try simp only [lenS,inR,cutS,loI,hiI,ef] at *);omega)))|refine RetE.mk () trivial ?_|refine Got.mk (fun _ _=>?_)|refine retK_r ?_|exact rfl)|fail);all_goals try (conv=>whnf);all_goals try (exfalso;omega)
         all_goals try (exact absurd hko (by assumption))
         refine ⟨i+1,⟨by omega,by omega,hok1.2 ⟨hok,hko⟩⟩,?_⟩
         rw [hst1]
         repeat' (first|(with_reducible refine Unf.h ?_)|((conv=>whnf);first|(refine Side.mk ?_ ?_;focus (first|with_reducible rfl|(refine congrArg (SV.int _) ?_;omega)|(simp only [*,ef];done)))|(with_reducible refine Unf.h ?_)|exact True.intro)|fail);all_goals try (conv=>whnf);all_goals try (exfalso;omega)
       · have ef:stpP P x=P:=if_neg hko
         repeat' (first|(with_reducible refine Unf.h ?_)|((conv=>whnf);first|refine Fork.mk (fun h=>?_) (fun h=>?_)|(refine Side.mk ?_ ?_;focus (omega))|(refine Idx.mk ?_ ?_;focus (omega)))|fail);all_goals try (conv=>whnf);all_goals try (exfalso;omega)
         simp only [hrx];refine CallS.mk (c:=prcl_c) ((sgnr s l,P,x)) ?_
         repeat' (first|(with_reducible first|refine Unf.h ?_|refine loopK_n ?_)|((conv=>whnf);first|refine Fork.mkn (fun h=>?_) (fun h=>?_)|(refine Side.mk ?_ ?_;focus (first|with_reducible rfl|assumption|(intros;(try simp only [lenS,inR,cutS,loI,hiI,ef] at *);omega)))|refine RetE.mk () trivial ?_|refine Got.mk (fun _ _=>?_)|refine retK_r ?_|exact rfl)|fail);all_goals try (conv=>whnf);all_goals try (exfalso;omega)
         all_goals try (exact absurd (by assumption) hko)
     · have e0:xs.take i=xs:=List.take_of_length_le hil
       rw [e0] at hok;exact absurd hok hall
end Go.Proofs.YtfljmihdeimahaaGreatDoor
namespace Go.Proofs.YtfljmihdeimahaaGreatDoor
set_option linter.all false
open Go.RowKit
def rbit4_c:Ctr where
 D:=Unit
 args:=fun _=>[.int .i64 3]
 res:=fun _ _=>.int .i64 4
def rbit4_H:Cfg:=⟨[],[],[],[],12,0,[],[],[]⟩
theorem rbit4_ok:rbit4_c.Ok Tryz.prog 135:=by
 refine fn_ok rbit4_H 0 rfl _ Tryz.func135 rfl rfl trivial rfl rfl (by kernel_rfl) (fun _=>nlb rfl) ?_
 intro (_:Unit) hp hr
 try dsimp only [rbit4_c] at hp
 try simp only [rbit4_c,Rng,RngL,inR,and_true,true_and] at hr
 repeat' (first|(with_reducible refine Unf.h ?_)|((conv=>whnf);first|refine Fork.mk (fun h=>?_) (fun h=>?_)|(refine Side.mk ?_ ?_;focus ((refine congrArg (SV.int _) ?_;omega)))|refine RetE.mk () trivial ?_|refine retK_r ?_|exact rfl)|fail);all_goals try (conv=>whnf);all_goals try (exfalso;omega)
def rk5_c:Ctr where
 D:=Nat
 pre:=fun m=>1≤m∧m≤4
 args:=fun m=>[.int .i64 (m:Int),.int .i64 3]
 res:=fun m _=>.int .i64 ((2^m:Nat):Int)
def rk5_H:Cfg:=⟨[(135,rbit4_c)],[],[],[],26,0,[],[],[]⟩
theorem rk5_ok:rk5_c.Ok Tryz.prog 114:=by
 refine fn_ok rk5_H 0 rfl _ Tryz.func114 rfl rfl ⟨rbit4_ok,trivial⟩ rfl rfl (by kernel_rfl) (fun _=>nlb rfl) ?_
 intro (m:Nat) hp hr
 try dsimp only [rk5_c] at hp
 try simp only [rk5_c,Rng,RngL,inR,and_true,true_and] at hr
 obtain ⟨hp1,hp2⟩:=hp;have hp1:1≤m:=hp1;have hp2:m≤4:=hp2
 repeat' (first|(with_reducible refine Unf.h ?_)|((conv=>whnf);first|refine Fork.mk (fun h=>?_) (fun h=>?_)|(refine Side.mk ?_ ?_;focus (first|with_reducible rfl|exact True.intro))|refine Got.mk (fun _ _=>?_)|refine CallS.mk (c:=rbit4_c) (()) ?_)|fail);all_goals try (conv=>whnf);all_goals try (exfalso;omega)
 refine LoopS.autoN (I:=Nat) (fun i=>i≤m) (fun i=>[(6,.int .i64 (i:Int)),(5,.int .i64 ((2^i:Nat):Int))]) (fun _=>[]) 0 (fun i=>m - i) 0 (Nat.zero_le _) ?_ ?_
 · repeat' (first|(with_reducible refine Unf.h ?_)|((conv=>whnf);first|(refine Side.mk ?_ ?_;focus (first|with_reducible rfl|(refine congrArg (SV.int _) ?_;omega)))|(with_reducible refine Unf.h ?_)|exact True.intro)|fail);all_goals try (conv=>whnf);all_goals try (exfalso;omega)
 · intro i hi
   have hi:i≤m:=hi;have hb:2^i≤16:=Nat.le_trans (Nat.pow_le_pow_right (by omega) (show i≤4 by omega)) (by decide)
   have e1:((2^(i+1):Nat):Int)=2*((2^i:Nat):Int):=by rw [Nat.pow_succ];omega
   rcases Nat.lt_or_ge i m with h1|h1
   · generalize hz:2^i=z at *
     repeat' (first|(with_reducible first|refine Unf.h ?_|refine loopK_n ?_)|((conv=>whnf);first|refine Fork.mk (fun h=>?_) (fun h=>?_)|(refine Side.mk ?_ ?_;focus ((intros;(try simp only [lenS,inR,cutS,loI,hiI] at *);omega))))|fail);all_goals try (conv=>whnf);all_goals try (exfalso;omega)
     refine ⟨i+1,⟨by omega,by omega⟩,?_⟩
     rw [e1]
     repeat' (first|(with_reducible refine Unf.h ?_)|((conv=>whnf);first|(refine Side.mk ?_ ?_;focus (first|with_reducible rfl|(refine congrArg (SV.int _) ?_;omega)))|(with_reducible refine Unf.h ?_)|exact True.intro)|fail);all_goals try (conv=>whnf);all_goals try (exfalso;omega)
   · obtain rfl:i=m:=by omega
     repeat' (first|(with_reducible refine Unf.h ?_)|((conv=>whnf);first|refine Fork.mk (fun h=>?_) (fun h=>?_)|(refine Side.mk ?_ ?_;focus ((refine congrArg (SV.int _) ?_;omega)))|refine RetE.mk () trivial ?_|refine retK_r ?_|exact rfl)|fail);all_goals try (conv=>whnf);all_goals try (exfalso;omega)
def rk6_c:Ctr where
 D:=Unit
 args:=fun _=>[.int .i64 1,.int .i64 2,.int .i64 3]
 res:=fun _ _=>.int .i64 8
def rk6_H:Cfg:=⟨[(114,rk5_c)],[],[],[],14,0,[],[],[]⟩
theorem rk6_ok:rk6_c.Ok Tryz.prog 92:=by
 refine fn_ok rk6_H 0 rfl _ Tryz.func92 rfl rfl ⟨rk5_ok,trivial⟩ rfl rfl (by kernel_rfl) (fun _=>nlb rfl) ?_
 intro (_:Unit) hp hr
 try dsimp only [rk6_c] at hp
 try simp only [rk6_c,Rng,RngL,inR,and_true,true_and] at hr
 have h1:rk5_c.pre (1:Nat):=⟨by omega,by omega⟩
 have h2:rk5_c.pre (2:Nat):=⟨by omega,by omega⟩
 repeat' (first|(with_reducible refine Unf.h ?_)|fail);all_goals try (conv=>whnf);all_goals try (exfalso;omega)
 refine CallS.mk (c:=rk5_c) ((1:Nat)) ?_
 repeat' (first|(with_reducible refine Unf.h ?_)|((conv=>whnf);first|(refine Side.mk ?_ ?_;focus (first|with_reducible rfl|assumption|(refine congrArg (SV.int _) ?_;omega)))|refine Got.mk (fun _ _=>?_))|fail);all_goals try (conv=>whnf);all_goals try (exfalso;omega)
 refine CallS.mk (c:=rk5_c) ((2:Nat)) ?_
 repeat' (first|(with_reducible refine Unf.h ?_)|((conv=>whnf);first|(refine Side.mk ?_ ?_;focus (first|with_reducible rfl|assumption|(refine congrArg (SV.int _) ?_;omega)|(intros;(try simp only [lenS,inR,cutS,loI,hiI] at *);omega)))|refine RetE.mk () trivial ?_|refine Got.mk (fun _ _=>?_)|refine retK_r ?_|exact rfl)|fail);all_goals try (conv=>whnf);all_goals try (exfalso;omega)
def rkeys_c:Ctr where
 D:=Pr20
 args:=fun _=>[.ptr 0 0]
 objs:=fun (s,es,eps,ws)=>prO s es eps ws
 nn:=3
 res:=fun _ _=>.int .i64 8
 out:=fun (s,es,eps,ws) _=>prO s es eps ws
def rkeys_H:Cfg:=⟨[(92,rk6_c)],[(1,[4,9,14],[15],(oA 0 (oA 1 (oA 2 (oA 3 (oB 4 (oA 5 (oA 6 (oA 7 (oA 8 (oB 9 (oA 10 (oA 11 (oA 12 (oA 13 (oB 14 (oC 15 (oA 16 .nil))))))))))))))))),[])],[],[],19,3,[],[],[]⟩
theorem rkeys_ok:rkeys_c.Ok Tryz.prog 54:=by
 refine fn_ok rkeys_H 3 rfl _ Tryz.func54 rfl rfl ⟨rk6_ok,trivial⟩ rfl rfl (by kernel_rfl) (fun _=>nlb rfl) ?_
 rintro ⟨s,es,eps,ws⟩ hp hr
 try dsimp only [rkeys_c] at hp
 try simp only [rkeys_c,Rng,RngL,inR,and_true,true_and] at hr
 clear hr
 repeat' (first|(with_reducible refine Unf.h ?_)|((conv=>whnf);first|(refine Side.mk ?_ ?_;focus (first|with_reducible rfl|exact True.intro|(refine congrArg (SV.int _) ?_;omega)))|refine RetE.mk () trivial ?_|refine Got.mk (fun _ _=>?_)|refine retK_r ?_|exact rfl|refine CallS.mk (c:=rk6_c) (()) ?_)|fail);all_goals try (conv=>whnf);all_goals try (exfalso;omega)
def mayF (eps:List Sl20) (t:Int):Int:=if folP (eps.map Prod.fst) t then 0 else 1
def rmay_c:Ctr where
 D:=Pr20×Int
 pre:=fun ((_,_,eps,_),_)=>eps.length≤7
 args:=fun (_,t)=>[.ptr 0 0,.int .i64 t]
 objs:=fun ((s,es,eps,ws),_)=>prO s es eps ws
 nn:=3
 res:=fun ((_,_,eps,_),t) _=>.int .i64 (mayF eps t)
 out:=fun ((s,es,eps,ws),_) _=>prO s es eps ws
def rmay_H:Cfg:=⟨[(54,rkeys_c)],[],[],[],38,3,[],[],[]⟩
theorem rmay_ok:rmay_c.Ok Tryz.prog 30:=by
 refine fn_ok rmay_H 3 rfl _ Tryz.func30 rfl rfl ⟨rkeys_ok,trivial⟩ rfl rfl (by kernel_rfl) (fun _=>nlb rfl) ?_
 rintro ⟨⟨s,es,eps,ws⟩,t⟩ hp hr
 try dsimp only [rmay_c] at hp
 try simp only [rmay_c,Rng,RngL,inR,and_true,true_and] at hr
 have hp:eps.length≤7:=hp;have hrt:-9223372036854775808≤t∧t<9223372036854775808:=hr;clear hr;rcases Nat.eq_zero_or_pos eps.length with h0|h0
 · have e:eps=[]:=List.eq_nil_of_length_eq_zero h0
   have ef:folP (eps.map Prod.fst) t↔1≤t∧t<2147483648:=by unfold folP;rw [e];simp
   by_cases h1:1≤t∧t<2147483648
   · have em:mayF eps t=0:=if_pos (ef.2 h1)
     obtain ⟨h1,h2⟩:=h1
     repeat' (first|(with_reducible refine Unf.h ?_)|((conv=>whnf);first|refine Fork.mk (fun h=>?_) (fun h=>?_)|(refine Side.mk ?_ ?_;focus (first|with_reducible rfl|exact True.intro|(refine congrArg (SV.int _) ?_;omega)))|refine RetE.mk () trivial ?_|refine Got.mk (fun _ _=>?_)|refine retK_r ?_|exact rfl|refine CallS.mk (c:=rkeys_c) ((s,es,eps,ws)) ?_)|fail);all_goals try (conv=>whnf);all_goals try (exfalso;omega)
     all_goals (refine Side.mk (by rw [em]) ?_;all_goals try (conv=>whnf);all_goals try (exfalso;omega))
   · have em:mayF eps t=1:=if_neg fun h=>h1 (ef.1 h)
     have h1:t<1∨2147483648≤t:=by omega
     repeat' (first|(with_reducible refine Unf.h ?_)|((conv=>whnf);first|refine Fork.mk (fun h=>?_) (fun h=>?_)|(refine Side.mk ?_ ?_;focus (first|with_reducible rfl|exact True.intro|(refine congrArg (SV.int _) ?_;omega)))|refine RetE.mk () trivial ?_|refine Got.mk (fun _ _=>?_)|refine retK_r ?_|exact rfl|refine CallS.mk (c:=rkeys_c) ((s,es,eps,ws)) ?_)|fail);all_goals try (conv=>whnf);all_goals try (exfalso;omega)
     all_goals (refine Side.mk (by rw [em]) ?_;all_goals try (conv=>whnf);all_goals try (exfalso;omega))
 · have hl:(eps.map Prod.fst).getLast?.getD t=(eps[((eps.length:Int) - 1).toNat]'(by omega)).1:=by
     rw [List.getLast?_eq_getElem?,List.getElem?_map,List.length_map,List.getElem?_eq_getElem (by omega)]
     show (eps[eps.length - 1]'(by omega)).1=_
     congr 2;omega
   have ef:folP (eps.map Prod.fst) t↔1≤t∧t<2147483648∧(eps[((eps.length:Int) - 1).toNat]'(by omega)).1≤t:=by unfold folP;rw [hl]
   by_cases h1:1≤t∧t<2147483648∧(eps[((eps.length:Int) - 1).toNat]'(by omega)).1≤t
   · have em:mayF eps t=0:=if_pos (ef.2 h1)
     obtain ⟨h1,h2,h3⟩:=h1
     repeat' (first|(with_reducible refine Unf.h ?_)|((conv=>whnf);first|refine Fork.mk (fun h=>?_) (fun h=>?_)|(refine Side.mk ?_ ?_;focus (first|with_reducible rfl|exact True.intro|omega|(refine congrArg (SV.int _) ?_;omega)|(intros;(try simp only [lenS,inR,cutS,loI,hiI] at *);omega)))|(refine Idx.mk ?_ ?_;focus (omega))|refine RetE.mk () trivial ?_|refine Got.mk (fun _ _=>?_)|refine retK_r ?_|exact rfl|refine CallS.mk (c:=rkeys_c) ((s,es,eps,ws)) ?_)|fail);all_goals try (conv=>whnf);all_goals try (exfalso;omega)
     all_goals (refine Side.mk (by rw [em]) ?_;all_goals try (conv=>whnf);all_goals try (exfalso;omega))
   · have em:mayF eps t=1:=if_neg fun h=>h1 (ef.1 h)
     have h1:t<1∨2147483648≤t∨t<(eps[((eps.length:Int) - 1).toNat]'(by omega)).1:=by omega
     repeat' (first|(with_reducible refine Unf.h ?_)|((conv=>whnf);first|refine Fork.mk (fun h=>?_) (fun h=>?_)|(refine Side.mk ?_ ?_;focus (first|with_reducible rfl|exact True.intro|omega|(refine congrArg (SV.int _) ?_;omega)|(intros;(try simp only [lenS,inR,cutS,loI,hiI] at *);omega)))|(refine Idx.mk ?_ ?_;focus (omega))|refine RetE.mk () trivial ?_|refine Got.mk (fun _ _=>?_)|refine retK_r ?_|exact rfl|refine CallS.mk (c:=rkeys_c) ((s,es,eps,ws)) ?_)|fail);all_goals try (conv=>whnf);all_goals try (exfalso;omega)
     all_goals (refine Side.mk (by rw [em]) ?_;all_goals try (conv=>whnf);all_goals try (exfalso;omega))
def rrec_c:Ctr where
 D:=Sl20
 pre:=fun x=>SlOk x
 args:=fun x=>[.agg (eS20 x)]
 res:=fun x _=>.fs 1 eB (recB x)
def rrec_H:Cfg:=⟨[(29,number_c)],[],[],[],64,0,[],[],[]⟩
set_option maxHeartbeats 2000000 in
theorem rrec_ok:rrec_c.Ok Tryz.prog 11:=by
 refine fn_ok rrec_H 0 rfl _ Tryz.func11 rfl rfl ⟨number_ok,trivial⟩ rfl rfl (by kernel_rfl) (fun _=>nlb rfl) ?_
 rintro ⟨t,l⟩ hp hr
 try dsimp only [rrec_c] at hp
 try simp only [rrec_c,Rng,RngL,inR,and_true,true_and] at hr
 have hx:SlOk (t,l):=hp;have hn:l.length≤20:=hx.n;have h1:∀ x n,n≤1000→number_c.pre (x,n):=fun _ _ h=>h
 have k4:=fun x=>h1 x 4 (by omega)
 have k2:=fun x=>h1 x 2 (by omega)
 clear h1 hr;have hll:(t,l).2.length=l.length:=rfl;obtain ⟨hd,hhd⟩:∃ hd,hd=beN 4 (BitVec.ofInt 64 t)++beN 2 (BitVec.ofInt 64 (l.length:Int)):=⟨_,rfl⟩;have hhl:hd.length=6:=by rw [hhd,List.length_append,beN_len,beN_len]
 repeat' (first|(with_reducible refine Unf.h ?_)|fail);all_goals try (conv=>whnf);all_goals try (exfalso;omega)
 refine CallS.mk (c:=number_c) ((BitVec.ofInt 64 t,4)) ?_
 repeat' (first|(with_reducible refine Unf.h ?_)|((conv=>whnf);first|(refine Side.mk ?_ ?_;focus (first|with_reducible rfl|(refine congrArg (SV.int _) ?_;omega)|(simp only [*,beN_len];done)))|refine Got.mk (fun _ _=>?_))|fail);all_goals try (conv=>whnf);all_goals try (exfalso;omega)
 refine CallS.mk (c:=number_c) ((BitVec.ofInt 64 (l.length:Int),2)) ?_
 repeat' (first|(with_reducible refine Unf.h ?_)|((conv=>whnf);first|(refine Side.mk ?_ ?_;focus (first|with_reducible rfl|(refine congrArg (SV.int _) ?_;omega)|(intros;(try simp only [lenS,inR,cutS,loI,hiI,beN_len] at *);omega)|(simp only [*,beN_len];done)))|refine Got.mk (fun _ _=>?_)|refine Ex.mk _ rfl ?_)|fail);all_goals try (conv=>whnf);all_goals try (exfalso;omega)
 refine LoopS.mk (I:=Nat) (fun i=>i≤l.length) (fun i=>[(4,.int .i64 (i:Int)),(3,.own 1),(1,.ptr 0 0),(2,.nils)]) (fun i=>[(0,.box 41 (eS20 (t,l))),(1,.row 5 1 eB (hd++flB (l.take i)))]) 2 (fun i=>l.length - i) 0 (Nat.zero_le _) ?_ ?_
 · have e0:hd++flB (l.take 0)=beN 4 (BitVec.ofInt 64 t)++beN 2 (BitVec.ofInt 64 (l.length:Int)):=by
     rw [hhd];exact List.append_nil _
   rw [e0]
   repeat' (first|(with_reducible refine Unf.h ?_)|((conv=>whnf);first|(refine Side.mk ?_ ?_;focus (first|with_reducible rfl|(refine congrArg (SV.int _) ?_;omega)))|(with_reducible refine Unf.h ?_)|exact True.intro)|fail);all_goals try (conv=>whnf);all_goals try (exfalso;omega)
 · intro i hi
   have hi:i≤l.length:=hi;have hfl:(flB (l.take i)).length≤4240:=by
     have:=flB_len (l:=l.take i) fun r hr=>hx.r r (List.mem_of_mem_take hr)
     rw [List.length_take] at this;omega
   rcases Nat.lt_or_ge i l.length with hil|hil
   · obtain ⟨r,hri⟩:∃ r,r=l[((i:Nat):Int).toNat]'hil:=⟨_,rfl⟩
     have hrk:RqOk r:=hx.r r (hri▸List.getElem_mem _);have hl1:=hrk.l;have hl2:=hrk.v;have e1:hd++flB (l.take (i+1))=hd++flB (l.take i)++beN 4 (BitVec.ofInt 64 r.1.1)++beN 4 (BitVec.ofInt 64 r.1.2)++beN 2 (BitVec.ofInt 64 (r.2.1.length:Int))++r.2.1++beN 2 (BitVec.ofInt 64 (r.2.2.length:Int))++r.2.2:=by
       have e2:flB (l.take (i+1))=flB (l.take i)++reqB r:=by
         rw [List.take_succ_eq_append_getElem hil];unfold flB;rw [List.map_append,List.flatten_append]
         congr 1
         rw [hri];simp
       rw [e2];unfold reqB strB;simp only [List.append_assoc]
     subst hri
     repeat' (first|(with_reducible refine Unf.h ?_)|((conv=>whnf);first|refine Fork.mk (fun h=>?_) (fun h=>?_)|(refine Idx.mk ?_ ?_;focus (omega)))|fail);all_goals try (conv=>whnf);all_goals try (exfalso;omega)
     refine CallS.mk (c:=number_c) ((BitVec.ofInt 64 (l[((i:Nat):Int).toNat]'hil).1.1,4)) ?_
     repeat' (first|(with_reducible refine Unf.h ?_)|((conv=>whnf);first|(refine Side.mk ?_ ?_;focus (first|with_reducible rfl|(refine congrArg (SV.int _) ?_;omega)|(intros;(try simp only [lenS,inR,cutS,loI,hiI,beN_len] at *);omega)|(simp only [*,beN_len];done)))|refine Got.mk (fun _ _=>?_)|refine Ex.mk _ rfl ?_)|fail);all_goals try (conv=>whnf);all_goals try (exfalso;omega)
     refine CallS.mk (c:=number_c) ((BitVec.ofInt 64 (l[((i:Nat):Int).toNat]'hil).1.2,4)) ?_
     repeat' (first|(with_reducible refine Unf.h ?_)|((conv=>whnf);first|(refine Side.mk ?_ ?_;focus (first|with_reducible rfl|(refine congrArg (SV.int _) ?_;omega)|(intros;(try simp only [lenS,inR,cutS,loI,hiI,beN_len] at *);omega)|(simp only [*,beN_len];done)))|refine Got.mk (fun _ _=>?_)|refine Ex.mk _ rfl ?_)|fail);all_goals try (conv=>whnf);all_goals try (exfalso;omega)
     refine CallS.mk (c:=number_c) ((BitVec.ofInt 64 ((l[((i:Nat):Int).toNat]'hil).2.1.length:Int),2)) ?_
     repeat' (first|(with_reducible refine Unf.h ?_)|((conv=>whnf);first|(refine Side.mk ?_ ?_;focus (first|with_reducible rfl|(refine congrArg (SV.int _) ?_;omega)|(intros;(try simp only [lenS,inR,cutS,loI,hiI,beN_len] at *);omega)|(simp only [*,beN_len];done)))|refine Got.mk (fun _ _=>?_)|refine Ex.mk _ rfl ?_)|fail);all_goals try (conv=>whnf);all_goals try (exfalso;omega)
     refine CallS.mk (c:=number_c) ((BitVec.ofInt 64 ((l[((i:Nat):Int).toNat]'hil).2.2.length:Int),2)) ?_
     repeat' (first|(with_reducible first|refine Unf.h ?_|refine loopK_n ?_)|((conv=>whnf);first|(refine Side.mk ?_ ?_;focus (first|with_reducible rfl|(refine congrArg (SV.int _) ?_;omega)|(intros;(try simp only [lenS,inR,cutS,loI,hiI,beN_len] at *);omega)|(simp only [*,beN_len];done)))|refine Got.mk (fun _ _=>?_)|refine Ex.mk _ rfl ?_)|fail);all_goals try (conv=>whnf);all_goals try (exfalso;omega)
     refine ⟨i+1,⟨by omega,by omega⟩,?_⟩
     rw [e1]
     repeat' (first|(with_reducible refine Unf.h ?_)|((conv=>whnf);first|(refine Side.mk ?_ ?_;focus (first|with_reducible rfl|(refine congrArg (SV.int _) ?_;omega)))|(with_reducible refine Unf.h ?_)|exact True.intro)|fail);all_goals try (conv=>whnf);all_goals try (exfalso;omega)
   · have e0:hd++flB (l.take i)=recB (t,l):=by
       rw [List.take_of_length_le hil,hhd];unfold recB;rw [List.append_assoc]
     rw [e0]
     repeat' (first|(with_reducible refine Unf.h ?_)|((conv=>whnf);first|refine Fork.mk (fun h=>?_) (fun h=>?_)|(refine Side.mk ?_ ?_;focus (with_reducible rfl))|refine RetE.mk () trivial ?_|refine retK_r ?_|exact rfl)|fail);all_goals try (conv=>whnf);all_goals try (exfalso;omega)
end Go.Proofs.YtfljmihdeimahaaGreatDoor
namespace Go.Proofs.YtfljmihdeimahaaGreatDoor
set_option linter.all false
open Go.RowKit
def rnew20_c:Ctr where
 D:=H256
 args:=fun s=>[.agg (eFo 1 2 3 s)]
 res:=fun _ _=>.ptr 0 0
 out:=fun s _=>prO s [] [] []
 mm:=3
def rnew20_H:Cfg:=⟨[],[],[],[],10,0,[],[],[7]⟩
theorem rnew20_ok:rnew20_c.Ok Tryz.prog 7:=by
 refine fn_ok rnew20_H 0 rfl _ Tryz.func7 rfl rfl trivial rfl rfl (by kernel_rfl) (fun _=>nlb rfl) ?_
 intro (s:H256) hp hr
 try dsimp only [rnew20_c] at hp
 try simp only [rnew20_c,Rng,RngL,inR,and_true,true_and] at hr
 repeat' (first|(with_reducible refine Unf.h ?_)|fail);all_goals try (conv=>whnf);all_goals try (exfalso;omega)
 refine ValS.mk (OpsK.nilA 6 [.arr8 s,.nils] [.arr8 s,.fs 1 eEp []] rfl ⟨.inl rfl,.inr ⟨rfl,_,_,_,rfl⟩,trivial⟩ ?_)
 repeat' (first|(with_reducible refine Unf.h ?_)|((conv=>whnf);first|(refine Side.mk ?_ ?_;focus (with_reducible rfl))|refine RetE.mk () trivial ?_|refine retK_r ?_|exact rfl)|fail);all_goals try (conv=>whnf);all_goals try (exfalso;omega)
def rseaF (p:Pr20) (t:Int):Int×Pr20:=if mayF p.2.2.1 t≠0 then (mayF p.2.2.1 t,p) else if (sealF p.1 p.2.1 (p.2.2.2.map Prod.snd)).2≠0 then ((sealF p.1 p.2.1 (p.2.2.2.map Prod.snd)).2,p) else (0,(p.1,(sealF p.1 p.2.1 (p.2.2.2.map Prod.snd)).1,p.2.2.1++[(t,p.2.2.2)],[]))
def akF (w:List Rq) (e:Int):List Ak:=w.map fun r=>(r.1.1,r.1.2,e)
def rsea_c:Ctr where
 D:=Pr20×Int
 pre:=fun (p,_)=>StOk p.2.1∧p.2.1.length<20∧p.2.2.1.length≤7∧p.2.2.2.length≤1000∧∀ r∈p.2.2.2,r.2.1.length≤10000∧r.2.2.length≤10000
 args:=fun (_,t)=>[.ptr 0 0,.int .i64 t]
 objs:=fun ((s,es,eps,ws),_)=>prO s es eps ws
 nn:=3
 E:=List Ak
 res:=fun (p,t) l=>.tup [.fs 279 eAk l,.int .i64 (rseaF p t).1]
 out:=fun (p,t) _=>[(0,.box 66 [.int .i64 1,.int .i64 2,.int .i64 3,.arr8 (rseaF p t).2.1,rSt (rseaF p t).2.1 (rseaF p t).2.2.1,.own 3,.own 4]),(3,.row 41 2 eS20 (rseaF p t).2.2.2.1),(4,.row 44 4 eRq (rseaF p t).2.2.2.2)]
 mm:=2
def rsea_H:Cfg:=⟨[(30,rmay_c),(25,rans0_c),(31,rseal_c)],[(9,[4,8,12,16],[18,19],(oA 0 (oA 1 (oA 2 (oA 3 (oB 4 (oA 5 (oA 6 (oA 7 (oB 8 (oA 9 (oA 10 (oA 11 (oB 12 (oA 13 (oA 14 (oA 15 (oB 16 (oA 17 (oC 18 (oC 19 (oA 20 .nil))))))))))))))))))))),[]),(10,[3,7,11,15,20],[23,27,28],(oA 0 (oA 1 (oA 2 (oB 3 (oA 4 (oA 5 (oA 6 (oB 7 (oA 8 (oA 9 (oA 10 (oB 11 (oA 12 (oA 13 (oA 14 (oB 15 (oA 16 (oA 17 (oA 18 (oA 19 (oB 20 (oA 21 (oA 22 (.alt 23 true (oA 24 (oA 25 (oA 26 (oD 27 (oC 28 (oA 29 .nil)))))) (oD 27 (oC 23 (oA 24 (oA 25 (oA 26 (oC 28 (oA 29 .nil))))))))))))))))))))))))))))))),[]),(16,[4,9],[11,12,15],(oA 0 (oA 1 (oA 2 (oA 3 (oB 4 (oA 5 (oA 6 (oA 7 (oA 8 (oB 9 (oA 10 (oD 11 (oC 12 (oA 13 (oA 14 (oC 15 .nil)))))))))))))))),[])],[],[],115,3,[],[],[]⟩
set_option maxHeartbeats 4000000 in
theorem rsea_ok:rsea_c.Ok Tryz.prog 12:=by
 refine fn_ok rsea_H 3 rfl _ Tryz.func12 rfl rfl ⟨rmay_ok,rans0_ok,rseal_ok,trivial⟩ rfl rfl (by kernel_rfl) (fun _=>nlb rfl) ?_
 rintro ⟨⟨s,es,eps,ws⟩,t⟩ hp hr
 try dsimp only [rsea_c] at hp
 try simp only [rsea_c,Rng,RngL,inR,and_true,true_and] at hr
 obtain ⟨hst,hlen,he7,hw,hwl⟩:=hp;have hst:StOk es:=hst;have hlen:es.length<20:=hlen;have he7:eps.length≤7:=he7;have hw:ws.length≤1000:=hw;have hwl:∀ r∈ws,r.2.1.length≤10000∧r.2.2.length≤10000:=hwl;have hpm:rmay_c.pre ((s,es,eps,ws),t):=he7;clear hr
 by_cases hm:mayF eps t=0
 · repeat' (first|(with_reducible refine Unf.h ?_)|fail);all_goals try (conv=>whnf);all_goals try (exfalso;omega)
   refine CallS.mk (c:=rmay_c) (((s,es,eps,ws),t)) ?_
   repeat' (first|(with_reducible refine Unf.h ?_)|((conv=>whnf);first|refine Fork.mkn (fun h=>?_) (fun h=>?_)|(refine Side.mk ?_ ?_;focus (first|with_reducible rfl|assumption))|refine Got.mk (fun _ _=>?_))|fail);all_goals try (conv=>whnf);all_goals try (exfalso;omega)
   all_goals try (exact absurd hm (by assumption))
   refine LoopS.mk (I:=Nat) (fun i=>i≤ws.length) (fun i=>[(9,.int .i64 (i:Int)),(7,.own 3),(8,.own 4),(0,.ptr 0 0),(1,.int .i64 t),(4,.nils),(5,.int .i64 0)]) (fun i=>prO s es eps ws++[(3,.row 111 2 eUp ((ws.take i).map Prod.snd)),(4,.row 61 279 eAk (akF (ws.take i) ((eps.length:Int)+1)))]) 5 (fun i=>ws.length - i) 0 (Nat.zero_le _) ?_ ?_
   · have e0:(ws.take 0).map Prod.snd=[]:=rfl
     have e1:akF (ws.take 0) ((eps.length:Int)+1)=[]:=rfl;rw [e0,e1]
     repeat' (first|(with_reducible refine Unf.h ?_)|((conv=>whnf);first|(refine Side.mk ?_ ?_;focus (first|with_reducible rfl|(refine congrArg (SV.int _) ?_;omega)))|(with_reducible refine Unf.h ?_)|exact True.intro)|fail);all_goals try (conv=>whnf);all_goals try (exfalso;omega)
   · intro i hi
     have hi:i≤ws.length:=hi;have hal:(akF (ws.take i) ((eps.length:Int)+1)).length≤1000:=by unfold akF;rw [List.length_map,List.length_take];omega
     have hul:((ws.take i).map Prod.snd).length≤1000:=by rw [List.length_map,List.length_take];omega
     rcases Nat.lt_or_ge i ws.length with hil|hil
     · have et1:(ws.take (i+1)).map Prod.snd=(ws.take i).map Prod.snd++[(ws[((i:Nat):Int).toNat]'hil).2]:=by
         rw [List.take_succ_eq_append_getElem hil,List.map_append];rfl
       have et2:akF (ws.take (i+1)) ((eps.length:Int)+1)=akF (ws.take i) ((eps.length:Int)+1)++[((ws[((i:Nat):Int).toNat]'hil).1.1,(ws[((i:Nat):Int).toNat]'hil).1.2,(eps.length:Int)+1)]:=by
         unfold akF;rw [List.take_succ_eq_append_getElem hil,List.map_append];rfl
       repeat' (first|(with_reducible refine Unf.h ?_)|((conv=>whnf);first|refine Both.mk ?_ ?_|refine Both.mk ?_ ?_|refine Fork.mk (fun h=>?_) (fun h=>?_)|(refine Side.mk ?_ ?_;focus (first|omega|(intros;(try simp only [lenS,inR,cutS,loI,hiI] at *);omega)))|(refine Idx.mk ?_ ?_;focus (omega))|refine Ex.mk [_] rfl ?_)|fail);all_goals try (conv=>whnf);all_goals try (exfalso;omega)
       all_goals
         refine CallS.mk (c:=rans0_c) ((((ws[((i:Nat):Int).toNat]'hil).1.1,(ws[((i:Nat):Int).toNat]'hil).1.2),(eps.length:Int)+1,0)) ?_
         repeat' (first|(with_reducible refine Unf.h ?_)|((conv=>whnf);first|(refine Side.mk ?_ ?_;focus (first|with_reducible rfl|exact True.intro))|refine Got.mk (fun _ _=>?_))|fail);all_goals try (conv=>whnf);all_goals try (exfalso;omega)
       all_goals try
         refine Ex.mk [((ws[((i:Nat):Int).toNat]'hil).1.1,(ws[((i:Nat):Int).toNat]'hil).1.2,(eps.length:Int)+1)] rfl ?_
         repeat' (first|(with_reducible first|refine Unf.h ?_|refine loopK_n ?_)|((conv=>whnf);(refine Side.mk ?_ ?_;focus ((intros;(try simp only [lenS,inR,cutS,loI,hiI] at *);omega))))|fail);all_goals try (conv=>whnf);all_goals try (exfalso;omega)
       all_goals
         refine ⟨i+1,⟨by omega,by omega⟩,?_⟩
         rw [et1,et2]
         repeat' (first|(with_reducible refine Unf.h ?_)|((conv=>whnf);first|(refine Side.mk ?_ ?_;focus (first|with_reducible rfl|(refine congrArg (SV.int _) ?_;omega)))|(with_reducible refine Unf.h ?_)|exact True.intro)|fail);all_goals try (conv=>whnf);all_goals try (exfalso;omega)
     · have e0:ws.take i=ws:=List.take_of_length_le hil
       rw [e0];have hps:rseal_c.pre (s,es,ws.map Prod.snd):=⟨hst,hlen,by show (ws.map Prod.snd).length≤100000;rw [List.length_map];omega,fun u hu=>by
         obtain ⟨r,hr,rfl⟩:=List.mem_map.1 hu;exact hwl r hr⟩
       by_cases hs0:(sealF s es (ws.map Prod.snd)).2=0
       · have ef:rseaF (s,es,eps,ws) t=(0,(s,(sealF s es (ws.map Prod.snd)).1,eps++[(t,ws)],[])):=by
           unfold rseaF;rw [if_neg (by simpa using hm),if_neg (by simpa using hs0)]
         repeat' (first|(with_reducible refine Unf.h ?_)|((conv=>whnf);refine Fork.mk (fun h=>?_) (fun h=>?_))|fail);all_goals try (conv=>whnf);all_goals try (exfalso;omega)
         refine CallS.mk (c:=rseal_c) ((s,es,ws.map Prod.snd)) ?_
         repeat' (first|(with_reducible refine Unf.h ?_)|((conv=>whnf);first|refine Fork.mkn (fun h=>?_) (fun h=>?_)|(refine Side.mk ?_ ?_;focus (first|with_reducible rfl|assumption))|refine Got.mk (fun _ _=>?_))|fail);all_goals try (conv=>whnf);all_goals try (exfalso;omega)
         refine Ex.mk [(t,ws)] rfl ?_
         repeat' (first|(with_reducible refine Unf.h ?_)|((conv=>whnf);first|(refine Side.mk ?_ ?_;focus ((intros;(try simp only [lenS,inR,cutS,loI,hiI] at *);omega)))|refine retK_r ?_)|fail);all_goals try (conv=>whnf);all_goals try (exfalso;omega)
         refine RetE.mk (c:=rsea_c) (d:=((s,es,eps,ws),t)) (show List Ak from akF ws ((eps.length:Int)+1)) trivial ?_
         repeat' (first|(with_reducible refine Unf.h ?_)|((conv=>whnf);first|(refine Side.mk ?_ ?_;focus (first|with_reducible rfl|(simp only [*,ef];done)))|(with_reducible refine Unf.h ?_)|exact rfl)|fail);all_goals try (conv=>whnf);all_goals try (exfalso;omega)
       · have ef:rseaF (s,es,eps,ws) t=((sealF s es (ws.map Prod.snd)).2,(s,es,eps,ws)):=by
           unfold rseaF;rw [if_neg (by simpa using hm),if_pos (by simpa using hs0)]
         repeat' (first|(with_reducible refine Unf.h ?_)|((conv=>whnf);refine Fork.mk (fun h=>?_) (fun h=>?_))|fail);all_goals try (conv=>whnf);all_goals try (exfalso;omega)
         refine CallS.mk (c:=rseal_c) ((s,es,ws.map Prod.snd)) ?_
         repeat' (first|(with_reducible refine Unf.h ?_)|((conv=>whnf);first|refine Fork.mkn (fun h=>?_) (fun h=>?_)|(refine Side.mk ?_ ?_;focus (first|with_reducible rfl|assumption))|refine Got.mk (fun _ _=>?_)|refine retK_r ?_)|fail);all_goals try (conv=>whnf);all_goals try (exfalso;omega)
         refine RetE.mk (c:=rsea_c) (d:=((s,es,eps,ws),t)) (show List Ak from []) trivial ?_
         repeat' (first|(with_reducible refine Unf.h ?_)|((conv=>whnf);first|(refine Side.mk ?_ ?_;focus (first|with_reducible rfl|(simp only [*,ef];done)))|(with_reducible refine Unf.h ?_)|exact rfl)|fail);all_goals try (conv=>whnf);all_goals try (exfalso;omega)
 · have ef:rseaF (s,es,eps,ws) t=(mayF eps t,(s,es,eps,ws)):=if_pos hm
   repeat' (first|(with_reducible refine Unf.h ?_)|fail);all_goals try (conv=>whnf);all_goals try (exfalso;omega)
   refine CallS.mk (c:=rmay_c) (((s,es,eps,ws),t)) ?_
   repeat' (first|(with_reducible refine Unf.h ?_)|((conv=>whnf);first|refine Fork.mkn (fun h=>?_) (fun h=>?_)|(refine Side.mk ?_ ?_;focus (first|with_reducible rfl|assumption))|refine Got.mk (fun _ _=>?_)|refine retK_r ?_)|fail);all_goals try (conv=>whnf);all_goals try (exfalso;omega)
   all_goals try (exact absurd (by assumption) hm)
   refine RetE.mk (c:=rsea_c) (d:=((s,es,eps,ws),t)) (show List Ak from []) trivial ?_
   repeat' (first|(with_reducible refine Unf.h ?_)|((conv=>whnf);first|(refine Side.mk ?_ ?_;focus (first|with_reducible rfl|(simp only [*,ef];done)))|(with_reducible refine Unf.h ?_)|exact rfl)|fail);all_goals try (conv=>whnf);all_goals try (exfalso;omega)
end Go.Proofs.YtfljmihdeimahaaGreatDoor
