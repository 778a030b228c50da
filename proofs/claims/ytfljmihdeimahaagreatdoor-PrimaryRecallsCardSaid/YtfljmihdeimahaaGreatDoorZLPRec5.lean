import Derived.Test.YtfljmihdeimahaaGreatDoorZLPRec4
import Derived.Test.YtfljmihdeimahaaGreatDoorZLPRec3
namespace Go.Proofs.YtfljmihdeimahaaGreatDoor
set_option linter.all false
open Go.RowKit
theorem u8and1 (x:BitVec 8) (n:Nat):((((x >>> n) &&& 1#8).toNat:Nat):Int)=if x.getLsbD n then 1 else 0:=by
 have h:((x >>> n) &&& 1#8).toNat=if x.getLsbD n then 1 else 0:=by
   rw [BitVec.toNat_and,BitVec.toNat_ushiftRight];show x.toNat >>> n &&& 1=_;rw [Nat.and_one_is_mod,BitVec.getLsbD,Nat.testBit,Nat.and_comm,Nat.and_one_is_mod]
   split<;>simp_all<;>omega
 rw [h];split<;>rfl
def bit_c:Ctr where
 D:=H256×Int
 args:=fun (k,i)=>[.agg [.arr8 k],.int .i64 i]
 res:=fun (k,i) _=>.int .i64 (bitI k i)
def bit_H:Cfg:=⟨[],[],[],[],21,0,[],[],[]⟩
theorem bit_ok:bit_c.Ok Tryz.prog 162:=by
 refine fn_ok bit_H 0 rfl _ Tryz.func162 rfl rfl trivial rfl rfl (by kernel_rfl) (fun _=>nlb rfl) ?_
 rintro ⟨k,i⟩ hp hr
 try dsimp only [bit_c] at hp
 try simp only [bit_c,Rng,RngL,inR,and_true,true_and] at hr
 repeat' (first|(with_reducible refine Unf.h ?_)|((conv=>whnf);first|refine Fork.mk (fun h=>?_) (fun h=>?_)|(refine Side.mk ?_ ?_;focus (first|omega|(intros;(try simp only [lenS,inR,cutS,loI,hiI] at *);omega)))|(refine Idx.mk ?_ ?_;focus (omega))|refine RetE.mk () trivial ?_|refine retK_r ?_)|fail);all_goals try (conv=>whnf)
 · exact Side.mk (congrArg (SV.int _) (by unfold bitI;rw [if_neg (by omega)])) (by repeat' (first|(with_reducible refine Unf.h ?_)|((conv=>whnf);exact rfl)|fail);all_goals try (conv=>whnf))
 · exact Side.mk (congrArg (SV.int _) (by unfold bitI;rw [kb_out (by omega)];simp)) (by repeat' (first|(with_reducible refine Unf.h ?_)|((conv=>whnf);exact rfl)|fail);all_goals try (conv=>whnf))
 · refine Side.mk (congrArg (SV.int _) ?_) (by repeat' (first|(with_reducible refine Unf.h ?_)|((conv=>whnf);exact rfl)|fail);all_goals try (conv=>whnf))
   have h1:i.toNat<256:=by omega
   rw [u8and1];unfold bitI kb;rw [dif_pos h1];simp only [show (i / 8).toNat=i.toNat / 8 by omega,show (7 - i % 8).toNat=7 - i.toNat % 8 by omega,show 0≤i by omega,true_and]
def len8 (x:BitVec 8):Nat:=if x=0#8 then 0 else x.toNat.log2+1
def lenT:List (BitVec 8):=(List.range 256).map fun i=>BitVec.ofNat 8 (len8 (BitVec.ofNat 8 i))
theorem len8_lt (x:BitVec 8):len8 x≤8:=by
 unfold len8;split
 · omega
 · rename_i h
   have h0:x.toNat≠0:=fun e=>h (BitVec.eq_of_toNat_eq (by simpa using e))
   have:x.toNat.log2<8:=(Nat.log2_lt h0).2 x.isLt
   omega
theorem tab_len {l:List (BitVec 8)} (h:l=lenT) (x:BitVec 8) (i:Nat) (hi:i<l.length) (e:i=x.toNat):((l[i].toNat:Nat):Int)=len8 x:=by
 subst h e
 have:=len8_lt x
 simp [lenT]
 omega
def len8_c:Ctr where
 D:=BitVec 8
 args:=fun x=>[.u8 x]
 res:=fun x _=>.int .i64 (len8 x)
def len8_H:Cfg:=⟨[],[],[],[],6,0,[],[],[]⟩
theorem len8_ok:len8_c.Ok Tryz.prog 174:=by
 refine fn_ok len8_H 0 rfl _ Tryz.func174 rfl rfl trivial rfl rfl (by kernel_rfl) (fun _=>nlb rfl) ?_
 intro (x:BitVec 8) hp hr
 try dsimp only [len8_c] at hp
 try simp only [len8_c,Rng,RngL,inR,and_true,true_and] at hr
 repeat' (first|(with_reducible refine Unf.h ?_)|fail);all_goals try (conv=>whnf)
 refine Idx.mk ⟨by omega,Nat.lt_of_lt_of_eq (show _<256 by have:=x.isLt;omega) (by kernel_rfl)⟩ ?_
 repeat' (first|(with_reducible refine Unf.h ?_)|((conv=>whnf);first|refine RetE.mk () trivial ?_|refine retK_r ?_)|fail);all_goals try (conv=>whnf)
 refine Side.mk (congrArg (SV.int _) (tab_len (by kernel_rfl) x _ _ (by omega))) (by repeat' (first|(with_reducible refine Unf.h ?_)|((conv=>whnf);exact rfl)|fail);all_goals try (conv=>whnf))
def lz8_c:Ctr where
 D:=BitVec 8
 args:=fun x=>[.u8 x]
 res:=fun x _=>.int .i64 (8 - (len8 x:Int))
def lz8_H:Cfg:=⟨[(174,len8_c)],[],[],[],6,0,[],[],[]⟩
theorem lz8_ok:lz8_c.Ok Tryz.prog 173:=by
 refine fn_ok lz8_H 0 rfl _ Tryz.func173 rfl rfl ⟨len8_ok,trivial⟩ rfl rfl (by kernel_rfl) (fun _=>nlb rfl) ?_
 intro (x:BitVec 8) hp hr
 try dsimp only [lz8_c] at hp
 try simp only [lz8_c,Rng,RngL,inR,and_true,true_and] at hr
 repeat' (first|(with_reducible refine Unf.h ?_)|((conv=>whnf);first|(refine Side.mk ?_ ?_;focus (first|with_reducible rfl|exact True.intro|(refine congrArg (SV.int _) ?_;omega)|(intros;(try simp only [lenS,inR,cutS,loI,hiI] at *);omega)))|refine RetE.mk () trivial ?_|refine Got.mk (fun _ _=>?_)|refine retK_r ?_|exact rfl|refine CallS.mk (c:=len8_c) (x) ?_)|fail);all_goals try (conv=>whnf)
def cutUp (k:H256) (n j:Nat):H256:=Vector.ofFn fun i=>if i.1<j then k[i] &&& ~~~ (255#8 >>> min (n - 8*i.1) 8) else k[i]
theorem cutUp_zero (k:H256) (n:Nat):cutUp k n 0=k:=by ext i hi:1;simp [cutUp]
theorem cutUp_all (k:H256) (n:Nat):cutUp k n 32=cutB k n:=by
 unfold cutUp cutB;ext i hi:1;simp only [Vector.getElem_ofFn,hi,if_true]
theorem cutUp_same (k:H256) (n j:Nat) (h:8≤n - 8*j):cutUp k n j=cutUp k n (j+1):=by
 ext i hi:1
 simp only [cutUp,Vector.getElem_ofFn]
 by_cases h1:i<j
 · rw [if_pos h1,if_pos (by omega)]
 · rw [if_neg h1]
   by_cases h2:i<j+1
   · rw [if_pos h2,show min (n - 8*i) 8=8 by omega]
     have : ~~~ (255#8 >>> 8)=BitVec.allOnes 8:=by decide
     rw [this,BitVec.and_allOnes]
   · rw [if_neg h2]
theorem cutUp_step (k:H256) (n j q:Nat) (hq:q<32) (e:q=j) (x:BitVec 8) (hx:x=(cutUp k n j)[q] &&& ~~~ (255#8 >>> min (n - 8*j) 8)):(cutUp k n j).set q x hq=cutUp k n (j+1):=by
 subst e
 ext i hi:1
 rw [Vector.getElem_set]
 split
 · rename_i h;subst h;rw [hx];simp [cutUp]
 · simp only [cutUp,Vector.getElem_ofFn]
   by_cases h1:i<q
   · rw [if_pos h1,if_pos (by omega)]
   · rw [if_neg h1,if_neg (by omega)]
def cutp_c:Ctr where
 D:=H256×Int
 args:=fun (k,n)=>[.agg [.arr8 k],.int .i64 n]
 res:=fun (k,n) _=>.agg (ePfx (cutP k n))
def cutp_H:Cfg:=⟨[],[(7,[2],[8],(oA 0 (oA 1 (oB 2 (oA 3 (oA 4 (oA 5 (oA 6 (oA 7 (oC 8 .nil))))))))),[])],[],[],33,0,[],[],[]⟩
theorem cutp_ok:cutp_c.Ok Tryz.prog 171:=by
 refine fn_ok cutp_H 0 rfl _ Tryz.func171 rfl rfl trivial rfl rfl (by kernel_rfl) (fun _=>nlb rfl) ?_
 rintro ⟨k,n⟩ hp hr
 try dsimp only [cutp_c] at hp
 try simp only [cutp_c,Rng,RngL,inR,and_true,true_and] at hr
 repeat' (first|(with_reducible refine Unf.h ?_)|fail);all_goals try (conv=>whnf)
 have hN:∃ N:Nat,min (max n 0) 256=(N:Int)∧N≤256:=⟨(min (max n 0) 256).toNat,by omega,by omega⟩
 obtain ⟨N,hN,hN'⟩:=hN;rw [hN];refine LoopS.auto (fun j:Nat=>j≤32) (fun j=>[(10,.int .i64 j)]) (fun j=>[(1,.box 54 [.int .i64 0,.arr8 zeroH]),(0,.box 35 [.arr8 (cutUp k N j)])]) (fun j=>32 - j) 0 (by omega) ?_ ?_
 · repeat' (first|(with_reducible refine Unf.h ?_)|((conv=>whnf);first|(refine Side.mk ?_ ?_;focus (first|with_reducible rfl|(refine congrArg (SV.int _) ?_;omega)|(simp only [*,cutUp_zero];done)))|(with_reducible refine Unf.h ?_)|exact True.intro)|fail);all_goals try (conv=>whnf)
 · intro j hj
   repeat' (first|(with_reducible first|refine Unf.h ?_|refine loopK_n ?_)|((conv=>whnf);first|refine Fork.mk (fun h=>?_) (fun h=>?_)|(refine Side.mk ?_ ?_;focus (first|omega|(intros;(try simp only [lenS,inR,cutS,loI,hiI] at *);omega)))|(refine Idx.mk ?_ ?_;focus (omega))|refine RetE.mk () trivial ?_|refine retK_r ?_)|fail);all_goals try (conv=>whnf)
   · refine ⟨j+1,⟨by omega,by omega⟩,?_⟩
     repeat' (first|(with_reducible refine Unf.h ?_)|((conv=>whnf);first|(refine Side.mk ?_ ?_;focus (first|with_reducible rfl|(refine congrArg (SV.int _) ?_;omega)))|(with_reducible refine Unf.h ?_))|fail);all_goals try (conv=>whnf)
     refine Side.mk (congrArg SV.arr8 (cutUp_step k N j _ _ (by omega) _ ?_)) (by repeat' (first|(with_reducible refine Unf.h ?_)|((conv=>whnf);exact True.intro)|fail);all_goals try (conv=>whnf))
     rw [show (min (max ((N:Int) - 8*j) 0) 8).toNat=min (N - 8*j) 8 by omega]
   · refine ⟨j+1,⟨by omega,by omega⟩,?_⟩
     rw [cutUp_same k N j (by omega)]
     repeat' (first|(with_reducible refine Unf.h ?_)|((conv=>whnf);first|(refine Side.mk ?_ ?_;focus (first|with_reducible rfl|(refine congrArg (SV.int _) ?_;omega)))|(with_reducible refine Unf.h ?_)|exact True.intro)|fail);all_goals try (conv=>whnf)
   · have e:j=32:=by omega
     subst e
     repeat' (first|(with_reducible refine Unf.h ?_)|((conv=>whnf);first|(refine Side.mk ?_ ?_;focus (first|(simp only [*,cutUp_all,cutP,hN];done)|(simp [*,cutUp_all,cutP,hN];done)))|exact rfl)|fail);all_goals try (conv=>whnf)
theorem lz_spec:∀ x:Fin 256,x.1≠0→1≤len8 (BitVec.ofNat 8 x.1)∧∀ q:Fin 8,(q.1<8 - len8 (BitVec.ofNat 8 x.1)→(BitVec.ofNat 8 x.1).getLsbD (7 - q.1)=false)∧(q.1=8 - len8 (BitVec.ofNat 8 x.1)→(BitVec.ofNat 8 x.1).getLsbD (7 - q.1)=true):=by decide +kernel
theorem shared_byte (a b:H256) (j:Nat) (hj:j<32) (he:∀ i,i<8*j→kb a i=kb b i) (hx:a[j] ^^^ b[j]≠0#8):shared a b=8*j+(8 - len8 (a[j] ^^^ b[j])):=by
 have hs:=lz_spec ⟨(a[j] ^^^ b[j]).toNat,(a[j] ^^^ b[j]).isLt⟩ (fun e=>hx (BitVec.eq_of_toNat_eq (by simpa using e)))
 simp only [BitVec.ofNat_toNat,BitVec.setWidth_eq] at hs;obtain ⟨h1,h2⟩:=hs;have byt:∀ q,q<8→(a[j] ^^^ b[j]).getLsbD (7 - q)=(kb a (8*j+q) ^^ kb b (8*j+q)):=fun q hq=>by
   have e1:=kb_byte a j (7 - q) hj (by omega)
   have e2:=kb_byte b j (7 - q) hj (by omega)
   rw [show 7 - (7 - q)=q by omega] at e1 e2
   rw [e1,e2,BitVec.getLsbD_xor]
 refine shared_uniq (by omega) (fun i hi=>?_) (fun _=>?_)
 · by_cases h8:i<8*j
   · exact he i h8
   · have:=(h2 ⟨i - 8*j,by omega⟩).1 (by simp only;omega)
     simp only at this
     rw [byt _ (by omega),show 8*j+(i - 8*j)=i by omega] at this
     cases ha:kb a i<;>cases hb:kb b i<;>simp [ha,hb] at this ⊢
 · have:=(h2 ⟨8 - len8 (a[j] ^^^ b[j]),by omega⟩).2 rfl
   simp only at this
   rw [byt _ (by omega)] at this
   intro e;rw [e] at this;simp at this
theorem kb_same_byte {a b:H256} (j:Nat) (hj:j<32) (hx:a[j] ^^^ b[j]=0#8) (i:Nat) (h1:8*j≤i) (h2:i<8*j+8):kb a i=kb b i:=by
 have e:a[j]=b[j]:=BitVec.xor_eq_zero_iff.1 hx;have e1:=kb_byte a j (7 - (i - 8*j)) hj (by omega)
 have e2:=kb_byte b j (7 - (i - 8*j)) hj (by omega)
 rw [show 8*j+(7 - (7 - (i - 8*j)))=i by omega] at e1 e2
 rw [e1,e2,e]
def shared_c:Ctr where
 D:=H256×H256
 args:=fun (a,b)=>[.agg [.arr8 a],.agg [.arr8 b]]
 res:=fun (a,b) _=>.int .i64 (shared a b)
def shared_H:Cfg:=⟨[(173,lz8_c)],[(4,[2,5],[],(oA 0 (oA 1 (oB 2 (oA 3 (oA 4 (oB 5 (oA 6 (oA 7 .nil)))))))),[])],[],[],25,0,[],[],[]⟩
theorem shared_ok:shared_c.Ok Tryz.prog 172:=by
 refine fn_ok shared_H 0 rfl _ Tryz.func172 rfl rfl ⟨lz8_ok,trivial⟩ rfl rfl (by kernel_rfl) (fun _=>nlb rfl) ?_
 rintro ⟨a,b⟩ hp hr
 try dsimp only [shared_c] at hp
 try simp only [shared_c,Rng,RngL,inR,and_true,true_and] at hr
 repeat' (first|(with_reducible refine Unf.h ?_)|fail);all_goals try (conv=>whnf)
 refine LoopS.auto (fun j:Nat=>j≤32∧∀ i,i<8*j→kb a i=kb b i) (fun j=>[(7,.int .i64 j)]) (fun j=>[(1,.box 35 [.arr8 b]),(0,.box 35 [.arr8 a])]) (fun j=>32 - j) 0 ⟨by omega,fun i hi=>by omega⟩ ?_ ?_
 · repeat' (first|(with_reducible refine Unf.h ?_)|((conv=>whnf);first|(refine Side.mk ?_ ?_;focus (first|with_reducible rfl|(refine congrArg (SV.int _) ?_;omega)))|(with_reducible refine Unf.h ?_)|exact True.intro)|fail);all_goals try (conv=>whnf)
 · intro j hj
   obtain ⟨hj,he⟩:=hj
   repeat' (first|(with_reducible first|refine Unf.h ?_|refine loopK_n ?_)|((conv=>whnf);first|refine Fork.mkn (fun h=>?_) (fun h=>?_)|refine Fork.mk (fun h=>?_) (fun h=>?_)|(refine Side.mk ?_ ?_;focus (first|omega|(intros;(try simp only [lenS,inR,cutS,loI,hiI] at *);omega)))|(refine Idx.mk ?_ ?_;focus (omega))|refine RetE.mk () trivial ?_|refine retK_r ?_)|fail);all_goals try (conv=>whnf)
   · have hl:=len8_lt (a[((j:Nat):Int).toNat]'(by omega) ^^^ b[((j:Nat):Int).toNat]'(by omega))
     refine CallS.mk (c:=lz8_c) ((a[((j:Nat):Int).toNat]'(by omega) ^^^ b[((j:Nat):Int).toNat]'(by omega))) ?_
     repeat' (first|(with_reducible refine Unf.h ?_)|((conv=>whnf);first|(refine Side.mk ?_ ?_;focus (first|with_reducible rfl|exact True.intro|(intros;(try simp only [lenS,inR,cutS,loI,hiI] at *);omega)))|refine RetE.mk () trivial ?_|refine Got.mk (fun _ _=>?_)|refine retK_r ?_)|fail);all_goals try (conv=>whnf)
     refine Side.mk (congrArg (SV.int _) ?_) (by repeat' (first|(with_reducible refine Unf.h ?_)|((conv=>whnf);exact rfl)|fail);all_goals try (conv=>whnf))
     rw [shared_byte a b j (by omega) he h]
     have hl':len8 (a[j]'(by omega) ^^^ b[j]'(by omega))≤8:=hl
     simp only [Int.toNat_natCast];omega
   · refine ⟨j+1,⟨by omega,by omega,fun i hi=>?_⟩,?_⟩
     · by_cases h8:i<8*j
       · exact he i h8
       · exact kb_same_byte j (by omega) h i (by omega) (by omega)
     · repeat' (first|(with_reducible refine Unf.h ?_)|((conv=>whnf);first|(refine Side.mk ?_ ?_;focus (first|with_reducible rfl|(refine congrArg (SV.int _) ?_;omega)))|(with_reducible refine Unf.h ?_)|exact True.intro)|fail);all_goals try (conv=>whnf)
   · have e:j=32:=by omega
     subst e;have hs:shared a b=256:=shared_uniq (Nat.le_refl _) (fun i hi=>he i (by omega)) (fun h=>absurd h (by omega))
     repeat' (first|(with_reducible refine Unf.h ?_)|((conv=>whnf);first|(refine Side.mk ?_ ?_;focus ((refine congrArg (SV.int _) ?_;omega)))|exact rfl)|fail);all_goals try (conv=>whnf)
theorem iffF {p:Prop} (h:¬ p):(false=true↔p):=⟨fun e=>(by cases e),fun h'=>absurd h' h⟩
theorem formed_cut {p:Pfx} (h0:0≤p.len) (h1:p.len≤256):((cutP p.bits p.len).len=p.len∧(cutP p.bits p.len).bits.toList=p.bits.toList)↔formedP p:=by
 have e:min (max p.len 0) 256=p.len:=by omega
 simp only [cutP,formedP,e,Vector.toList_inj,h0,h1,true_and]
theorem holds_cut {p:Pfx} {k:H256} (hf:formedP p):((cutP k p.len).len=p.len∧(cutP k p.len).bits.toList=p.bits.toList)↔holdsP p k:=by
 have e:min (max p.len 0) 256=p.len:=by have:=hf.1;have:=hf.2.1;omega
 simp only [cutP,holdsP,e,Vector.toList_inj,hf,true_and]
def formed_c:Ctr where
 D:=Pfx
 args:=fun p=>[.agg (ePfx p)]
 res:=fun p _=>.dec (formedP p) inferInstance
def formed_H:Cfg:=⟨[(171,cutp_c)],[(1,[1,5,10,12,14],[13],(oA 0 (oB 1 (oA 2 (oA 3 (oA 4 (oB 5 (oA 6 (oA 7 (oA 8 (oA 9 (oB 10 (oA 11 (oB 12 (oB 14 (oD 13 (oA 15 (oA 16 (oA 17 .nil)))))))))))))))))),[])],[],[],20,0,[],[],[]⟩
theorem formed_ok:formed_c.Ok Tryz.prog 170:=by
 refine fn_ok formed_H 0 rfl _ Tryz.func170 rfl rfl ⟨cutp_ok,trivial⟩ rfl rfl (by kernel_rfl) (fun _=>nlb rfl) ?_
 intro (p:Pfx) hp hr
 try dsimp only [formed_c] at hp
 try simp only [formed_c,Rng,RngL,inR,and_true,true_and] at hr
 repeat' (first|(with_reducible refine Unf.h ?_)|((conv=>whnf);first|refine Fork.mk (fun h=>?_) (fun h=>?_)|refine RetE.mk () trivial ?_|refine retK_r ?_)|fail);all_goals try (conv=>whnf)
 · refine CallS.mk (c:=cutp_c) ((p.bits,p.len)) ?_
   repeat' (first|(with_reducible refine Unf.h ?_)|((conv=>whnf);first|(refine Side.mk ?_ ?_;focus (first|with_reducible rfl|exact True.intro))|refine RetE.mk () trivial ?_|refine Got.mk (fun _ _=>?_)|refine retK_r ?_)|fail);all_goals try (conv=>whnf)
   exact Side.mk (formed_cut (by omega) (by omega)) (by repeat' (first|(with_reducible refine Unf.h ?_)|((conv=>whnf);exact rfl)|fail);all_goals try (conv=>whnf))
 · exact Side.mk (iffF fun h'=>by have:=h'.2.1;omega) (by repeat' (first|(with_reducible refine Unf.h ?_)|((conv=>whnf);exact rfl)|fail);all_goals try (conv=>whnf))
 · exact Side.mk (iffF fun h'=>by have:=h'.1;omega) (by repeat' (first|(with_reducible refine Unf.h ?_)|((conv=>whnf);exact rfl)|fail);all_goals try (conv=>whnf))
def holds_c:Ctr where
 D:=Pfx×H256
 args:=fun (p,k)=>[.agg (ePfx p),.agg [.arr8 k]]
 res:=fun (p,k) _=>.dec (holdsP p k) inferInstance
def holds_H:Cfg:=⟨[(171,cutp_c),(170,formed_c)],[(1,[0,3,5,7],[1,6],(oB 0 (oD 1 (oA 2 (oB 3 (oA 4 (oB 5 (oB 7 (oD 6 (oA 8 (oA 9 (oA 10 .nil))))))))))),[])],[],[],15,0,[],[],[]⟩
theorem holds_ok:holds_c.Ok Tryz.prog 166:=by
 refine fn_ok holds_H 0 rfl _ Tryz.func166 rfl rfl ⟨cutp_ok,formed_ok,trivial⟩ rfl rfl (by kernel_rfl) (fun _=>nlb rfl) ?_
 rintro ⟨p,k⟩ hp hr
 try dsimp only [holds_c] at hp
 try simp only [holds_c,Rng,RngL,inR,and_true,true_and] at hr
 repeat' (first|(with_reducible refine Unf.h ?_)|((conv=>whnf);first|refine Fork.mk (fun h=>?_) (fun h=>?_)|(refine Side.mk ?_ ?_;focus (first|with_reducible rfl|exact True.intro))|refine RetE.mk () trivial ?_|refine Got.mk (fun _ _=>?_)|refine retK_r ?_|refine CallS.mk (c:=formed_c) (p) ?_|refine CallS.mk (c:=cutp_c) ((k,p.len)) ?_)|fail);all_goals try (conv=>whnf)
 · exact Side.mk (holds_cut h) (by repeat' (first|(with_reducible refine Unf.h ?_)|((conv=>whnf);exact rfl)|fail);all_goals try (conv=>whnf))
 · exact Side.mk (iffF fun h'=>h h'.1) (by repeat' (first|(with_reducible refine Unf.h ?_)|((conv=>whnf);exact rfl)|fail);all_goals try (conv=>whnf))
def meet_c:Ctr where
 D:=Pfx×Pfx
 args:=fun (p,q)=>[.agg (ePfx p),.agg (ePfx q)]
 res:=fun (p,q) _=>.agg (ePfx (meetP p q))
def meet_H:Cfg:=⟨[(170,formed_c),(172,shared_c),(171,cutp_c)],[(3,[1,3,5,8,10],[6,12,13],(oA 0 (oB 1 (oA 2 (oB 3 (oA 4 (oB 5 (oA 7 (oB 8 (oA 9 (oB 10 (oD 6 (oA 11 (oC 12 (oC 13 .nil)))))))))))))),[])],[],[],27,0,[],[],[]⟩
theorem meet_ok:meet_c.Ok Tryz.prog 169:=by
 refine fn_ok meet_H 0 rfl _ Tryz.func169 rfl rfl ⟨formed_ok,shared_ok,cutp_ok,trivial⟩ rfl rfl (by kernel_rfl) (fun _=>nlb rfl) ?_
 rintro ⟨p,q⟩ hp hr
 try dsimp only [meet_c] at hp
 try simp only [meet_c,Rng,RngL,inR,and_true,true_and] at hr
 repeat' (first|(with_reducible refine Unf.h ?_)|fail);all_goals try (conv=>whnf)
 refine CallS.mk (c:=formed_c) (p) ?_
 repeat' (first|(with_reducible refine Unf.h ?_)|((conv=>whnf);first|refine Fork.mkn (fun h=>?_) (fun h=>?_)|(refine Side.mk ?_ ?_;focus (first|with_reducible rfl|exact True.intro))|refine RetE.mk () trivial ?_|refine Got.mk (fun _ _=>?_)|refine retK_r ?_)|fail);all_goals try (conv=>whnf)
 · have e:meetP p q=zeroP:=if_neg fun h'=>h h'.1
   repeat' (first|(with_reducible refine Unf.h ?_)|((conv=>whnf);first|(refine Side.mk ?_ ?_;focus ((simp only [*,e];done)))|exact rfl)|fail);all_goals try (conv=>whnf)
 · refine CallS.mk (c:=formed_c) (q) ?_
   repeat' (first|(with_reducible refine Unf.h ?_)|((conv=>whnf);first|refine Fork.mkn (fun h=>?_) (fun h=>?_)|(refine Side.mk ?_ ?_;focus (first|with_reducible rfl|exact True.intro))|refine RetE.mk () trivial ?_|refine Got.mk (fun _ _=>?_)|refine retK_r ?_|refine CallS.mk (c:=shared_c) ((p.bits,q.bits)) ?_|refine CallS.mk (c:=cutp_c) ((p.bits,min (min (shared p.bits q.bits:Int) p.len) q.len)) ?_)|fail);all_goals try (conv=>whnf)
   · have e:meetP p q=zeroP:=if_neg fun h'=>(by assumption:¬ formedP q) h'.2
     repeat' (first|(with_reducible refine Unf.h ?_)|((conv=>whnf);first|(refine Side.mk ?_ ?_;focus ((simp only [*,e];done)))|exact rfl)|fail);all_goals try (conv=>whnf)
   · have hf:formedP p∧formedP q:=⟨by assumption,by assumption⟩
     have e:meetP p q=cutP p.bits (min (min (shared p.bits q.bits:Int) p.len) q.len):=if_pos hf
     repeat' (first|(with_reducible refine Unf.h ?_)|((conv=>whnf);first|(refine Side.mk ?_ ?_;focus ((simp only [*,e];done)))|exact rfl)|fail);all_goals try (conv=>whnf)
def lessP (a b:H256):Prop:=shared a b<256∧kb a (shared a b)=false
instance (a b:H256):Decidable (lessP a b):=inferInstanceAs (Decidable (_∧_))
abbrev Fo:=List Nd
def zeroN:Nd:=⟨false,zeroH,zeroH,0,zeroH,0,0,zeroH⟩
def nd (l:Fo) (i:Int):Nd:=if 0≤i then l.getD i.toNat zeroN else zeroN
theorem nd_get (l:Fo) (i:Int) (h0:0≤i) (h:i.toNat<l.length):l[i.toNat]=nd l i:=by
 unfold nd;rw [if_pos h0,List.getD_eq_getElem?_getD,List.getElem?_eq_getElem h];rfl
theorem nd_app (l m:Fo) (i:Int) (h:i<l.length):nd (l++m) i=nd l i:=by
 unfold nd
 split
 · simp only [List.getD_eq_getElem?_getD]
   rw [List.getElem?_append_left (by omega)]
 · rfl
theorem nd_last (l:Fo) (n:Nd):nd (l++[n]) (l.length:Int)=n:=by
 unfold nd;rw [if_pos (by omega)]
 simp [List.getD_eq_getElem?_getD]
def Nd.pfx (n:Nd):Pfx:=⟨n.plen,n.bits⟩
def Nd.cover (n:Nd):Pfx:=if n.leaf then cutP n.key 256 else n.pfx
abbrev fo (l:Fo):List Ob:=[(0,.box 171 [.own 1]),(1,.row 283 132 eNd l)]
def size_c:Ctr where
 D:=Fo
 args:=fun _=>[.ptr 0 0]
 objs:=fun l=>fo l
 nn:=2
 res:=fun l _=>.int .i64 l.length
 out:=fun l _=>fo l
def size_H:Cfg:=⟨[],[],[],[],10,2,[],[],[]⟩
theorem size_ok:size_c.Ok Tryz.prog 132:=by
 refine fn_ok size_H 2 rfl _ Tryz.func132 rfl rfl trivial rfl rfl (by kernel_rfl) (fun _=>nlb rfl) ?_
 intro (l:Fo) hp hr
 try dsimp only [size_c] at hp
 try simp only [size_c,Rng,RngL,inR,and_true,true_and] at hr
 repeat' (first|(with_reducible refine Unf.h ?_)|((conv=>whnf);first|(refine Side.mk ?_ ?_;focus (first|with_reducible rfl|(refine congrArg (SV.int _) ?_;omega)))|refine RetE.mk () trivial ?_|refine retK_r ?_|exact rfl)|fail);all_goals try (conv=>whnf)
def inF (l:Fo) (i:Int):Prop:=0≤i∧i<l.length
instance (l:Fo) (i:Int):Decidable (inF l i):=inferInstanceAs (Decidable (_∧_))
def is_c:Ctr where
 D:=Fo×Int
 args:=fun (_,i)=>[.ptr 0 0,.int .i64 i]
 objs:=fun (l,_)=>fo l
 nn:=2
 res:=fun (l,i) _=>.dec (-1≤i∧i<l.length) inferInstance
 out:=fun (l,_) _=>fo l
def is_H:Cfg:=⟨[],[],[],[],20,2,[],[],[]⟩
theorem is_ok:is_c.Ok Tryz.prog 158:=by
 refine fn_ok is_H 2 rfl _ Tryz.func158 rfl rfl trivial rfl rfl (by kernel_rfl) (fun _=>nlb rfl) ?_
 rintro ⟨l,i⟩ hp hr
 try dsimp only [is_c] at hp
 try simp only [is_c,Rng,RngL,inR,and_true,true_and] at hr
 repeat' (first|(with_reducible refine Unf.h ?_)|((conv=>whnf);first|refine Fork.mk (fun h=>?_) (fun h=>?_)|(refine Side.mk ?_ ?_;focus (first|with_reducible rfl|omega|(refine ⟨fun h=>?_,fun h=>?_⟩<;>first|rfl|(cases h;done)|omega|(exfalso;omega)|(simp only [Bool.false_eq_true] at h;done))))|refine RetE.mk () trivial ?_|refine retK_r ?_|exact rfl)|fail);all_goals try (conv=>whnf)
def cover_c:Ctr where
 D:=Nd
 args:=fun n=>[.agg (eNd n)]
 res:=fun n _=>.agg (ePfx n.cover)
def cover_H:Cfg:=⟨[(171,cutp_c)],[],[],[],10,0,[],[],[]⟩
theorem cover_ok:cover_c.Ok Tryz.prog 168:=by
 refine fn_ok cover_H 0 rfl _ Tryz.func168 rfl rfl ⟨cutp_ok,trivial⟩ rfl rfl (by kernel_rfl) (fun _=>nlb rfl) ?_
 intro (n:Nd) hp hr
 try dsimp only [cover_c] at hp
 try simp only [cover_c,Rng,RngL,inR,and_true,true_and] at hr
 obtain ⟨leaf,key,value,plen,bits,left,right,hash⟩:=n
 cases leaf
 · have e:Nd.cover ⟨false,key,value,plen,bits,left,right,hash⟩=⟨plen,bits⟩:=rfl
   repeat' (first|(with_reducible refine Unf.h ?_)|((conv=>whnf);first|(refine Side.mk ?_ ?_;focus ((simp only [*,e];done)))|refine RetE.mk () trivial ?_|refine retK_r ?_|exact rfl)|fail);all_goals try (conv=>whnf)
 · have e:Nd.cover ⟨true,key,value,plen,bits,left,right,hash⟩=cutP key 256:=rfl
   repeat' (first|(with_reducible refine Unf.h ?_)|((conv=>whnf);first|(refine Side.mk ?_ ?_;focus (first|with_reducible rfl|exact True.intro|(simp only [*,e];done)))|refine RetE.mk () trivial ?_|refine Got.mk (fun _ _=>?_)|refine retK_r ?_|exact rfl|refine CallS.mk (c:=cutp_c) ((key,256)) ?_)|fail);all_goals try (conv=>whnf)
def underP (l:Fo) (p:Pfx) (b i:Int):Prop:=inF l i∧childOk p b∧withinP (childP p b) (nd l i).cover
instance (l:Fo) (p:Pfx) (b i:Int):Decidable (underP l p b i):=inferInstanceAs (Decidable (_∧_∧_))
def mk (l:Fo) (n:Nd):Nd:=if n.leaf then ⟨true,n.key,n.value,0,zeroH,-1,-1,sha (leafT n.key n.value)⟩ else ⟨false,zeroH,zeroH,n.plen,n.bits,n.left,n.right,sha (innerT n.plen n.bits (nd l n.left).hash (nd l n.right).hash)⟩
def addable (l:Fo) (n:Nd):Prop:=n.leaf=true∨inF l n.left∧inF l n.right
def add_c:Ctr where
 D:=Fo×Nd
 pre:=fun (l,n)=>l.length≤10000000∧addable l n
 args:=fun (_,n)=>[.ptr 0 0,.agg (eNd n)]
 objs:=fun (l,_)=>fo l
 nn:=2
 res:=fun (l,_) _=>.int .i64 l.length
 out:=fun (l,n) _=>[(0,.box 171 [.own 2]),(2,.row 283 132 eNd (l++[mk l n]))]
 mm:=1
def add_H:Cfg:=⟨[(167,ttext_c),(63,sum_c)],[(4,[1,3],[5,7],(oA 0 (oB 1 (oA 2 (oB 3 (oA 4 (oD 5 (oA 6 (oC 7 .nil)))))))),[5]),(5,[1,3,5],[7,9,11],(oA 0 (oB 1 (oA 2 (oB 3 (oA 4 (oB 5 (oA 6 (oD 7 (oA 8 (oD 9 (oA 10 (oC 11 .nil)))))))))))),[5]),(6,[3,5,8,12,14,17],[18,19],(oA 0 (oA 1 (oA 2 (oB 3 (oA 4 (oB 5 (oA 6 (oA 7 (oB 8 (oA 9 (oA 10 (oA 11 (oB 12 (oA 13 (oB 14 (oA 15 (oA 16 (oB 17 (oD 18 (oC 19 .nil)))))))))))))))))))),[6]),(8,[4,5],[6,7,10],(oA 0 (oA 1 (oA 2 (oA 3 (oB 4 (oB 5 (oD 6 (oC 7 (oA 8 (oA 9 (oC 10 .nil))))))))))),[])],[],[],68,2,[],[],[]⟩
theorem add_ok:add_c.Ok Tryz.prog 160:=by
 refine fn_ok add_H 2 rfl _ Tryz.func160 rfl rfl ⟨ttext_ok,sum_ok,trivial⟩ rfl rfl (by kernel_rfl) (fun _=>nlb rfl) ?_
 rintro ⟨l,n⟩ hp hr
 try dsimp only [add_c] at hp
 try simp only [add_c,Rng,RngL,inR,and_true,true_and] at hr
 obtain ⟨hlen,ha⟩:=hp;obtain ⟨leaf,key,value,plen,bits,left,right,hash⟩:=n
 cases leaf
 · have ha':inF l left∧inF l right:=by simpa [addable] using ha
   obtain ⟨⟨hl0,hl1⟩,hr0,hr1⟩:=ha';clear ha;have e1:=nd_get l left hl0 (by omega)
   have e2:=nd_get l right hr0 (by omega)
   repeat' (first|(with_reducible refine Unf.h ?_)|((conv=>whnf);first|(refine Side.mk ?_ ?_;focus ((dsimp only;omega)))|(refine Idx.mk ?_ ?_;focus ((simp only [lenS,inR,cutS,loI,hiI];omega))))|fail);all_goals try (conv=>whnf)
   refine CallS.mk (c:=ttext_c) ((⟨false,zeroH,zeroH,plen,bits,left,right,zeroH⟩,(nd l left).hash,(nd l right).hash)) ?_
   repeat' (first|(with_reducible refine Unf.h ?_)|((conv=>whnf);first|(refine Side.mk ?_ ?_;focus (first|with_reducible rfl|exact True.intro|(simp only [*,e1,e2];done)))|refine Got.mk (fun _ _=>?_)|refine CallS.mk (c:=sum_c) (innerT plen bits (nd l left).hash (nd l right).hash) ?_)|fail);all_goals try (conv=>whnf)
   refine Side.mk rfl ?_
   repeat' (first|(with_reducible refine Unf.h ?_)|((conv=>whnf);first|(refine Side.mk ?_ ?_;focus (exact True.intro))|refine Got.mk (fun _ _=>?_))|fail);all_goals try (conv=>whnf)
   refine Ex.mk [⟨false,zeroH,zeroH,plen,bits,left,right,sha (innerT plen bits (nd l left).hash (nd l right).hash)⟩] rfl ?_
   repeat' (first|(with_reducible refine Unf.h ?_)|((conv=>whnf);first|(refine Side.mk ?_ ?_;focus (first|(intros;(try simp only [lenS,inR,cutS,loI,hiI] at *);omega)|(dsimp only [resS,add_c];(simp [*];done))))|refine RetE.mk () trivial ?_|refine retK_r ?_)|fail);all_goals try (conv=>whnf)
   refine Side.mk rfl ?_
   repeat' (first|(with_reducible refine Unf.h ?_)|((conv=>whnf);exact rfl)|fail);all_goals try (conv=>whnf)
 · repeat' (first|(with_reducible refine Unf.h ?_)|fail);all_goals try (conv=>whnf)
   refine CallS.mk (c:=ttext_c) ((⟨true,key,value,0,zeroH,-1,-1,zeroH⟩,zeroH,zeroH)) ?_
   repeat' (first|(with_reducible refine Unf.h ?_)|((conv=>whnf);first|(refine Side.mk ?_ ?_;focus (first|with_reducible rfl|exact True.intro))|refine Got.mk (fun _ _=>?_)|refine CallS.mk (c:=sum_c) (leafT key value) ?_)|fail);all_goals try (conv=>whnf)
   refine Side.mk rfl ?_
   repeat' (first|(with_reducible refine Unf.h ?_)|((conv=>whnf);first|(refine Side.mk ?_ ?_;focus (exact True.intro))|refine Got.mk (fun _ _=>?_))|fail);all_goals try (conv=>whnf)
   refine Ex.mk [⟨true,key,value,0,zeroH,-1,-1,sha (leafT key value)⟩] rfl ?_
   repeat' (first|(with_reducible refine Unf.h ?_)|((conv=>whnf);first|(refine Side.mk ?_ ?_;focus (first|(intros;(try simp only [lenS,inR,cutS,loI,hiI] at *);omega)|(dsimp only [resS,add_c];(simp [*];done))))|refine RetE.mk () trivial ?_|refine retK_r ?_)|fail);all_goals try (conv=>whnf)
   refine Side.mk rfl ?_
   repeat' (first|(with_reducible refine Unf.h ?_)|((conv=>whnf);exact rfl)|fail);all_goals try (conv=>whnf)
def closed (l:Fo):Prop:=∀ i:Int,inF l i→(nd l i).leaf=true∨(0≤(nd l i).left∧(nd l i).left<i)∧(0≤(nd l i).right∧(nd l i).right<i)
def isT (l:Fo) (t:Int):Prop:=-1≤t∧t<l.length
instance (l:Fo) (t:Int):Decidable (isT l t):=inferInstanceAs (Decidable (_∧_))
def goes (l:Fo) (k:H256) (t:Int):Prop:=t≠-1∧(nd l t).leaf=false∧holdsP (nd l t).pfx k
instance (l:Fo) (k:H256) (t:Int):Decidable (goes l k t):=inferInstanceAs (Decidable (_∧_∧_))
def nxt (l:Fo) (k:H256) (t:Int):Int:=if bitI k (nd l t).plen=1 then (nd l t).right else (nd l t).left
def path (l:Fo) (k:H256) (t:Int):List Int×Int:=if h:goes l k t∧-1≤nxt l k t∧nxt l k t<t then (t::(path l k (nxt l k t)).1,(path l k (nxt l k t)).2) else ([],t)
termination_by (t+1).toNat
decreasing_by all_goals omega
theorem nxt_ok {l:Fo} {k:H256} {t:Int} (hc:closed l) (ht:isT l t) (hg:goes l k t):0≤nxt l k t∧nxt l k t<t:=by
 rcases hc t ⟨by have:=ht.1;have:=hg.1;omega,ht.2⟩ with h|h
 · rw [hg.2.1] at h;cases h
 · unfold nxt;split
   · exact h.2
   · exact h.1
theorem path_go {l:Fo} {k:H256} {t:Int} (hc:closed l) (ht:isT l t) (hg:goes l k t):path l k t=(t::(path l k (nxt l k t)).1,(path l k (nxt l k t)).2):=by
 have:=nxt_ok hc ht hg
 rw [path,dif_pos ⟨hg,by omega,by omega⟩]
theorem path_stop {l:Fo} {k:H256} {t:Int} (hg:¬ goes l k t):path l k t=([],t):=by
 rw [path,dif_neg fun h=>hg h.1]
theorem path_len {l:Fo} {k:H256}:∀ (n:Nat) (t:Int),(t+1).toNat≤n→(path l k t).1.length≤(t+1).toNat
 | n,t,hn=>by
   rw [path]
   split
   · rename_i h
     match n with
     | 0=>omega
     | n+1 =>
       have:=path_len (l:=l) (k:=k) n (nxt l k t) (by omega)
       simp only [List.length_cons];omega
   · simp
def path_c:Ctr where
 D:=Fo×Int×H256
 pre:=fun (l,t,_)=>l.length≤10000000∧closed l∧isT l t
 args:=fun (_,t,k)=>[.ptr 0 0,.int .i64 t,.agg [.arr8 k]]
 objs:=fun (l,_)=>fo l
 nn:=2
 res:=fun (l,t,k) _=>.tup [.own 2,.int .i64 (path l k t).2]
 out:=fun (l,t,k) _=>fo l++[(2,.row 3 1 eI (path l k t).1)]
 mm:=1
def path_H:Cfg:=⟨[(166,holds_c),(162,bit_c)],[(2,[6,10,17,21,22],[23],(oA 0 (oA 1 (oA 2 (oA 3 (oA 4 (oA 5 (oB 6 (oA 7 (oA 8 (oA 9 (oB 10 (oA 11 (oA 12 (oA 13 (oA 14 (oA 15 (oA 16 (oB 17 (oA 18 (oA 19 (oA 20 (oB 21 (oB 22 (oC 23 (oA 24 .nil))))))))))))))))))))))))),[])],[],[],58,2,[],[],[]⟩
theorem path_ok:path_c.Ok Tryz.prog 159:=by
 refine fn_ok path_H 2 rfl _ Tryz.func159 rfl rfl ⟨holds_ok,bit_ok,trivial⟩ rfl rfl (by kernel_rfl) (fun _=>nlb rfl) ?_
 rintro ⟨l,t,k⟩ hp hr
 try dsimp only [path_c] at hp
 try simp only [path_c,Rng,RngL,inR,and_true,true_and] at hr
 obtain ⟨hlen,hc,ht⟩:=hp
 repeat' (first|(with_reducible refine Unf.h ?_)|fail);all_goals try (conv=>whnf)
 refine LoopS.autoN (I:=Int×List Int) (fun p=>isT l p.1∧p.2.length+(path l k p.1).1.length≤10000001∧p.2++(path l k p.1).1=(path l k t).1∧(path l k p.1).2=(path l k t).2) (fun p=>[(1,.int .i64 p.1),(8,.own 3)]) (fun p=>[(2,.box 35 [.arr8 k]),(0,.box 171 [.own 1]),(1,.row 283 132 eNd l),(3,.row 3 1 eI p.2)]) 4 (fun p=>(p.1+1).toNat) (t,[]) ⟨ht,?_,rfl,rfl⟩ ?_ ?_
 · have:=path_len (l:=l) (k:=k) _ t (Nat.le_refl _)
   have:=ht.2
   simp only [List.length_nil];omega
 · repeat' (first|(with_reducible refine Unf.h ?_)|((conv=>whnf);first|(refine Side.mk ?_ ?_;focus (with_reducible rfl))|(with_reducible refine Unf.h ?_)|exact True.intro)|fail);all_goals try (conv=>whnf)
 · intro p hq
   obtain ⟨hp1,hpl,hp2,hp3⟩:=hq;have hp0:=hp1.1;have hpn:=hp1.2
   repeat' (first|(with_reducible refine Unf.h ?_)|((conv=>whnf);first|refine Fork.mkn (fun h=>?_) (fun h=>?_)|(refine Side.mk ?_ ?_;focus (omega))|(refine Idx.mk ?_ ?_;focus (omega))|refine RetE.mk () trivial ?_|refine retK_r ?_)|fail);all_goals try (conv=>whnf)
   · have hin:p.1.toNat<l.length:=by omega
     have en:=nd_get l p.1 (by omega) hin
     cases hb:(l[p.1.toNat]'hin).leaf
     · rw [en] at hb
       repeat' (first|(with_reducible refine Unf.h ?_)|((conv=>whnf);first|refine Fork.mk (fun h=>?_) (fun h=>?_)|(refine Side.mk ?_ ?_;focus (first|with_reducible rfl|exact True.intro|omega|(intros;(try simp only [lenS,inR,cutS,loI,hiI,en,Nd.pfx] at *);omega)|(simp only [*,en,Nd.pfx];done)))|(refine Idx.mk ?_ ?_;focus (omega))|refine RetE.mk () trivial ?_|refine Got.mk (fun _ _=>?_)|refine Ex.mk [_] rfl ?_|(with_reducible refine Unf.h ?_)|refine retK_r ?_|refine CallS.mk (c:=holds_c) (((nd l p.1).pfx,k)) ?_)|fail);all_goals try (conv=>whnf)
       · have hg:goes l k p.1:=⟨by assumption,hb,h⟩
         have hx:=nxt_ok hc hp1 hg;have hgo:=path_go hc hp1 hg;rw [hgo] at hp2 hp3 hpl;simp only [List.length_cons] at hpl;have hnew:(nxt l k p.1+1).toNat<(p.1+1).toNat∧isT l (nxt l k p.1)∧(p.2++[p.1]).length+(path l k (nxt l k p.1)).1.length≤10000001∧(p.2++[p.1])++(path l k (nxt l k p.1)).1=(path l k t).1∧(path l k (nxt l k p.1)).2=(path l k t).2 :=
           ⟨by omega,⟨by omega,by omega⟩,by simp only [List.length_append,List.length_cons,List.length_nil];omega,by rw [← hp2];simp,hp3⟩
         refine CallS.mk (c:=bit_c) ((k,(nd l p.1).plen)) ?_
         repeat' (first|(with_reducible first|refine Unf.h ?_|refine loopK_n ?_)|((conv=>whnf);first|refine Fork.mk (fun h=>?_) (fun h=>?_)|(refine Side.mk ?_ ?_;focus (first|with_reducible rfl|exact True.intro|(simp only [*,en];done)))|refine Got.mk (fun _ _=>?_))|fail);all_goals try (conv=>whnf)
         · have hn:nxt l k p.1=(nd l p.1).right:=if_pos h
           refine ⟨(nxt l k p.1,p.2++[p.1]),hnew,?_⟩
           repeat' (first|(with_reducible refine Unf.h ?_)|((conv=>whnf);first|(refine Side.mk ?_ ?_;focus (first|with_reducible rfl|(simp only [*,hn,en];done)))|(with_reducible refine Unf.h ?_)|exact True.intro)|fail);all_goals try (conv=>whnf)
         · have hn:nxt l k p.1=(nd l p.1).left:=if_neg h
           refine ⟨(nxt l k p.1,p.2++[p.1]),hnew,?_⟩
           repeat' (first|(with_reducible refine Unf.h ?_)|((conv=>whnf);first|(refine Side.mk ?_ ?_;focus (first|with_reducible rfl|(simp only [*,hn,en];done)))|(with_reducible refine Unf.h ?_)|exact True.intro)|fail);all_goals try (conv=>whnf)
       · have hg:¬ goes l k p.1:=fun h'=>h h'.2.2
         rw [path_stop hg] at hp2 hp3;simp only [List.append_nil] at hp2
         repeat' (first|(with_reducible refine Unf.h ?_)|((conv=>whnf);first|(refine Side.mk ?_ ?_;focus (first|with_reducible rfl|(refine congrArg (SV.int _) ?_;omega)|(simp only [*,hp2,hp3];done)))|exact rfl)|fail);all_goals try (conv=>whnf)
     · rw [en] at hb
       have hg:¬ goes l k p.1:=fun h'=>by rw [h'.2.1] at hb;cases hb
       rw [path_stop hg] at hp2 hp3;simp only [List.append_nil] at hp2
       repeat' (first|(with_reducible refine Unf.h ?_)|((conv=>whnf);first|(refine Side.mk ?_ ?_;focus (first|with_reducible rfl|(refine congrArg (SV.int _) ?_;omega)|(simp only [*,hp2,hp3];done)))|refine RetE.mk () trivial ?_|(with_reducible refine Unf.h ?_)|refine retK_r ?_|exact rfl)|fail);all_goals try (conv=>whnf)
   · have hg:¬ goes l k p.1:=fun h'=>h'.1 h
     rw [path_stop hg] at hp2 hp3;simp only [List.append_nil] at hp2;clear h
     repeat' (first|(with_reducible refine Unf.h ?_)|((conv=>whnf);first|(refine Side.mk ?_ ?_;focus (first|with_reducible rfl|(refine congrArg (SV.int _) ?_;omega)|(simp only [*,hp2,hp3];done)))|exact rfl)|fail);all_goals try (conv=>whnf)
def joinN (l:Fo) (a b:Int):Nd :=
 let m:=meetP (nd l a).cover (nd l b).cover
 if bitI (nd l a).cover.bits m.len=1 then ⟨false,zeroH,zeroH,m.len,m.bits,b,a,zeroH⟩ else ⟨false,zeroH,zeroH,m.len,m.bits,a,b,zeroH⟩
def join_c:Ctr where
 D:=Fo×Int×Int
 pre:=fun (l,a,b)=>l.length≤10000000∧inF l a∧inF l b
 args:=fun (_,a,b)=>[.ptr 0 0,.int .i64 a,.int .i64 b]
 objs:=fun (l,_)=>fo l
 nn:=2
 res:=fun (l,_) _=>.int .i64 l.length
 out:=fun (l,a,b) _=>[(0,.box 171 [.own 2]),(2,.row 283 132 eNd (l++[mk l (joinN l a b)]))]
 mm:=1
def join_H:Cfg:=⟨[(168,cover_c),(169,meet_c),(162,bit_c),(160,add_c)],[(1,[3,6,11,14],[7,15,16,17,18,19],(oA 0 (oA 1 (oA 2 (oB 3 (oA 4 (oA 5 (oB 6 (oA 8 (oA 9 (oA 10 (oB 11 (oA 12 (oA 13 (oB 14 (.alt 7 true (.alt 15 true (.alt 16 true (oD 17 (oC 18 (oC 19 .nil))) (oD 17 (oD 16 (oC 18 (oC 19 .nil))))) (.alt 16 true (.alt 15 true (oD 17 (oC 18 (oC 19 .nil))) (oD 17 (oC 15 (oC 18 (oC 19 .nil))))) (oD 17 (.alt 15 true (oD 16 (oC 18 (oC 19 .nil))) (oD 16 (oC 15 (oC 18 (oC 19 .nil)))))))) (.alt 16 true (.alt 7 true (.alt 15 true (oD 17 (oC 18 (oC 19 .nil))) (oD 17 (oC 15 (oC 18 (oC 19 .nil))))) (oD 17 (oD 7 (oC 15 (oC 18 (oC 19 .nil)))))) (oD 17 (.alt 7 true (.alt 15 true (oD 16 (oC 18 (oC 19 .nil))) (oD 16 (oC 15 (oC 18 (oC 19 .nil))))) (oD 16 (oD 7 (oC 15 (oC 18 (oC 19 .nil))))))))))))))))))))))),[])],[],[],43,2,[],[1],[]⟩
theorem join_ok:join_c.Ok Tryz.prog 161:=by
 refine fn_ok join_H 2 rfl _ Tryz.func161 rfl rfl ⟨cover_ok,meet_ok,bit_ok,add_ok,trivial⟩ rfl rfl (by kernel_rfl) (fun _=>nlb rfl) ?_
 rintro ⟨l,a,b⟩ hp hr
 try dsimp only [join_c] at hp
 try simp only [join_c,Rng,RngL,inR,and_true,true_and] at hr
 obtain ⟨hlen,⟨ha0,ha1⟩,hb0,hb1⟩:=hp;have ea:=nd_get l a ha0 (by omega)
 have eb:=nd_get l b hb0 (by omega)
 repeat' (first|(with_reducible refine Unf.h ?_)|fail);all_goals try (conv=>whnf)
 refine CutS.auto (I:=Unit) (fun _=>True) (fun _=>[(7,.ptr 2 0),(8,.ptr 3 0)]) (fun _=>[(0,.box 171 [.own 1]),(1,.row 283 132 eNd l),(2,.box 54 (ePfx (nd l a).cover)),(3,.box 54 (ePfx (nd l b).cover))]) 4 ?_ ?_
 · repeat' (first|(with_reducible refine Unf.h ?_)|((conv=>whnf);first|refine Both.mk ?_ ?_|(refine Side.mk ?_ ?_;focus (omega))|(refine Idx.mk ?_ ?_;focus (omega)))|fail);all_goals try (conv=>whnf)
   all_goals refine CallS.mk (c:=cover_c) ((nd l a)) ?_
   all_goals (repeat' (first|(with_reducible refine Unf.h ?_)|((conv=>whnf);first|refine Both.mk ?_ ?_|(refine Side.mk ?_ ?_;focus (first|exact True.intro|(simp only [*,ea];done)))|refine Got.mk (fun _ _=>?_))|fail);all_goals try (conv=>whnf))
   all_goals refine CallS.mk (c:=cover_c) ((nd l b)) ?_
   all_goals (repeat' (first|(with_reducible first|refine Unf.h ?_|refine cutK_n ?_)|((conv=>whnf);first|refine Both.mk ?_ ?_|(refine Side.mk ?_ ?_;focus (first|exact True.intro|(simp only [*,eb];done)))|refine Got.mk (fun _ _=>?_))|fail);all_goals try (conv=>whnf))
   all_goals (refine ⟨(),trivial,?_⟩)
   all_goals (repeat' (first|(with_reducible refine Unf.h ?_)|((conv=>whnf);first|(refine Side.mk ?_ ?_;focus (with_reducible rfl))|(with_reducible refine Unf.h ?_)|exact True.intro)|fail);all_goals try (conv=>whnf))
 · intro _ _
   repeat' (first|(with_reducible refine Unf.h ?_)|((conv=>whnf);first|refine Fork.mk (fun h=>?_) (fun h=>?_)|(refine Side.mk ?_ ?_;focus (first|with_reducible rfl|exact True.intro))|refine Got.mk (fun _ _=>?_)|refine CallS.mk (c:=meet_c) (((nd l a).cover,(nd l b).cover)) ?_|refine CallS.mk (c:=bit_c) (((nd l a).cover.bits,(meetP (nd l a).cover (nd l b).cover).len)) ?_)|fail);all_goals try (conv=>whnf)
   · have hj:joinN l a b=⟨false,zeroH,zeroH,(meetP (nd l a).cover (nd l b).cover).len,(meetP (nd l a).cover (nd l b).cover).bits,b,a,zeroH⟩:=if_pos h
     have hadd:addable l (joinN l a b):=.inr (by rw [hj];exact ⟨⟨hb0,hb1⟩,ha0,ha1⟩)
     refine CallS.mk (c:=add_c) ((l,joinN l a b)) ?_
     repeat' (first|(with_reducible refine Unf.h ?_)|((conv=>whnf);first|(refine Side.mk ?_ ?_;focus (first|with_reducible rfl|(refine congrArg (SV.int _) ?_;omega)|(simp only [*,hj];done)|(dsimp only [resS,join_c,add_c];(refine ⟨?_,?_⟩;all_goals (repeat' apply And.intro);all_goals first|omega|assumption|(simp only [lenS,inR,cutS,loI,hiI,hj];omega)|(simp;done)|(simp only [*,hj];done)|(simp only [*,hj,List.map_cons,List.map_nil,eB];done)|(simp [*,hj];done)))))|refine RetE.mk () trivial ?_|refine Got.mk (fun _ _=>?_)|refine retK_r ?_|exact rfl)|fail);all_goals try (conv=>whnf)
   · have hj:joinN l a b=⟨false,zeroH,zeroH,(meetP (nd l a).cover (nd l b).cover).len,(meetP (nd l a).cover (nd l b).cover).bits,a,b,zeroH⟩:=if_neg h
     have hadd:addable l (joinN l a b):=.inr (by rw [hj];exact ⟨⟨ha0,ha1⟩,hb0,hb1⟩)
     refine CallS.mk (c:=add_c) ((l,joinN l a b)) ?_
     repeat' (first|(with_reducible refine Unf.h ?_)|((conv=>whnf);first|(refine Side.mk ?_ ?_;focus (first|with_reducible rfl|(refine congrArg (SV.int _) ?_;omega)|(simp only [*,hj];done)|(dsimp only [resS,join_c,add_c];(refine ⟨?_,?_⟩;all_goals (repeat' apply And.intro);all_goals first|omega|assumption|(simp only [lenS,inR,cutS,loI,hiI,hj];omega)|(simp;done)|(simp only [*,hj];done)|(simp only [*,hj,List.map_cons,List.map_nil,eB];done)|(simp [*,hj];done)))))|refine RetE.mk () trivial ?_|refine Got.mk (fun _ _=>?_)|refine retK_r ?_|exact rfl)|fail);all_goals try (conv=>whnf)
abbrev leafN (k v:H256):Nd:=⟨true,k,v,0,zeroH,0,0,zeroH⟩
def turnN (k:H256) (n:Nd) (m:Int):Nd:=if bitI k n.plen=1 then ⟨n.leaf,n.key,n.value,n.plen,n.bits,n.left,m,n.hash⟩ else ⟨n.leaf,n.key,n.value,n.plen,n.bits,m,n.right,n.hash⟩
def upS (k:H256) (a:Int) (s:Fo×Int):Fo×Int:=(s.1++[mk s.1 (turnN k (nd s.1 a) s.2)],s.1.length)
def upF (k:H256):List Int→Fo×Int→Fo×Int
 | [],s=>s
 | a::r,s=>upS k a (upF k r s)
def meets (l:Fo) (k:H256) (e:Int):Prop:=e≠-1∧¬ ((nd l e).leaf=true∧(nd l e).key=k)
instance (l:Fo) (k:H256) (e:Int):Decidable (meets l k e):=inferInstanceAs (Decidable (_∧¬ (_∧_)))
def startF (l:Fo) (k v:H256) (e:Int):Fo×Int :=
 let l1:=l++[mk l (leafN k v)]
 if meets l k e then (l1++[mk l1 (joinN l1 e l.length)],l1.length) else (l1,l.length)
def putF (l:Fo) (t:Int) (k v:H256):Fo×Int:=upF k (path l k t).1 (startF l k v (path l k t).2)
theorem path_mem {l:Fo} {k:H256} (hc:closed l):∀ (n:Nat) (t:Int),(t+1).toNat≤n→isT l t→(∀ a∈(path l k t).1,inF l a∧(nd l a).leaf=false)∧isT l (path l k t).2
 | n,t,hn,ht=>by
   by_cases hg:goes l k t
   · have hx:=nxt_ok hc ht hg
     rw [path_go hc ht hg]
     match n with
     | 0=>have:=ht.1;omega
     | n+1 =>
       have ih:=path_mem (k:=k) hc n (nxt l k t) (by omega) ⟨by omega,by have:=ht.2;omega⟩
       refine ⟨fun a ha=>?_,ih.2⟩
       rcases List.mem_cons.1 ha with rfl|ha
       · exact ⟨⟨by have:=ht.1;have:=hg.1;omega,ht.2⟩,hg.2.1⟩
       · exact ih.1 a ha
   · rw [path_stop hg];exact ⟨fun a ha=>(by cases ha),ht⟩
theorem startF_ok {l:Fo} {k v:H256} {e:Int}:∃ m,(startF l k v e).1=l++m∧1≤m.length∧m.length≤2∧(startF l k v e).2=l.length+m.length - 1:=by
 unfold startF
 simp only
 split
 · exact ⟨_,List.append_assoc _ _ _,by simp,by simp,by simp;omega⟩
 · exact ⟨_,rfl,by simp,by simp,by simp⟩
theorem upF_ok {l:Fo} {k:H256} {s:Fo×Int} (h:∃ m,s.1=l++m∧1≤m.length∧s.2=l.length+m.length - 1):∀ r:List Int,∃ m,(upF k r s).1=l++m∧1≤m.length∧(upF k r s).2=l.length+m.length - 1∧(upF k r s).1.length=s.1.length+r.length
 | []=>by obtain ⟨m,h1,h2,h3⟩:=h;exact ⟨m,h1,h2,h3,rfl⟩
 | a::r=>by
   obtain ⟨m,h1,h2,h3,h4⟩:=upF_ok h r;refine ⟨m++[mk (upF k r s).1 (turnN k (nd (upF k r s).1 a) (upF k r s).2)],?_,by simp,?_,?_⟩
   · show (upF k r s).1++_=_
     conv=>lhs;rw [h1]
     rw [List.append_assoc,h1]
   · show ((upF k r s).1.length:Int)=_
     rw [h1];simp;omega
   · show ((upF k r s).1++_).length=_
     simp only [List.length_append,List.length_cons,List.length_nil];omega
def put_c:Ctr where
 D:=Fo×Int×H256×H256
 pre:=fun (l,t,_,_)=>l.length≤400000∧closed l∧isT l t
 args:=fun (_,t,k,v)=>[.ptr 0 0,.int .i64 t,.agg [.arr8 k],.agg [.arr8 v]]
 objs:=fun (l,_)=>fo l
 nn:=2
 res:=fun (l,t,k,v) _=>.tup [.int .i64 (putF l t k v).2,.int .i64 0]
 out:=fun (l,t,k,v) _=>[(0,.box 171 [.own 2]),(2,.row 283 132 eNd (putF l t k v).1)]
 mm:=1
def put_H:Cfg:=⟨[(158,is_c),(159,path_c),(160,add_c),(161,join_c),(162,bit_c)],[(7,[6,10,15,19,20],[],(oA 0 (oA 1 (oA 2 (oA 3 (oA 4 (oA 5 (oB 6 (oA 7 (oA 8 (oA 9 (oB 10 (oA 11 (oA 12 (oA 13 (oA 14 (oB 15 (oA 16 (oA 17 (oA 18 (oB 19 (oB 20 (oA 21 (oA 22 (oA 23 (oA 24 .nil))))))))))))))))))))))))),[]),(12,[3,7,9],[10,11],(oA 0 (oA 1 (oA 2 (oB 3 (oA 4 (oA 5 (oA 6 (oB 7 (oA 8 (oB 9 (oD 10 (oC 11 .nil)))))))))))),[])],[65],[],101,2,[],[7],[]⟩
theorem put_ok:put_c.Ok Tryz.prog 148:=by
 refine fn_ok put_H 2 rfl _ Tryz.func148 rfl rfl ⟨is_ok,path_ok,add_ok,join_ok,bit_ok,trivial⟩ rfl rfl (by kernel_rfl) (fun _=>nlb rfl) ?_
 rintro ⟨l,t,k,v⟩ hp hr
 try dsimp only [put_c] at hp
 try simp only [put_c,Rng,RngL,inR,and_true,true_and] at hr
 obtain ⟨hlen,hc,ht⟩:=hp;have hpl:=path_len (l:=l) (k:=k) _ t (Nat.le_refl _);have ht1:=ht.1;have ht2:=ht.2;obtain ⟨hpm,hpe⟩:=path_mem (k:=k) hc _ t (Nat.le_refl _) ht;have hl1:addable l (leafN k v):=.inl rfl;have hpre1:path_c.pre (l,t,k):=⟨by omega,hc,ht⟩
 have hpre2:add_c.pre (l,leafN k v):=⟨by omega,hl1⟩
 repeat' (first|(with_reducible refine Unf.h ?_)|((conv=>whnf);first|refine Fork.mkn (fun h=>?_) (fun h=>?_)|refine Fork.mk (fun h=>?_) (fun h=>?_)|(refine Side.mk ?_ ?_;focus (first|with_reducible rfl|exact True.intro|assumption|omega|(intros;(try simp only [lenS,inR,cutS,loI,hiI] at *);omega)))|refine RetE.mk () trivial ?_|refine Got.mk (fun _ _=>?_)|refine retK_r ?_|exact rfl|refine CallS.mk (c:=is_c) ((l,t)) ?_|refine CallS.mk (c:=path_c) ((l,t,k)) ?_|refine CallS.mk (c:=add_c) ((l,leafN k v)) ?_)|fail);all_goals try (conv=>whnf)
 rename_i hfull _ _;generalize hA:(path l k t).1=A at *;generalize he:(path l k t).2=e at *;clear h;have hml:(l++[mk l (leafN k v)]).length=l.length+1:=by simp
 have hl1e:startF l k v e=if meets l k e then ((l++[mk l (leafN k v)])++[mk (l++[mk l (leafN k v)]) (joinN (l++[mk l (leafN k v)]) e l.length)],((l++[mk l (leafN k v)]).length:Int)) else (l++[mk l (leafN k v)],(l.length:Int)):=rfl
 have hpe1:=hpe.1;have hpe2:=hpe.2;generalize hl1d:l++[mk l (leafN k v)]=l1 at *;have hnd:∀ i:Int,i<l.length→nd l1 i=nd l i:=fun i hi=>by rw [← hl1d];exact nd_app _ _ _ hi
 refine CutS.auto (I:=Unit) (fun _=>True) (fun _=>[(12,.int .i64 (startF l k v e).2),(10,.own 5)]) (fun _=>[(0,.box 171 [.own 4]),(4,.row 283 132 eNd (startF l k v e).1),(2,.box 35 [.arr8 k]),(3,.box 35 [.arr8 v]),(5,.row 3 1 eI A)]) 6 ?_ ?_
 · repeat' (first|(with_reducible refine Unf.h ?_)|fail);all_goals try (conv=>whnf)
   refine CutS.auto (I:=Unit) (fun _=>True) (fun _=>[(65,.dec (meets l k e) inferInstance),(10,.own 5)]) (fun _=>[(0,.box 171 [.own 4]),(4,.row 283 132 eNd l1),(2,.box 35 [.arr8 k]),(3,.box 35 [.arr8 v]),(5,.row 3 1 eI A)]) 6 ?_ ?_
   · repeat' (first|(with_reducible first|refine Unf.h ?_|refine cutK_n ?_)|((conv=>whnf);first|refine Fork.mkn (fun h=>?_) (fun h=>?_)|(refine Side.mk ?_ ?_;focus (omega))|(refine Idx.mk ?_ ?_;focus (omega)))|fail);all_goals try (conv=>whnf)
     · have hin:e.toNat<l1.length:=by omega
       have en:l1[e.toNat]'hin=nd l e:=by rw [nd_get _ e (by omega) hin,hnd _ hpe2]
       cases hb:(l1[e.toNat]'hin).leaf
       · rw [en] at hb
         have hm:meets l k e:=⟨by assumption,fun h'=>by rw [h'.1] at hb;cases hb⟩
         repeat' (first|(with_reducible first|refine Unf.h ?_|refine cutK_n ?_)|((conv=>whnf);(with_reducible refine Unf.h ?_))|fail);all_goals try (conv=>whnf)
         refine ⟨(),trivial,?_⟩
         repeat' (first|(with_reducible refine Unf.h ?_)|((conv=>whnf);first|(refine Side.mk ?_ ?_;focus (first|with_reducible rfl|(refine ⟨fun h=>?_,fun h=>?_⟩<;>first|rfl|(cases h;done)|omega|(exfalso;omega)|(simp only [Bool.false_eq_true] at h;done))))|(with_reducible refine Unf.h ?_)|exact True.intro)|fail);all_goals try (conv=>whnf)
       · rw [en] at hb
         have hm:(¬ (nd l e).key.toList=k.toList)↔meets l k e:=⟨fun h'=>⟨by assumption,fun hh=>h' (by rw [hh.2])⟩,fun h' hk=>h'.2 ⟨hb,Vector.toList_inj.1 hk⟩⟩
         repeat' (first|(with_reducible first|refine Unf.h ?_|refine cutK_n ?_)|((conv=>whnf);first|(refine Side.mk ?_ ?_;focus (omega))|(refine Idx.mk ?_ ?_;focus (omega))|(with_reducible refine Unf.h ?_))|fail);all_goals try (conv=>whnf)
         refine ⟨(),trivial,?_⟩
         repeat' (first|(with_reducible refine Unf.h ?_)|((conv=>whnf);first|(refine Side.mk ?_ ?_;focus (first|with_reducible rfl|(simp only [*];done)))|(with_reducible refine Unf.h ?_)|exact True.intro)|fail);all_goals try (conv=>whnf)
     · have hm:¬ meets l k e:=fun h'=>h'.1 (by assumption)
       all_goals try (conv=>whnf)
       refine ⟨(),trivial,?_⟩
       repeat' (first|((conv=>whnf);(with_reducible refine Unf.h ?_))|fail);all_goals try (conv=>whnf)
       refine Side.mk (iffF hm) ?_
       repeat' (first|(with_reducible refine Unf.h ?_)|((conv=>whnf);first|(refine Side.mk ?_ ?_;focus (with_reducible rfl))|exact True.intro)|fail);all_goals try (conv=>whnf)
   · intro _ _
     repeat' (first|(with_reducible first|refine Unf.h ?_|refine cutK_n ?_)|((conv=>whnf);refine Fork.mk (fun h=>?_) (fun h=>?_))|fail);all_goals try (conv=>whnf)
     · have hj:join_c.pre (l1,e,(l.length:Int)):=⟨by omega,⟨by have:=(show meets l k e by assumption).1;omega,by omega⟩,by omega,by omega⟩
       refine CallS.mk (c:=join_c) ((l1,e,(l.length:Int))) ?_
       repeat' (first|(with_reducible first|refine Unf.h ?_|refine cutK_n ?_)|((conv=>whnf);first|(refine Side.mk ?_ ?_;focus (first|with_reducible rfl|assumption))|refine Got.mk (fun _ _=>?_))|fail);all_goals try (conv=>whnf)
       have hs:startF l k v e=_:=hl1e.trans (if_pos (by assumption))
       refine ⟨(),trivial,?_⟩
       repeat' (first|(with_reducible refine Unf.h ?_)|((conv=>whnf);first|(refine Side.mk ?_ ?_;focus (first|with_reducible rfl|(simp only [*,hs];done)))|(with_reducible refine Unf.h ?_)|exact True.intro)|fail);all_goals try (conv=>whnf)
     · have hs:startF l k v e=_:=hl1e.trans (if_neg (by assumption))
       all_goals try (conv=>whnf)
       refine ⟨(),trivial,?_⟩
       repeat' (first|(with_reducible refine Unf.h ?_)|((conv=>whnf);first|(refine Side.mk ?_ ?_;focus (first|with_reducible rfl|(simp only [*,hs];done)))|(with_reducible refine Unf.h ?_)|exact True.intro)|fail);all_goals try (conv=>whnf)
 · intro _ _
   generalize hS:startF l k v e=s0 at *;have hs0:∃ m,s0.1=l++m∧1≤m.length∧s0.2=l.length+m.length - 1:=by
     obtain ⟨m,h1,h2,h3,h4⟩:=startF_ok (l:=l) (k:=k) (v:=v) (e:=e);rw [hS] at h1 h4;exact ⟨m,h1,h2,h4⟩
   have hs0l:s0.1.length≤l.length+2:=by
     obtain ⟨m,h1,h2,h3,h4⟩:=startF_ok (l:=l) (k:=k) (v:=v) (e:=e);rw [hS] at h1;rw [h1,List.length_append];omega
   repeat' (first|(with_reducible refine Unf.h ?_)|((conv=>whnf);(refine Side.mk ?_ ?_;focus ((intros;(try simp only [lenS,inR,cutS,loI,hiI] at *);omega))))|fail);all_goals try (conv=>whnf)
   refine LoopS.auto (fun n:Nat=>n≤A.length) (fun n=>[(13,.int .i64 ((n:Int) - 1)),(12,.int .i64 (upF k (A.drop n) s0).2),(10,.own 5)]) (fun n=>[(0,.box 171 [.own 4]),(4,.row 283 132 eNd (upF k (A.drop n) s0).1),(2,.box 35 [.arr8 k]),(3,.box 35 [.arr8 v]),(5,.row 3 1 eI A)]) (fun n=>n) A.length (Nat.le_refl _) ?_ ?_
   · repeat' (first|(with_reducible refine Unf.h ?_)|((conv=>whnf);first|(refine Side.mk ?_ ?_;focus (first|with_reducible rfl|(simp only [*,List.drop_length,upF];done)))|(with_reducible refine Unf.h ?_)|exact True.intro)|fail);all_goals try (conv=>whnf)
   · intro n hn
     obtain ⟨m,h1,h2,h3,h4⟩:=upF_ok (k:=k) hs0 (A.drop n);have h1l:(upF k (A.drop n) s0).1.length=l.length+m.length:=by rw [h1];simp
     have hdl:(A.drop n).length≤A.length:=by simp
     repeat' (first|(with_reducible refine Unf.h ?_)|((conv=>whnf);first|refine Fork.mk (fun h=>?_) (fun h=>?_)|(refine Side.mk ?_ ?_;focus (omega))|(refine Idx.mk ?_ ?_;focus (omega))|refine RetE.mk () trivial ?_|refine retK_r ?_)|fail);all_goals try (conv=>whnf)
     · have hidx:((n:Int) - 1).toNat<A.length:=by omega
       obtain ⟨⟨ha0,ha1⟩,hal⟩:=hpm _ (List.getElem_mem hidx);have hdrop:A.drop (n - 1)=A[((n:Int) - 1).toNat]'hidx::A.drop n:=by
         have:=List.drop_eq_getElem_cons (l:=A) (i:=n - 1) (by omega)
         rw [this]
         congr 1
         · congr 1;omega
         · congr 1;omega
       have hup:upF k (A.drop (n - 1)) s0=upS k (A[((n:Int) - 1).toNat]'hidx) (upF k (A.drop n) s0):=by rw [hdrop];rfl
       generalize hav:A[((n:Int) - 1).toNat]'hidx=av at *;generalize hL:upF k (A.drop n) s0=sn at *;have hbd:av.toNat<sn.1.length:=by omega
       have hea:(sn.1)[av.toNat]'hbd=nd sn.1 av:=nd_get _ av ha0 _;have hla:nd sn.1 av=nd l av:=by rw [h1];exact nd_app _ _ _ ha1
       have hch:inF sn.1 (nd sn.1 av).left∧inF sn.1 (nd sn.1 av).right:=by
         rw [hla];rcases hc av ⟨ha0,ha1⟩ with hx|hx
         · rw [hal] at hx;cases hx
         · exact ⟨⟨hx.1.1,by omega⟩,hx.2.1,by omega⟩
       have hM:inF sn.1 sn.2:=⟨by omega,by omega⟩
       have hadd:add_c.pre (sn.1,turnN k (nd sn.1 av) sn.2):=⟨by omega,.inr (by unfold turnN;split;exact ⟨hch.1,hM⟩;exact ⟨hM,hch.2⟩)⟩
       have hle:inR sn.2:=⟨by have:=hM.1;omega,by have:=hM.2;omega⟩
       have hupe:upS k av sn=(sn.1++[mk sn.1 (turnN k (nd sn.1 av) sn.2)],(sn.1.length:Int)):=rfl;rw [hupe] at hup;clear h1 hla hS hl1e hs0 hA hpm hav hL hupe hdrop
       repeat' (first|(with_reducible refine Unf.h ?_)|((conv=>whnf);first|(refine Side.mk ?_ ?_;focus (omega))|(refine Idx.mk ?_ ?_;focus (omega)))|fail);all_goals try (conv=>whnf)
       refine CallS.mk (c:=bit_c) ((k,(nd sn.1 av).plen)) ?_
       repeat' (first|(with_reducible refine Unf.h ?_)|((conv=>whnf);first|refine Fork.mk (fun h=>?_) (fun h=>?_)|(refine Side.mk ?_ ?_;focus (first|with_reducible rfl|exact True.intro|(simp only [*,hea];done)))|refine Got.mk (fun _ _=>?_))|fail);all_goals try (conv=>whnf)
       · have ht2:turnN k (nd sn.1 av) sn.2=_:=if_pos h
         refine CallS.mk (c:=add_c) ((sn.1,turnN k (nd sn.1 av) sn.2)) ?_;rw [ht2] at hadd hup ⊢
         repeat' (first|(with_reducible first|refine Unf.h ?_|refine loopK_n ?_)|((conv=>whnf);first|(refine Side.mk ?_ ?_;focus (first|with_reducible rfl|assumption|(intros;(try simp only [lenS,inR,cutS,loI,hiI,hea] at *);omega)|(simp only [*,hea];done)))|refine Got.mk (fun _ _=>?_))|fail);all_goals try (conv=>whnf)
         refine ⟨n - 1,⟨by omega,by omega⟩,?_⟩
         repeat' (first|(with_reducible refine Unf.h ?_)|((conv=>whnf);first|(refine Side.mk ?_ ?_;focus (first|with_reducible rfl|(refine congrArg (SV.int _) ?_;omega)|(simp only [*,hup];done)))|(with_reducible refine Unf.h ?_)|exact True.intro)|fail);all_goals try (conv=>whnf)
       · have ht2:turnN k (nd sn.1 av) sn.2=_:=if_neg h
         refine CallS.mk (c:=add_c) ((sn.1,turnN k (nd sn.1 av) sn.2)) ?_;rw [ht2] at hadd hup ⊢
         repeat' (first|(with_reducible first|refine Unf.h ?_|refine loopK_n ?_)|((conv=>whnf);first|(refine Side.mk ?_ ?_;focus (first|with_reducible rfl|assumption|(intros;(try simp only [lenS,inR,cutS,loI,hiI,hea] at *);omega)|(simp only [*,hea];done)))|refine Got.mk (fun _ _=>?_))|fail);all_goals try (conv=>whnf)
         refine ⟨n - 1,⟨by omega,by omega⟩,?_⟩
         repeat' (first|(with_reducible refine Unf.h ?_)|((conv=>whnf);first|(refine Side.mk ?_ ?_;focus (first|with_reducible rfl|(refine congrArg (SV.int _) ?_;omega)|(simp only [*,hup];done)))|(with_reducible refine Unf.h ?_)|exact True.intro)|fail);all_goals try (conv=>whnf)
     · have hn0:n=0:=by omega
       subst hn0;have hfin:putF l t k v=upF k (A.drop 0) s0:=by unfold putF;rw [hA,he,hS];rfl
       repeat' (first|(with_reducible refine Unf.h ?_)|((conv=>whnf);first|(refine Side.mk ?_ ?_;focus (first|with_reducible rfl|(simp only [*,hfin];done)))|exact rfl)|fail);all_goals try (conv=>whnf)
theorem closed_nil:closed []:=fun i hi=>by have:=hi.1;have:=hi.2;simp at this;omega
inductive PT where
 | leaf (k v:H256)
 | node (p:Pfx) (a b:PT)
def PT.hash:PT→H256
 | .leaf k v=>sha (leafT k v)
 | .node p a b=>sha (innerT p.len p.bits a.hash b.hash)
def PT.cover:PT→Pfx
 | .leaf k _=>cutP k 256
 | .node p _ _=>p
def PT.depth:PT→Nat
 | .leaf _ _=>0
 | .node _ a b=>max a.depth b.depth+1
def den (l:Fo):Int→PT→Prop
 | t,.leaf k v=>inF l t∧nd l t=⟨true,k,v,0,zeroH,-1,-1,sha (leafT k v)⟩
 | t,.node p a b=>inF l t∧∃ x y,nd l t=⟨false,zeroH,zeroH,p.len,p.bits,x,y,sha (innerT p.len p.bits a.hash b.hash)⟩∧den l x a∧den l y b
theorem den_in {l:Fo} {t:Int} {T:PT} (h:den l t T):inF l t:=by cases T<;>exact h.1
theorem den_hash {l:Fo} {t:Int} {T:PT} (h:den l t T):(nd l t).hash=T.hash:=by
 cases T with
 | leaf k v=>rw [h.2];rfl
 | node p a b=>obtain ⟨_,x,y,e,_⟩:=h;rw [e];rfl
theorem den_cover {l:Fo} {t:Int} {T:PT} (h:den l t T):(nd l t).cover=T.cover:=by
 cases T with
 | leaf k v=>rw [h.2];rfl
 | node p a b=>obtain ⟨_,x,y,e,_⟩:=h;rw [e];rfl
theorem inF_app {l m:Fo} {t:Int} (h:inF l t):inF (l++m) t:=⟨h.1,by rw [List.length_append];have:=h.2;omega⟩
theorem den_app {l m:Fo}:∀ {T:PT} {t:Int},den l t T→den (l++m) t T
 | .leaf k v,t,h=>⟨inF_app h.1,by rw [nd_app _ _ _ h.1.2];exact h.2⟩
 | .node p a b,t,h=>by
   obtain ⟨h0,x,y,e,ha,hb⟩:=h;exact ⟨inF_app h0,x,y,by rw [nd_app _ _ _ h0.2];exact e,den_app ha,den_app hb⟩
theorem inF_last (l:Fo) (n:Nd):inF (l++[n]) (l.length:Int):=⟨by omega,by simp;omega⟩
theorem den_leaf (l:Fo) (k v:H256):den (l++[mk l (leafN k v)]) (l.length:Int) (.leaf k v):=⟨inF_last _ _,nd_last _ _⟩
theorem den_node {l:Fo} {n:Nd} {a b:PT} (hl:n.leaf=false) (ha:den l n.left a) (hb:den l n.right b):den (l++[mk l n]) (l.length:Int) (.node n.pfx a b):=by
 refine ⟨inF_last _ _,n.left,n.right,?_,den_app ha,den_app hb⟩;rw [nd_last];unfold mk;rw [hl,if_neg (by decide),den_hash ha,den_hash hb]
 rfl
def PT.join (a b:PT):PT :=
 let m:=meetP a.cover b.cover
 if bitI a.cover.bits m.len=1 then .node m b a else .node m a b
def PT.ins (k v:H256):PT→PT
 | .leaf k' v'=>if k'=k then .leaf k v else PT.join (.leaf k' v') (.leaf k v)
 | .node p a b=>if holdsP p k then (if bitI k p.len=1 then .node p a (PT.ins k v b) else .node p (PT.ins k v a) b) else PT.join (.node p a b) (.leaf k v)
theorem join_depth (a b:PT):(PT.join a b).depth=max a.depth b.depth+1:=by
 unfold PT.join;simp only;split
 · simp [PT.depth,Nat.max_comm]
 · rfl
theorem ins_depth (k v:H256):∀ T:PT,(T.ins k v).depth≤T.depth+1
 | .leaf k' v'=>by
   unfold PT.ins;split
   · simp [PT.depth]
   · rw [join_depth];simp [PT.depth]
 | .node p a b=>by
   unfold PT.ins;have ha:=ins_depth k v a;have hb:=ins_depth k v b
   split
   · split
     · simp only [PT.depth];omega
     · simp only [PT.depth];omega
   · rw [join_depth];simp only [PT.depth];omega
theorem closed_app {l:Fo} {n:Nd} (hc:closed l) (ha:addable l n):closed (l++[mk l n]):=by
 intro i hi
 by_cases h:i<l.length
 · rw [nd_app _ _ _ h];exact hc i ⟨hi.1,h⟩
 · have e:i=(l.length:Int):=by have:=hi.2;simp at this;omega
   subst e;rw [nd_last];unfold mk
   by_cases hl:n.leaf=true
   · rw [if_pos hl];exact .inl rfl
   · rw [if_neg hl]
     rcases ha with ha|⟨h1,h2⟩
     · exact absurd ha hl
     · exact .inr ⟨⟨h1.1,h1.2⟩,h2.1,h2.2⟩
theorem joinN_add {l:Fo} {a b:Int} (ha:inF l a) (hb:inF l b):addable l (joinN l a b):=by
 refine .inr ?_;unfold joinN;simp only
 split
 · exact ⟨hb,ha⟩
 · exact ⟨ha,hb⟩
theorem closed_start {l:Fo} {k v:H256} {e:Int} (hc:closed l) (he:isT l e):closed (startF l k v e).1:=by
 unfold startF;have h1:=closed_app (n:=leafN k v) hc (.inl rfl)
 simp only
 split
 · rename_i hm
   refine closed_app h1 (joinN_add ?_ (inF_last _ _));exact inF_app ⟨by have:=hm.1;have:=he.1;omega,he.2⟩
 · exact h1
theorem closed_up {l:Fo} {k:H256} {s:Fo×Int} (hc:closed l) (h:∃ m,s.1=l++m∧1≤m.length∧s.2=l.length+m.length - 1) (hs:closed s.1):∀ r:List Int,(∀ a∈r,inF l a∧(nd l a).leaf=false)→closed (upF k r s).1
 | [],_=>hs
 | a::r,hr=>by
   have ih:=closed_up (k:=k) hc h hs r fun x hx=>hr x (by simp [hx])
   obtain ⟨m,h1,h2,h3,_⟩:=upF_ok (k:=k) h r;obtain ⟨ha,hal⟩:=hr a (by simp)
   refine closed_app ih (.inr ?_);have hnd:nd (upF k r s).1 a=nd l a:=by rw [h1];exact nd_app _ _ _ ha.2
   have hM:inF (upF k r s).1 (upF k r s).2:=⟨by omega,by rw [h1,List.length_append];omega⟩
   have hch:inF (upF k r s).1 (nd l a).left∧inF (upF k r s).1 (nd l a).right:=by
     rcases hc a ha with hx|hx
     · rw [hal] at hx;cases hx
     · rw [h1]
       have:=ha.2
       exact ⟨inF_app ⟨hx.1.1,by omega⟩,inF_app ⟨hx.2.1,by omega⟩⟩
   rw [hnd];unfold turnN;split
   · exact ⟨hch.1,hM⟩
   · exact ⟨hM,hch.2⟩
theorem start_ok' (l:Fo) (k v:H256) (e:Int):∃ m,(startF l k v e).1=l++m∧1≤m.length∧(startF l k v e).2=l.length+m.length - 1:=by
 obtain ⟨m,h1,h2,_,h4⟩:=startF_ok (l:=l) (k:=k) (v:=v) (e:=e);exact ⟨m,h1,h2,h4⟩
theorem put_ok' {l:Fo} {t:Int} {k v:H256} (hc:closed l) (ht:isT l t):closed (putF l t k v).1∧(∃ m,(putF l t k v).1=l++m)∧inF (putF l t k v).1 (putF l t k v).2∧(putF l t k v).1.length≤l.length+2+(path l k t).1.length:=by
 obtain ⟨hpm,hpe⟩:=path_mem (k:=k) hc _ t (Nat.le_refl _) ht;have hs:=start_ok' l k v (path l k t).2;obtain ⟨m,h1,h2,h3,h4⟩:=upF_ok (k:=k) hs (path l k t).1;refine ⟨closed_up hc hs (closed_start hc hpe) _ hpm,⟨m,h1⟩,⟨?_,?_⟩,?_⟩
 · show 0≤(upF k _ _).2;omega
 · show (upF k _ _).2<_
   have:(putF l t k v).1=l++m:=h1
   rw [this,List.length_append];omega
 · have:(putF l t k v).1.length=_:=h4
   obtain ⟨m',g1,g2,g3,g4⟩:=startF_ok (l:=l) (k:=k) (v:=v) (e:=(path l k t).2);rw [this,g1,List.length_append];omega
theorem path_den {l:Fo} {k:H256}:∀ {T:PT} {t:Int},den l t T→(path l k t).1.length≤T.depth
 | .leaf k' v',t,h=>by
   rw [path_stop fun hg=>by have:=hg.2.1;rw [h.2] at this;exact absurd this (by simp)];simp
 | .node p a b,t,h=>by
   obtain ⟨h0,x,y,e,ha,hb⟩:=h;rw [path]
   split
   · have hn:nxt l k t=y∨nxt l k t=x:=by
       unfold nxt;rw [e];simp only;split
       · exact .inl rfl
       · exact .inr rfl
     simp only [List.length_cons,PT.depth];rcases hn with hn|hn<;>rw [hn]
     · have:=path_den (k:=k) hb;omega
     · have:=path_den (k:=k) ha;omega
   · simp
theorem start_den {l:Fo} {k v:H256} {t:Int} {T:PT} (h:den l t T) (hT:(∃ v',T=.leaf k v')→False):den (startF l k v t).1 (startF l k v t).2 (PT.join T (.leaf k v)):=by
 have hin:=den_in h;have hm:meets l k t:=by
   refine ⟨by have:=hin.1;omega,fun hh=>?_⟩
   cases T with
   | leaf k' v'=>rw [h.2] at hh;exact hT ⟨v',by rw [← hh.2]⟩
   | node p a b=>obtain ⟨_,x,y,e,_⟩:=h;rw [e] at hh;exact absurd hh.1 (by simp)
 have h1:=den_app (m:=[mk l (leafN k v)]) h;have h2:=den_leaf l k v;unfold startF
 simp only
 rw [if_pos hm];have c1:=den_cover h1;have c2:=den_cover h2;unfold joinN PT.join;simp only [c1,c2]
 split
 · exact den_node (n:=⟨false,zeroH,zeroH,_,_,_,_,zeroH⟩) rfl h2 h1
 · exact den_node (n:=⟨false,zeroH,zeroH,_,_,_,_,zeroH⟩) rfl h1 h2
theorem put_den {l:Fo} {k v:H256} (hc:closed l):∀ {T:PT} {t:Int},den l t T→den (putF l t k v).1 (putF l t k v).2 (T.ins k v)
 | .leaf k' v',t,h=>by
   have hp:path l k t=([],t):=path_stop fun hg=>by have:=hg.2.1;rw [h.2] at this;exact absurd this (by simp)
   unfold putF;rw [hp];show den (startF l k v t).1 (startF l k v t).2 _;unfold PT.ins
   by_cases hk:k'=k
   · rw [if_pos hk]
     subst hk;have hm:¬ meets l k' t:=fun hm=>hm.2 ⟨by rw [h.2],by rw [h.2]⟩
     unfold startF
     simp only
     rw [if_neg hm];exact den_leaf l k' v
   · rw [if_neg hk]
     exact start_den h fun ⟨v2,e⟩=>hk (by cases e;rfl)
 | .node p a b,t,h=>by
   have hd:=h;obtain ⟨h0,x,y,e,ha,hb⟩:=h;have hpfx:(nd l t).pfx=p:=by rw [e];rfl
   unfold PT.ins
   by_cases hh:holdsP p k
   · rw [if_pos hh]
     have ht:isT l t:=⟨by have:=h0.1;omega,h0.2⟩
     have hg:goes l k t:=⟨by have:=h0.1;omega,by rw [e],by rw [hpfx];exact hh⟩
     have hput:putF l t k v=upS k t (putF l (nxt l k t) k v):=by
       unfold putF;rw [path_go hc ht hg];rfl
     have hx:=nxt_ok hc ht hg;obtain ⟨hc',⟨m,hm⟩,hin',_⟩:=put_ok' (k:=k) (v:=v) hc (show isT l (nxt l k t) from ⟨by omega,by have:=h0.2;omega⟩)
     have hnd:nd (putF l (nxt l k t) k v).1 t=nd l t:=by rw [hm];exact nd_app _ _ _ h0.2
     rw [hput];show den (_++[mk _ _]) _ _;rw [hnd,e]
     by_cases hbit:bitI k p.len=1
     · have hn:nxt l k t=y:=by unfold nxt;rw [e];exact if_pos hbit
       rw [if_pos hbit];have ih:=put_den (k:=k) (v:=v) hc hb;rw [hn] at hm ⊢;have hta:turnN k ⟨false,zeroH,zeroH,p.len,p.bits,x,y,sha (innerT p.len p.bits a.hash b.hash)⟩ (putF l y k v).2=⟨false,zeroH,zeroH,p.len,p.bits,x,(putF l y k v).2,sha (innerT p.len p.bits a.hash b.hash)⟩:=if_pos hbit;rw [hta];exact den_node (n:=⟨false,zeroH,zeroH,p.len,p.bits,x,(putF l y k v).2,_⟩) rfl (by rw [hm];exact den_app ha) ih
     · have hn:nxt l k t=x:=by unfold nxt;rw [e];exact if_neg hbit
       rw [if_neg hbit];have ih:=put_den (k:=k) (v:=v) hc ha;rw [hn] at hm ⊢;have hta:turnN k ⟨false,zeroH,zeroH,p.len,p.bits,x,y,sha (innerT p.len p.bits a.hash b.hash)⟩ (putF l x k v).2=⟨false,zeroH,zeroH,p.len,p.bits,(putF l x k v).2,y,sha (innerT p.len p.bits a.hash b.hash)⟩:=if_neg hbit;rw [hta];exact den_node (n:=⟨false,zeroH,zeroH,p.len,p.bits,(putF l x k v).2,y,_⟩) rfl ih (by rw [hm];exact den_app hb)
   · rw [if_neg hh]
     have hp:path l k t=([],t):=path_stop fun hg=>hh (by rw [← hpfx];exact hg.2.2)
     unfold putF;rw [hp];exact start_den hd fun ⟨v',e⟩=>by cases e
abbrev KV:=H256×H256
def builtF (ps:List KV):Fo×Int:=ps.foldl (fun s p=>putF s.1 s.2 p.1 p.2) ([],-1)
def treesF (ps:List KV):Option PT:=ps.foldl (fun o p=>some (match o with|none=>.leaf p.1 p.2|some T=>T.ins p.1 p.2)) none
theorem builtF_snoc (ps:List KV) (p:KV):builtF (ps++[p])=putF (builtF ps).1 (builtF ps).2 p.1 p.2:=by unfold builtF;rw [List.foldl_append];rfl
theorem treesF_snoc (ps:List KV) (p:KV):treesF (ps++[p])=some (match treesF ps with|none=>.leaf p.1 p.2|some T=>T.ins p.1 p.2):=by unfold treesF;rw [List.foldl_append];rfl
def treeAt (l:Fo) (t:Int):Option PT→Prop
 | none=>t=-1
 | some T=>den l t T
theorem treeAt_is {l:Fo} {t:Int}:∀ {o:Option PT},treeAt l t o→isT l t
 | none,h=>by have:t=-1:=h;exact ⟨by omega,by omega⟩
 | some T,h=>⟨by have:=(den_in h).1;omega,(den_in h).2⟩
def depthO:Option PT→Nat
 | none=>0
 | some T=>T.depth
theorem put_none' (l:Fo) (k v:H256):putF l (-1) k v=(l++[mk l (leafN k v)],(l.length:Int)):=by
 unfold putF;rw [path_stop fun h=>h.1 rfl]
 show startF l k v (-1)=_;unfold startF;rw [if_neg (fun h=>h.1 rfl)]
theorem treeAt_put {l:Fo} {t:Int} {k v:H256} (hc:closed l):∀ {o:Option PT},treeAt l t o→treeAt (putF l t k v).1 (putF l t k v).2 (some (match o with|none=>.leaf k v|some T=>T.ins k v))
 | none,h=>by
   have:t=-1:=h
   subst this;rw [put_none'];exact den_leaf l k v
 | some T,h=>put_den hc h
theorem path_treeAt {l:Fo} {t:Int} {k:H256}:∀ {o:Option PT},treeAt l t o→(path l k t).1.length≤depthO o
 | none,h=>by
   have:t=-1:=h
   subst this;rw [path_stop fun h=>h.1 rfl];simp
 | some T,h=>path_den h
theorem depthO_ins (k v:H256):∀ o:Option PT,depthO (some (match o with|none=>.leaf k v|some T=>T.ins k v))≤depthO o+1
 | none=>by simp [depthO,PT.depth]
 | some T=>ins_depth k v T
structure BuiltOk (ps:List KV):Prop where
 closed:closed (builtF ps).1
 tree:treeAt (builtF ps).1 (builtF ps).2 (treesF ps)
 depth:depthO (treesF ps)≤ps.length
 size:(builtF ps).1.length≤ps.length*(ps.length+2)
theorem builtOk_aux:∀ (n:Nat) (ps:List KV),ps.length=n→BuiltOk ps
 | 0,ps,h=>by
   obtain rfl:=List.eq_nil_of_length_eq_zero h;exact ⟨closed_nil,rfl,Nat.le_refl _,Nat.le_refl _⟩
 | n+1,ps,h=>by
   have hne:ps≠[]:=fun e=>by subst e;cases h
   obtain ⟨qs,p,rfl⟩:∃ qs p,ps=qs++[p]:=⟨ps.dropLast,ps.getLast hne,(List.dropLast_concat_getLast hne).symm⟩;have hq:qs.length=n:=by simpa using h
   obtain ⟨h1,h2,h3,h4⟩:=builtOk_aux n qs hq;have ht:=treeAt_is h2;obtain ⟨g1,g2,g3,g4⟩:=put_ok' (k:=p.1) (v:=p.2) h1 ht;refine ⟨?_,?_,?_,?_⟩
   · rw [builtF_snoc];exact g1
   · rw [builtF_snoc,treesF_snoc];exact treeAt_put h1 h2
   · rw [treesF_snoc]
     refine Nat.le_trans (depthO_ins _ _ _) ?_
     simp;omega
   · rw [builtF_snoc]
     refine Nat.le_trans g4 ?_
     have:=path_treeAt (k:=p.1) h2
     have e:(qs++[p]).length=n+1:=by simp [hq]
     rw [e];rw [hq] at h3 h4
     have:(n+1)*(n+1+2)=n*(n+2)+(2*n+3):=by
       simp [Nat.add_mul,Nat.mul_add];omega
     omega
theorem builtOk (ps:List KV):BuiltOk ps:=builtOk_aux _ ps rfl
abbrev Ver:=Vr H256 (BitVec 8)
abbrev Nws:=Bs×Ver
def fourB (n:Int):Bs:=[BitVec.ofInt 8 (n / 2^24),BitVec.ofInt 8 (n / 2^16),BitVec.ofInt 8 (n / 2^8),BitVec.ofInt 8 n]
def keyL (x:Bs):H256:=sha (txt 107#8 [x])
def saltL (seed:H256) (x:Bs) (n:Int):H256:=sha (txt 122#8 [seed.toList,x,fourB n])
def verT (x:Bs) (v:Ver):Bs:=txt 99#8 [x,fourB v.num,fourB v.ep,v.salt.toList,v.before.toList,v.val]
def cmL (x:Bs) (v:Ver):H256:=sha (verT x v)
def kvN (p:Nws):KV:=(keyL p.1,cmL p.1 p.2)
def kvs (es:List (List Nws)):List KV:=es.flatten.map kvN
theorem kvs_snoc (es:List (List Nws)) (n:List Nws):kvs (es++[n])=kvs es++n.map kvN:=by unfold kvs;simp
def verN (seed:H256) (es:List (List Nws)) (u:Bs×Bs):Nws:=(u.1,newV cmL zeroH (saltL seed u.1 ((chR es u.1).length+1)) u.1 (chR es u.1) (es.length+1) u.2)
def okU (es:List (List Nws)) (u:Bs×Bs):Prop:=okG cmL zeroH u.1 (chR es u.1) (es.length+1) u.2
def peo (es:List (List Nws)):List (Bs×List Ver):=es.foldl giveLb []
theorem peo_snoc (es:List (List Nws)) (n:List Nws):peo (es++[n])=giveLb (peo es) n:=by unfold peo;rw [List.foldl_append];rfl
def apartE (es:List (List Nws)):Prop:=∀ n∈es,(n.map Prod.fst).Nodup
theorem peo_chR:∀ (k:Nat) (es:List (List Nws)),es.length=k→apartE es→∀ x,(getLb (peo es) x).getD []=chR es x
 | 0,es,h,_,x=>by obtain rfl:=List.eq_nil_of_length_eq_zero h;rfl
 | k+1,es,h,ha,x=>by
   have hne:es≠[]:=fun e=>by subst e;cases h
   obtain ⟨qs,p,rfl⟩:∃ qs p,es=qs++[p]:=⟨es.dropLast,es.getLast hne,(List.dropLast_concat_getLast hne).symm⟩;have ih:=peo_chR k qs (by simpa using h) fun n hn=>ha n (by simp [hn])
   rw [peo_snoc];exact give_chR (ha p (by simp)) ih x
instance (es:List (List Nws)) (u:Bs×Bs):Decidable (okU es u):=inferInstanceAs (Decidable (okG ..))
def sealF (seed:H256) (es:List (List Nws)) (us:List (Bs×Bs)):List (List Nws)×Int :=
 if 16<us.length then (es,3) else if (∀ u∈us,okU es u)∧(us.map Prod.fst).Nodup then (es++[us.map (verN seed es)],0) else (es,1)
theorem verN_fst (seed:H256) (es:List (List Nws)) (us:List (Bs×Bs)):(us.map (verN seed es)).map Prod.fst=us.map Prod.fst:=by
 rw [List.map_map];rfl
theorem sealF_len {seed:H256} {es:List (List Nws)} {us:List (Bs×Bs)}:(sealF seed es us).1.length≤es.length+1:=by
 unfold sealF
 split
 · simp
 · split<;>simp
def rootF (l:Fo) (t:Int):H256:=if t=-1 then emptyH else (nd l t).hash
def root_c:Ctr where
 D:=Fo×Int
 pre:=fun (l,t)=>isT l t
 args:=fun (_,t)=>[.ptr 0 0,.int .i64 t]
 objs:=fun (l,_)=>fo l
 nn:=2
 res:=fun (l,t) _=>.tup [.agg [.arr8 (rootF l t)],.int .i64 0]
 out:=fun (l,_) _=>fo l
def root_H:Cfg:=⟨[(158,is_c),(163,hempty_c)],[],[],[],24,2,[],[],[]⟩
theorem root_ok:root_c.Ok Tryz.prog 150:=by
 refine fn_ok root_H 2 rfl _ Tryz.func150 rfl rfl ⟨is_ok,hempty_ok,trivial⟩ rfl rfl (by kernel_rfl) (fun _=>nlb rfl) ?_
 rintro ⟨l,t⟩ hp hr
 try dsimp only [root_c] at hp
 try simp only [root_c,Rng,RngL,inR,and_true,true_and] at hr
 obtain ⟨ht0,ht1⟩:=hp
 repeat' (first|(with_reducible refine Unf.h ?_)|((conv=>whnf);first|refine Fork.mkn (fun h=>?_) (fun h=>?_)|refine Fork.mk (fun h=>?_) (fun h=>?_)|(refine Side.mk ?_ ?_;focus (first|with_reducible rfl|exact True.intro|omega))|(refine Idx.mk ?_ ?_;focus (omega))|refine RetE.mk () trivial ?_|refine Got.mk (fun _ _=>?_)|refine retK_r ?_|exact rfl|refine CallS.mk (c:=is_c) ((l,t)) ?_|refine CallS.mk (c:=hempty_c) (()) ?_)|fail);all_goals try (conv=>whnf)
 · refine Side.mk (congrArg SV.arr8 (if_pos h).symm) (by repeat' (first|(with_reducible refine Unf.h ?_)|((conv=>whnf);first|(refine Side.mk ?_ ?_;focus (with_reducible rfl))|exact rfl)|fail);all_goals try (conv=>whnf))
 · refine Side.mk (congrArg SV.arr8 ?_) (by repeat' (first|(with_reducible refine Unf.h ?_)|((conv=>whnf);first|(refine Side.mk ?_ ?_;focus (with_reducible rfl))|exact rfl)|fail);all_goals try (conv=>whnf))
   rw [nd_get l t (by omega) (by omega)]
   exact (if_neg h).symm
section
variable {C:Type}
def numsL:Nat→List (Bs×C)→List (Bs×Int)
 | _,[]=>[]
 | i,p::r=>(p.1,(i:Int))::numsL (i+1) r
theorem numsL_fst:∀ (i:Nat) (ps:List (Bs×C)),(numsL i ps).map Prod.fst=ps.map Prod.fst
 | _,[]=>rfl
 | i,p::r=>by
   show p.1::(numsL (i+1) r).map Prod.fst=p.1::r.map Prod.fst;rw [numsL_fst (i+1) r]
theorem numsL_len (i:Nat) (ps:List (Bs×C)):(numsL i ps).length=ps.length:=by
 have:=congrArg List.length (numsL_fst i ps)
 simpa using this
theorem numsL_miss {x:Bs} (c:C):∀ (i:Nat) (ps:List (Bs×C)),mget (numsL i ps) x=none→getLb ps x=none∧setLb ps x c=ps++[(x,c)]∧mput (numsL i ps) x ((i+ps.length:Nat):Int)=numsL i (ps++[(x,c)])
 | _,[],_=>⟨rfl,rfl,rfl⟩
 | i,p::r,h=>by
   have hp:¬ p.1=x:=fun e=>by
     have h:(if p.1=x then some (i:Int) else mget (numsL (i+1) r) x)=none:=h
     rw [if_pos e] at h;cases h
   have h2:mget (numsL (i+1) r) x=none:=by
     have h:(if p.1=x then some (i:Int) else mget (numsL (i+1) r) x)=none:=h
     rwa [if_neg hp] at h
   obtain ⟨g1,g2,g3⟩:=numsL_miss c (i+1) r h2;refine ⟨?_,?_,?_⟩
   · unfold getLb at g1 ⊢
     simp only [List.find?_cons,hp,decide_false];exact g1
   · show (if p.1=x then (x,c)::r else p::setLb r x c)=_
     rw [if_neg hp,g2];rfl
   · show (if p.1=x then _ else (p.1,(i:Int))::mput (numsL (i+1) r) x ((i+(r.length+1):Nat):Int))=(p.1,(i:Int))::numsL (i+1) (r++[(x,c)])
     rw [if_neg hp,← g3,show i+(r.length+1)=i+1+r.length by omega]
theorem numsL_hit {x:Bs} {k:Int}:∀ (i:Nat) (ps:List (Bs×C)),mget (numsL i ps) x=some k→∃ j,∃ h:j<ps.length,k=((i+j:Nat):Int)∧(ps[j]'h).1=x∧getLb ps x=some (ps[j]'h).2∧∀ c,setLb ps x c=ps.set j (x,c)∧numsL i (ps.set j (x,c))=numsL i ps
 | _,[],h=>by cases h
 | i,p::r,h=>by
   have h:(if p.1=x then some (i:Int) else mget (numsL (i+1) r) x)=some k:=h
   by_cases hp:p.1=x
   · rw [if_pos hp] at h
     cases h
     refine ⟨0,by simp,rfl,hp,?_,fun c=>⟨?_,?_⟩⟩
     · unfold getLb;simp [hp]
     · show (if p.1=x then (x,c)::r else p::setLb r x c)=_
       rw [if_pos hp];rfl
     · show (x,(i:Int))::numsL (i+1) r=(p.1,(i:Int))::numsL (i+1) r
       rw [hp]
   · rw [if_neg hp] at h
     obtain ⟨j,hj,g1,g2,g3,g4⟩:=numsL_hit (i+1) r h;refine ⟨j+1,by simpa using hj,?_,g2,?_,fun c=>⟨?_,?_⟩⟩
     · rw [g1];congr 1;omega
     · unfold getLb at g3 ⊢
       simp only [List.find?_cons,hp,decide_false];exact g3
     · show (if p.1=x then (x,c)::r else p::setLb r x c)=_
       rw [if_neg hp,(g4 c).1];rfl
     · show (p.1,(i:Int))::numsL (i+1) (r.set j (x,c))=(p.1,(i:Int))::numsL (i+1) r
       rw [(g4 c).2]
end
def setAll (ps:List (Bs×List Ver)) (gs:List (Bs×List Ver)):List (Bs×List Ver):=gs.foldl (fun ps g=>setLb ps g.1 g.2) ps
theorem setAll_snoc (ps gs:List (Bs×List Ver)) (g:Bs×List Ver):setAll ps (gs++[g])=setLb (setAll ps gs) g.1 g.2:=by unfold setAll;rw [List.foldl_append];rfl
def chainP (ps:List (Bs×List Ver)) (x:Bs):List Ver:=(getLb ps x).getD []
def grownL (ps:List (Bs×List Ver)) (n:Nws):Bs×List Ver:=(n.1,chainP ps n.1++[n.2])
theorem giveLb_all:∀ (n:List Nws) (ps:List (Bs×List Ver)),(n.map Prod.fst).Nodup→giveLb ps n=setAll ps (n.map (grownL ps))
 | [],ps,_=>rfl
 | p::r,ps,h=>by
   obtain ⟨h1,h2⟩:=List.nodup_cons.1 (show (p.1::r.map Prod.fst).Nodup from h);have e:r.map (grownL (setLb ps p.1 (chainP ps p.1++[p.2])))=r.map (grownL ps):=List.map_congr_left fun q hq=>by
     unfold grownL chainP;rw [getLb_set,if_neg fun e=>h1 (List.mem_map.2 ⟨q,hq,e.symm⟩)]
   show giveLb (setLb ps p.1 (chainP ps p.1++[p.2])) r=setAll (setLb ps p.1 (chainP ps p.1++[p.2])) (r.map (grownL ps));rw [giveLb_all r _ h2,e]
theorem setAll_len:∀ (k:Nat) (ps gs:List (Bs×List Ver)),gs.length=k→(setAll ps gs).length≤ps.length+k
 | 0,ps,gs,h=>by obtain rfl:=List.eq_nil_of_length_eq_zero h;exact Nat.le_refl _
 | k+1,ps,gs,h=>by
   have hne:gs≠[]:=fun e=>by subst e;cases h
   obtain ⟨qs,p,rfl⟩:∃ qs p,gs=qs++[p]:=⟨gs.dropLast,gs.getLast hne,(List.dropLast_concat_getLast hne).symm⟩
   have:=setAll_len k ps qs (by simpa using h)
   have h2:=congrArg List.length (setLb_fst p.1 p.2 (setAll ps qs));rw [setAll_snoc];simp only [List.length_map] at h2;rw [h2]
   split<;>simp<;>omega
structure Sld where
 tree:Int
 root:H256
 size:Int
 entry:H256
 news:List Nws
abbrev eVr (v:Ver):List SV:=[.int .i64 v.num,.int .i64 v.ep,.arr8 v.salt,.arr8 v.before,.fs 1 eB v.val]
abbrev eNw (p:Nws):List SV:=[.fs 1 eB p.1,.int .i64 p.2.num,.int .i64 p.2.ep,.arr8 p.2.salt,.arr8 p.2.before,.fs 1 eB p.2.val]
abbrev eSl (s:Sld):List SV:=[.int .i64 s.tree,.arr8 s.root,.int .i64 s.size,.arr8 s.entry,.fs 68 eNw s.news]
abbrev ePn (p:Bs×List Ver):List SV:=[.fs 1 eB p.1,.fs 67 eVr p.2]
abbrev eCh (l:List Ver):List SV:=[.fs 67 eVr l]
abbrev eUp (u:Bs×Bs):List SV:=[.fs 1 eB u.1,.fs 1 eB u.2]
def rootB (es:List (List Nws)):H256:=rootF (builtF (kvs es)).1 (builtF (kvs es)).2
def entH (e:Int) (r:H256):H256:=sha (0#8::(fourB e++r.toList))
def sldAt (es:List (List Nws)) (i:Nat):Sld:=⟨(builtF (kvs (es.take (i+1)))).2,rootB (es.take (i+1)),(builtF (kvs (es.take i))).1.length,entH ((i:Int)+1) (rootB (es.take (i+1))),es.getD i []⟩
def slds (es:List (List Nws)):List Sld:=(List.range es.length).map (sldAt es)
theorem slds_len (es:List (List Nws)):(slds es).length=es.length:=by simp [slds]
theorem slds_snoc (es:List (List Nws)) (n:List Nws):slds (es++[n])=slds es++[⟨(builtF (kvs (es++[n]))).2,rootB (es++[n]),(builtF (kvs es)).1.length,entH ((es.length:Int)+1) (rootB (es++[n])),n⟩]:=by
 unfold slds;rw [List.length_append,show [n].length=1 from rfl,List.range_succ,List.map_append]
 congr 1
 · refine List.map_congr_left fun i hi=>?_
   have hi:=List.mem_range.1 hi;unfold sldAt;rw [List.take_append_of_le_length (by omega),List.take_append_of_le_length (by omega),List.getD_eq_getElem?_getD,List.getD_eq_getElem?_getD,List.getElem?_append_left hi]
 · have e1:(es++[n]).take (es.length+1)=es++[n]:=List.take_of_length_le (by simp)
   have e2:(es++[n]).take es.length=es:=by simp
   have e3:(es++[n]).getD es.length []=n:=by simp [List.getD_eq_getElem?_getD]
   rw [List.map_singleton];unfold sldAt;rw [e1,e2,e3]
structure StOk (es:List (List Nws)):Prop where
 apart:apartE es
 len:es.length≤20
 few:∀ n∈es,n.length≤16
 lab:∀ n∈es,∀ p∈n,p.1.length≤32∧p.2.val.length≤64
 ep:∀ i,∀ h:i<es.length,∀ p∈es[i],p.2.ep=(i:Int)+1
theorem StOk.nil:StOk []:=⟨fun n h=>(by cases h),Nat.zero_le _,fun n h=>(by cases h),fun n h=>(by cases h),fun i h=>(by cases h)⟩
theorem flat_few:∀ (es:List (List Nws)) (m:Nat),(∀ n∈es,n.length≤m)→es.flatten.length≤m*es.length
 | [],m,_=>by simp
 | n::r,m,h=>by
   have h1:=h n (by simp)
   have:=flat_few r m fun k hk=>h k (by simp [hk])
   rw [List.flatten_cons,List.length_append,List.length_cons,Nat.mul_succ];omega
theorem StOk.kvs {es:List (List Nws)} (h:StOk es):(kvs es).length≤320:=by
 have:=flat_few es 16 h.few
 have:=h.len
 show (es.flatten.map kvN).length≤320;rw [List.length_map];omega
theorem StOk.forest {es:List (List Nws)} (h:StOk es) {m:Nat} {qs:List KV} (hq:qs.length≤16):(builtF (_root_.Go.Proofs.YtfljmihdeimahaaGreatDoor.kvs es++qs)).1.length≤200000:=by
 refine Nat.le_trans (builtOk _).size ?_;have h1:=h.kvs;rw [List.length_append];exact Nat.le_trans (Nat.mul_le_mul (show _≤336 by omega) (show _≤338 by omega)) (by decide)
theorem peo_len:∀ (k:Nat) (es:List (List Nws)),es.length=k→(peo es).length≤es.flatten.length
 | 0,es,h=>by obtain rfl:=List.eq_nil_of_length_eq_zero h;exact Nat.le_refl _
 | k+1,es,h=>by
   have hne:es≠[]:=fun e=>by subst e;cases h
   obtain ⟨qs,p,rfl⟩:∃ qs p,es=qs++[p]:=⟨es.dropLast,es.getLast hne,(List.dropLast_concat_getLast hne).symm⟩;have ih:=peo_len k qs (by simpa using h)
   have key:∀ (n:List Nws) (ps:List (Bs×List Ver)),(giveLb ps n).length≤ps.length+n.length:=by
     intro n
     induction n with
     | nil=>intro ps;exact Nat.le_refl _
     | cons q r ih =>
       intro ps;have h1:=ih (setLb ps q.1 (((getLb ps q.1).getD [])++[q.2]));have h2:=congrArg List.length (setLb_fst q.1 (((getLb ps q.1).getD [])++[q.2]) ps);simp only [List.length_map] at h2;show (giveLb (setLb ps q.1 _) r).length≤_;refine Nat.le_trans h1 ?_;rw [h2,List.length_cons]
       split<;>simp<;>omega
   rw [peo_snoc]
   have:=key p (peo qs)
   simp only [List.flatten_append,List.length_append,List.flatten_cons,List.flatten_nil,List.append_nil];omega
theorem StOk.people {es:List (List Nws)} (h:StOk es):(peo es).length≤320:=by
 have:=flat_few es 16 h.few
 have:=h.len
 have:=peo_len _ es rfl
 omega
theorem StOk.chain {es:List (List Nws)} (h:StOk es) (x:Bs):chainP (peo es) x=chR es x:=peo_chR _ es rfl h.apart x
theorem chR_len (es:List (List Nws)) (x:Bs):(chR es x).length≤es.flatten.length:=List.length_filterMap_le ..
theorem StOk.chainLen {es:List (List Nws)} (h:StOk es) (x:Bs):(chR es x).length≤320:=by
 have:=flat_few es 16 h.few
 have:=h.len
 have:=chR_len es x
 omega
def cis_c:Ctr where
 D:=Bs
 args:=fun x=>[.fs 1 eB x]
 res:=fun x _=>.dec (1≤x.length∧x.length≤32) inferInstance
def cis_H:Cfg:=⟨[],[],[],[],11,0,[],[],[]⟩
theorem cis_ok:cis_c.Ok Tryz.prog 142:=by
 refine fn_ok cis_H 0 rfl _ Tryz.func142 rfl rfl trivial rfl rfl (by kernel_rfl) (fun _=>nlb rfl) ?_
 intro (x:Bs) hp hr
 try dsimp only [cis_c] at hp
 try simp only [cis_c,Rng,RngL,inR,and_true,true_and] at hr
 repeat' (first|(with_reducible refine Unf.h ?_)|((conv=>whnf);first|refine Fork.mk (fun h=>?_) (fun h=>?_)|(refine Side.mk ?_ ?_;focus (first|omega|(refine ⟨fun h=>?_,fun h=>?_⟩<;>first|rfl|(cases h;done)|omega|(exfalso;omega)|(simp only [Bool.false_eq_true] at h;done))))|refine RetE.mk () trivial ?_|refine retK_r ?_|exact rfl)|fail);all_goals try (conv=>whnf);all_goals try (exfalso;omega)
def four_c:Ctr where
 D:=Int
 args:=fun n=>[.int .i64 n]
 res:=fun n _=>.fs 1 eB (fourB n)
theorem fourB_len (n:Int):(fourB n).length=4:=rfl
def four_H:Cfg:=⟨[],[],[],[],15,0,[],[],[]⟩
theorem four_ok:four_c.Ok Tryz.prog 157:=by
 refine fn_ok four_H 0 rfl _ Tryz.func157 rfl rfl trivial rfl rfl (by kernel_rfl) (fun _=>nlb rfl) ?_
 intro (n:Int) hp hr
 try dsimp only [four_c] at hp
 try simp only [four_c,Rng,RngL,inR,and_true,true_and] at hr
 repeat' (first|(with_reducible refine Unf.h ?_)|((conv=>whnf);first|(refine Side.mk ?_ ?_;focus (first|exact nnS (by decide)|(simp [*,fourB];done)))|refine RetE.mk () trivial ?_|refine retK_r ?_|exact rfl)|fail);all_goals try (conv=>whnf);all_goals try (exfalso;omega)
def ckey_c:Ctr where
 D:=Bs
 pre:=fun x=>x.length≤1000000
 args:=fun x=>[.fs 1 eB x]
 res:=fun x _=>.agg [.arr8 (keyL x)]
def ckey_H:Cfg:=⟨[(34,htagged_c)],[],[],[],6,0,[],[],[]⟩
theorem ckey_ok:ckey_c.Ok Tryz.prog 149:=by
 refine fn_ok ckey_H 0 rfl _ Tryz.func149 rfl rfl ⟨htagged_ok,trivial⟩ rfl rfl (by kernel_rfl) (fun _=>nlb rfl) ?_
 intro (x:Bs) hp hr
 try dsimp only [ckey_c] at hp
 try simp only [ckey_c,Rng,RngL,inR,and_true,true_and] at hr
 have hp:x.length≤1000000:=hp;have hpt:htagged_c.pre (107#8,[x]):=⟨by simp,by simpa using hp⟩
 repeat' (first|(with_reducible refine Unf.h ?_)|((conv=>whnf);first|(refine Side.mk ?_ ?_;focus (with_reducible rfl))|refine CallS.mk (c:=htagged_c) ((107#8,[x])) ?_)|fail);all_goals try (conv=>whnf);all_goals try (exfalso;omega)
 refine Side.mk rfl ?_
 repeat' (first|(with_reducible refine Unf.h ?_)|((conv=>whnf);first|(refine Side.mk ?_ ?_;focus (first|assumption|(simp only [*,keyL];done)))|refine RetE.mk () trivial ?_|refine Got.mk (fun _ _=>?_)|(with_reducible refine Unf.h ?_)|refine retK_r ?_|exact rfl)|fail);all_goals try (conv=>whnf);all_goals try (exfalso;omega)
def csalt_c:Ctr where
 D:=H256×Bs×Int
 pre:=fun (_,x,_)=>x.length≤1000000
 args:=fun (s,x,n)=>[.agg [.arr8 s],.fs 1 eB x,.int .i64 n]
 res:=fun (s,x,n) _=>.agg [.arr8 (saltL s x n)]
def csalt_H:Cfg:=⟨[(34,htagged_c),(157,four_c)],[(1,[],[3,4,5,6],(oA 0 (oA 1 (oA 2 (oC 3 (oC 4 (oC 5 (oC 6 .nil))))))),[])],[],[],13,0,[],[],[]⟩
theorem csalt_ok:csalt_c.Ok Tryz.prog 145:=by
 refine fn_ok csalt_H 0 rfl _ Tryz.func145 rfl rfl ⟨htagged_ok,four_ok,trivial⟩ rfl rfl (by kernel_rfl) (fun _=>nlb rfl) ?_
 rintro ⟨s,x,n⟩ hp hr
 try dsimp only [csalt_c] at hp
 try simp only [csalt_c,Rng,RngL,inR,and_true,true_and] at hr
 have hp:x.length≤1000000:=hp;have hpt:htagged_c.pre (122#8,[s.toList,x,fourB n]):=⟨by simp,by simp [fourB_len,hp]⟩
 repeat' (first|(with_reducible refine Unf.h ?_)|((conv=>whnf);first|(refine Side.mk ?_ ?_;focus (first|with_reducible rfl|exact True.intro|(intros;(try simp only [lenS,inR,cutS,loI,hiI,saltL,cutv2] at *);omega)))|refine Got.mk (fun _ _=>?_)|refine CallS.mk (c:=four_c) (n) ?_|refine CallS.mk (c:=htagged_c) ((122#8,[s.toList,x,fourB n])) ?_)|fail);all_goals try (conv=>whnf);all_goals try (exfalso;omega)
 refine Side.mk (by simp only [cutv2];rfl) ?_
 repeat' (first|(with_reducible refine Unf.h ?_)|((conv=>whnf);first|(refine Side.mk ?_ ?_;focus (first|assumption|(simp only [*,saltL];done)))|refine RetE.mk () trivial ?_|refine Got.mk (fun _ _=>?_)|(with_reducible refine Unf.h ?_)|refine retK_r ?_|exact rfl)|fail);all_goals try (conv=>whnf);all_goals try (exfalso;omega)
def ctext_c:Ctr where
 D:=Bs×Ver
 pre:=fun (x,v)=>x.length≤1000000∧v.val.length≤1000000
 args:=fun (x,v)=>[.fs 1 eB x,.agg (eVr v)]
 res:=fun _ _=>.own 0
 out:=fun (x,v) _=>[(0,.row 5 1 eB (verT x v))]
 mm:=1
def ctext_H:Cfg:=⟨[(64,htext_c),(157,four_c)],[(1,[2,5,12],[3,6,13,14],(oA 0 (oA 1 (oB 2 (oA 4 (oB 5 (oA 7 (oA 8 (oA 9 (oA 10 (oA 11 (oB 12 (oD 3 (oD 6 (oC 13 (oC 14 (oA 15 .nil)))))))))))))))),[])],[],[],20,0,[],[],[]⟩
theorem ctext_ok:ctext_c.Ok Tryz.prog 156:=by
 refine fn_ok ctext_H 0 rfl _ Tryz.func156 rfl rfl ⟨htext_ok,four_ok,trivial⟩ rfl rfl (by kernel_rfl) (fun _=>nlb rfl) ?_
 rintro ⟨x,v⟩ hp hr
 try dsimp only [ctext_c] at hp
 try simp only [ctext_c,Rng,RngL,inR,and_true,true_and] at hr
 obtain ⟨hp1,hp2⟩:=hp;have hpt:htext_c.pre (99#8,[x,fourB v.num,fourB v.ep,v.salt.toList,v.before.toList,v.val]):=⟨by simp,by simp [fourB_len,hp1,hp2]⟩
 repeat' (first|(with_reducible refine Unf.h ?_)|((conv=>whnf);(refine Side.mk ?_ ?_;focus (exact True.intro)))|fail);all_goals try (conv=>whnf);all_goals try (exfalso;omega)
 refine CallS.mk (c:=four_c) (v.num) ?_
 repeat' (first|(with_reducible refine Unf.h ?_)|((conv=>whnf);first|(refine Side.mk ?_ ?_;focus (first|with_reducible rfl|exact True.intro))|refine Got.mk (fun _ _=>?_))|fail);all_goals try (conv=>whnf);all_goals try (exfalso;omega)
 refine CallS.mk (c:=four_c) (v.ep) ?_
 repeat' (first|(with_reducible refine Unf.h ?_)|((conv=>whnf);first|(refine Side.mk ?_ ?_;focus (first|with_reducible rfl|exact True.intro|(intros;(try simp only [lenS,inR,cutS,loI,hiI] at *);omega)))|refine Got.mk (fun _ _=>?_))|fail);all_goals try (conv=>whnf);all_goals try (exfalso;omega)
 refine CallS.mk (c:=htext_c) ((99#8,[x,fourB v.num,fourB v.ep,v.salt.toList,v.before.toList,v.val])) ?_
 repeat' (first|(with_reducible refine Unf.h ?_)|((conv=>whnf);(refine Side.mk ?_ ?_;focus (with_reducible rfl)))|fail);all_goals try (conv=>whnf);all_goals try (exfalso;omega)
 refine Side.mk (by simp only [cutv2];rfl) ?_
 repeat' (first|(with_reducible refine Unf.h ?_)|((conv=>whnf);first|(refine Side.mk ?_ ?_;focus (first|assumption|(simp only [*,verT];done)))|refine RetE.mk () trivial ?_|refine Got.mk (fun _ _=>?_)|(with_reducible refine Unf.h ?_)|refine retK_r ?_|exact rfl)|fail);all_goals try (conv=>whnf);all_goals try (exfalso;omega)
theorem verT_small {x:Bs} {v:Ver} (h1:x.length≤1000000) (h2:v.val.length≤1000000):(verT x v).length≤1000000000 :=
 txt_small _ _ (by simp) (by simp [fourB_len,h1,h2])
def ccommit_c:Ctr where
 D:=Bs×Ver
 pre:=fun (x,v)=>x.length≤1000000∧v.val.length≤1000000
 args:=fun (x,v)=>[.fs 1 eB x,.agg (eVr v)]
 res:=fun (x,v) _=>.agg [.arr8 (cmL x v)]
def ccommit_H:Cfg:=⟨[(156,ctext_c),(63,sum_c)],[],[],[],9,0,[],[],[]⟩
theorem ccommit_ok:ccommit_c.Ok Tryz.prog 144:=by
 refine fn_ok ccommit_H 0 rfl _ Tryz.func144 rfl rfl ⟨ctext_ok,sum_ok,trivial⟩ rfl rfl (by kernel_rfl) (fun _=>nlb rfl) ?_
 rintro ⟨x,v⟩ hp hr
 try dsimp only [ccommit_c] at hp
 try simp only [ccommit_c,Rng,RngL,inR,and_true,true_and] at hr
 obtain ⟨hp1,hp2⟩:=hp;have hpt:ctext_c.pre (x,v):=⟨hp1,hp2⟩;have hps:=verT_small hp1 hp2
 repeat' (first|(with_reducible refine Unf.h ?_)|((conv=>whnf);first|(refine Side.mk ?_ ?_;focus (first|with_reducible rfl|exact True.intro|assumption|(simp only [*,cmL];done)))|refine RetE.mk () trivial ?_|refine Got.mk (fun _ _=>?_)|refine retK_r ?_|exact rfl|refine CallS.mk (c:=ctext_c) ((x,v)) ?_|refine CallS.mk (c:=sum_c) (verT x v) ?_)|fail);all_goals try (conv=>whnf);all_goals try (exfalso;omega)
theorem formed_at {x:Bs} {l:List Ver} (h:formedC cmL zeroH x l) (i:Nat) (hi:i<l.length):l[i].num=(i:Int)+1∧lastE 0 (l.take i)<l[i].ep∧l[i].ep<2147483648∧l[i].before=lastB (cmL x) zeroH (l.take i)∧l[i].val.length≤64:=by
 have h2:fmV (cmL x) 0 zeroH 0 (l.take (i+1)):=by
   have h3:=h.2.2;rw [← List.take_append_drop (i+1) l] at h3;exact fmV_take _ h3
 rw [List.take_succ_eq_append_getElem hi,fmV_app] at h2;have h4:=h2.2;rw [List.length_take,Nat.min_eq_left (by omega),Nat.zero_add] at h4
 exact h4
theorem fm_step {x:Bs} {l:List Ver} {i:Nat} (hi:i<l.length) (hf:fmV (cmL x) 0 zeroH 0 (l.take i)) (h1:l[i].num=(i:Int)+1) (h2:lastE 0 (l.take i)<l[i].ep) (h3:l[i].ep<2147483648) (h4:l[i].before=lastB (cmL x) zeroH (l.take i)) (h5:l[i].val.length≤64) :
   fmV (cmL x) 0 zeroH 0 (l.take (i+1))∧lastB (cmL x) zeroH (l.take (i+1))=cmL x l[i]∧lastE 0 (l.take (i+1))=l[i].ep:=by
 rw [List.take_succ_eq_append_getElem hi];refine ⟨(fmV_app _ _ _ _ _ _).2 ⟨hf,?_⟩,lastB_snoc _ _ _ _,lastE_snoc _ _ _⟩;rw [List.length_take,Nat.min_eq_left (by omega),Nat.zero_add]
 exact ⟨h1,h2,h3,h4,h5⟩
def cformed_c:Ctr where
 D:=Bs×List Ver
 pre:=fun (x,l)=>x.length≤1000000∧l.length≤100000
 args:=fun (x,l)=>[.fs 1 eB x,.fs 67 eVr l]
 res:=fun (x,l) _=>.dec (formedC cmL zeroH x l) inferInstance
def cformed_H:Cfg:=⟨[(142,cis_c),(144,ccommit_c)],[(10,[4],[1,2,5],(oA 0 (oA 3 (oB 4 (oD 1 (oD 2 (oD 5 (oA 6 .nil))))))),[5])],[],[],58,0,[],[],[]⟩
theorem cformed_ok:cformed_c.Ok Tryz.prog 143:=by
 refine fn_ok cformed_H 0 rfl _ Tryz.func143 rfl rfl ⟨cis_ok,ccommit_ok,trivial⟩ rfl rfl (by kernel_rfl) (fun _=>nlb rfl) ?_
 rintro ⟨x,l⟩ hp hr
 try dsimp only [cformed_c] at hp
 try simp only [cformed_c,Rng,RngL,inR,and_true,true_and] at hr
 obtain ⟨hp1,hp2⟩:=hp;have hp1:x.length≤1000000:=hp1;have hp2:l.length≤100000:=hp2
 by_cases hx:1≤x.length∧x.length≤32
 · rcases Nat.eq_zero_or_pos l.length with hl|hl
   · have hn:¬ formedC cmL zeroH x l:=fun h=>h.2.1 (List.eq_nil_of_length_eq_zero hl)
     repeat' (first|(with_reducible refine Unf.h ?_)|((conv=>whnf);first|refine Fork.mkn (fun h=>?_) (fun h=>?_)|refine Fork.mk (fun h=>?_) (fun h=>?_)|(refine Side.mk ?_ ?_;focus (first|with_reducible rfl|exact True.intro|(simp [*,hn];done)))|refine RetE.mk () trivial ?_|refine Got.mk (fun _ _=>?_)|refine retK_r ?_|exact rfl|refine CallS.mk (c:=cis_c) (x) ?_)|fail);all_goals try (conv=>whnf);all_goals try (exfalso;omega)
   · repeat' (first|(with_reducible refine Unf.h ?_)|((conv=>whnf);first|refine Fork.mkn (fun h=>?_) (fun h=>?_)|refine Fork.mk (fun h=>?_) (fun h=>?_)|(refine Side.mk ?_ ?_;focus (first|with_reducible rfl|exact True.intro))|refine Got.mk (fun _ _=>?_)|refine CallS.mk (c:=cis_c) (x) ?_)|fail);all_goals try (conv=>whnf);all_goals try (exfalso;omega)
     refine LoopS.autoN (I:=Nat) (fun i=>i≤l.length∧fmV (cmL x) 0 zeroH 0 (l.take i)) (fun i=>[(19,.int .i64 (i:Int)),(6,.int .i64 (lastE 0 (l.take i)))]) (fun i=>[(0,.box 35 [.arr8 (lastB (cmL x) zeroH (l.take i))])]) 1 (fun i=>l.length - i) 0 ⟨Nat.zero_le _,trivial⟩ ?_ ?_
     · have e0:lastE 0 (l.take 0)=0:=rfl
       have e1:lastB (cmL x) zeroH (l.take 0)=zeroH:=rfl
       repeat' (first|(with_reducible refine Unf.h ?_)|((conv=>whnf);first|(refine Side.mk ?_ ?_;focus (first|with_reducible rfl|(refine congrArg (SV.int _) ?_;omega)|(simp only [*,e0,e1];done)))|(with_reducible refine Unf.h ?_)|exact True.intro)|fail);all_goals try (conv=>whnf);all_goals try (exfalso;omega)
     · rintro i ⟨hi,hf⟩
       by_cases hil:i<l.length
       · have hA:formedC cmL zeroH x l→(l[((i:Nat):Int).toNat]'hil).num=(i:Int)+1∧lastE 0 (l.take i)<(l[((i:Nat):Int).toNat]'hil).ep∧(l[((i:Nat):Int).toNat]'hil).ep<2147483648∧(l[((i:Nat):Int).toNat]'hil).before=lastB (cmL x) zeroH (l.take i)∧(l[((i:Nat):Int).toNat]'hil).val.length≤64:=fun hF=>formed_at hF i hil
         repeat' (first|(with_reducible refine Unf.h ?_)|((conv=>whnf);first|refine Fork.mkn (fun h=>?_) (fun h=>?_)|refine Fork.mk (fun h=>?_) (fun h=>?_)|(refine Side.mk ?_ ?_;focus ((intros;(try simp only [lenS,inR,cutS,loI,hiI] at *);omega)))|(refine Idx.mk ?_ ?_;focus (omega))|refine RetE.mk () trivial ?_|refine retK_r ?_)|fail);all_goals try (conv=>whnf);all_goals try (exfalso;omega)
         all_goals first
           | (refine Side.mk (iffF fun hF => ?_) ?_
              · obtain ⟨a1,a2,a3,a4,a5⟩:=hA hF
                first
                  | omega
                  | exact absurd (congrArg Vector.toList a4) (by assumption)
              · repeat' (first|(with_reducible refine Unf.h ?_)|((conv=>whnf);exact rfl)|fail);all_goals try (conv=>whnf);all_goals try (exfalso;omega))
           | skip
         obtain ⟨q1,q2,q3⟩:=fm_step hil hf (by assumption) (by show _<(l[((i:Nat):Int).toNat]'hil).ep;omega) (by show (l[((i:Nat):Int).toNat]'hil).ep<_;omega) (Vector.toList_inj.1 (by assumption)) (by show (l[((i:Nat):Int).toNat]'hil).val.length≤_;omega)
         have q2:lastB (cmL x) zeroH (l.take (i+1))=cmL x (l[((i:Nat):Int).toNat]'hil):=q2;have q3:lastE 0 (l.take (i+1))=(l[((i:Nat):Int).toNat]'hil).ep:=q3;have hpc:ccommit_c.pre (x,l[((i:Nat):Int).toNat]'hil):=⟨hp1,by omega⟩
         refine CallS.mk (c:=ccommit_c) ((x,l[((i:Nat):Int).toNat]'hil)) ?_
         repeat' (first|(with_reducible first|refine Unf.h ?_|refine loopK_n ?_)|((conv=>whnf);first|(refine Side.mk ?_ ?_;focus (first|with_reducible rfl|assumption|(intros;(try simp only [lenS,inR,cutS,loI,hiI] at *);omega)))|refine Got.mk (fun _ _=>?_))|fail);all_goals try (conv=>whnf);all_goals try (exfalso;omega)
         refine ⟨i+1,⟨by omega,by omega,q1⟩,?_⟩
         repeat' (first|(with_reducible refine Unf.h ?_)|((conv=>whnf);first|(refine Side.mk ?_ ?_;focus (first|with_reducible rfl|(refine congrArg (SV.int _) ?_;omega)|(simp only [*,q2,q3];done)))|(with_reducible refine Unf.h ?_)|exact True.intro)|fail);all_goals try (conv=>whnf);all_goals try (exfalso;omega)
       · have e:l.take i=l:=List.take_of_length_le (by omega)
         rw [e] at hf;have hF:formedC cmL zeroH x l:=⟨hx,fun h=>by rw [h] at hl;exact absurd hl (by simp),hf⟩
         repeat' (first|(with_reducible refine Unf.h ?_)|((conv=>whnf);first|refine Fork.mk (fun h=>?_) (fun h=>?_)|(refine Side.mk ?_ ?_;focus ((refine ⟨fun h=>?_,fun h=>?_⟩<;>first|rfl|(cases h;done)|omega|(exfalso;omega)|(simp only [Bool.false_eq_true] at h;done))))|refine RetE.mk () trivial ?_|refine retK_r ?_|exact rfl)|fail);all_goals try (conv=>whnf);all_goals try (exfalso;omega)
 · have hn:¬ formedC cmL zeroH x l:=fun h=>hx h.1
   repeat' (first|(with_reducible refine Unf.h ?_)|((conv=>whnf);first|refine Fork.mkn (fun h=>?_) (fun h=>?_)|(refine Side.mk ?_ ?_;focus (first|with_reducible rfl|exact True.intro|(simp [*,hn];done)))|refine RetE.mk () trivial ?_|refine Got.mk (fun _ _=>?_)|refine retK_r ?_|exact rfl|refine CallS.mk (c:=cis_c) (x) ?_)|fail);all_goals try (conv=>whnf);all_goals try (exfalso;omega)
def cloneB_c:Ctr where
 D:=Bs
 pre:=fun l=>l.length≤1000000
 args:=fun l=>[.fs 1 eB l]
 res:=fun l _=>.fs 1 eB l
def cloneB_H:Cfg:=⟨[],[],[],[],8,0,[],[],[]⟩
theorem cloneB_ok:cloneB_c.Ok Tryz.prog 73:=by
 refine fn_ok cloneB_H 0 rfl _ Tryz.func73 rfl rfl trivial rfl rfl (by kernel_rfl) (fun _=>nlb rfl) ?_
 intro (l:Bs) hp hr
 try dsimp only [cloneB_c] at hp
 try simp only [cloneB_c,Rng,RngL,inR,and_true,true_and] at hr
 repeat' (first|(with_reducible refine Unf.h ?_)|((conv=>whnf);first|(refine Side.mk ?_ ?_;focus (first|with_reducible rfl|(intros;(try simp only [lenS,inR,cutS,loI,hiI] at *);omega)|exact List.eq_nil_of_length_eq_zero (by assumption)))|refine RetE.mk () trivial ?_|refine boolK (fun h=>?_) ?_|refine retK_r ?_|exact rfl)|fail);all_goals try (conv=>whnf)
def cloneV_c:Ctr where
 D:=List Ver
 pre:=fun l=>l.length≤100000
 args:=fun l=>[.fs 67 eVr l]
 res:=fun _ _=>.own 0
 out:=fun l _=>[(0,.row 248 67 eVr l)]
 mm:=1
def cloneV_H:Cfg:=⟨[],[],[],[],8,0,[],[],[]⟩
theorem cloneV_ok:cloneV_c.Ok Tryz.prog 146:=by
 refine fn_ok cloneV_H 0 rfl _ Tryz.func146 rfl rfl trivial rfl rfl (by kernel_rfl) (fun _=>nlb rfl) ?_
 intro (l:List Ver) hp hr
 try dsimp only [cloneV_c] at hp
 try simp only [cloneV_c,Rng,RngL,inR,and_true,true_and] at hr
 repeat' (first|(with_reducible refine Unf.h ?_)|((conv=>whnf);first|(refine Side.mk ?_ ?_;focus (first|with_reducible rfl|(intros;(try simp only [lenS,inR,cutS,loI,hiI] at *);omega)|exact List.eq_nil_of_length_eq_zero (by assumption)))|refine RetE.mk () trivial ?_|refine boolK (fun h=>?_) ?_|refine retK_r ?_|exact rfl)|fail);all_goals try (conv=>whnf)
def growF (seed:H256) (x:Bs) (l:List Ver) (e:Int) (val:Bs):List Ver×Int :=
 if okG cmL zeroH x l e val then (l++[newV cmL zeroH (saltL seed x (l.length+1)) x l e val],0) else ([],1)
def cgrow_c:Ctr where
 D:=H256×Bs×List Ver×Int×Bs
 pre:=fun (_,x,l,_,val)=>x.length≤100000∧l.length≤10000∧val.length≤100000
 args:=fun (s,x,l,e,val)=>[.agg [.arr8 s],.fs 1 eB x,.fs 67 eVr l,.int .i64 e,.fs 1 eB val]
 res:=fun (s,x,l,e,val) _=>.tup [.fs 67 eVr (growF s x l e val).1,.int .i64 (growF s x l e val).2]
def cgrow_H:Cfg:=⟨[(142,cis_c),(73,cloneB_c),(143,cformed_c),(144,ccommit_c),(145,csalt_c),(146,cloneV_c)],[(10,[],[1,2,3,4],(oA 0 (.alt 1 false (oC 2 (oC 3 (oC 4 (oA 5 (oA 6 .nil))))) (oC 2 (.alt 1 false (oC 3 (oC 4 (oA 5 (oA 6 .nil)))) (oC 3 (oC 1 (oC 4 (oA 5 (oA 6 .nil))))))))),[])],[39],[],71,0,[],[],[]⟩
theorem cgrow_ok:cgrow_c.Ok Tryz.prog 129:=by
 refine fn_ok cgrow_H 0 rfl _ Tryz.func129 rfl rfl ⟨cis_ok,cloneB_ok,cformed_ok,ccommit_ok,csalt_ok,cloneV_ok,trivial⟩ rfl rfl (by kernel_rfl) (fun _=>nlb rfl) ?_
 rintro ⟨s,x,l,e,val⟩ hp hr
 try dsimp only [cgrow_c] at hp
 try simp only [cgrow_c,Rng,RngL,inR,and_true,true_and] at hr
 obtain ⟨hp1,hp2,hp3⟩:=hp;have hp1:x.length≤100000:=hp1;have hp2:l.length≤10000:=hp2;have hp3:val.length≤100000:=hp3;have hcb:cloneB_c.pre val:=show val.length≤1000000 by omega
 have hcv:cloneV_c.pre l:=show l.length≤100000 by omega
 have hcf:cformed_c.pre (x,l):=⟨show x.length≤1000000 by omega,show l.length≤100000 by omega⟩
 have hcs:csalt_c.pre (s,x,(l.length:Int)+1):=show x.length≤1000000 by omega
 by_cases hb:(1≤x.length∧x.length≤32)∧val.length≤64∧1≤e∧e<2147483648
 · obtain ⟨⟨b1,b2⟩,b3,b4,b5⟩:=hb
   by_cases hok:okG cmL zeroH x l e val
   · have hf:growF s x l e val=(l++[⟨(l.length:Int)+1,e,saltL s x ((l.length:Int)+1),lastB (cmL x) zeroH l,val⟩],0):=if_pos hok
     have hpo:=((okG_prog cmL zeroH).1 hok).2
     repeat' (first|(with_reducible refine Unf.h ?_)|((conv=>whnf);first|refine Fork.mkn (fun h=>?_) (fun h=>?_)|refine Fork.mk (fun h=>?_) (fun h=>?_)|(refine Side.mk ?_ ?_;focus (first|with_reducible rfl|exact True.intro|assumption|(intros;(try simp only [lenS,inR,cutS,loI,hiI] at *);omega)))|refine Got.mk (fun _ _=>?_)|refine CallS.mk (c:=cis_c) (x) ?_|refine CallS.mk (c:=cloneB_c) (val) ?_)|fail);all_goals try (conv=>whnf);all_goals try (exfalso;omega)
     refine CutS.auto (I:=Unit) (fun _=>True) (fun _=>[(12,.ptr 1 0)]) (fun _=>[(0,.box 35 [.arr8 s]),(1,.box 248 [.int .i64 ((l.length:Int)+1),.int .i64 e,.arr8 zeroH,.arr8 (lastB (cmL x) zeroH l),.fs 1 eB val])]) 2 ?_ ?_
     · repeat' (first|(with_reducible first|refine Unf.h ?_|refine cutK_n ?_)|((conv=>whnf);first|refine Fork.mk (fun h=>?_) (fun h=>?_)|(refine Side.mk ?_ ?_;focus ((intros;(try simp only [lenS,inR,cutS,loI,hiI] at *);omega)))|(refine Idx.mk ?_ ?_;focus (omega)))|fail);all_goals try (conv=>whnf);all_goals try (exfalso;omega)
       · have hne:l≠[]:=fun h'=>by rw [h'] at h;exact absurd h (by simp)
         have hF:formedC cmL zeroH x l:=(hpo.resolve_left hne).1;have hlast:(l.getLast hne)=l[((l.length:Int) - 1).toNat]'(by have:=List.length_pos_iff.2 hne;omega):=by
           rw [List.getLast_eq_getElem];congr 1;omega
         have hE:=(hpo.resolve_left hne).2 hne;have hB:=lastB_at (cmL x) zeroH hne;rw [hlast] at hE hB;have hpc:ccommit_c.pre (x,l[((l.length:Int) - 1).toNat]'(by have:=List.length_pos_iff.2 hne;omega)):=⟨show x.length≤1000000 by omega,by
           have h64:=(formed_at hF ((l.length:Int) - 1).toNat (by have:=List.length_pos_iff.2 hne;omega)).2.2.2.2
           show (l[((l.length:Int) - 1).toNat]'(by have:=List.length_pos_iff.2 hne;omega)).val.length≤1000000
           omega⟩
         refine CallS.mk (c:=cformed_c) ((x,l)) ?_
         repeat' (first|(with_reducible refine Unf.h ?_)|((conv=>whnf);first|refine Fork.mkn (fun h=>?_) (fun h=>?_)|refine Fork.mk (fun h=>?_) (fun h=>?_)|(refine Side.mk ?_ ?_;focus (first|with_reducible rfl|assumption))|refine RetE.mk () trivial ?_|refine Got.mk (fun _ _=>?_)|refine retK_r ?_)|fail);all_goals try (conv=>whnf);all_goals try (exfalso;omega)
         · exact absurd hF (by assumption)
         refine CallS.mk (c:=ccommit_c) ((x,l[((l.length:Int) - 1).toNat]'(by have:=List.length_pos_iff.2 hne;omega))) ?_
         repeat' (first|(with_reducible first|refine Unf.h ?_|refine cutK_n ?_)|((conv=>whnf);first|(refine Side.mk ?_ ?_;focus (first|with_reducible rfl|assumption))|refine Got.mk (fun _ _=>?_))|fail);all_goals try (conv=>whnf);all_goals try (exfalso;omega)
         refine ⟨(),trivial,?_⟩
         repeat' (first|(with_reducible refine Unf.h ?_)|((conv=>whnf);first|(refine Side.mk ?_ ?_;focus (first|with_reducible rfl|(simp only [*,hB];done)))|(with_reducible refine Unf.h ?_)|exact True.intro)|fail);all_goals try (conv=>whnf);all_goals try (exfalso;omega)
       · have hne:l=[]:=List.eq_nil_of_length_eq_zero (by omega)
         subst hne
         all_goals try (conv=>whnf);all_goals try (exfalso;omega)
         refine ⟨(),trivial,?_⟩;have e0:lastB (cmL x) zeroH []=zeroH:=rfl
         repeat' (first|(with_reducible refine Unf.h ?_)|((conv=>whnf);first|(refine Side.mk ?_ ?_;focus (first|with_reducible rfl|(simp only [*,e0];done)))|(with_reducible refine Unf.h ?_)|exact True.intro)|fail);all_goals try (conv=>whnf);all_goals try (exfalso;omega)
     · intro _ _
       repeat' (first|(with_reducible refine Unf.h ?_)|((conv=>whnf);first|refine Both.mk ?_ ?_|refine Both.mk ?_ ?_|(refine Side.mk ?_ ?_;focus (first|with_reducible rfl|assumption))|refine Got.mk (fun _ _=>?_)|refine CallS.mk (c:=csalt_c) ((s,x,(l.length:Int)+1)) ?_|refine CallS.mk (c:=cloneV_c) (l) ?_)|fail);all_goals try (conv=>whnf);all_goals try (exfalso;omega)
       all_goals
         refine Ex.mk [⟨(l.length:Int)+1,e,saltL s x ((l.length:Int)+1),lastB (cmL x) zeroH l,val⟩] rfl ?_
         repeat' (first|(with_reducible refine Unf.h ?_)|((conv=>whnf);first|(refine Side.mk ?_ ?_;focus (first|(intros;(try simp only [lenS,inR,cutS,loI,hiI,hf] at *);omega)|(simp only [*,hf];done)))|refine RetE.mk () trivial ?_|refine retK_r ?_|exact rfl)|fail);all_goals try (conv=>whnf);all_goals try (exfalso;omega)
   · have hf:growF s x l e val=([],1):=if_neg hok
     have hno:¬ (l=[]∨formedC cmL zeroH x l∧∀ h:l≠[],(l.getLast h).ep<e):=fun h=>hok ((okG_prog cmL zeroH).2 ⟨⟨⟨b1,b2⟩,b3,b4,b5⟩,h⟩)
     have hne:l≠[]:=fun h=>hno (.inl h)
     have hlp:=List.length_pos_iff.2 hne;have hlast:(l.getLast hne)=l[((l.length:Int) - 1).toNat]'(by omega):=by
       rw [List.getLast_eq_getElem];congr 1;omega
     have hno2:¬ (formedC cmL zeroH x l∧(l[((l.length:Int) - 1).toNat]'(by omega)).ep<e):=fun h=>hno (.inr ⟨h.1,fun h'=>by rw [hlast];exact h.2⟩)
     repeat' (first|(with_reducible refine Unf.h ?_)|((conv=>whnf);first|refine Fork.mkn (fun h=>?_) (fun h=>?_)|refine Fork.mk (fun h=>?_) (fun h=>?_)|(refine Side.mk ?_ ?_;focus (first|with_reducible rfl|exact True.intro|assumption|(intros;(try simp only [lenS,inR,cutS,loI,hiI] at *);omega)))|refine Got.mk (fun _ _=>?_)|refine CallS.mk (c:=cis_c) (x) ?_|refine CallS.mk (c:=cloneB_c) (val) ?_)|fail);all_goals try (conv=>whnf);all_goals try (exfalso;omega)
     refine CutS.auto (I:=Empty) (fun _=>True) (fun _=>[]) (fun _=>[]) 0 ?_ (fun i=>i.elim)
     repeat' (first|(with_reducible refine Unf.h ?_)|((conv=>whnf);first|refine Fork.mk (fun h=>?_) (fun h=>?_)|(refine Side.mk ?_ ?_;focus ((intros;(try simp only [lenS,inR,cutS,loI,hiI] at *);omega)))|(refine Idx.mk ?_ ?_;focus (omega)))|fail);all_goals try (conv=>whnf);all_goals try (exfalso;omega)
     refine CallS.mk (c:=cformed_c) ((x,l)) ?_
     repeat' (first|(with_reducible refine Unf.h ?_)|((conv=>whnf);first|refine Fork.mkn (fun h=>?_) (fun h=>?_)|refine Fork.mk (fun h=>?_) (fun h=>?_)|(refine Side.mk ?_ ?_;focus (first|with_reducible rfl|assumption|(simp only [*,hf];done)))|refine RetE.mk () trivial ?_|refine Got.mk (fun _ _=>?_)|refine retK_r ?_|exact rfl)|fail);all_goals try (conv=>whnf);all_goals try (exfalso;omega)
     exact absurd ⟨by assumption,by omega⟩ hno2
 · have hn:¬ okG cmL zeroH x l e val:=fun h=>hb ((okG_prog cmL zeroH).1 h).1
   have hf:growF s x l e val=([],1):=if_neg hn
   repeat' (first|(with_reducible refine Unf.h ?_)|((conv=>whnf);first|refine Fork.mkn (fun h=>?_) (fun h=>?_)|refine Fork.mk (fun h=>?_) (fun h=>?_)|(refine Side.mk ?_ ?_;focus (first|with_reducible rfl|exact True.intro|(simp only [*,hf];done)))|refine RetE.mk () trivial ?_|refine Got.mk (fun _ _=>?_)|refine retK_r ?_|exact rfl|refine CallS.mk (c:=cis_c) (x) ?_)|fail);all_goals try (conv=>whnf);all_goals try (exfalso;omega)
theorem flatB {α:Type}:∀ (l:List (List α)) (m:Nat),(∀ n∈l,n.length≤m)→l.flatten.length≤m*l.length
 | [],m,_=>by simp
 | n::r,m,h=>by
   have h1:=h n (by simp)
   have:=flatB r m fun k hk=>h k (by simp [hk])
   rw [List.flatten_cons,List.length_append,List.length_cons,Nat.mul_succ];omega
theorem flat_step {α:Type} (l:List (List α)) (i:Nat) (h:i<l.length):(l.take (i+1)).flatten=(l.take i).flatten++l[i]:=by
 rw [List.take_succ_eq_append_getElem h,List.flatten_append,List.flatten_cons,List.flatten_nil,List.append_nil]
def concat_c:Ctr where
 D:=List Bs
 pre:=fun l=>1≤l.flatten.length∧l.length≤100∧∀ p∈l,p.length≤1000000
 args:=fun l=>[.fs 1 eP l]
 res:=fun _ _=>.own 0
 out:=fun l _=>[(0,.row 5 1 eB l.flatten)]
 mm:=1
def concat_H:Cfg:=⟨[(109,sgrow_c)],[],[],[],36,0,[],[],[]⟩
theorem concat_ok:concat_c.Ok Tryz.prog 70:=by
 refine fn_ok concat_H 0 rfl _ Tryz.func70 rfl rfl ⟨sgrow_ok,trivial⟩ rfl rfl (by kernel_rfl) (fun _=>nlb rfl) ?_
 intro (l:List Bs) hp hr
 try dsimp only [concat_c] at hp
 try simp only [concat_c,Rng,RngL,inR,and_true,true_and] at hr
 obtain ⟨hp1,hp2,hp3⟩:=hp;have hp1:1≤l.flatten.length:=hp1;have hp2:l.length≤100:=hp2;have hbd:∀ i,(l.take i).flatten.length≤100000000:=fun i=>by
   have h1:=flatB (l.take i) 1000000 fun p hp=>hp3 p (List.mem_of_mem_take hp)
   have h2:(l.take i).length≤l.length:=by simp;omega
   omega
 have hbl:=hbd l.length;rw [List.take_length] at hbl
 repeat' (first|(with_reducible refine Unf.h ?_)|fail);all_goals try (conv=>whnf);all_goals try (exfalso;omega)
 refine LoopS.autoN (I:=Nat) (fun i=>i≤l.length) (fun i=>[(11,.int .i64 (i:Int)),(3,.int .i64 (((l.take i).flatten.length:Nat):Int))]) (fun _=>[]) 0 (fun i=>l.length - i) 0 (Nat.zero_le _) ?_ ?_
 · have e0:(l.take 0).flatten.length=0:=rfl
   repeat' (first|(with_reducible refine Unf.h ?_)|((conv=>whnf);first|(refine Side.mk ?_ ?_;focus (first|with_reducible rfl|(refine congrArg (SV.int _) ?_;omega)))|(with_reducible refine Unf.h ?_)|exact True.intro)|fail);all_goals try (conv=>whnf);all_goals try (exfalso;omega)
 · intro i hi
   have hbi:=hbd i
   by_cases hil:i<l.length
   · have hb:(l[((i:Nat):Int).toNat]'hil).length≤1000000:=hp3 _ (List.getElem_mem _)
     have es:(((l.take (i+1)).flatten.length:Nat):Int)=((l.take i).flatten.length:Nat)+((l[((i:Nat):Int).toNat]'hil).length:Int):=by
       rw [flat_step l i hil,List.length_append];rfl
     repeat' (first|(with_reducible first|refine Unf.h ?_|refine loopK_n ?_)|((conv=>whnf);first|refine Fork.mk (fun h=>?_) (fun h=>?_)|(refine Side.mk ?_ ?_;focus ((intros;(try simp only [lenS,inR,cutS,loI,hiI,eP] at *);omega)))|(refine Idx.mk ?_ ?_;focus (omega)))|fail);all_goals try (conv=>whnf);all_goals try (exfalso;omega)
     refine ⟨i+1,⟨by omega,by omega⟩,?_⟩
     repeat' (first|(with_reducible refine Unf.h ?_)|((conv=>whnf);first|(refine Side.mk ?_ ?_;focus (first|with_reducible rfl|(refine congrArg (SV.int _) ?_;omega)))|(with_reducible refine Unf.h ?_)|exact True.intro)|fail);all_goals try (conv=>whnf);all_goals try (exfalso;omega)
   · have e:l.take i=l:=List.take_of_length_le (by omega)
     have hpg:sgrow_c.pre l.flatten.length:=⟨by omega,by omega⟩
     rw [e] at hbi ⊢
     repeat' (first|(with_reducible refine Unf.h ?_)|((conv=>whnf);refine Fork.mk (fun h=>?_) (fun h=>?_))|fail);all_goals try (conv=>whnf);all_goals try (exfalso;omega)
     refine CallS.mk (c:=sgrow_c) (l.flatten.length) ?_
     repeat' (first|(with_reducible refine Unf.h ?_)|((conv=>whnf);first|(refine Side.mk ?_ ?_;focus (first|with_reducible rfl|assumption))|refine Got.mk (fun _ _=>?_))|fail);all_goals try (conv=>whnf);all_goals try (exfalso;omega)
     refine LoopS.autoN (I:=Nat) (fun i=>i≤l.length) (fun i=>[(27,.int .i64 (i:Int)),(6,.own 0)]) (fun i=>[(0,.row 5 1 eB (l.take i).flatten)]) 1 (fun i=>l.length - i) 0 (Nat.zero_le _) ?_ ?_
     · have e0:(l.take 0).flatten=[]:=rfl
       repeat' (first|(with_reducible refine Unf.h ?_)|((conv=>whnf);first|(refine Side.mk ?_ ?_;focus (first|with_reducible rfl|(refine congrArg (SV.int _) ?_;omega)|(simp only [*,e0];done)))|(with_reducible refine Unf.h ?_)|exact True.intro)|fail);all_goals try (conv=>whnf);all_goals try (exfalso;omega)
     · intro i hi
       have hbi:=hbd i
       by_cases hil:i<l.length
       · have hb:(l[((i:Nat):Int).toNat]'hil).length≤1000000:=hp3 _ (List.getElem_mem _)
         have es:(l.take (i+1)).flatten=(l.take i).flatten++l[((i:Nat):Int).toNat]'hil:=flat_step l i hil
         repeat' (first|(with_reducible first|refine Unf.h ?_|refine loopK_n ?_)|((conv=>whnf);first|refine Fork.mk (fun h=>?_) (fun h=>?_)|(refine Side.mk ?_ ?_;focus ((intros;(try simp only [lenS,inR,cutS,loI,hiI,eP] at *);omega)))|(refine Idx.mk ?_ ?_;focus (omega))|refine Ex.mk _ rfl ?_)|fail);all_goals try (conv=>whnf);all_goals try (exfalso;omega)
         refine ⟨i+1,⟨by omega,by omega⟩,?_⟩
         repeat' (first|(with_reducible refine Unf.h ?_)|((conv=>whnf);first|(refine Side.mk ?_ ?_;focus (first|with_reducible rfl|(refine congrArg (SV.int _) ?_;omega)|(simp only [*,es];done)))|(with_reducible refine Unf.h ?_)|exact True.intro)|fail);all_goals try (conv=>whnf);all_goals try (exfalso;omega)
       · have e:l.take i=l:=List.take_of_length_le (by omega)
         repeat' (first|(with_reducible refine Unf.h ?_)|((conv=>whnf);first|refine Fork.mk (fun h=>?_) (fun h=>?_)|(refine Side.mk ?_ ?_;focus ((simp only [*,e];done)))|refine RetE.mk () trivial ?_|refine retK_r ?_|exact rfl)|fail);all_goals try (conv=>whnf);all_goals try (exfalso;omega)
def wnum_c:Ctr where
 D:=Bs×BitVec 64×Nat
 pre:=fun (b,_,n)=>n≤8∧b.length≤1000000
 args:=fun (_,x,n)=>[.ptr 0 0,.u64 x,.int .i64 (n:Int)]
 objs:=fun (b,_,_)=>[(0,.box 200 [.own 1,.bool false]),(1,.row 5 1 eB b)]
 nn:=2
 res:=fun _ _=>.tup []
 out:=fun (b,x,n) _=>[(0,.box 200 [.own 2,.bool false]),(2,.row 5 1 eB (b++beN n x))]
 mm:=1
def wnum_H:Cfg:=⟨[],[(4,[4],[10,11,14],(oA 0 (oA 1 (oA 2 (oA 3 (oB 4 (oA 5 (oA 6 (oA 7 (oA 8 (oA 9 (oD 10 (oC 11 (oA 12 (oA 13 (oC 14 .nil))))))))))))))),[])],[],[],35,2,[],[],[]⟩
theorem wnum_ok:wnum_c.Ok Tryz.prog 112:=by
 refine fn_ok wnum_H 2 rfl _ Tryz.func112 rfl rfl trivial rfl rfl (by kernel_rfl) (fun _=>nlb rfl) ?_
 rintro ⟨b,x,n⟩ hp hr
 try dsimp only [wnum_c] at hp
 try simp only [wnum_c,Rng,RngL,inR,and_true,true_and] at hr
 obtain ⟨hp1,hp2⟩:=hp;have hp1:n≤8:=hp1;have hp2:b.length≤1000000:=hp2
 repeat' (first|(with_reducible refine Unf.h ?_)|((conv=>whnf);(refine Side.mk ?_ ?_;focus ((intros;(try simp only [lenS,inR,cutS,loI,hiI] at *);omega))))|fail);all_goals try (conv=>whnf);all_goals try (exfalso;omega)
 refine LoopS.autoN (I:=Nat) (fun k=>k≤n) (fun k=>[(6,.int .i64 ((n:Int) - 1 - k))]) (fun k=>[(0,.box 200 [.own 2,.bool false]),(2,.row 5 1 eB (b++beUp x n k))]) 3 (fun k=>n - k) 0 (Nat.zero_le _) ?_ ?_
 · have e0:b++beUp x n 0=b:=by rw [beUp_zero,List.append_nil]
   repeat' (first|(with_reducible refine Unf.h ?_)|((conv=>whnf);first|(refine Side.mk ?_ ?_;focus (first|with_reducible rfl|(refine congrArg (SV.int _) ?_;omega)|(simp only [*,e0];done)))|(with_reducible refine Unf.h ?_)|exact True.intro)|fail);all_goals try (conv=>whnf);all_goals try (exfalso;omega)
 · intro k hk
   have hbl:=beUp_len x n k;rcases Nat.lt_or_ge k n with hkn|hkn
   · have es:b++beUp x n k++[(x >>> (8*((n:Int) - 1 - k)).toNat).setWidth 8]=b++beUp x n (k+1):=by
       rw [show (8*((n:Int) - 1 - k)).toNat=8*(n - 1 - k) by omega,List.append_assoc,beUp_succ]
     repeat' (first|(with_reducible first|refine Unf.h ?_|refine loopK_n ?_)|((conv=>whnf);first|refine Fork.mk (fun h=>?_) (fun h=>?_)|(refine Side.mk ?_ ?_;focus (first|omega|(intros;(try simp only [lenS,inR,cutS,loI,hiI] at *);omega)))|refine Ex.mk [_] rfl ?_)|fail);all_goals try (conv=>whnf);all_goals try (exfalso;omega)
     all_goals
       refine ⟨k+1,⟨by omega,by omega⟩,?_⟩
       repeat' (first|(with_reducible refine Unf.h ?_)|((conv=>whnf);first|(refine Side.mk ?_ ?_;focus (first|with_reducible rfl|(refine congrArg (SV.int _) ?_;omega)|(simp only [*,es];done)))|(with_reducible refine Unf.h ?_)|exact True.intro)|fail);all_goals try (conv=>whnf);all_goals try (exfalso;omega)
   · obtain rfl:k=n:=by omega
     repeat' (first|(with_reducible refine Unf.h ?_)|((conv=>whnf);first|refine Fork.mk (fun h=>?_) (fun h=>?_)|(refine Side.mk ?_ ?_;focus (first|with_reducible rfl|(simp only [*,beUp_all];done)))|refine RetE.mk () trivial ?_|refine retK_n ?_|exact rfl)|fail);all_goals try (conv=>whnf);all_goals try (exfalso;omega)
def wu32_c:Ctr where
 D:=Bs×BitVec 32
 pre:=fun (b,_)=>b.length≤1000000
 args:=fun (_,x)=>[.ptr 0 0,.u32 x]
 objs:=fun (b,_)=>[(0,.box 200 [.own 1,.bool false]),(1,.row 5 1 eB b)]
 nn:=2
 res:=fun _ _=>.tup []
 out:=fun (b,x) _=>[(0,.box 200 [.own 2,.bool false]),(2,.row 5 1 eB (b++beN 4 (x.setWidth 64)))]
 mm:=1
def wu32_H:Cfg:=⟨[(112,wnum_c)],[],[],[],8,2,[],[],[]⟩
theorem wu32_ok:wu32_c.Ok Tryz.prog 84:=by
 refine fn_ok wu32_H 2 rfl _ Tryz.func84 rfl rfl ⟨wnum_ok,trivial⟩ rfl rfl (by kernel_rfl) (fun _=>nlb rfl) ?_
 rintro ⟨b,x⟩ hp hr
 try dsimp only [wu32_c] at hp
 try simp only [wu32_c,Rng,RngL,inR,and_true,true_and] at hr
 have hp:b.length≤1000000:=hp;have hpn:wnum_c.pre (b,x.setWidth 64,4):=⟨by omega,hp⟩
 repeat' (first|(with_reducible refine Unf.h ?_)|fail);all_goals try (conv=>whnf);all_goals try (exfalso;omega)
 refine CallS.mk (c:=wnum_c) ((b,x.setWidth 64,4)) ?_
 repeat' (first|(with_reducible refine Unf.h ?_)|((conv=>whnf);first|(refine Side.mk ?_ ?_;focus (first|with_reducible rfl|assumption|(refine congrArg (SV.int _) ?_;omega)))|refine RetE.mk () trivial ?_|refine Got.mk (fun _ _=>?_)|refine retK_n ?_|exact rfl)|fail);all_goals try (conv=>whnf);all_goals try (exfalso;omega)
def wplain_c:Ctr where
 D:=Bs×Bs
 pre:=fun (b,p)=>b.length≤1000000∧p.length≤1000000
 args:=fun (_,p)=>[.ptr 0 0,.fs 1 eB p]
 objs:=fun (b,_)=>[(0,.box 200 [.own 1,.bool false]),(1,.row 5 1 eB b)]
 nn:=2
 res:=fun _ _=>.tup []
 out:=fun (b,p) _=>[(0,.box 200 [.own 2,.bool false]),(2,.row 5 1 eB (b++p))]
 mm:=1
def wplain_H:Cfg:=⟨[],[],[],[],22,2,[],[],[]⟩
theorem wplain_ok:wplain_c.Ok Tryz.prog 90:=by
 refine fn_ok wplain_H 2 rfl _ Tryz.func90 rfl rfl trivial rfl rfl (by kernel_rfl) (fun _=>nlb rfl) ?_
 rintro ⟨b,p⟩ hp hr
 try dsimp only [wplain_c] at hp
 try simp only [wplain_c,Rng,RngL,inR,and_true,true_and] at hr
 obtain ⟨hp1,hp2⟩:=hp;have hp1:b.length≤1000000:=hp1;have hp2:p.length≤1000000:=hp2
 repeat' (first|(with_reducible refine Unf.h ?_)|((conv=>whnf);first|(refine Side.mk ?_ ?_;focus (first|with_reducible rfl|(intros;(try simp only [lenS,inR,cutS,loI,hiI] at *);omega)))|refine RetE.mk () trivial ?_|refine Ex.mk _ rfl ?_|refine retK_n ?_|exact rfl)|fail);all_goals try (conv=>whnf);all_goals try (exfalso;omega)
def wout_c:Ctr where
 D:=Bs
 pre:=fun b=>b.length≤1000000
 args:=fun _=>[.ptr 0 0]
 objs:=fun b=>[(0,.box 200 [.own 1,.bool false]),(1,.row 5 1 eB b)]
 nn:=2
 res:=fun b _=>.tup [.fs 1 eB b,.int .i64 0]
def wout_H:Cfg:=⟨[(73,cloneB_c)],[],[],[],17,2,[],[],[]⟩
theorem wout_ok:wout_c.Ok Tryz.prog 85:=by
 refine fn_ok wout_H 2 rfl _ Tryz.func85 rfl rfl ⟨cloneB_ok,trivial⟩ rfl rfl (by kernel_rfl) (fun _=>nlb rfl) ?_
 intro (b:Bs) hp hr
 try dsimp only [wout_c] at hp
 try simp only [wout_c,Rng,RngL,inR,and_true,true_and] at hr
 have hp:b.length≤1000000:=hp;have hpc:cloneB_c.pre b:=hp
 repeat' (first|(with_reducible refine Unf.h ?_)|fail);all_goals try (conv=>whnf);all_goals try (exfalso;omega)
 refine CallS.mk (c:=cloneB_c) (b) ?_
 repeat' (first|(with_reducible refine Unf.h ?_)|((conv=>whnf);first|(refine Side.mk ?_ ?_;focus (first|with_reducible rfl|assumption))|refine RetE.mk () trivial ?_|refine Got.mk (fun _ _=>?_)|refine retK_r ?_|exact rfl)|fail);all_goals try (conv=>whnf);all_goals try (exfalso;omega)
def fleaf_c:Ctr where
 D:=Bs
 pre:=fun b=>b.length≤1000000
 args:=fun b=>[.fs 1 eB b]
 res:=fun b _=>.agg [.arr8 (sha (0#8::b))]
def fleaf_H:Cfg:=⟨[(70,concat_c),(63,sum_c)],[],[],[],8,0,[],[],[]⟩
theorem fleaf_ok:fleaf_c.Ok Tryz.prog 164:=by
 refine fn_ok fleaf_H 0 rfl _ Tryz.func164 rfl rfl ⟨concat_ok,sum_ok,trivial⟩ rfl rfl (by kernel_rfl) (fun _=>nlb rfl) ?_
 intro (b:Bs) hp hr
 try dsimp only [fleaf_c] at hp
 try simp only [fleaf_c,Rng,RngL,inR,and_true,true_and] at hr
 have hp:b.length≤1000000:=hp;have hpc:concat_c.pre [[0#8],b]:=⟨by simp,by simp,by simp;omega⟩
 repeat' (first|(with_reducible refine Unf.h ?_)|((conv=>whnf);refine Ex.mk [_] rfl ?_)|fail);all_goals try (conv=>whnf);all_goals try (exfalso;omega)
 refine CallS.mk (c:=concat_c) ([[0#8],b]) ?_
 repeat' (first|(with_reducible refine Unf.h ?_)|fail);all_goals try (conv=>whnf);all_goals try (exfalso;omega)
 refine Side.mk rfl ?_
 repeat' (first|(with_reducible refine Unf.h ?_)|((conv=>whnf);first|(refine Side.mk ?_ ?_;focus (assumption))|refine Got.mk (fun _ _=>?_)|(with_reducible refine Unf.h ?_))|fail);all_goals try (conv=>whnf);all_goals try (exfalso;omega)
 refine CallS.mk (c:=sum_c) ((0#8::b)) ?_
 repeat' (first|(with_reducible refine Unf.h ?_)|((conv=>whnf);first|(refine Side.mk ?_ ?_;focus (first|with_reducible rfl|exact True.intro|(simp [*];done)))|refine RetE.mk () trivial ?_|refine Got.mk (fun _ _=>?_)|refine retK_r ?_|exact rfl)|fail);all_goals try (conv=>whnf);all_goals try (exfalso;omega)
def hentry_c:Ctr where
 D:=Int×H256
 pre:=fun (e,_)=>0≤e∧e<2147483648
 args:=fun (e,r)=>[.int .i64 e,.agg [.arr8 r]]
 res:=fun (e,r) _=>.agg [.arr8 (entH e r)]
theorem beN_four {e:Int} (h0:0≤e) (h1:e<2147483648):beN 4 ((BitVec.ofInt 32 e).setWidth 64)=fourB e:=by
 obtain ⟨n,rfl⟩:∃ n:Nat,e=n:=⟨e.toNat,by omega⟩
 have e0:(BitVec.ofInt 32 (n:Int)).setWidth 64=BitVec.ofNat 64 n:=by
   apply BitVec.eq_of_toNat_eq
   simp only [BitVec.ofInt_natCast,BitVec.toNat_setWidth,BitVec.toNat_ofNat];omega
 rw [e0];have key:∀ k:Nat,k≤24→((BitVec.ofNat 64 n) >>> k).setWidth 8=BitVec.ofInt 8 ((n:Int) / 2^k):=fun k _=>by
   apply BitVec.eq_of_toNat_eq
   rw [show ((n:Int) / 2^k)=((n / 2^k:Nat):Int) by push_cast;rfl,BitVec.ofInt_natCast]
   simp only [BitVec.toNat_setWidth,BitVec.toNat_ushiftRight,BitVec.toNat_ofNat,Nat.shiftRight_eq_div_pow];rw [Nat.mod_eq_of_lt (show n<2^64 by omega)]
 have k0:=key 0 (by omega)
 have k1:=key 8 (by omega)
 have k2:=key 16 (by omega)
 have k3:=key 24 (by omega)
 rw [show ((n:Int) / 2^0)=(n:Int) by simp] at k0
 show [_,_,_,_]=[_,_,_,_];rw [← k0,← k1,← k2,← k3]
def hentry_H:Cfg:=⟨[(84,wu32_c),(90,wplain_c),(85,wout_c),(164,fleaf_c)],[],[],[],24,0,[],[],[]⟩
theorem hentry_ok:hentry_c.Ok Tryz.prog 151:=by
 refine fn_ok hentry_H 0 rfl _ Tryz.func151 rfl rfl ⟨wu32_ok,wplain_ok,wout_ok,fleaf_ok,trivial⟩ rfl rfl (by kernel_rfl) (fun _=>nlb rfl) ?_
 rintro ⟨e,r⟩ hp hr
 try dsimp only [hentry_c] at hp
 try simp only [hentry_c,Rng,RngL,inR,and_true,true_and] at hr
 obtain ⟨hp1,hp2⟩:=hp;have hp1:0≤e:=hp1;have hp2:e<2147483648:=hp2;have e4:=beN_four hp1 hp2;have e4':[]++beN 4 ((BitVec.ofInt 32 e).setWidth 64)=fourB e:=e4;have hpu:wu32_c.pre ([],BitVec.ofInt 32 e):=show 0≤1000000 by omega
 have hpp:wplain_c.pre (fourB e,r.toList):=⟨by rw [fourB_len];omega,by simp⟩
 have hl36:(fourB e++r.toList).length≤1000000:=by simp [fourB_len]
 have hpo:wout_c.pre (fourB e++r.toList):=hl36;have hpf:fleaf_c.pre (fourB e++r.toList):=hl36
 repeat' (first|(with_reducible refine Unf.h ?_)|fail);all_goals try (conv=>whnf);all_goals try (exfalso;omega)
 refine CallS.mk (c:=wu32_c) (([],BitVec.ofInt 32 e)) ?_
 repeat' (first|(with_reducible refine Unf.h ?_)|((conv=>whnf);first|(refine Side.mk ?_ ?_;focus (first|with_reducible rfl|exact True.intro|assumption))|refine Got.mk (fun _ _=>?_))|fail);all_goals try (conv=>whnf);all_goals try (exfalso;omega)
 refine CallS.mk (c:=wplain_c) ((fourB e,r.toList)) ?_
 repeat' (first|(with_reducible refine Unf.h ?_)|((conv=>whnf);(refine Side.mk ?_ ?_;focus ((intros;(try simp only [lenS,inR,cutS,loI,hiI] at *);omega))))|fail);all_goals try (conv=>whnf);all_goals try (exfalso;omega)
 refine Side.mk (by simp only [cutv2]) ?_
 repeat' (first|(with_reducible refine Unf.h ?_)|((conv=>whnf);first|(refine Side.mk ?_ ?_;focus (first|with_reducible rfl|assumption|(simp [*];done)))|refine Got.mk (fun _ _=>?_))|fail);all_goals try (conv=>whnf);all_goals try (exfalso;omega)
 refine CallS.mk (c:=wout_c) ((fourB e++r.toList)) ?_
 repeat' (first|(with_reducible refine Unf.h ?_)|((conv=>whnf);first|(refine Side.mk ?_ ?_;focus (first|with_reducible rfl|assumption))|refine Got.mk (fun _ _=>?_))|fail);all_goals try (conv=>whnf);all_goals try (exfalso;omega)
 refine CallS.mk (c:=fleaf_c) ((fourB e++r.toList)) ?_
 repeat' (first|(with_reducible refine Unf.h ?_)|((conv=>whnf);first|(refine Side.mk ?_ ?_;focus (first|with_reducible rfl|assumption|(simp only [*,entH];done)))|refine RetE.mk () trivial ?_|refine Got.mk (fun _ _=>?_)|refine retK_r ?_|exact rfl)|fail);all_goals try (conv=>whnf);all_goals try (exfalso;omega)
abbrev Pg:=Vector (BitVec 8) 128
abbrev ePg (v:Pg):List SV:=[.arr8 v]
abbrev eQw (p:Nat×Pg):List SV:=[.int .i64 (p.1:Int),.arr8 p.2]
abbrev zeroPg:Pg:=Vector.replicate 128 0#8
abbrev dvB:SO:=.box 83 [.own 1,.own 2,.own 3,.int .i64 (-1),.bool false]
def devs (L S:List Pg) (q:List (Nat×Pg)):List Ob:=[(0,dvB),(1,.row 189 128 ePg L),(2,.row 189 128 ePg S),(3,.row 208 129 eQw q)]
def devF (L S:List Pg) (q:List (Nat×Pg)):List Ob:=[(0,dvB),(1,.row 189 128 ePg L),(2,.frow 128 ePg S),(3,.row 208 129 eQw q)]
def cloneR_c:Ctr where
 D:=Bs
 pre:=fun l=>1≤l.length∧l.length≤1000000
 args:=fun l=>[.fs 1 eB l]
 res:=fun _ _=>.own 0
 out:=fun l _=>[(0,.row 5 1 eB l)]
 mm:=1
def cloneR_H:Cfg:=⟨[],[],[],[],8,0,[],[],[]⟩
theorem cloneR_ok:cloneR_c.Ok Tryz.prog 73:=by
 refine fn_ok cloneR_H 0 rfl _ Tryz.func73 rfl rfl trivial rfl rfl (by kernel_rfl) (fun _=>nlb rfl) ?_
 intro (l:Bs) hp hr
 try dsimp only [cloneR_c] at hp
 try simp only [cloneR_c,Rng,RngL,inR,and_true,true_and] at hr
 repeat' (first|(with_reducible refine Unf.h ?_)|((conv=>whnf);first|(refine Side.mk ?_ ?_;focus (first|with_reducible rfl|omega|(intros;(try simp only [lenS,inR,cutS,loI,hiI] at *);omega)))|refine RetE.mk () trivial ?_|refine boolK (fun h=>?_) ?_|refine retK_r ?_|exact rfl)|fail);all_goals try (conv=>whnf)
def dpgs_c:Ctr where
 D:=List Pg×List Pg×List (Nat×Pg)
 args:=fun _=>[.ptr 0 0]
 objs:=fun (L,S,q)=>devs L S q
 nn:=4
 res:=fun (L,_,_) _=>.int .i64 (L.length:Int)
 out:=fun (L,S,q) _=>devs L S q
def dpgs_H:Cfg:=⟨[],[],[],[],10,4,[],[],[]⟩
theorem dpgs_ok:dpgs_c.Ok Tryz.prog 17:=by
 refine fn_ok dpgs_H 4 rfl _ Tryz.func17 rfl rfl trivial rfl rfl (by kernel_rfl) (fun _=>nlb rfl) ?_
 rintro ⟨L,S,q⟩ hp hr
 try dsimp only [dpgs_c] at hp
 try simp only [dpgs_c,Rng,RngL,inR,and_true,true_and] at hr
 repeat' (first|(with_reducible refine Unf.h ?_)|((conv=>whnf);first|(refine Side.mk ?_ ?_;focus (first|with_reducible rfl|(refine congrArg (SV.int _) ?_;omega)))|refine RetE.mk () trivial ?_|refine retK_r ?_|exact rfl)|fail);all_goals try (conv=>whnf);all_goals try (exfalso;omega)
def ddwn_c:Ctr where
 D:=List Pg×List Pg×List (Nat×Pg)
 args:=fun _=>[.ptr 0 0]
 objs:=fun (L,S,q)=>devs L S q
 nn:=4
 res:=fun _ _=>.bool false
 out:=fun (L,S,q) _=>devs L S q
def ddwn_H:Cfg:=⟨[],[],[],[],11,4,[],[],[]⟩
theorem ddwn_ok:ddwn_c.Ok Tryz.prog 96:=by
 refine fn_ok ddwn_H 4 rfl _ Tryz.func96 rfl rfl trivial rfl rfl (by kernel_rfl) (fun _=>nlb rfl) ?_
 rintro ⟨L,S,q⟩ hp hr
 try dsimp only [ddwn_c] at hp
 try simp only [ddwn_c,Rng,RngL,inR,and_true,true_and] at hr
 repeat' (first|(with_reducible refine Unf.h ?_)|((conv=>whnf);first|(refine Side.mk ?_ ?_;focus (with_reducible rfl))|refine RetE.mk () trivial ?_|refine retK_r ?_|exact rfl)|fail);all_goals try (conv=>whnf);all_goals try (exfalso;omega)
def ddwnF_c:Ctr where
 D:=List Pg×List Pg×List (Nat×Pg)
 args:=fun _=>[.ptr 0 0]
 objs:=fun (L,S,q)=>devF L S q
 nn:=4
 res:=fun _ _=>.bool false
 out:=fun (L,S,q) _=>devF L S q
def ddwnF_H:Cfg:=⟨[],[],[],[],11,4,[],[],[]⟩
theorem ddwnF_ok:ddwnF_c.Ok Tryz.prog 96:=by
 refine fn_ok ddwnF_H 4 rfl _ Tryz.func96 rfl rfl trivial rfl rfl (by kernel_rfl) (fun _=>nlb rfl) ?_
 rintro ⟨L,S,q⟩ hp hr
 try dsimp only [ddwnF_c] at hp
 try simp only [ddwnF_c,Rng,RngL,inR,and_true,true_and] at hr
 repeat' (first|(with_reducible refine Unf.h ?_)|((conv=>whnf);first|(refine Side.mk ?_ ?_;focus (with_reducible rfl))|refine RetE.mk () trivial ?_|refine retK_r ?_|exact rfl)|fail);all_goals try (conv=>whnf);all_goals try (exfalso;omega)
def drch_c:Ctr where
 D:=(List Pg×List Pg×List (Nat×Pg))×Nat
 pre:=fun ((L,_,_),i)=>i<L.length
 args:=fun (_,i)=>[.ptr 0 0,.int .i64 (i:Int)]
 objs:=fun ((L,S,q),_)=>devs L S q
 nn:=4
 res:=fun _ _=>.int .i64 0
 out:=fun ((L,S,q),_) _=>devs L S q
def drch_H:Cfg:=⟨[(96,ddwn_c)],[],[],[],20,4,[],[],[]⟩
theorem drch_ok:drch_c.Ok Tryz.prog 72:=by
 refine fn_ok drch_H 4 rfl _ Tryz.func72 rfl rfl ⟨ddwn_ok,trivial⟩ rfl rfl (by kernel_rfl) (fun _=>nlb rfl) ?_
 rintro ⟨⟨L,S,q⟩,i⟩ hp hr
 try dsimp only [drch_c] at hp
 try simp only [drch_c,Rng,RngL,inR,and_true,true_and] at hr
 have hp:i<L.length:=hp
 repeat' (first|(with_reducible refine Unf.h ?_)|((conv=>whnf);first|refine Fork.mk (fun h=>?_) (fun h=>?_)|(refine Side.mk ?_ ?_;focus (first|with_reducible rfl|exact True.intro|(refine congrArg (SV.int _) ?_;omega)))|refine RetE.mk () trivial ?_|refine Got.mk (fun _ _=>?_)|refine retK_r ?_|exact rfl|refine CallS.mk (c:=ddwn_c) ((L,S,q)) ?_)|fail);all_goals try (conv=>whnf);all_goals try (exfalso;omega)
def drchF_c:Ctr where
 D:=(List Pg×List Pg×List (Nat×Pg))×Nat
 pre:=fun ((L,_,_),i)=>i<L.length
 args:=fun (_,i)=>[.ptr 0 0,.int .i64 (i:Int)]
 objs:=fun ((L,S,q),_)=>devF L S q
 nn:=4
 res:=fun _ _=>.int .i64 0
 out:=fun ((L,S,q),_) _=>devF L S q
def drchF_H:Cfg:=⟨[(96,ddwnF_c)],[],[],[],20,4,[],[],[]⟩
theorem drchF_ok:drchF_c.Ok Tryz.prog 72:=by
 refine fn_ok drchF_H 4 rfl _ Tryz.func72 rfl rfl ⟨ddwnF_ok,trivial⟩ rfl rfl (by kernel_rfl) (fun _=>nlb rfl) ?_
 rintro ⟨⟨L,S,q⟩,i⟩ hp hr
 try dsimp only [drchF_c] at hp
 try simp only [drchF_c,Rng,RngL,inR,and_true,true_and] at hr
 have hp:i<L.length:=hp
 repeat' (first|(with_reducible refine Unf.h ?_)|((conv=>whnf);first|refine Fork.mk (fun h=>?_) (fun h=>?_)|(refine Side.mk ?_ ?_;focus (first|with_reducible rfl|exact True.intro|(refine congrArg (SV.int _) ?_;omega)))|refine RetE.mk () trivial ?_|refine Got.mk (fun _ _=>?_)|refine retK_r ?_|exact rfl|refine CallS.mk (c:=ddwnF_c) ((L,S,q)) ?_)|fail);all_goals try (conv=>whnf);all_goals try (exfalso;omega)
def drdF_c:Ctr where
 D:=(List Pg×List Pg×List (Nat×Pg))×Nat×Pg
 pre:=fun ((L,S,_),i,p)=>i<L.length∧S[i]?=some p
 args:=fun (_,i,_)=>[.ptr 0 0,.int .i64 (i:Int)]
 objs:=fun ((L,S,q),_)=>devF L S q
 nn:=4
 res:=fun _ _=>.tup [.own 4,.int .i64 0]
 out:=fun ((L,S,q),_,p) _=>devF L S q++[(4,.row 5 1 eB p.toList)]
 mm:=1
def drdF_H:Cfg:=⟨[(72,drchF_c),(73,cloneR_c)],[],[],[],21,4,[],[],[]⟩
theorem drdF_ok:drdF_c.Ok Tryz.prog 39:=by
 refine fn_ok drdF_H 4 rfl _ Tryz.func39 rfl rfl ⟨drchF_ok,cloneR_ok,trivial⟩ rfl rfl (by kernel_rfl) (fun _=>nlb rfl) ?_
 rintro ⟨⟨L,S,q⟩,i,p⟩ hp hr
 try dsimp only [drdF_c] at hp
 try simp only [drdF_c,Rng,RngL,inR,and_true,true_and] at hr
 obtain ⟨hp1,hp2⟩:=hp;have hp1:i<L.length:=hp1;have hp2:S[i]?=some p:=hp2;obtain ⟨hi,hip⟩:=List.getElem?_eq_some_iff.1 hp2;have hit:S[((i:Nat):Int).toNat]'hi=p:=hip;have hpr:drchF_c.pre ((L,S,q),i):=hp1;have hpc:cloneR_c.pre p.toList:=⟨by simp,by simp⟩
 repeat' (first|(with_reducible refine Unf.h ?_)|((conv=>whnf);first|refine Fork.mkn (fun h=>?_) (fun h=>?_)|(refine Side.mk ?_ ?_;focus (first|with_reducible rfl|exact True.intro|assumption|(simp only [*,hit,cutL];done)))|(refine Idx.mk ?_ ?_;focus (omega))|refine RetE.mk () trivial ?_|refine Got.mk (fun _ _=>?_)|refine retK_r ?_|exact rfl|refine CallS.mk (c:=drchF_c) (((L,S,q),i)) ?_|refine CallS.mk (c:=cloneR_c) (p.toList) ?_)|fail);all_goals try (conv=>whnf);all_goals try (exfalso;omega)
def drd_c:Ctr where
 D:=(List Pg×List Pg×List (Nat×Pg))×Nat×Pg
 pre:=fun ((L,S,_),i,p)=>i<L.length∧S[i]?=some p
 args:=fun (_,i,_)=>[.ptr 0 0,.int .i64 (i:Int)]
 objs:=fun ((L,S,q),_)=>devs L S q
 nn:=4
 res:=fun _ _=>.tup [.own 4,.int .i64 0]
 out:=fun ((L,S,q),_,p) _=>devs L S q++[(4,.row 5 1 eB p.toList)]
 mm:=1
theorem drd_ok:drd_c.Ok Tryz.prog 39 :=
 drdF_ok.melt (k:=2) (e:=189) (z:=128) (enc:=ePg) (xs:=fun d=>d.1.2.1) (objs':=drd_c.objs) (out':=drd_c.out) (by decide)
   (fun d=>.there (.there .here)) (fun d _=>.there (.there .here))
   (fun d _ o ho=>by
     have ho:o∈[(0,dvB),(1,SO.row 189 128 ePg d.1.1),(2,SO.row 189 128 ePg d.1.2.1),(3,SO.row 208 129 eQw d.1.2.2),(4,SO.row 5 1 eB d.2.2.toList)]:=ho;simp only [List.mem_cons,List.not_mem_nil,or_false] at ho;rcases ho with rfl|rfl|rfl|rfl|rfl<;>exact .inl (by first|rfl|(intro _ _;rfl)))
   (fun _ _=>rfl)
def devN (a b c:Nat) (L S:List Pg) (q:List (Nat×Pg)):List Ob:=[(0,.box 83 [.own a,.own b,.own c,.int .i64 (-1),.bool false]),(a,.row 189 128 ePg L),(b,.row 189 128 ePg S),(c,.row 208 129 eQw q)]
def dnew_c:Ctr where
 D:=Nat
 pre:=fun n=>n≤4096
 args:=fun n=>[.int .i64 (n:Int)]
 res:=fun _ _=>.tup [.ptr 0 0,.int .i64 0]
 out:=fun n _=>devs (List.replicate n zeroPg) (List.replicate n zeroPg) []
 mm:=4
def dnew_H:Cfg:=⟨[],[(3,[],[1,3,5],(oA 0 (oA 2 (.alt 1 false (oC 3 (oA 4 (oC 5 (oA 6 (oA 7 .nil))))) (oC 3 (oC 1 (oA 4 (oC 5 (oA 6 (oA 7 .nil))))))))),[])],[],[],16,0,[],[],[]⟩
theorem dnew_ok:dnew_c.Ok Tryz.prog 5:=by
 refine fn_ok dnew_H 0 rfl _ Tryz.func5 rfl rfl trivial rfl rfl (by kernel_rfl) (fun _=>nlb rfl) ?_
 intro (n:Nat) hp hr
 try dsimp only [dnew_c] at hp
 try simp only [dnew_c,Rng,RngL,inR,and_true,true_and] at hr
 have hp:n≤4096:=hp;have hz:∀ m:Nat,isZ ((m+1:Nat):Int)=false:=fun _=>rfl
 have hz0:isZ ((0:Nat):Int)=true:=rfl;rcases n with _|n
 · repeat' (first|(with_reducible refine Unf.h ?_)|((conv=>whnf);first|refine Both.mk ?_ ?_|refine Both.mk ?_ ?_|refine Fork.mk (fun h=>?_) (fun h=>?_)|(refine Side.mk ?_ ?_;focus (first|with_reducible rfl|omega|(simp [*,hz0];done)))|refine RetE.mk () trivial ?_|refine retK_r ?_|exact rfl)|fail);all_goals try (conv=>whnf);all_goals try (exfalso;omega)
 · repeat' (first|(with_reducible refine Unf.h ?_)|((conv=>whnf);first|refine Both.mk ?_ ?_|refine Both.mk ?_ ?_|refine Fork.mk (fun h=>?_) (fun h=>?_)|(refine Side.mk ?_ ?_;focus (first|with_reducible rfl|(dsimp only;omega)|(simp [*,hz];done)))|refine RetE.mk () trivial ?_|refine retK_r ?_|exact rfl)|fail);all_goals try (conv=>whnf);all_goals try (exfalso;omega)
def dopr_c:Ctr where
 D:=List Pg×List Pg×List (Nat×Pg)
 args:=fun _=>[.ptr 0 0]
 objs:=fun (L,S,q)=>devs L S q
 nn:=4
 res:=fun _ _=>.bool true
 out:=fun (L,S,q) _=>devs L S q
def dopr_H:Cfg:=⟨[],[],[],[],30,4,[],[],[]⟩
theorem dopr_ok:dopr_c.Ok Tryz.prog 91:=by
 refine fn_ok dopr_H 4 rfl _ Tryz.func91 rfl rfl trivial rfl rfl (by kernel_rfl) (fun _=>nlb rfl) ?_
 rintro ⟨L,S,q⟩ hp hr
 try dsimp only [dopr_c] at hp
 try simp only [dopr_c,Rng,RngL,inR,and_true,true_and] at hr
 repeat' (first|(with_reducible refine Unf.h ?_)|((conv=>whnf);first|refine Fork.mk (fun h=>?_) (fun h=>?_)|(refine Side.mk ?_ ?_;focus (first|with_reducible rfl|exact dT (by omega)))|refine RetE.mk () trivial ?_|refine retK_r ?_|exact rfl)|fail);all_goals try (conv=>whnf);all_goals try (exfalso;omega)
theorem vecT_list {n:Nat} {l:List (BitVec 8)} (h:n≤l.length) (e:l.length=n):(vecT l h).toList=l:=by
 subst e
 simp [vecT]
def dwr_c:Ctr where
 D:=(List Pg×List Pg×List (Nat×Pg))×Nat×Bs
 pre:=fun ((L,S,q),i,b)=>i<L.length∧i<S.length∧b.length=128∧q.length≤100000
 args:=fun (_,i,b)=>[.ptr 0 0,.int .i64 (i:Int),.fs 1 eB b]
 objs:=fun ((L,S,q),_)=>devs L S q
 nn:=4
 E:=Pg
 post:=fun (_,_,b) p=>p.toList=b
 res:=fun _ _=>.int .i64 0
 out:=fun ((L,S,q),i,_) p=>devN 1 5 4 L (S.set i p) (q++[(i,p)])
 mm:=2
def dwr_H:Cfg:=⟨[(72,drch_c),(91,dopr_c)],[(9,[],[4,5,6,7,10],(oA 0 (oA 1 (oA 2 (oA 3 (.alt 4 false (oC 5 (oC 6 (oC 7 (oA 8 (oA 9 (oC 10 .nil)))))) (oC 5 (.alt 4 false (oC 6 (oC 7 (oA 8 (oA 9 (oC 10 .nil))))) (oC 6 (oC 4 (oC 7 (oA 8 (oA 9 (oC 10 .nil))))))))))))),[]),(10,[],[3,6,8],(oA 0 (oA 1 (oA 2 (oA 4 (oA 5 (.alt 3 false (oC 6 (oA 7 (oC 8 .nil))) (oC 6 (oC 3 (oA 7 (oC 8 .nil)))))))))),[])],[],[],44,4,[],[],[]⟩
theorem dwr_ok:dwr_c.Ok Tryz.prog 52:=by
 refine fn_ok dwr_H 4 rfl _ Tryz.func52 rfl rfl ⟨drch_ok,dopr_ok,trivial⟩ rfl rfl (by kernel_rfl) (fun _=>nlb rfl) ?_
 rintro ⟨⟨L,S,q⟩,i,b⟩ hp hr
 try dsimp only [dwr_c] at hp
 try simp only [dwr_c,Rng,RngL,inR,and_true,true_and] at hr
 obtain ⟨hp1,hp2,hp3,hp4⟩:=hp;have hp1:i<L.length:=hp1;have hp2:i<S.length:=hp2;have hp3:b.length=128:=hp3;have hp4:q.length≤100000:=hp4;have hpr:drch_c.pre ((L,S,q),i):=hp1;have hb:128≤b.length:=by omega
 have hpo:dwr_c.post ((L,S,q),i,b) (vecT b hb):=vecT_list hb hp3
 repeat' (first|(with_reducible refine Unf.h ?_)|((conv=>whnf);first|refine Both.mk ?_ ?_|refine Both.mk ?_ ?_|refine Fork.mkn (fun h=>?_) (fun h=>?_)|(refine Side.mk ?_ ?_;focus (first|with_reducible rfl|exact True.intro|assumption))|(refine Idx.mk ?_ ?_;focus (omega))|refine Got.mk (fun _ _=>?_)|refine Ex.mk _ rfl ?_|refine CallS.mk (c:=drch_c) (((L,S,q),i)) ?_|refine CallS.mk (c:=dopr_c) ((L,S,q)) ?_)|fail);all_goals try (conv=>whnf);all_goals try (exfalso;omega)
 all_goals
   refine Ex.mk [(i,vecT b hb)] rfl ?_
   repeat' (first|(with_reducible refine Unf.h ?_)|((conv=>whnf);first|refine Both.mk ?_ ?_|refine Both.mk ?_ ?_|(refine Side.mk ?_ ?_;focus (first|omega|(intros;(try simp only [lenS,inR,cutS,loI,hiI] at *);omega)))|(refine Idx.mk ?_ ?_;focus (omega))|refine Ex.mk _ rfl ?_|refine retK_r ?_)|fail);all_goals try (conv=>whnf);all_goals try (exfalso;omega)
 all_goals
   refine RetE.mk (vecT b hb) hpo ?_
   repeat' (first|(with_reducible refine Unf.h ?_)|((conv=>whnf);first|(refine Side.mk ?_ ?_;focus (first|with_reducible rfl|(refine congrArg (SV.int _) ?_;omega)|(simp [*];done)))|exact rfl)|fail);all_goals try (conv=>whnf);all_goals try (exfalso;omega)
def flF (L:List Pg) (q:List (Nat×Pg)):List Pg:=q.foldl (fun l p=>l.set p.1 p.2) L
theorem flF_len:∀ (q:List (Nat×Pg)) (L:List Pg),(flF L q).length=L.length
 | [],L=>rfl
 | p::r,L=>by
   show (flF (L.set p.1 p.2) r).length=_;rw [flF_len r];simp
theorem flF_succ {L:List Pg} {q:List (Nat×Pg)} {i:Nat} (h:i<q.length):flF L (q.take (i+1))=(flF L (q.take i)).set (q[i]).1 (q[i]).2:=by
 rw [List.take_succ_eq_append_getElem h];unfold flF;rw [List.foldl_append];rfl
def dfl_c:Ctr where
 D:=List Pg×List Pg×List (Nat×Pg)
 pre:=fun (L,_,q)=>q.length≤100000∧∀ p∈q,p.1<L.length
 args:=fun _=>[.ptr 0 0]
 objs:=fun (L,S,q)=>devs L S q
 nn:=4
 res:=fun _ _=>.int .i64 0
 out:=fun (L,S,q) _=>devN 4 2 5 (flF L q) S []
 mm:=2
def dfl_H:Cfg:=⟨[(96,ddwn_c),(91,dopr_c)],[(6,[],[3,5,7,9],(oA 0 (oA 1 (oA 2 (oA 4 (oA 6 (.alt 3 false (.alt 5 false (oC 7 (oA 8 (oC 9 .nil))) (oC 7 (oC 5 (oA 8 (oC 9 .nil))))) (.alt 5 false (.alt 3 false (oC 7 (oA 8 (oC 9 .nil))) (oC 7 (oC 3 (oA 8 (oC 9 .nil))))) (oC 7 (.alt 3 false (oC 5 (oA 8 (oC 9 .nil))) (oC 5 (oC 3 (oA 8 (oC 9 .nil))))))))))))),[])],[],[],34,4,[],[],[]⟩
theorem dfl_ok:dfl_c.Ok Tryz.prog 59:=by
 refine fn_ok dfl_H 4 rfl _ Tryz.func59 rfl rfl ⟨ddwn_ok,dopr_ok,trivial⟩ rfl rfl (by kernel_rfl) (fun _=>nlb rfl) ?_
 rintro ⟨L,S,q⟩ hp hr
 try dsimp only [dfl_c] at hp
 try simp only [dfl_c,Rng,RngL,inR,and_true,true_and] at hr
 obtain ⟨hp1,hp2⟩:=hp;have hp1:q.length≤100000:=hp1;have hp2:∀ p∈q,p.1<L.length:=hp2
 repeat' (first|(with_reducible refine Unf.h ?_)|((conv=>whnf);first|(refine Side.mk ?_ ?_;focus (first|with_reducible rfl|exact True.intro))|refine Got.mk (fun _ _=>?_)|refine CallS.mk (c:=ddwn_c) ((L,S,q)) ?_|refine CallS.mk (c:=dopr_c) ((L,S,q)) ?_)|fail);all_goals try (conv=>whnf);all_goals try (exfalso;omega)
 refine LoopS.autoN (I:=Nat) (fun i=>i≤q.length) (fun i=>[(17,.int .i64 (i:Int)),(15,.own 3)]) (fun i=>devN 4 2 3 (flF L (q.take i)) S q) 5 (fun i=>q.length - i) 0 (Nat.zero_le _) ?_ ?_
 · have e0:flF L (q.take 0)=L:=rfl
   repeat' (first|(with_reducible refine Unf.h ?_)|((conv=>whnf);first|(refine Side.mk ?_ ?_;focus (first|with_reducible rfl|(refine congrArg (SV.int _) ?_;omega)|(simp only [*,e0];done)))|(with_reducible refine Unf.h ?_)|exact True.intro)|fail);all_goals try (conv=>whnf);all_goals try (exfalso;omega)
 · intro i hi
   rcases Nat.lt_or_ge i q.length with h|h
   · have hm:(q[((i:Nat):Int).toNat]'h).1<(flF L (q.take i)).length:=by rw [flF_len];exact hp2 _ (List.getElem_mem _)
     have es:flF L (q.take (i+1))=(flF L (q.take i)).set (q[((i:Nat):Int).toNat]'h).1 (q[((i:Nat):Int).toNat]'h).2:=flF_succ h
     repeat' (first|(with_reducible first|refine Unf.h ?_|refine loopK_n ?_)|((conv=>whnf);first|refine Both.mk ?_ ?_|refine Both.mk ?_ ?_|refine Fork.mk (fun h=>?_) (fun h=>?_)|(refine Side.mk ?_ ?_;focus (first|omega|(intros;(try simp only [lenS,inR,cutS,loI,hiI] at *);omega)))|(refine Idx.mk ?_ ?_;focus (omega))|refine Ex.mk _ rfl ?_)|fail);all_goals try (conv=>whnf);all_goals try (exfalso;omega)
     all_goals
       refine ⟨i+1,⟨by omega,by omega⟩,?_⟩
       repeat' (first|(with_reducible refine Unf.h ?_)|((conv=>whnf);first|(refine Side.mk ?_ ?_;focus (first|with_reducible rfl|(refine congrArg (SV.int _) ?_;omega)|(simp [*,es];done)))|(with_reducible refine Unf.h ?_)|exact True.intro)|fail);all_goals try (conv=>whnf);all_goals try (exfalso;omega)
   · have e:q.take i=q:=List.take_of_length_le (by omega)
     rw [e]
     repeat' (first|(with_reducible refine Unf.h ?_)|((conv=>whnf);first|refine Fork.mk (fun h=>?_) (fun h=>?_)|(refine Side.mk ?_ ?_;focus (first|with_reducible rfl|(refine congrArg (SV.int _) ?_;omega)))|refine RetE.mk () trivial ?_|refine retK_r ?_|exact rfl)|fail);all_goals try (conv=>whnf);all_goals try (exfalso;omega)
abbrev rdO (l:Bs):SO:=.box 193 [.fs 1 eB l,.bool false]
def beV (l:Bs):BitVec 64:=l.foldl (fun x c=>x <<< 8 ||| c.setWidth 64) 0#64
theorem beV_succ (l:Bs) (i:Nat) (h:i<l.length):beV (l.take (i+1))=beV (l.take i) <<< 8 ||| (l[i]).setWidth 64:=by
 rw [List.take_succ_eq_append_getElem h];unfold beV;rw [List.foldl_append];rfl
theorem beV_zero (n:Nat):beV (List.replicate n 0#8)=0#64:=by
 induction n with
 | zero=>rfl
 | succ n ih =>
   rw [List.replicate_succ'];unfold beV at ih ⊢;rw [List.foldl_append,ih];rfl
theorem beV_one {l:Bs} (h:1≤l.length):(beV (l.take 1)).toNat<256:=by
 cases l with
 | nil=>simp at h
 | cons c r =>
   have e:beV ((c::r).take 1)=c.setWidth 64:=by
     show 0#64 <<< 8 ||| c.setWidth 64=_
     simp
   rw [e,BitVec.toNat_setWidth]
   have:=c.isLt;omega
def rnew_c:Ctr where
 D:=Bs
 pre:=fun l=>l.length≤1000000
 args:=fun l=>[.fs 1 eB l]
 res:=fun _ _=>.ptr 0 0
 out:=fun l _=>[(0,rdO l)]
 mm:=1
def rnew_H:Cfg:=⟨[(73,cloneB_c)],[],[],[],7,0,[],[],[]⟩
theorem rnew_ok:rnew_c.Ok Tryz.prog 41:=by
 refine fn_ok rnew_H 0 rfl _ Tryz.func41 rfl rfl ⟨cloneB_ok,trivial⟩ rfl rfl (by kernel_rfl) (fun _=>nlb rfl) ?_
 intro (l:Bs) hp hr
 try dsimp only [rnew_c] at hp
 try simp only [rnew_c,Rng,RngL,inR,and_true,true_and] at hr
 have hp:l.length≤1000000:=hp;have hpc:cloneB_c.pre l:=hp
 repeat' (first|(with_reducible refine Unf.h ?_)|fail);all_goals try (conv=>whnf);all_goals try (exfalso;omega)
 refine CallS.mk (c:=cloneB_c) (l) ?_
 repeat' (first|(with_reducible refine Unf.h ?_)|((conv=>whnf);first|(refine Side.mk ?_ ?_;focus (first|with_reducible rfl|assumption))|refine RetE.mk () trivial ?_|refine Got.mk (fun _ _=>?_)|refine retK_r ?_|exact rfl)|fail);all_goals try (conv=>whnf);all_goals try (exfalso;omega)
def rtk_c:Ctr where
 D:=Bs×Nat
 pre:=fun (l,n)=>n≤l.length∧l.length≤1000000
 args:=fun (_,n)=>[.ptr 0 0,.int .i64 (n:Int)]
 objs:=fun (l,_)=>[(0,rdO l)]
 nn:=1
 res:=fun (l,n) _=>.fs 1 eB (l.take n)
 out:=fun (l,n) _=>[(0,rdO (l.drop n))]
def rtk_H:Cfg:=⟨[],[],[],[],45,1,[],[],[]⟩
theorem rtk_ok:rtk_c.Ok Tryz.prog 110:=by
 refine fn_ok rtk_H 1 rfl _ Tryz.func110 rfl rfl trivial rfl rfl (by kernel_rfl) (fun _=>nlb rfl) ?_
 rintro ⟨l,n⟩ hp hr
 try dsimp only [rtk_c] at hp
 try simp only [rtk_c,Rng,RngL,inR,and_true,true_and] at hr
 obtain ⟨hp1,hp2⟩:=hp;have hp1:n≤l.length:=hp1;have hp2:l.length≤1000000:=hp2
 repeat' (first|(with_reducible refine Unf.h ?_)|((conv=>whnf);first|refine Fork.mk (fun h=>?_) (fun h=>?_)|(refine Side.mk ?_ ?_;focus (first|with_reducible rfl|(intros;(try simp only [lenS,inR,cutS,loI,hiI,cutL,Int.toNat_natCast] at *);omega)|(simp only [*,cutL,Int.toNat_natCast];done)))|refine RetE.mk () trivial ?_|refine retK_r ?_|exact rfl)|fail);all_goals try (conv=>whnf);all_goals try (exfalso;omega)
def rpk_c:Ctr where
 D:=Bs×Nat
 pre:=fun (l,n)=>n≤l.length∧n≤8
 args:=fun (_,n)=>[.ptr 0 0,.int .i64 (n:Int)]
 objs:=fun (l,_)=>[(0,rdO l)]
 nn:=1
 res:=fun (l,n) _=>.tup [.u64 (beV (l.take n)),.bool true]
 out:=fun (l,_) _=>[(0,rdO l)]
def rpk_H:Cfg:=⟨[],[],[],[],44,1,[],[],[]⟩
theorem rpk_ok:rpk_c.Ok Tryz.prog 78:=by
 refine fn_ok rpk_H 1 rfl _ Tryz.func78 rfl rfl trivial rfl rfl (by kernel_rfl) (fun _=>nlb rfl) ?_
 rintro ⟨l,n⟩ hp hr
 try dsimp only [rpk_c] at hp
 try simp only [rpk_c,Rng,RngL,inR,and_true,true_and] at hr
 obtain ⟨hp1,hp2⟩:=hp;have hp1:n≤l.length:=hp1;have hp2:n≤8:=hp2;have hln:(cutL l none (some (n:Int))).length=n:=by simp [cutL];omega
 repeat' (first|(with_reducible refine Unf.h ?_)|((conv=>whnf);first|refine Fork.mk (fun h=>?_) (fun h=>?_)|(refine Side.mk ?_ ?_;focus ((intros;(try simp only [lenS,inR,cutS,loI,hiI,hln] at *);omega))))|fail);all_goals try (conv=>whnf);all_goals try (exfalso;omega)
 refine LoopS.autoN (I:=Nat) (fun i=>i≤n) (fun i=>[(33,.int .i64 (i:Int)),(6,.u64 (beV (l.take i)))]) (fun _=>[(0,rdO l)]) 1 (fun i=>n - i) 0 (Nat.zero_le _) ?_ ?_
 · have e0:beV (l.take 0)=0#64:=rfl
   repeat' (first|(with_reducible refine Unf.h ?_)|((conv=>whnf);first|(refine Side.mk ?_ ?_;focus (first|with_reducible rfl|(refine congrArg (SV.int _) ?_;omega)|(simp only [*,e0];done)))|(with_reducible refine Unf.h ?_)|exact True.intro)|fail);all_goals try (conv=>whnf);all_goals try (exfalso;omega)
 · intro i hi
   rcases Nat.lt_or_ge i n with h|h
   · have es:beV (l.take (i+1))=beV (l.take i) <<< (8#64).toNat ||| ((cutL l none (some (n:Int)))[((i:Nat):Int).toNat]'(by rw [hln];omega)).setWidth 64:=by
       rw [beV_succ l i (by omega)];simp [cutL]
     repeat' (first|(with_reducible first|refine Unf.h ?_|refine loopK_n ?_)|((conv=>whnf);first|refine Fork.mk (fun h=>?_) (fun h=>?_)|(refine Side.mk ?_ ?_;focus ((intros;(try simp only [lenS,inR,cutS,loI,hiI] at *);omega)))|(refine Idx.mk ?_ ?_;focus (omega)))|fail);all_goals try (conv=>whnf);all_goals try (exfalso;omega)
     refine ⟨i+1,⟨by omega,by omega⟩,?_⟩
     repeat' (first|(with_reducible refine Unf.h ?_)|((conv=>whnf);first|(refine Side.mk ?_ ?_;focus (first|with_reducible rfl|(refine congrArg (SV.int _) ?_;omega)|(simp only [*,es];done)))|(with_reducible refine Unf.h ?_)|exact True.intro)|fail);all_goals try (conv=>whnf);all_goals try (exfalso;omega)
   · obtain rfl:i=n:=by omega
     repeat' (first|(with_reducible refine Unf.h ?_)|((conv=>whnf);first|refine Fork.mk (fun h=>?_) (fun h=>?_)|(refine Side.mk ?_ ?_;focus (with_reducible rfl))|refine RetE.mk () trivial ?_|refine retK_r ?_|exact rfl)|fail);all_goals try (conv=>whnf);all_goals try (exfalso;omega)
def rnu_c:Ctr where
 D:=Bs×Nat
 pre:=fun (l,n)=>n≤l.length∧n≤8∧l.length≤1000000
 args:=fun (_,n)=>[.ptr 0 0,.int .i64 (n:Int)]
 objs:=fun (l,_)=>[(0,rdO l)]
 nn:=1
 res:=fun (l,n) _=>.u64 (beV (l.take n))
 out:=fun (l,n) _=>[(0,rdO (l.drop n))]
def rnu_H:Cfg:=⟨[(78,rpk_c),(110,rtk_c)],[],[],[],19,1,[],[],[]⟩
theorem rnu_ok:rnu_c.Ok Tryz.prog 80:=by
 refine fn_ok rnu_H 1 rfl _ Tryz.func80 rfl rfl ⟨rpk_ok,rtk_ok,trivial⟩ rfl rfl (by kernel_rfl) (fun _=>nlb rfl) ?_
 rintro ⟨l,n⟩ hp hr
 try dsimp only [rnu_c] at hp
 try simp only [rnu_c,Rng,RngL,inR,and_true,true_and] at hr
 obtain ⟨hp1,hp2,hp3⟩:=hp;have hpp:rpk_c.pre (l,n):=⟨hp1,hp2⟩;have hpt:rtk_c.pre (l,n):=⟨hp1,hp3⟩
 repeat' (first|(with_reducible refine Unf.h ?_)|((conv=>whnf);first|(refine Side.mk ?_ ?_;focus (first|with_reducible rfl|assumption|(dsimp only [resS,rnu_c];done)))|refine RetE.mk () trivial ?_|refine Got.mk (fun _ _=>?_)|refine retK_r ?_|exact rfl|refine CallS.mk (c:=rpk_c) ((l,n)) ?_|refine CallS.mk (c:=rtk_c) ((l,n)) ?_)|fail);all_goals try (conv=>whnf);all_goals try (exfalso;omega)
def rfl_c:Ctr where
 D:=Bs
 args:=fun _=>[.ptr 0 0]
 objs:=fun l=>[(0,rdO l)]
 nn:=1
 res:=fun _ _=>.bool false
 out:=fun l _=>[(0,rdO l)]
def rfl_H:Cfg:=⟨[],[],[],[],11,1,[],[],[]⟩
theorem rfl_ok:rfl_c.Ok Tryz.prog 76:=by
 refine fn_ok rfl_H 1 rfl _ Tryz.func76 rfl rfl trivial rfl rfl (by kernel_rfl) (fun _=>nlb rfl) ?_
 intro (l:Bs) hp hr
 try dsimp only [rfl_c] at hp
 try simp only [rfl_c,Rng,RngL,inR,and_true,true_and] at hr
 repeat' (first|(with_reducible refine Unf.h ?_)|((conv=>whnf);first|(refine Side.mk ?_ ?_;focus (with_reducible rfl))|refine RetE.mk () trivial ?_|refine retK_r ?_|exact rfl)|fail);all_goals try (conv=>whnf);all_goals try (exfalso;omega)
def rlf_c:Ctr where
 D:=Bs
 args:=fun _=>[.ptr 0 0]
 objs:=fun l=>[(0,rdO l)]
 nn:=1
 res:=fun l _=>.int .i64 (l.length:Int)
 out:=fun l _=>[(0,rdO l)]
def rlf_H:Cfg:=⟨[],[],[],[],10,1,[],[],[]⟩
theorem rlf_ok:rlf_c.Ok Tryz.prog 81:=by
 refine fn_ok rlf_H 1 rfl _ Tryz.func81 rfl rfl trivial rfl rfl (by kernel_rfl) (fun _=>nlb rfl) ?_
 intro (l:Bs) hp hr
 try dsimp only [rlf_c] at hp
 try simp only [rlf_c,Rng,RngL,inR,and_true,true_and] at hr
 repeat' (first|(with_reducible refine Unf.h ?_)|((conv=>whnf);first|(refine Side.mk ?_ ?_;focus (first|with_reducible rfl|(refine congrArg (SV.int _) ?_;omega)))|refine RetE.mk () trivial ?_|refine retK_r ?_|exact rfl)|fail);all_goals try (conv=>whnf);all_goals try (exfalso;omega)
def rdn_c:Ctr where
 D:=Bs
 args:=fun _=>[.ptr 0 0]
 objs:=fun l=>[(0,rdO l)]
 nn:=1
 res:=fun l _=>.dec (l=[]) inferInstance
 out:=fun l _=>[(0,rdO l)]
def rdn_H:Cfg:=⟨[(76,rfl_c),(81,rlf_c)],[],[],[],11,1,[],[],[]⟩
theorem rdn_ok:rdn_c.Ok Tryz.prog 44:=by
 refine fn_ok rdn_H 1 rfl _ Tryz.func44 rfl rfl ⟨rfl_ok,rlf_ok,trivial⟩ rfl rfl (by kernel_rfl) (fun _=>nlb rfl) ?_
 intro (l:Bs) hp hr
 try dsimp only [rdn_c] at hp
 try simp only [rdn_c,Rng,RngL,inR,and_true,true_and] at hr
 have e:(l.length:Int)=0↔l=[]:=by rw [← List.length_eq_zero_iff];omega
 repeat' (first|(with_reducible refine Unf.h ?_)|((conv=>whnf);first|(refine Side.mk ?_ ?_;focus (first|with_reducible rfl|exact True.intro|assumption))|refine RetE.mk () trivial ?_|refine Got.mk (fun _ _=>?_)|refine retK_r ?_|exact rfl|refine CallS.mk (c:=rfl_c) (l) ?_|refine CallS.mk (c:=rlf_c) (l) ?_)|fail);all_goals try (conv=>whnf);all_goals try (exfalso;omega)
def ru64_c:Ctr where
 D:=Bs
 pre:=fun l=>8≤l.length∧l.length≤1000000
 args:=fun _=>[.ptr 0 0]
 objs:=fun l=>[(0,rdO l)]
 nn:=1
 res:=fun l _=>.u64 (beV (l.take 8))
 out:=fun l _=>[(0,rdO (l.drop 8))]
def ru64_H:Cfg:=⟨[(80,rnu_c)],[],[],[],5,1,[],[],[]⟩
theorem ru64_ok:ru64_c.Ok Tryz.prog 74:=by
 refine fn_ok ru64_H 1 rfl _ Tryz.func74 rfl rfl ⟨rnu_ok,trivial⟩ rfl rfl (by kernel_rfl) (fun _=>nlb rfl) ?_
 intro (l:Bs) hp hr
 try dsimp only [ru64_c] at hp
 try simp only [ru64_c,Rng,RngL,inR,and_true,true_and] at hr
 obtain ⟨hp1,hp2⟩:=hp;have hpn:rnu_c.pre (l,8):=⟨hp1,by omega,hp2⟩
 repeat' (first|(with_reducible refine Unf.h ?_)|((conv=>whnf);first|(refine Side.mk ?_ ?_;focus (first|with_reducible rfl|assumption|(refine congrArg (SV.int _) ?_;omega)|(dsimp only [resS,ru64_c];done)))|refine RetE.mk () trivial ?_|refine Got.mk (fun _ _=>?_)|refine retK_r ?_|exact rfl|refine CallS.mk (c:=rnu_c) ((l,8)) ?_)|fail);all_goals try (conv=>whnf);all_goals try (exfalso;omega)
def rpl_c:Ctr where
 D:=Bs×Nat
 pre:=fun (l,n)=>n≤l.length∧l.length≤1000000
 args:=fun (_,n)=>[.ptr 0 0,.int .i64 (n:Int)]
 objs:=fun (l,_)=>[(0,rdO l)]
 nn:=1
 res:=fun (l,n) _=>.fs 1 eB (l.take n)
 out:=fun (l,n) _=>[(0,rdO (l.drop n))]
def rpl_H:Cfg:=⟨[(110,rtk_c)],[],[],[],8,1,[],[],[]⟩
theorem rpl_ok:rpl_c.Ok Tryz.prog 77:=by
 refine fn_ok rpl_H 1 rfl _ Tryz.func77 rfl rfl ⟨rtk_ok,trivial⟩ rfl rfl (by kernel_rfl) (fun _=>nlb rfl) ?_
 rintro ⟨l,n⟩ hp hr
 try dsimp only [rpl_c] at hp
 try simp only [rpl_c,Rng,RngL,inR,and_true,true_and] at hr
 have hpt:rtk_c.pre (l,n):=hp
 repeat' (first|(with_reducible refine Unf.h ?_)|((conv=>whnf);first|(refine Side.mk ?_ ?_;focus (first|with_reducible rfl|assumption))|refine RetE.mk () trivial ?_|refine Got.mk (fun _ _=>?_)|refine retK_r ?_|exact rfl|refine CallS.mk (c:=rtk_c) ((l,n)) ?_)|fail);all_goals try (conv=>whnf);all_goals try (exfalso;omega)
def rst_c:Ctr where
 D:=Bs×Nat
 pre:=fun (l,m)=>2≤l.length∧l.length≤1000000∧m<1000000∧(beV (l.take 2)).toNat≤m∧(beV (l.take 2)).toNat≤8192∧(beV (l.take 2)).toNat+2≤l.length
 args:=fun (_,m)=>[.ptr 0 0,.int .i64 (m:Int)]
 objs:=fun (l,_)=>[(0,rdO l)]
 nn:=1
 res:=fun (l,_) _=>.fs 1 eB ((l.drop 2).take (beV (l.take 2)).toNat)
 out:=fun (l,_) _=>[(0,rdO ((l.drop 2).drop (beV (l.take 2)).toNat))]
def rst_H:Cfg:=⟨[(78,rpk_c),(80,rnu_c),(110,rtk_c),(81,rlf_c)],[],[],[],40,1,[],[],[]⟩
theorem rst_ok:rst_c.Ok Tryz.prog 75:=by
 refine fn_ok rst_H 1 rfl _ Tryz.func75 rfl rfl ⟨rpk_ok,rnu_ok,rtk_ok,rlf_ok,trivial⟩ rfl rfl (by kernel_rfl) (fun _=>nlb rfl) ?_
 rintro ⟨l,m⟩ hp hr
 try dsimp only [rst_c] at hp
 try simp only [rst_c,Rng,RngL,inR,and_true,true_and] at hr
 obtain ⟨hp1,hp2,hp3,hp4,hp5,hp6⟩:=hp;have hp1:2≤l.length:=hp1;have hp2:l.length≤1000000:=hp2;have hp3:m<1000000:=hp3;have hp4:(beV (l.take 2)).toNat≤m:=hp4;have hp5:(beV (l.take 2)).toNat≤8192:=hp5;have hp6:(beV (l.take 2)).toNat+2≤l.length:=hp6;have e8:¬ (8192#64).toNat<(beV (l.take 2)).toNat:=by
   rw [show (8192#64).toNat=8192 from rfl];omega
 have hpp:rpk_c.pre (l,2):=⟨hp1,by omega⟩
 have hpn:rnu_c.pre (l,2):=⟨hp1,by omega,hp2⟩
 have hpt:rtk_c.pre (l.drop 2,(beV (l.take 2)).toNat):=⟨by simp;omega,by simp;omega⟩
 repeat' (first|(with_reducible refine Unf.h ?_)|((conv=>whnf);first|refine Fork.mk (fun h=>?_) (fun h=>?_)|(refine Side.mk ?_ ?_;focus (first|with_reducible rfl|assumption|omega|(refine congrArg (SV.int _) ?_;omega)))|refine Got.mk (fun _ _=>?_)|refine CallS.mk (c:=rpk_c) ((l,2)) ?_)|fail);all_goals try (conv=>whnf);all_goals try (exfalso;omega)
 repeat' (first|(with_reducible refine Unf.h ?_)|((conv=>whnf);first|refine Fork.mk (fun h=>?_) (fun h=>?_)|(refine Side.mk ?_ ?_;focus (first|with_reducible rfl|exact True.intro|assumption|omega|(refine congrArg (SV.int _) ?_;omega)|(intros;(try simp only [lenS,inR,cutS,loI,hiI] at *);omega)))|refine RetE.mk () trivial ?_|refine Got.mk (fun _ _=>?_)|refine retK_r ?_|exact rfl|refine CallS.mk (c:=rlf_c) (l) ?_|refine CallS.mk (c:=rnu_c) ((l,2)) ?_|refine CallS.mk (c:=rtk_c) ((l.drop 2,(beV (l.take 2)).toNat)) ?_)|fail);all_goals try (conv=>whnf);all_goals try (exfalso;omega)
 all_goals exact absurd (by assumption) e8
def wwi_c:Ctr where
 D:=Bs×Int×Int
 pre:=fun (_,x,m)=>0≤x∧x≤m
 args:=fun (_,x,m)=>[.ptr 0 0,.int .i64 x,.int .i64 m]
 objs:=fun (b,_,_)=>[(0,.box 200 [.own 1,.bool false]),(1,.row 5 1 eB b)]
 nn:=2
 res:=fun _ _=>.bool true
 out:=fun (b,_,_) _=>[(0,.box 200 [.own 1,.bool false]),(1,.row 5 1 eB b)]
def wwi_H:Cfg:=⟨[],[],[],[],24,2,[],[],[]⟩
theorem wwi_ok:wwi_c.Ok Tryz.prog 113:=by
 refine fn_ok wwi_H 2 rfl _ Tryz.func113 rfl rfl trivial rfl rfl (by kernel_rfl) (fun _=>nlb rfl) ?_
 rintro ⟨b,x,m⟩ hp hr
 try dsimp only [wwi_c] at hp
 try simp only [wwi_c,Rng,RngL,inR,and_true,true_and] at hr
 obtain ⟨hp1,hp2⟩:=hp;have hp1:0≤x:=hp1;have hp2:x≤m:=hp2
 repeat' (first|(with_reducible refine Unf.h ?_)|((conv=>whnf);first|refine Fork.mk (fun h=>?_) (fun h=>?_)|(refine Side.mk ?_ ?_;focus (first|with_reducible rfl|(simp [*];done)))|refine RetE.mk () trivial ?_|refine retK_r ?_|exact rfl)|fail);all_goals try (conv=>whnf);all_goals try (exfalso;omega)
def wu64_c:Ctr where
 D:=Bs×BitVec 64
 pre:=fun (b,_)=>b.length≤1000000
 args:=fun (_,x)=>[.ptr 0 0,.u64 x]
 objs:=fun (b,_)=>[(0,.box 200 [.own 1,.bool false]),(1,.row 5 1 eB b)]
 nn:=2
 res:=fun _ _=>.tup []
 out:=fun (b,x) _=>[(0,.box 200 [.own 2,.bool false]),(2,.row 5 1 eB (b++beN 8 x))]
 mm:=1
def wu64_H:Cfg:=⟨[(112,wnum_c)],[],[],[],7,2,[],[],[]⟩
theorem wu64_ok:wu64_c.Ok Tryz.prog 87:=by
 refine fn_ok wu64_H 2 rfl _ Tryz.func87 rfl rfl ⟨wnum_ok,trivial⟩ rfl rfl (by kernel_rfl) (fun _=>nlb rfl) ?_
 rintro ⟨b,x⟩ hp hr
 try dsimp only [wu64_c] at hp
 try simp only [wu64_c,Rng,RngL,inR,and_true,true_and] at hr
 have hp:b.length≤1000000:=hp;have hpn:wnum_c.pre (b,x,8):=⟨by omega,hp⟩
 repeat' (first|(with_reducible refine Unf.h ?_)|fail);all_goals try (conv=>whnf);all_goals try (exfalso;omega)
 refine CallS.mk (c:=wnum_c) ((b,x,8)) ?_
 repeat' (first|(with_reducible refine Unf.h ?_)|((conv=>whnf);first|(refine Side.mk ?_ ?_;focus (first|with_reducible rfl|assumption|(refine congrArg (SV.int _) ?_;omega)))|refine RetE.mk () trivial ?_|refine Got.mk (fun _ _=>?_)|refine retK_n ?_|exact rfl)|fail);all_goals try (conv=>whnf);all_goals try (exfalso;omega)
def wflg_c:Ctr where
 D:=Bs×Bool
 pre:=fun (b,_)=>b.length≤1000000
 args:=fun (_,x)=>[.ptr 0 0,.bool x]
 objs:=fun (b,_)=>[(0,.box 200 [.own 1,.bool false]),(1,.row 5 1 eB b)]
 nn:=2
 res:=fun _ _=>.tup []
 out:=fun (b,x) _=>[(0,.box 200 [.own 2,.bool false]),(2,.row 5 1 eB (b++beN 1 (if x then 1#64 else 0#64)))]
 mm:=1
def wflg_H:Cfg:=⟨[(112,wnum_c)],[],[],[],9,2,[],[],[]⟩
theorem wflg_ok:wflg_c.Ok Tryz.prog 83:=by
 refine fn_ok wflg_H 2 rfl _ Tryz.func83 rfl rfl ⟨wnum_ok,trivial⟩ rfl rfl (by kernel_rfl) (fun _=>nlb rfl) ?_
 rintro ⟨b,x⟩ hp hr
 try dsimp only [wflg_c] at hp
 try simp only [wflg_c,Rng,RngL,inR,and_true,true_and] at hr
 have hp:b.length≤1000000:=hp;have hpn:∀ y,wnum_c.pre (b,y,1):=fun _=>⟨by omega,hp⟩
 cases x
 · have e:(if false=true then 1#64 else 0#64)=0#64:=rfl
   have hpn:=hpn 0#64
   repeat' (first|(with_reducible refine Unf.h ?_)|fail);all_goals try (conv=>whnf);all_goals try (exfalso;omega)
   refine CallS.mk (c:=wnum_c) ((b,0#64,1)) ?_
   repeat' (first|(with_reducible refine Unf.h ?_)|((conv=>whnf);first|(refine Side.mk ?_ ?_;focus (first|with_reducible rfl|assumption|(refine congrArg (SV.int _) ?_;omega)|(simp only [*,e];done)))|refine RetE.mk () trivial ?_|refine Got.mk (fun _ _=>?_)|refine retK_n ?_|exact rfl)|fail);all_goals try (conv=>whnf);all_goals try (exfalso;omega)
 · have e:(if true=true then 1#64 else 0#64)=1#64:=rfl
   have hpn:=hpn 1#64
   repeat' (first|(with_reducible refine Unf.h ?_)|fail);all_goals try (conv=>whnf);all_goals try (exfalso;omega)
   refine CallS.mk (c:=wnum_c) ((b,1#64,1)) ?_
   repeat' (first|(with_reducible refine Unf.h ?_)|((conv=>whnf);first|(refine Side.mk ?_ ?_;focus (first|with_reducible rfl|assumption|(refine congrArg (SV.int _) ?_;omega)|(simp [*,e];done)))|refine RetE.mk () trivial ?_|refine Got.mk (fun _ _=>?_)|refine retK_n ?_|exact rfl)|fail);all_goals try (conv=>whnf);all_goals try (exfalso;omega)
def strB (v:Bs):Bs:=beN 2 (BitVec.ofInt 64 (v.length:Int))++v
def wstr_c:Ctr where
 D:=Bs×Bs
 pre:=fun (b,v)=>b.length≤900000∧v.length≤8192
 args:=fun (_,v)=>[.ptr 0 0,.fs 1 eB v]
 objs:=fun (b,_)=>[(0,.box 200 [.own 1,.bool false]),(1,.row 5 1 eB b)]
 nn:=2
 res:=fun _ _=>.tup []
 out:=fun (b,v) _=>[(0,.box 200 [.own 2,.bool false]),(2,.row 5 1 eB (b++strB v))]
 mm:=1
def wstr_H:Cfg:=⟨[(113,wwi_c),(112,wnum_c),(90,wplain_c)],[],[],[],16,2,[],[],[]⟩
theorem wstr_ok:wstr_c.Ok Tryz.prog 111:=by
 refine fn_ok wstr_H 2 rfl _ Tryz.func111 rfl rfl ⟨wwi_ok,wnum_ok,wplain_ok,trivial⟩ rfl rfl (by kernel_rfl) (fun _=>nlb rfl) ?_
 rintro ⟨b,v⟩ hp hr
 try dsimp only [wstr_c] at hp
 try simp only [wstr_c,Rng,RngL,inR,and_true,true_and] at hr
 obtain ⟨hp1,hp2⟩:=hp;have hp1:b.length≤900000:=hp1;have hp2:v.length≤8192:=hp2;have hpi:wwi_c.pre (b,(v.length:Int),8192):=⟨by omega,by omega⟩
 have hpn:wnum_c.pre (b,BitVec.ofInt 64 (v.length:Int),2):=⟨by omega,by show b.length≤1000000;omega⟩
 have hpp:wplain_c.pre (b++beN 2 (BitVec.ofInt 64 (v.length:Int)),v):=⟨by simp [beN_len];omega,by show v.length≤1000000;omega⟩
 have es:b++strB v=b++beN 2 (BitVec.ofInt 64 (v.length:Int))++v:=by unfold strB;rw [List.append_assoc]
 repeat' (first|(with_reducible refine Unf.h ?_)|((conv=>whnf);first|(refine Side.mk ?_ ?_;focus (first|with_reducible rfl|assumption|(refine congrArg (SV.int _) ?_;omega)|(simp only [*];done)))|refine RetE.mk () trivial ?_|refine Got.mk (fun _ _=>?_)|refine retK_n ?_|exact rfl|refine CallS.mk (c:=wwi_c) ((b,(v.length:Int),8192)) ?_|refine CallS.mk (c:=wnum_c) ((b,BitVec.ofInt 64 (v.length:Int),2)) ?_|refine CallS.mk (c:=wplain_c) ((b++beN 2 (BitVec.ofInt 64 (v.length:Int)),v)) ?_)|fail);all_goals try (conv=>whnf);all_goals try (exfalso;omega)
 all_goals
   all_goals try (conv=>whnf);all_goals try (exfalso;omega)
theorem nilsLL_rep (n:Nat):nilsLL (List.replicate n [SV.u8 0#8])=false:=by
 induction n with
 | zero=>rfl
 | succ n ih=>rw [List.replicate_succ];exact ih
def encS (s:BitVec 64) (v:Bs):Bs:=beN 8 s++strB v++List.replicate (110 - v.length) 0#8++beN 8 s
def sten_c:Ctr where
 D:=BitVec 64×Bs
 pre:=fun (_,v)=>v.length≤110
 args:=fun (s,v)=>[.u64 s,.fs 1 eB v]
 res:=fun (s,v) _=>.tup [.fs 1 eB (encS s v),.int .i64 0]
def sten_H:Cfg:=⟨[(87,wu64_c),(111,wstr_c),(90,wplain_c),(85,wout_c)],[],[],[],28,0,[],[],[]⟩
theorem sten_ok:sten_c.Ok Tryz.prog 82:=by
 refine fn_ok sten_H 0 rfl _ Tryz.func82 rfl rfl ⟨wu64_ok,wstr_ok,wplain_ok,wout_ok,trivial⟩ rfl rfl (by kernel_rfl) (fun _=>nlb rfl) ?_
 rintro ⟨s,v⟩ hp hr
 try dsimp only [sten_c] at hp
 try simp only [sten_c,Rng,RngL,inR,and_true,true_and] at hr
 have hp:v.length≤110:=hp;have ek:(110:Int) - (v.length:Int)=((110 - v.length:Nat):Int):=by omega
 have hk:110 - v.length≤110:=by omega
 have es:encS s v=[]++beN 8 s++strB v++List.replicate (110 - v.length) 0#8++beN 8 s:=rfl;have hls:(strB v).length=v.length+2:=by unfold strB;simp [beN_len];omega
 have hl8:(beN 8 s).length=8:=beN_len s 8;generalize 110 - v.length=k at *;have hp1:wu64_c.pre ([],s):=show 0≤1000000 by omega
 have hp2:wstr_c.pre ([]++beN 8 s,v):=⟨by simp [hl8],by omega⟩
 have hp3:wplain_c.pre ([]++beN 8 s++strB v,List.replicate k 0#8):=⟨by simp [hl8,hls];omega,by simp;omega⟩
 have hp4:wu64_c.pre ([]++beN 8 s++strB v++List.replicate k 0#8,s):=by
   show ([]++beN 8 s++strB v++List.replicate k 0#8).length≤1000000
   simp [hl8,hls];omega
 have hp5:wout_c.pre ([]++beN 8 s++strB v++List.replicate k 0#8++beN 8 s):=by
   show ([]++beN 8 s++strB v++List.replicate k 0#8++beN 8 s).length≤1000000
   simp [hl8,hls];omega
 repeat' (first|(with_reducible refine Unf.h ?_)|fail);all_goals try (conv=>whnf);all_goals try (exfalso;omega)
 refine CallS.mk (c:=wu64_c) (([],s)) ?_
 repeat' (first|(with_reducible refine Unf.h ?_)|((conv=>whnf);first|(refine Side.mk ?_ ?_;focus (first|with_reducible rfl|assumption))|refine Got.mk (fun _ _=>?_))|fail);all_goals try (conv=>whnf);all_goals try (exfalso;omega)
 refine CallS.mk (c:=wstr_c) (([]++beN 8 s,v)) ?_
 repeat' (first|(with_reducible refine Unf.h ?_)|((conv=>whnf);first|(refine Side.mk ?_ ?_;focus (first|with_reducible rfl|assumption|(intros;(try simp only [lenS,inR,cutS,loI,hiI] at *);omega)))|refine Got.mk (fun _ _=>?_))|fail);all_goals try (conv=>whnf);all_goals try (exfalso;omega)
 rw [ek];rcases k with _|k
 · repeat' (first|(with_reducible refine Unf.h ?_)|((conv=>whnf);(refine Side.mk ?_ ?_;focus (omega)))|fail);all_goals try (conv=>whnf);all_goals try (exfalso;omega)
   refine CallS.mk (c:=wplain_c) (([]++beN 8 s++strB v,List.replicate 0 0#8)) ?_
   repeat' (first|(with_reducible refine Unf.h ?_)|((conv=>whnf);first|(refine Side.mk ?_ ?_;focus (first|with_reducible rfl|assumption|(simp [*];done)))|refine Got.mk (fun _ _=>?_))|fail);all_goals try (conv=>whnf);all_goals try (exfalso;omega)
   refine CallS.mk (c:=wu64_c) (([]++beN 8 s++strB v++List.replicate 0 0#8,s)) ?_
   repeat' (first|(with_reducible refine Unf.h ?_)|((conv=>whnf);first|(refine Side.mk ?_ ?_;focus (first|with_reducible rfl|assumption))|refine Got.mk (fun _ _=>?_))|fail);all_goals try (conv=>whnf);all_goals try (exfalso;omega)
   refine CallS.mk (c:=wout_c) (([]++beN 8 s++strB v++List.replicate 0 0#8++beN 8 s)) ?_
   repeat' (first|(with_reducible refine Unf.h ?_)|((conv=>whnf);(refine Side.mk ?_ ?_;focus (with_reducible rfl)))|fail);all_goals try (conv=>whnf);all_goals try (exfalso;omega)
   refine Side.mk rfl ?_
   repeat' (first|(with_reducible refine Unf.h ?_)|((conv=>whnf);first|(refine Side.mk ?_ ?_;focus (assumption))|refine RetE.mk () trivial ?_|refine Got.mk (fun _ _=>?_)|refine retK_r ?_)|fail);all_goals try (conv=>whnf);all_goals try (exfalso;omega)
   refine Side.mk (by rw [es];rfl) ?_
   repeat' (first|(with_reducible refine Unf.h ?_)|((conv=>whnf);first|(refine Side.mk ?_ ?_;focus (with_reducible rfl))|exact rfl)|fail);all_goals try (conv=>whnf);all_goals try (exfalso;omega)
 · repeat' (first|(with_reducible refine Unf.h ?_)|((conv=>whnf);(refine Side.mk ?_ ?_;focus ((dsimp only;omega))))|fail);all_goals try (conv=>whnf);all_goals try (exfalso;omega)
   refine CallS.mk (c:=wplain_c) (([]++beN 8 s++strB v,List.replicate (k+1) 0#8)) ?_
   repeat' (first|(with_reducible refine Unf.h ?_)|fail);all_goals try (conv=>whnf);all_goals try (exfalso;omega)
   rw [nilsLL_rep]
   repeat' (first|(with_reducible refine Unf.h ?_)|((conv=>whnf);first|(refine Side.mk ?_ ?_;focus (first|with_reducible rfl|assumption|(simp only [*,List.map_replicate,Int.toNat_natCast];done)))|refine Got.mk (fun _ _=>?_))|fail);all_goals try (conv=>whnf);all_goals try (exfalso;omega)
   refine CallS.mk (c:=wu64_c) (([]++beN 8 s++strB v++List.replicate (k+1) 0#8,s)) ?_
   repeat' (first|(with_reducible refine Unf.h ?_)|((conv=>whnf);first|(refine Side.mk ?_ ?_;focus (first|with_reducible rfl|assumption))|refine Got.mk (fun _ _=>?_))|fail);all_goals try (conv=>whnf);all_goals try (exfalso;omega)
   refine CallS.mk (c:=wout_c) (([]++beN 8 s++strB v++List.replicate (k+1) 0#8++beN 8 s)) ?_
   repeat' (first|(with_reducible refine Unf.h ?_)|((conv=>whnf);(refine Side.mk ?_ ?_;focus (with_reducible rfl)))|fail);all_goals try (conv=>whnf);all_goals try (exfalso;omega)
   refine Side.mk rfl ?_
   repeat' (first|(with_reducible refine Unf.h ?_)|((conv=>whnf);first|(refine Side.mk ?_ ?_;focus (assumption))|refine RetE.mk () trivial ?_|refine Got.mk (fun _ _=>?_)|refine retK_r ?_)|fail);all_goals try (conv=>whnf);all_goals try (exfalso;omega)
   refine Side.mk (by rw [es];rfl) ?_
   repeat' (first|(with_reducible refine Unf.h ?_)|((conv=>whnf);first|(refine Side.mk ?_ ?_;focus (with_reducible rfl))|exact rfl)|fail);all_goals try (conv=>whnf);all_goals try (exfalso;omega)
abbrev z128:Bs:=List.replicate 128 0#8
theorem zeroPg_list:zeroPg.toList=z128:=by simp only [zeroPg,Vector.toList_replicate]
theorem zl (n:Nat):(List.replicate n 0#8).length=n:=List.length_replicate
theorem zd (m n:Nat):List.drop m (List.replicate n 0#8)=List.replicate (n - m) 0#8:=List.drop_replicate
theorem zb (m n:Nat):beV (List.take m (List.replicate n 0#8))=0#64:=by rw [List.take_replicate];exact beV_zero _
def sdcZ_c:Ctr where
 D:=Unit
 args:=fun _=>[.fs 1 eB z128]
 res:=fun _ _=>.tup [.u64 0#64,.fs 1 eB [],.bool false]
def sdcZ_H:Cfg:=⟨[(41,rnew_c),(74,ru64_c),(75,rst_c),(76,rfl_c),(77,rpl_c),(44,rdn_c)],[],[],[],35,0,[],[],[]⟩
theorem sdcZ_ok:sdcZ_c.Ok Tryz.prog 40:=by
 refine fn_ok sdcZ_H 0 rfl _ Tryz.func40 rfl rfl ⟨rnew_ok,ru64_ok,rst_ok,rfl_ok,rpl_ok,rdn_ok,trivial⟩ rfl rfl (by kernel_rfl) (fun _=>nlb rfl) ?_
 intro (_:Unit) hp hr
 try dsimp only [sdcZ_c] at hp
 try simp only [sdcZ_c,Rng,RngL,inR,and_true,true_and] at hr
 have hp1:rnew_c.pre z128:=by show z128.length≤1000000;rw [zl];omega
 have hp2:ru64_c.pre z128:=by exact ⟨by rw [zl];omega,by rw [zl];omega⟩
 have e2:beV (List.take 8 z128)=0#64:=zb _ _;have f2:List.drop 8 z128=List.replicate 120 0#8:=zd _ _;have e3:beV (List.take 2 (List.replicate 120 0#8))=0#64:=zb _ _;have e3n:(beV (List.take 2 (List.replicate 120 0#8))).toNat=0:=by rw [e3];rfl
 have hp3:rst_c.pre (List.replicate 120 0#8,110):=⟨by rw [zl];omega,by rw [zl];omega,by omega,by rw [e3n];omega,by rw [e3n];omega,by rw [e3n,zl];omega⟩
 have f3:List.drop (beV (List.take 2 (List.replicate 120 0#8))).toNat (List.drop 2 (List.replicate 120 0#8))=List.replicate 118 0#8:=by rw [e3n,zd,zd]
 have g3:List.take (beV (List.take 2 (List.replicate 120 0#8))).toNat (List.drop 2 (List.replicate 120 0#8))=[]:=by rw [e3n];rfl
 have hp4:rpl_c.pre (List.replicate 118 0#8,110):=by exact ⟨by rw [zl];omega,by rw [zl];omega⟩
 have f4:List.drop 110 (List.replicate 118 0#8)=List.replicate 8 0#8:=zd _ _;have hp5:ru64_c.pre (List.replicate 8 0#8):=by exact ⟨by rw [zl];omega,by rw [zl];omega⟩
 have e5:beV (List.take 8 (List.replicate 8 0#8))=0#64:=zb _ _
 repeat' (first|(with_reducible refine Unf.h ?_)|fail);all_goals try (conv=>whnf);all_goals try (exfalso;omega)
 refine CallS.mk (c:=rnew_c) (z128) ?_
 repeat' (first|(with_reducible refine Unf.h ?_)|((conv=>whnf);first|(refine Side.mk ?_ ?_;focus (first|with_reducible rfl|assumption))|refine Got.mk (fun _ _=>?_))|fail);all_goals try (conv=>whnf);all_goals try (exfalso;omega)
 refine CallS.mk (c:=ru64_c) (z128) ?_
 repeat' (first|(with_reducible refine Unf.h ?_)|((conv=>whnf);first|(refine Side.mk ?_ ?_;focus (first|with_reducible rfl|assumption))|refine Got.mk (fun _ _=>?_))|fail);all_goals try (conv=>whnf);all_goals try (exfalso;omega)
 refine CallS.mk (c:=rst_c) ((List.replicate 120 0#8,110)) ?_
 repeat' (first|(with_reducible refine Unf.h ?_)|((conv=>whnf);first|(refine Side.mk ?_ ?_;focus (first|with_reducible rfl|assumption|(refine congrArg (SV.int _) ?_;omega)|(simp only [*,f3,g3,f2,e2];done)))|refine Got.mk (fun _ _=>?_))|fail);all_goals try (conv=>whnf);all_goals try (exfalso;omega)
 refine CallS.mk (c:=rfl_c) ((List.replicate 118 0#8)) ?_
 repeat' (first|(with_reducible refine Unf.h ?_)|fail);all_goals try (conv=>whnf);all_goals try (exfalso;omega)
 refine Side.mk (by rw [f3]) ?_
 repeat' (first|(with_reducible refine Unf.h ?_)|((conv=>whnf);first|(refine Side.mk ?_ ?_;focus (first|with_reducible rfl|exact True.intro|(intros;(try simp only [lenS,inR,cutS,loI,hiI] at *);omega)))|refine Got.mk (fun _ _=>?_))|fail);all_goals try (conv=>whnf);all_goals try (exfalso;omega)
 refine CallS.mk (c:=rpl_c) ((List.replicate 118 0#8,110)) ?_
 repeat' (first|(with_reducible refine Unf.h ?_)|fail);all_goals try (conv=>whnf);all_goals try (exfalso;omega)
 refine Side.mk (by rw [g3];rfl) ?_
 repeat' (first|(with_reducible refine Unf.h ?_)|((conv=>whnf);first|(refine Side.mk ?_ ?_;focus (first|with_reducible rfl|assumption))|refine Got.mk (fun _ _=>?_))|fail);all_goals try (conv=>whnf);all_goals try (exfalso;omega)
 refine CallS.mk (c:=ru64_c) ((List.replicate 8 0#8)) ?_
 repeat' (first|(with_reducible refine Unf.h ?_)|((conv=>whnf);first|refine Fork.mkn (fun h=>?_) (fun h=>?_)|refine Fork.mk (fun h=>?_) (fun h=>?_)|(refine Side.mk ?_ ?_;focus (first|with_reducible rfl|assumption|(simp only [*];done)))|refine RetE.mk () trivial ?_|refine Got.mk (fun _ _=>?_)|refine retK_r ?_)|fail);all_goals try (conv=>whnf);all_goals try (exfalso;omega)
 · exact absurd e2 (by assumption)
 all_goals
   refine Side.mk (by rw [g3]) ?_
   repeat' (first|(with_reducible refine Unf.h ?_)|((conv=>whnf);first|(refine Side.mk ?_ ?_;focus (with_reducible rfl))|exact rfl)|fail);all_goals try (conv=>whnf);all_goals try (exfalso;omega)
def sldZ_c:Ctr where
 D:=List Pg×List Pg×List (Nat×Pg)
 pre:=fun (L,S,_)=>2≤L.length∧S[0]?=some zeroPg∧S[1]?=some zeroPg
 args:=fun _=>[.ptr 0 0,.int .i64 0]
 objs:=fun (L,S,q)=>devs L S q
 nn:=4
 res:=fun _ _=>.tup [.u64 0#64,.nils,.int .i64 0]
 out:=fun (L,S,q) _=>devs L S q
def sldZ_H:Cfg:=⟨[(39,drd_c),(40,sdcZ_c)],[],[],[],55,4,[],[],[]⟩
theorem sldZ_ok:sldZ_c.Ok Tryz.prog 18:=by
 refine fn_ok sldZ_H 4 rfl _ Tryz.func18 rfl rfl ⟨drd_ok,sdcZ_ok,trivial⟩ rfl rfl (by kernel_rfl) (fun _=>nlb rfl) ?_
 rintro ⟨L,S,q⟩ hp hr
 try dsimp only [sldZ_c] at hp
 try simp only [sldZ_c,Rng,RngL,inR,and_true,true_and] at hr
 obtain ⟨hp1,hp2,hp3⟩:=hp;have hp1:2≤L.length:=hp1;have hp2:S[0]?=some zeroPg:=hp2;have hp3:S[1]?=some zeroPg:=hp3;have hr0:drd_c.pre ((L,S,q),0,zeroPg):=⟨by show 0<L.length;omega,hp2⟩
 have hr1:drd_c.pre ((L,S,q),1,zeroPg):=⟨by show 1<L.length;omega,hp3⟩
 have el:=zeroPg_list
 repeat' (first|(with_reducible refine Unf.h ?_)|fail);all_goals try (conv=>whnf);all_goals try (exfalso;omega)
 refine LoopS.autoN (I:=Nat) (fun i=>i≤2) (fun i=>[(17,.int .i64 (i:Int)),(7,.u64 0#64),(8,.nils)]) (fun _=>devs L S q) 4 (fun i=>2 - i) 0 (Nat.zero_le _) ?_ ?_
 · repeat' (first|(with_reducible refine Unf.h ?_)|((conv=>whnf);first|(refine Side.mk ?_ ?_;focus (first|with_reducible rfl|(refine congrArg (SV.int _) ?_;omega)))|(with_reducible refine Unf.h ?_)|exact True.intro)|fail);all_goals try (conv=>whnf);all_goals try (exfalso;omega)
 · intro i hi
   have hi3:i=0∨i=1∨i=2:=by omega
   rcases hi3 with rfl|rfl|rfl
   · repeat' (first|(with_reducible refine Unf.h ?_)|((conv=>whnf);first|refine Fork.mk (fun h=>?_) (fun h=>?_)|(refine Side.mk ?_ ?_;focus ((intros;(try simp only [lenS,inR,cutS,loI,hiI] at *);omega))))|fail);all_goals try (conv=>whnf);all_goals try (exfalso;omega)
     refine CallS.mk (c:=drd_c) (((L,S,q),0,zeroPg)) ?_
     repeat' (first|(with_reducible refine Unf.h ?_)|((conv=>whnf);first|refine Fork.mkn (fun h=>?_) (fun h=>?_)|(refine Side.mk ?_ ?_;focus (first|with_reducible rfl|assumption|(refine congrArg (SV.int _) ?_;omega)))|refine Got.mk (fun _ _=>?_))|fail);all_goals try (conv=>whnf);all_goals try (exfalso;omega)
     refine CallS.mk (c:=sdcZ_c) (()) ?_
     repeat' (first|(with_reducible first|refine Unf.h ?_|refine loopK_n ?_)|((conv=>whnf);first|(refine Side.mk ?_ ?_;focus (first|exact True.intro|(intros;(try simp only [lenS,inR,cutS,loI,hiI] at *);omega)|(simp only [*];done)))|refine Got.mk (fun _ _=>?_))|fail);all_goals try (conv=>whnf);all_goals try (exfalso;omega)
     refine ⟨1,⟨by omega,by omega⟩,?_⟩
     repeat' (first|(with_reducible refine Unf.h ?_)|((conv=>whnf);first|(refine Side.mk ?_ ?_;focus (first|with_reducible rfl|(refine congrArg (SV.int _) ?_;omega)))|(with_reducible refine Unf.h ?_)|exact True.intro)|fail);all_goals try (conv=>whnf);all_goals try (exfalso;omega)
   · repeat' (first|(with_reducible refine Unf.h ?_)|((conv=>whnf);first|refine Fork.mk (fun h=>?_) (fun h=>?_)|(refine Side.mk ?_ ?_;focus ((intros;(try simp only [lenS,inR,cutS,loI,hiI] at *);omega))))|fail);all_goals try (conv=>whnf);all_goals try (exfalso;omega)
     refine CallS.mk (c:=drd_c) (((L,S,q),1,zeroPg)) ?_
     repeat' (first|(with_reducible refine Unf.h ?_)|((conv=>whnf);first|refine Fork.mkn (fun h=>?_) (fun h=>?_)|(refine Side.mk ?_ ?_;focus (first|with_reducible rfl|assumption|(refine congrArg (SV.int _) ?_;omega)))|refine Got.mk (fun _ _=>?_))|fail);all_goals try (conv=>whnf);all_goals try (exfalso;omega)
     refine CallS.mk (c:=sdcZ_c) (()) ?_
     repeat' (first|(with_reducible first|refine Unf.h ?_|refine loopK_n ?_)|((conv=>whnf);first|(refine Side.mk ?_ ?_;focus (first|exact True.intro|(intros;(try simp only [lenS,inR,cutS,loI,hiI] at *);omega)|(simp only [*];done)))|refine Got.mk (fun _ _=>?_))|fail);all_goals try (conv=>whnf);all_goals try (exfalso;omega)
     refine ⟨2,⟨by omega,by omega⟩,?_⟩
     repeat' (first|(with_reducible refine Unf.h ?_)|((conv=>whnf);first|(refine Side.mk ?_ ?_;focus (first|with_reducible rfl|(refine congrArg (SV.int _) ?_;omega)))|(with_reducible refine Unf.h ?_)|exact True.intro)|fail);all_goals try (conv=>whnf);all_goals try (exfalso;omega)
   · repeat' (first|(with_reducible refine Unf.h ?_)|((conv=>whnf);first|refine Fork.mk (fun h=>?_) (fun h=>?_)|(refine Side.mk ?_ ?_;focus (with_reducible rfl))|refine RetE.mk () trivial ?_|refine retK_r ?_|exact rfl)|fail);all_goals try (conv=>whnf);all_goals try (exfalso;omega)
def zu8_c:Ctr where
 D:=Nat
 pre:=fun k=>k≤1000
 args:=fun _=>[.ptr 0 0]
 objs:=fun k=>[(0,rdO (List.replicate (k+1) 0#8))]
 nn:=1
 res:=fun _ _=>.int .i64 0
 out:=fun k _=>[(0,rdO (List.replicate k 0#8))]
def zu8_H:Cfg:=⟨[(80,rnu_c)],[],[],[],6,1,[],[],[]⟩
theorem zu8_ok:zu8_c.Ok Tryz.prog 86:=by
 refine fn_ok zu8_H 1 rfl _ Tryz.func86 rfl rfl ⟨rnu_ok,trivial⟩ rfl rfl (by kernel_rfl) (fun _=>nlb rfl) ?_
 intro (k:Nat) hp hr
 try dsimp only [zu8_c] at hp
 try simp only [zu8_c,Rng,RngL,inR,and_true,true_and] at hr
 have hp:k≤1000:=hp;have hpn:rnu_c.pre (List.replicate (k+1) 0#8,1):=⟨by rw [zl];omega,by omega,by rw [zl];omega⟩
 have hb:(beV (List.take 1 (List.replicate (k+1) 0#8))).toNat=0:=by rw [zb];rfl
 repeat' (first|(with_reducible refine Unf.h ?_)|fail);all_goals try (conv=>whnf);all_goals try (exfalso;omega)
 refine CallS.mk (c:=rnu_c) ((List.replicate (k+1) 0#8,1)) ?_
 repeat' (first|(with_reducible refine Unf.h ?_)|((conv=>whnf);first|(refine Side.mk ?_ ?_;focus (first|with_reducible rfl|assumption|omega|(refine congrArg (SV.int _) ?_;omega)|(simp [*,hb];done)))|refine RetE.mk () trivial ?_|refine Got.mk (fun _ _=>?_)|refine retK_r ?_|exact rfl)|fail);all_goals try (conv=>whnf);all_goals try (exfalso;omega)
def zu64_c:Ctr where
 D:=Nat
 pre:=fun k=>k≤1000
 args:=fun _=>[.ptr 0 0]
 objs:=fun k=>[(0,rdO (List.replicate (k+8) 0#8))]
 nn:=1
 res:=fun _ _=>.u64 0#64
 out:=fun k _=>[(0,rdO (List.replicate k 0#8))]
def zu64_H:Cfg:=⟨[(80,rnu_c)],[],[],[],5,1,[],[],[]⟩
theorem zu64_ok:zu64_c.Ok Tryz.prog 74:=by
 refine fn_ok zu64_H 1 rfl _ Tryz.func74 rfl rfl ⟨rnu_ok,trivial⟩ rfl rfl (by kernel_rfl) (fun _=>nlb rfl) ?_
 intro (k:Nat) hp hr
 try dsimp only [zu64_c] at hp
 try simp only [zu64_c,Rng,RngL,inR,and_true,true_and] at hr
 have hp:k≤1000:=hp;have hpn:rnu_c.pre (List.replicate (k+8) 0#8,8):=⟨by rw [zl];omega,by omega,by rw [zl];omega⟩
 have hd:List.drop 8 (List.replicate (k+8) 0#8)=List.replicate k 0#8:=by rw [zd,Nat.add_sub_cancel]
 repeat' (first|(with_reducible refine Unf.h ?_)|fail);all_goals try (conv=>whnf);all_goals try (exfalso;omega)
 refine CallS.mk (c:=rnu_c) ((List.replicate (k+8) 0#8,8)) ?_
 repeat' (first|(with_reducible refine Unf.h ?_)|((conv=>whnf);first|(refine Side.mk ?_ ?_;focus (first|with_reducible rfl|assumption|(refine congrArg (SV.int _) ?_;omega)))|refine RetE.mk () trivial ?_|refine Got.mk (fun _ _=>?_)|refine retK_r ?_)|fail);all_goals try (conv=>whnf);all_goals try (exfalso;omega)
 refine Side.mk (by rw [zb];rfl) ?_
 repeat' (first|(with_reducible refine Unf.h ?_)|((conv=>whnf);first|(refine Side.mk ?_ ?_;focus (first|with_reducible rfl|(simp only [*,hd];done)))|exact rfl)|fail);all_goals try (conv=>whnf);all_goals try (exfalso;omega)
 all_goals rfl
def zpl_c:Ctr where
 D:=Nat×Nat
 pre:=fun (n,k)=>n≤1000∧k≤1000
 args:=fun (n,_)=>[.ptr 0 0,.int .i64 (n:Int)]
 objs:=fun (n,k)=>[(0,rdO (List.replicate (k+n) 0#8))]
 nn:=1
 res:=fun (n,_) _=>.fs 1 eB (List.replicate n 0#8)
 out:=fun (_,k) _=>[(0,rdO (List.replicate k 0#8))]
def zpl_H:Cfg:=⟨[(110,rtk_c)],[],[],[],8,1,[],[],[]⟩
theorem zpl_ok:zpl_c.Ok Tryz.prog 77:=by
 refine fn_ok zpl_H 1 rfl _ Tryz.func77 rfl rfl ⟨rtk_ok,trivial⟩ rfl rfl (by kernel_rfl) (fun _=>nlb rfl) ?_
 rintro ⟨n,k⟩ hp hr
 try dsimp only [zpl_c] at hp
 try simp only [zpl_c,Rng,RngL,inR,and_true,true_and] at hr
 obtain ⟨hp1,hp2⟩:=hp;have hp1:n≤1000:=hp1;have hp2:k≤1000:=hp2;have hpn:rtk_c.pre (List.replicate (k+n) 0#8,n):=⟨by rw [zl];omega,by rw [zl];omega⟩
 have hd:List.drop n (List.replicate (k+n) 0#8)=List.replicate k 0#8:=by rw [zd,Nat.add_sub_cancel]
 have ht:List.take n (List.replicate (k+n) 0#8)=List.replicate n 0#8:=by rw [List.take_replicate,Nat.min_eq_left (by omega)]
 repeat' (first|(with_reducible refine Unf.h ?_)|fail);all_goals try (conv=>whnf);all_goals try (exfalso;omega)
 refine CallS.mk (c:=rtk_c) ((List.replicate (k+n) 0#8,n)) ?_
 repeat' (first|(with_reducible refine Unf.h ?_)|((conv=>whnf);first|(refine Side.mk ?_ ?_;focus (first|with_reducible rfl|assumption|(simp only [*,hd,ht];done)))|refine RetE.mk () trivial ?_|refine Got.mk (fun _ _=>?_)|refine retK_r ?_|exact rfl)|fail);all_goals try (conv=>whnf);all_goals try (exfalso;omega)
def wpdZ_c:Ctr where
 D:=BitVec 32
 args:=fun l=>[.fs 1 eB z128,.int .i64 1,.u32 l]
 res:=fun _ _=>.tup [.agg [.u32 0#32,.int .i64 0,.int .i64 0,.fs 1 eB []],.bool false]
def wpdZ_H:Cfg:=⟨[(41,rnew_c),(74,zu64_c),(86,zu8_c),(77,zpl_c),(44,rdn_c)],[(16,[0,7,12,18],[22],(oB 0 (oA 1 (oA 2 (oA 3 (oA 4 (oA 5 (oA 6 (oB 7 (oA 8 (oA 9 (oA 10 (oA 11 (oB 12 (oA 13 (oA 14 (oA 15 (oA 16 (oA 17 (oB 18 (oA 19 (oA 20 (oA 21 (oD 22 (oA 23 .nil)))))))))))))))))))))))),[6])],[],[],89,0,[],[],[]⟩
theorem wpdZ_ok:wpdZ_c.Ok Tryz.prog 48:=by
 refine fn_ok wpdZ_H 0 rfl _ Tryz.func48 rfl rfl ⟨rnew_ok,zu64_ok,zu8_ok,zpl_ok,rdn_ok,trivial⟩ rfl rfl (by kernel_rfl) (fun _=>nlb rfl) ?_
 intro (l:BitVec 32) hp hr
 try dsimp only [wpdZ_c] at hp
 try simp only [wpdZ_c,Rng,RngL,inR,and_true,true_and] at hr
 have hp1:rnew_c.pre z128:=by show z128.length≤1000000;rw [zl];omega
 have hp2:zu64_c.pre (120:Nat):=show 120≤1000 by omega
 have hp3:zu8_c.pre (119:Nat):=show 119≤1000 by omega
 have hp4:zu8_c.pre (118:Nat):=show 118≤1000 by omega
 have hp5:zpl_c.pre (0,118):=⟨by omega,by omega⟩
 have hp6:zpl_c.pre (110,8):=⟨by omega,by omega⟩
 have hp7:zu64_c.pre (0:Nat):=show 0≤1000 by omega
 repeat' (first|(with_reducible refine Unf.h ?_)|fail);all_goals try (conv=>whnf);all_goals try (exfalso;omega)
 refine CallS.mk (c:=rnew_c) (z128) ?_
 repeat' (first|(with_reducible refine Unf.h ?_)|((conv=>whnf);first|(refine Side.mk ?_ ?_;focus (first|with_reducible rfl|assumption))|refine Got.mk (fun _ _=>?_))|fail);all_goals try (conv=>whnf);all_goals try (exfalso;omega)
 refine CallS.mk (c:=zu64_c) ((120:Nat)) ?_
 repeat' (first|(with_reducible refine Unf.h ?_)|((conv=>whnf);first|(refine Side.mk ?_ ?_;focus (first|with_reducible rfl|assumption))|refine Got.mk (fun _ _=>?_))|fail);all_goals try (conv=>whnf);all_goals try (exfalso;omega)
 refine CallS.mk (c:=zu8_c) ((119:Nat)) ?_
 repeat' (first|(with_reducible refine Unf.h ?_)|((conv=>whnf);first|(refine Side.mk ?_ ?_;focus (first|with_reducible rfl|assumption))|refine Got.mk (fun _ _=>?_))|fail);all_goals try (conv=>whnf);all_goals try (exfalso;omega)
 refine CallS.mk (c:=zu8_c) ((118:Nat)) ?_
 repeat' (first|(with_reducible refine Unf.h ?_)|((conv=>whnf);first|refine Fork.mk (fun h=>?_) (fun h=>?_)|(refine Side.mk ?_ ?_;focus (first|with_reducible rfl|assumption))|refine Got.mk (fun _ _=>?_))|fail);all_goals try (conv=>whnf);all_goals try (exfalso;omega)
 refine CallS.mk (c:=zpl_c) ((0,118)) ?_
 repeat' (first|(with_reducible refine Unf.h ?_)|((conv=>whnf);first|(refine Side.mk ?_ ?_;focus (first|with_reducible rfl|assumption|(refine congrArg (SV.int _) ?_;omega)|(intros;(try simp only [lenS,inR,cutS,loI,hiI] at *);omega)))|refine Got.mk (fun _ _=>?_))|fail);all_goals try (conv=>whnf);all_goals try (exfalso;omega)
 refine CallS.mk (c:=zpl_c) ((110,8)) ?_
 repeat' (first|(with_reducible refine Unf.h ?_)|((conv=>whnf);first|(refine Side.mk ?_ ?_;focus (first|with_reducible rfl|assumption|(refine congrArg (SV.int _) ?_;omega)))|refine Got.mk (fun _ _=>?_))|fail);all_goals try (conv=>whnf);all_goals try (exfalso;omega)
 have hl:(List.replicate 110 0#8).length=110:=zl _;refine LoopS.autoN (I:=Nat) (fun i=>i≤110) (fun i=>[(43,.int .i64 (i:Int))]) (fun _=>[(0,.box 139 [.u32 0#32,.int .i64 0,.int .i64 0,.nils]),(1,rdO (List.replicate 8 0#8)),(2,.box 139 [.u32 0#32,.int .i64 0,.int .i64 0,.fs 1 eB []])]) 3 (fun i=>110 - i) 0 (Nat.zero_le _) ?_ ?_
 · repeat' (first|(with_reducible refine Unf.h ?_)|((conv=>whnf);first|(refine Side.mk ?_ ?_;focus (first|with_reducible rfl|(refine congrArg (SV.int _) ?_;omega)|(simp [*];done)))|(with_reducible refine Unf.h ?_)|exact True.intro)|fail);all_goals try (conv=>whnf);all_goals try (exfalso;omega)
 · intro i hi
   rcases Nat.lt_or_ge i 110 with h|h
   · have hz0:(List.replicate 110 0#8)[((i:Nat):Int).toNat]'(by rw [hl];omega)=0#8:=List.getElem_replicate ..
     repeat' (first|(with_reducible first|refine Unf.h ?_|refine loopK_n ?_)|((conv=>whnf);first|refine Fork.mkn (fun h=>?_) (fun h=>?_)|refine Fork.mk (fun h=>?_) (fun h=>?_)|(refine Side.mk ?_ ?_;focus (first|with_reducible rfl|(intros;(try simp only [lenS,inR,cutS,loI,hiI] at *);omega)))|(refine Idx.mk ?_ ?_;focus (omega))|refine RetE.mk () trivial ?_|refine retK_r ?_|exact rfl)|fail);all_goals try (conv=>whnf);all_goals try (exfalso;omega)
     all_goals
       refine ⟨i+1,⟨by omega,by omega⟩,?_⟩
       repeat' (first|(with_reducible refine Unf.h ?_)|((conv=>whnf);first|(refine Side.mk ?_ ?_;focus (first|with_reducible rfl|(refine congrArg (SV.int _) ?_;omega)))|(with_reducible refine Unf.h ?_)|exact True.intro)|fail);all_goals try (conv=>whnf);all_goals try (exfalso;omega)
   · repeat' (first|(with_reducible refine Unf.h ?_)|((conv=>whnf);refine Fork.mk (fun h=>?_) (fun h=>?_))|fail);all_goals try (conv=>whnf);all_goals try (exfalso;omega)
     refine CallS.mk (c:=zu64_c) ((0:Nat)) ?_
     repeat' (first|(with_reducible refine Unf.h ?_)|((conv=>whnf);first|refine Fork.mk (fun h=>?_) (fun h=>?_)|(refine Side.mk ?_ ?_;focus (first|with_reducible rfl|assumption|omega))|refine RetE.mk () trivial ?_|refine Got.mk (fun _ _=>?_)|refine retK_r ?_|exact rfl)|fail);all_goals try (conv=>whnf);all_goals try (exfalso;omega)
     all_goals
       refine CallS.mk (c:=rdn_c) ((List.replicate 0 0#8)) ?_
       repeat' (first|(with_reducible refine Unf.h ?_)|((conv=>whnf);first|refine Fork.mkn (fun h=>?_) (fun h=>?_)|refine Fork.mk (fun h=>?_) (fun h=>?_)|(refine Side.mk ?_ ?_;focus (first|with_reducible rfl|exact True.intro|omega))|refine RetE.mk () trivial ?_|refine Got.mk (fun _ _=>?_)|refine retK_r ?_|exact rfl)|fail);all_goals try (conv=>whnf);all_goals try (exfalso;omega)
def ssvZ_c:Ctr where
 D:=List Pg×List Pg×Bs
 pre:=fun (L,S,v)=>2≤L.length∧2≤S.length∧S[0]?=some zeroPg∧S[1]?=some zeroPg∧v.length≤110
 args:=fun (_,_,v)=>[.ptr 0 0,.int .i64 0,.fs 1 eB v]
 objs:=fun (L,S,_)=>devs L S []
 nn:=4
 E:=Pg
 post:=fun (_,_,v) p=>p.toList=encS 1#64 v
 res:=fun _ _=>.tup [.u64 1#64,.int .i64 0]
 out:=fun (L,S,_) p=>devN 4 5 6 (L.set 1 p) (S.set 1 p) []
 mm:=3
theorem encS_len (s:BitVec 64) {v:Bs} (h:v.length≤110):(encS s v).length=128:=by
 unfold encS strB;simp only [List.length_append,beN_len,List.length_replicate];omega
def ssvZ_H:Cfg:=⟨[(18,sldZ_c),(82,sten_c),(52,dwr_c),(59,dfl_c)],[],[],[],59,4,[],[],[]⟩
theorem ssvZ_ok:ssvZ_c.Ok Tryz.prog 45:=by
 refine fn_ok ssvZ_H 4 rfl _ Tryz.func45 rfl rfl ⟨sldZ_ok,sten_ok,dwr_ok,dfl_ok,trivial⟩ rfl rfl (by kernel_rfl) (fun _=>nlb rfl) ?_
 rintro ⟨L,S,v⟩ hp hr
 try dsimp only [ssvZ_c] at hp
 try simp only [ssvZ_c,Rng,RngL,inR,and_true,true_and] at hr
 obtain ⟨hp1,hp2,hp3,hp4,hp5⟩:=hp;have hp1:2≤L.length:=hp1;have hp2:2≤S.length:=hp2;have hp5:v.length≤110:=hp5;have h1:sldZ_c.pre (L,S,[]):=⟨hp1,hp3,hp4⟩;have h2:sten_c.pre (1#64,v):=hp5;have h3:dwr_c.pre ((L,S,[]),1,encS 1#64 v):=⟨by show 1<L.length;omega,by show 1<S.length;omega,encS_len _ hp5,by show ([]:List (Nat×Pg)).length≤100000;simp⟩
 have es:(0#64+1#64:BitVec 64)=1#64:=by decide
 have en:¬ (0#64+1#64:BitVec 64)=0#64:=by decide
 repeat' (first|(with_reducible refine Unf.h ?_)|((conv=>whnf);refine Fork.mk (fun h=>?_) (fun h=>?_))|fail);all_goals try (conv=>whnf);all_goals try (exfalso;omega)
 refine CallS.mk (c:=sldZ_c) ((L,S,[])) ?_
 repeat' (first|(with_reducible refine Unf.h ?_)|((conv=>whnf);first|refine Fork.mkn (fun h=>?_) (fun h=>?_)|refine Fork.mk (fun h=>?_) (fun h=>?_)|(refine Side.mk ?_ ?_;focus (first|with_reducible rfl|assumption))|refine Got.mk (fun _ _=>?_)|refine retK_r ?_)|fail);all_goals try (conv=>whnf);all_goals try (exfalso;omega)
 · exact absurd (by assumption) en
 refine CallS.mk (c:=sten_c) ((1#64,v)) ?_
 repeat' (first|(with_reducible refine Unf.h ?_)|((conv=>whnf);first|refine Fork.mkn (fun h=>?_) (fun h=>?_)|(refine Side.mk ?_ ?_;focus (first|with_reducible rfl|assumption|(intros;(try simp only [lenS,inR,cutS,loI,hiI,es] at *);omega)|(simp only [*,es];done)|(simp [*,es];done)))|refine Got.mk (fun _ _=>?_))|fail);all_goals try (conv=>whnf);all_goals try (exfalso;omega)
 refine CallS.mk (c:=dwr_c) (((L,S,[]),1,encS 1#64 v)) ?_
 repeat' (first|(with_reducible refine Unf.h ?_)|((conv=>whnf);first|refine Fork.mkn (fun h=>?_) (fun h=>?_)|(refine Side.mk ?_ ?_;focus (first|with_reducible rfl|assumption|(simp [*];done)))|refine Got.mk (fun _ _=>?_))|fail);all_goals try (conv=>whnf);all_goals try (exfalso;omega)
 rename_i p hpp;have hpp:p.toList=encS 1#64 v:=hpp;have h4:dfl_c.pre (L,S.set 1 p,[]++[(1,p)]):=⟨(by show (1:Nat)≤100000;omega),fun x hx=>by
   have hx:x∈[(1,p)]:=hx;obtain rfl:=List.mem_singleton.1 hx;show 1<L.length;omega⟩
 have hfl:flF L ([]++[(1,p)])=L.set 1 p:=rfl;refine CallS.mk (c:=dfl_c) ((L,S.set 1 p,[]++[(1,p)])) ?_
 repeat' (first|(with_reducible refine Unf.h ?_)|((conv=>whnf);(refine Side.mk ?_ ?_;focus (with_reducible rfl)))|fail);all_goals try (conv=>whnf);all_goals try (exfalso;omega)
 refine Side.mk rfl ?_
 repeat' (first|(with_reducible refine Unf.h ?_)|((conv=>whnf);first|refine Fork.mkn (fun h=>?_) (fun h=>?_)|(refine Side.mk ?_ ?_;focus (assumption))|refine Got.mk (fun _ _=>?_)|refine retK_r ?_)|fail);all_goals try (conv=>whnf);all_goals try (exfalso;omega)
 refine RetE.mk (c:=ssvZ_c) (d:=(L,S,v)) (show Pg from p) hpp ?_
 repeat' (first|(with_reducible refine Unf.h ?_)|((conv=>whnf);first|(refine Side.mk ?_ ?_;focus (first|with_reducible rfl|(simp only [*,hfl];done)))|(with_reducible refine Unf.h ?_)|exact rfl)|fail);all_goals try (conv=>whnf);all_goals try (exfalso;omega)
def wmay_c:Ctr where
 D:=(List Pg×List Pg×List (Nat×Pg))×Nat×Nat×BitVec 32×BitVec 32
 pre:=fun ((L,_,_),f,c,l,g)=>f+c≤L.length∧L.length≤100000∧0<l.toNat∧l.toNat≤g.toNat
 args:=fun (_,f,c,l,g)=>[.ptr 0 0,.int .i64 (f:Int),.int .i64 (c:Int),.u32 l,.u32 g]
 objs:=fun ((L,S,q),_)=>devs L S q
 nn:=4
 res:=fun _ _=>.bool true
 out:=fun ((L,S,q),_) _=>devs L S q
def wmay_H:Cfg:=⟨[(17,dpgs_c)],[],[],[],44,4,[],[],[]⟩
theorem wmay_ok:wmay_c.Ok Tryz.prog 47:=by
 refine fn_ok wmay_H 4 rfl _ Tryz.func47 rfl rfl ⟨dpgs_ok,trivial⟩ rfl rfl (by kernel_rfl) (fun _=>nlb rfl) ?_
 rintro ⟨⟨L,S,q⟩,f,c,l,g⟩ hp hr
 try dsimp only [wmay_c] at hp
 try simp only [wmay_c,Rng,RngL,inR,and_true,true_and] at hr
 obtain ⟨hp1,hp0,hp2,hp3⟩:=hp;have hp1:f+c≤L.length:=hp1;have hp0:L.length≤100000:=hp0;have hp2:0<l.toNat:=hp2;have hp3:l.toNat≤g.toNat:=hp3;have e0:(0#32).toNat=0:=rfl
 repeat' (first|(with_reducible refine Unf.h ?_)|((conv=>whnf);first|refine Fork.mk (fun h=>?_) (fun h=>?_)|(refine Side.mk ?_ ?_;focus (first|with_reducible rfl|exact True.intro|(intros;(try simp only [lenS,inR,cutS,loI,hiI] at *);omega)|(simp [*];done)))|refine RetE.mk () trivial ?_|refine Got.mk (fun _ _=>?_)|refine retK_r ?_|exact rfl|refine CallS.mk (c:=dpgs_c) ((L,S,q)) ?_)|fail);all_goals try (conv=>whnf);all_goals try (exfalso;omega)
def wopZ_c:Ctr where
 D:=(List Pg×List Pg×List (Nat×Pg))×Nat×Nat×BitVec 32×BitVec 32
 pre:=fun ((L,S,_),f,c,l,g)=>f+c≤L.length∧L.length≤100000∧0<l.toNat∧l.toNat≤g.toNat∧1≤c∧S[f]?=some zeroPg
 args:=fun (_,f,c,l,g)=>[.ptr 0 0,.int .i64 (f:Int),.int .i64 (c:Int),.u32 l,.u32 g]
 objs:=fun ((L,S,q),_)=>devs L S q
 nn:=4
 res:=fun _ _=>.tup [.ptr 4 0,.nils,.int .i64 0]
 out:=fun ((L,S,q),f,c,_,g) _=>devs L S q++[(4,.box 137 [.ptr 0 0,.int .i64 (f:Int),.int .i64 (c:Int),.u32 g,.int .i64 0,.bool false])]
 mm:=1
def wopZ_H:Cfg:=⟨[(47,wmay_c),(39,drd_c),(48,wpdZ_c)],[(17,[1,3],[],(oA 0 (oB 1 (oA 2 (oB 3 (oA 4 (oA 5 .nil)))))),[])],[],[],106,4,[],[],[]⟩
theorem wopZ_ok:wopZ_c.Ok Tryz.prog 21:=by
 refine fn_ok wopZ_H 4 rfl _ Tryz.func21 rfl rfl ⟨wmay_ok,drd_ok,wpdZ_ok,trivial⟩ rfl rfl (by kernel_rfl) (fun _=>nlb rfl) ?_
 rintro ⟨⟨L,S,q⟩,f,c,l,g⟩ hp hr
 try dsimp only [wopZ_c] at hp
 try simp only [wopZ_c,Rng,RngL,inR,and_true,true_and] at hr
 obtain ⟨hp1,hp0,hp2,hp3,hp4,hp5⟩:=hp;have hp1:f+c≤L.length:=hp1;have hp0:L.length≤100000:=hp0;have hp4:1≤c:=hp4;have hm:wmay_c.pre ((L,S,q),f,c,l,g):=⟨hp1,hp0,hp2,hp3⟩;have hrd:drd_c.pre ((L,S,q),f,zeroPg):=⟨by show f<L.length;omega,hp5⟩
 have el:=zeroPg_list
 repeat' (first|(with_reducible refine Unf.h ?_)|((conv=>whnf);first|(refine Side.mk ?_ ?_;focus (first|with_reducible rfl|assumption))|refine Got.mk (fun _ _=>?_)|refine CallS.mk (c:=wmay_c) (((L,S,q),f,c,l,g)) ?_)|fail);all_goals try (conv=>whnf);all_goals try (exfalso;omega)
 refine LoopS.autoN (I:=Unit) (fun _=>True) (fun _=>[(15,.int .i64 0),(14,.nils),(3,.u32 l)]) (fun _=>devs L S q++[(4,.box 137 [.ptr 0 0,.int .i64 (f:Int),.int .i64 (c:Int),.u32 g,.int .i64 0,.bool false])]) 5 (fun _=>0) () trivial ?_ ?_
 · repeat' (first|(with_reducible refine Unf.h ?_)|((conv=>whnf);first|(refine Side.mk ?_ ?_;focus (with_reducible rfl))|(with_reducible refine Unf.h ?_)|exact True.intro)|fail);all_goals try (conv=>whnf);all_goals try (exfalso;omega)
 · intro _ _
   repeat' (first|(with_reducible refine Unf.h ?_)|((conv=>whnf);refine Fork.mk (fun h=>?_) (fun h=>?_))|fail);all_goals try (conv=>whnf);all_goals try (exfalso;omega)
   refine LoopS.autoN (I:=Unit) (fun _=>True) (fun _=>[(15,.int .i64 0),(14,.nils),(3,.u32 l),(16,.nils),(17,.u32 0#32)]) (fun _=>devs L S q++[(4,.box 137 [.ptr 0 0,.int .i64 (f:Int),.int .i64 (c:Int),.u32 g,.int .i64 0,.bool false])]) 5 (fun _=>0) () trivial ?_ ?_
   · repeat' (first|(with_reducible refine Unf.h ?_)|((conv=>whnf);first|(refine Side.mk ?_ ?_;focus (with_reducible rfl))|(with_reducible refine Unf.h ?_)|exact True.intro)|fail);all_goals try (conv=>whnf);all_goals try (exfalso;omega)
   · intro _ _
     repeat' (first|(with_reducible refine Unf.h ?_)|((conv=>whnf);first|refine Fork.mkn (fun h=>?_) (fun h=>?_)|refine Fork.mk (fun h=>?_) (fun h=>?_)|(refine Side.mk ?_ ?_;focus (first|with_reducible rfl|assumption|(refine congrArg (SV.int _) ?_;omega)|(intros;(try simp only [lenS,inR,cutS,loI,hiI] at *);omega)))|refine Got.mk (fun _ _=>?_)|refine CallS.mk (c:=drd_c) (((L,S,q),f,zeroPg)) ?_)|fail);all_goals try (conv=>whnf);all_goals try (exfalso;omega)
     refine CallS.mk (c:=wpdZ_c) (l) ?_
     repeat' (first|(with_reducible refine Unf.h ?_)|((conv=>whnf);first|(refine Side.mk ?_ ?_;focus (first|with_reducible rfl|exact True.intro|(refine congrArg (SV.int _) ?_;omega)|(simp only [*,el];done)))|refine RetE.mk () trivial ?_|refine Got.mk (fun _ _=>?_)|refine retK_r ?_|exact rfl)|fail);all_goals try (conv=>whnf);all_goals try (exfalso;omega)
abbrev vltB (l g:BitVec 32) (lg:SV):SO:=.box 94 [.ptr 0 0,.bool false,.u32 l,.u32 g,lg,.bool false]
def vsp_c:Ctr where
 D:=(List Pg×List Pg×List (Nat×Pg))×BitVec 32×BitVec 32
 pre:=fun ((L,_,_),_)=>2≤L.length∧L.length≤100000
 args:=fun _=>[.ptr 4 0]
 objs:=fun ((L,S,q),l,g)=>(4,vltB l g .nilp)::devs L S q
 nn:=5
 res:=fun ((L,_,_),_) _=>.int .i64 (((L.length - 2) / 2:Nat):Int)
 out:=fun ((L,S,q),l,g) _=>(4,vltB l g .nilp)::devs L S q
def vsp_H:Cfg:=⟨[(17,dpgs_c)],[],[],[],12,5,[],[],[]⟩
theorem vsp_ok:vsp_c.Ok Tryz.prog 23:=by
 refine fn_ok vsp_H 5 rfl _ Tryz.func23 rfl rfl ⟨dpgs_ok,trivial⟩ rfl rfl (by kernel_rfl) (fun _=>nlb rfl) ?_
 rintro ⟨⟨L,S,q⟩,l,g⟩ hp hr
 try dsimp only [vsp_c] at hp
 try simp only [vsp_c,Rng,RngL,inR,and_true,true_and] at hr
 obtain ⟨hp1,hp2⟩:=hp;have hp1:2≤L.length:=hp1;have hp2:L.length≤100000:=hp2;have ed:((L.length:Int) - 2).tdiv 2=(((L.length - 2) / 2:Nat):Int):=by
   rw [Int.tdiv_eq_ediv_of_nonneg (by omega)];omega
 repeat' (first|(with_reducible refine Unf.h ?_)|((conv=>whnf);first|(refine Side.mk ?_ ?_;focus (first|with_reducible rfl|exact True.intro|omega|(refine congrArg (SV.int _) ?_;omega)|(intros;(try simp only [lenS,inR,cutS,loI,hiI,ed] at *);omega)))|refine RetE.mk () trivial ?_|refine Got.mk (fun _ _=>?_)|refine retK_r ?_|exact rfl|refine CallS.mk (c:=dpgs_c) ((L,S,q)) ?_)|fail);all_goals try (conv=>whnf);all_goals try (exfalso;omega)
def vfr_c:Ctr where
 D:=(List Pg×List Pg×List (Nat×Pg))×BitVec 32×BitVec 32
 args:=fun _=>[.ptr 4 0,.bool false]
 objs:=fun ((L,S,q),l,g)=>(4,vltB l g .nilp)::devs L S q
 nn:=5
 res:=fun _ _=>.int .i64 2
 out:=fun ((L,S,q),l,g) _=>(4,vltB l g .nilp)::devs L S q
def vfr_H:Cfg:=⟨[],[],[],[],9,5,[],[],[]⟩
theorem vfr_ok:vfr_c.Ok Tryz.prog 22:=by
 refine fn_ok vfr_H 5 rfl _ Tryz.func22 rfl rfl trivial rfl rfl (by kernel_rfl) (fun _=>nlb rfl) ?_
 rintro ⟨⟨L,S,q⟩,l,g⟩ hp hr
 try dsimp only [vfr_c] at hp
 try simp only [vfr_c,Rng,RngL,inR,and_true,true_and] at hr
 repeat' (first|(with_reducible refine Unf.h ?_)|((conv=>whnf);first|(refine Side.mk ?_ ?_;focus (first|with_reducible rfl|(refine congrArg (SV.int _) ?_;omega)))|refine RetE.mk () trivial ?_|refine retK_r ?_|exact rfl)|fail);all_goals try (conv=>whnf);all_goals try (exfalso;omega)
def vsB (l g:BitVec 32):Bs:=[]++beN 1 0#64++beN 4 (l.setWidth 64)++beN 4 (g.setWidth 64)
theorem vsB_len (l g:BitVec 32):(vsB l g).length=9:=by
 unfold vsB;simp only [List.length_append,beN_len,List.length_nil]
def venc_c:Ctr where
 D:=BitVec 32×BitVec 32
 args:=fun (l,g)=>[.agg [.bool false,.u32 l,.u32 g]]
 res:=fun (l,g) _=>.fs 1 eB (vsB l g)
def venc_H:Cfg:=⟨[(83,wflg_c),(84,wu32_c),(85,wout_c)],[],[],[],26,0,[],[],[]⟩
theorem venc_ok:venc_c.Ok Tryz.prog 46:=by
 refine fn_ok venc_H 0 rfl _ Tryz.func46 rfl rfl ⟨wflg_ok,wu32_ok,wout_ok,trivial⟩ rfl rfl (by kernel_rfl) (fun _=>nlb rfl) ?_
 rintro ⟨l,g⟩ hp hr
 try dsimp only [venc_c] at hp
 try simp only [venc_c,Rng,RngL,inR,and_true,true_and] at hr
 have e:(if false=true then 1#64 else 0#64)=0#64:=rfl
 have h1:wflg_c.pre ([],false):=show 0≤1000000 by omega
 have h2:wu32_c.pre ([]++beN 1 0#64,l):=by show 1≤1000000;omega
 have h3:wu32_c.pre ([]++beN 1 0#64++beN 4 (l.setWidth 64),g):=by
   show ([]++beN 1 0#64++beN 4 (l.setWidth 64)).length≤1000000;simp only [List.length_append,beN_len,List.length_nil];omega
 have h4:wout_c.pre (vsB l g):=by show (vsB l g).length≤1000000;rw [vsB_len];omega
 repeat' (first|(with_reducible refine Unf.h ?_)|fail);all_goals try (conv=>whnf);all_goals try (exfalso;omega)
 refine CallS.mk (c:=wflg_c) (([],false)) ?_
 repeat' (first|(with_reducible refine Unf.h ?_)|((conv=>whnf);first|(refine Side.mk ?_ ?_;focus (first|with_reducible rfl|assumption))|refine Got.mk (fun _ _=>?_))|fail);all_goals try (conv=>whnf);all_goals try (exfalso;omega)
 refine CallS.mk (c:=wu32_c) (([]++beN 1 0#64,l)) ?_
 repeat' (first|(with_reducible refine Unf.h ?_)|((conv=>whnf);first|(refine Side.mk ?_ ?_;focus (first|with_reducible rfl|assumption|(simp only [*,e];done)))|refine Got.mk (fun _ _=>?_))|fail);all_goals try (conv=>whnf);all_goals try (exfalso;omega)
 refine CallS.mk (c:=wu32_c) (([]++beN 1 0#64++beN 4 (l.setWidth 64),g)) ?_
 repeat' (first|(with_reducible refine Unf.h ?_)|((conv=>whnf);first|(refine Side.mk ?_ ?_;focus (first|with_reducible rfl|assumption))|refine Got.mk (fun _ _=>?_))|fail);all_goals try (conv=>whnf);all_goals try (exfalso;omega)
 refine CallS.mk (c:=wout_c) ((vsB l g)) ?_
 repeat' (first|(with_reducible refine Unf.h ?_)|((conv=>whnf);first|(refine Side.mk ?_ ?_;focus (first|with_reducible rfl|assumption|(dsimp only [resS,venc_c,vsB];done)))|refine RetE.mk () trivial ?_|refine Got.mk (fun _ _=>?_)|refine retK_r ?_|exact rfl)|fail);all_goals try (conv=>whnf);all_goals try (exfalso;omega)
def vsv_c:Ctr where
 D:=List Pg×List Pg×(BitVec 32×BitVec 32)×BitVec 32×BitVec 32
 pre:=fun (L,S,_)=>2≤L.length∧2≤S.length∧S[0]?=some zeroPg∧S[1]?=some zeroPg
 args:=fun (_,_,_,l,g)=>[.ptr 4 0,.agg [.bool false,.u32 l,.u32 g]]
 objs:=fun (L,S,(l0,g0),_)=>(4,vltB l0 g0 .nilp)::devs L S []
 nn:=5
 E:=Pg
 post:=fun (_,_,_,l,g) p=>p.toList=encS 1#64 (vsB l g)
 res:=fun _ _=>.int .i64 0
 out:=fun (L,S,_,l,g) p=>devN 5 6 7 (L.set 1 p) (S.set 1 p) []++[(4,vltB l g .nilp)]
 mm:=3
def vsv_H:Cfg:=⟨[(46,venc_c),(45,ssvZ_c)],[(1,[],[3,4,5,6],(oA 0 (oA 1 (oA 2 (.alt 3 false (oC 4 (oC 5 (oC 6 (oA 7 (oA 8 (oA 9 (oA 10 (oA 11 .nil)))))))) (oC 4 (.alt 3 false (oC 5 (oC 6 (oA 7 (oA 8 (oA 9 (oA 10 (oA 11 .nil))))))) (oC 5 (oC 3 (oC 6 (oA 7 (oA 8 (oA 9 (oA 10 (oA 11 .nil)))))))))))))),[])],[],[],26,5,[],[],[]⟩
theorem vsv_ok:vsv_c.Ok Tryz.prog 20:=by
 refine fn_ok vsv_H 5 rfl _ Tryz.func20 rfl rfl ⟨venc_ok,ssvZ_ok,trivial⟩ rfl rfl (by kernel_rfl) (fun _=>nlb rfl) ?_
 rintro ⟨L,S,⟨l0,g0⟩,l,g⟩ hp hr
 try dsimp only [vsv_c] at hp
 try simp only [vsv_c,Rng,RngL,inR,and_true,true_and] at hr
 obtain ⟨hp1,hp2,hp3,hp4⟩:=hp;have hp1:2≤L.length:=hp1;have hp2:2≤S.length:=hp2;have h1:ssvZ_c.pre (L,S,vsB l g):=⟨hp1,hp2,hp3,hp4,by rw [vsB_len];omega⟩
 repeat' (first|(with_reducible refine Unf.h ?_)|((conv=>whnf);first|refine Both.mk ?_ ?_|refine Both.mk ?_ ?_|(refine Side.mk ?_ ?_;focus (first|with_reducible rfl|exact True.intro))|refine Got.mk (fun _ _=>?_)|refine CallS.mk (c:=venc_c) ((l,g)) ?_)|fail);all_goals try (conv=>whnf);all_goals try (exfalso;omega)
 all_goals
   refine CallS.mk (c:=ssvZ_c) ((L,S,vsB l g)) ?_
   repeat' (first|(with_reducible refine Unf.h ?_)|((conv=>whnf);first|refine Fork.mkn (fun h=>?_) (fun h=>?_)|(refine Side.mk ?_ ?_;focus (first|with_reducible rfl|assumption))|refine Got.mk (fun _ _=>?_)|refine retK_r ?_)|fail);all_goals try (conv=>whnf);all_goals try (exfalso;omega)
 all_goals
   rename_i p hpp;refine RetE.mk (c:=vsv_c) (d:=(L,S,(l0,g0),l,g)) (show Pg from p) hpp ?_
   repeat' (first|(with_reducible refine Unf.h ?_)|((conv=>whnf);first|(refine Side.mk ?_ ?_;focus (first|with_reducible rfl|(refine congrArg (SV.int _) ?_;omega)))|exact rfl)|fail);all_goals try (conv=>whnf);all_goals try (exfalso;omega)
def vopZ_c:Ctr where
 D:=List Pg×List Pg
 pre:=fun (L,S)=>4≤L.length∧L.length≤4096∧S.length=L.length∧S[0]?=some zeroPg∧S[1]?=some zeroPg∧S[2]?=some zeroPg
 args:=fun _=>[.ptr 0 0]
 objs:=fun (L,S)=>devs L S []
 nn:=4
 E:=Pg
 post:=fun _ p=>p.toList=encS 1#64 (vsB 1#32 1#32)
 res:=fun _ _=>.tup [.ptr 7 0,.nils,.int .i64 0]
 out:=fun (L,S) p=>devN 4 5 6 (L.set 1 p) (S.set 1 p) []++[(7,vltB 1#32 1#32 (.ptr 8 0)),(8,.box 137 [.ptr 0 0,.int .i64 2,.int .i64 (((L.length - 2) / 2:Nat):Int),.u32 1#32,.int .i64 0,.bool false])]
 mm:=5
def vopZ_H:Cfg:=⟨[(17,dpgs_c),(18,sldZ_c),(20,vsv_c),(22,vfr_c),(23,vsp_c),(21,wopZ_c)],[(17,[3,8,10],[4,6,11],(oA 0 (oA 1 (oA 2 (oB 3 (oA 5 (oA 7 (oB 8 (oA 9 (oB 10 (oD 4 (oD 6 (oC 11 (oA 12 (oA 13 (oA 14 (oA 15 (oA 16 (oA 17 (oA 18 .nil))))))))))))))))))),[2000011,1000000])],[],[],76,4,[],[],[]⟩
theorem vopZ_ok:vopZ_c.Ok Tryz.prog 6:=by
 refine fn_ok vopZ_H 4 rfl _ Tryz.func6 rfl rfl ⟨dpgs_ok,sldZ_ok,vsv_ok,vfr_ok,vsp_ok,wopZ_ok,trivial⟩ rfl rfl (by kernel_rfl) (fun _=>nlb rfl) ?_
 rintro ⟨L,S⟩ hp hr
 try dsimp only [vopZ_c] at hp
 try simp only [vopZ_c,Rng,RngL,inR,and_true,true_and] at hr
 obtain ⟨hp1,hp2,hp3,hp4,hp5,hp6⟩:=hp;have hp1:4≤L.length:=hp1;have hp2:L.length≤4096:=hp2;have hp3:S.length=L.length:=hp3;have h1:sldZ_c.pre (L,S,[]):=⟨by show 2≤L.length;omega,hp4,hp5⟩
 have h2:vsv_c.pre (L,S,(0#32,0#32),1#32,1#32):=⟨by show 2≤L.length;omega,by show 2≤S.length;omega,hp4,hp5⟩
 have h3:∀ p,vsp_c.pre ((L.set 1 p,S.set 1 p,[]),1#32,1#32):=fun p=>⟨by show 2≤(L.set 1 p).length;rw [List.length_set];omega,by show (L.set 1 p).length≤100000;rw [List.length_set];omega⟩
 have hS:∀ p:Pg,(S.set 1 p)[2]?=some zeroPg:=fun p=>by rw [List.getElem?_set_ne (by omega)];exact hp6
 have es:(0#32+1#32:BitVec 32)=1#32:=by decide
 repeat' (first|(with_reducible refine Unf.h ?_)|((conv=>whnf);first|refine Fork.mk (fun h=>?_) (fun h=>?_)|(refine Side.mk ?_ ?_;focus (first|with_reducible rfl|exact True.intro))|refine Got.mk (fun _ _=>?_)|refine CallS.mk (c:=dpgs_c) ((L,S,[])) ?_)|fail);all_goals try (conv=>whnf);all_goals try (exfalso;omega)
 refine CallS.mk (c:=sldZ_c) ((L,S,[])) ?_
 repeat' (first|(with_reducible refine Unf.h ?_)|((conv=>whnf);first|refine Fork.mkn (fun h=>?_) (fun h=>?_)|refine Fork.mk (fun h=>?_) (fun h=>?_)|(refine Side.mk ?_ ?_;focus (first|with_reducible rfl|assumption))|refine Got.mk (fun _ _=>?_))|fail);all_goals try (conv=>whnf);all_goals try (exfalso;omega)
 · exact absurd (by assumption) (Nat.lt_irrefl (0#64).toNat)
 refine CallS.mk (c:=vsv_c) ((L,S,(0#32,0#32),1#32,1#32)) ?_
 repeat' (first|(with_reducible refine Unf.h ?_)|((conv=>whnf);first|refine Fork.mkn (fun h=>?_) (fun h=>?_)|(refine Side.mk ?_ ?_;focus (first|with_reducible rfl|assumption|(simp only [*,es];done)))|refine Got.mk (fun _ _=>?_))|fail);all_goals try (conv=>whnf);all_goals try (exfalso;omega)
 rename_i p hpp;have hpp:p.toList=encS 1#64 (vsB 1#32 1#32):=hpp;have hl:(L.set 1 p).length=L.length:=List.length_set ..;have h4:wopZ_c.pre ((L.set 1 p,S.set 1 p,[]),2,((L.set 1 p).length - 2) / 2,1#32,1#32):=⟨by show 2+((L.set 1 p).length - 2) / 2≤(L.set 1 p).length;omega,by show (L.set 1 p).length≤100000;omega,by decide,by decide,by show 1≤((L.set 1 p).length - 2) / 2;omega,hS p⟩
 have h3:=h3 p;refine CallS.mk (c:=vfr_c) (((L.set 1 p,S.set 1 p,[]),1#32,1#32)) ?_
 repeat' (first|(with_reducible refine Unf.h ?_)|((conv=>whnf);first|(refine Side.mk ?_ ?_;focus (first|with_reducible rfl|exact True.intro))|refine Got.mk (fun _ _=>?_))|fail);all_goals try (conv=>whnf);all_goals try (exfalso;omega)
 refine CallS.mk (c:=vsp_c) (((L.set 1 p,S.set 1 p,[]),1#32,1#32)) ?_
 repeat' (first|(with_reducible refine Unf.h ?_)|((conv=>whnf);first|(refine Side.mk ?_ ?_;focus (first|with_reducible rfl|assumption))|refine Got.mk (fun _ _=>?_))|fail);all_goals try (conv=>whnf);all_goals try (exfalso;omega)
 refine CallS.mk (c:=wopZ_c) (((L.set 1 p,S.set 1 p,[]),2,((L.set 1 p).length - 2) / 2,1#32,1#32)) ?_
 repeat' (first|(with_reducible refine Unf.h ?_)|((conv=>whnf);first|refine Fork.mkn (fun h=>?_) (fun h=>?_)|(refine Side.mk ?_ ?_;focus (first|with_reducible rfl|assumption|(refine congrArg (SV.int _) ?_;omega)|(simp only [*,es];done)))|refine Got.mk (fun _ _=>?_)|refine retK_r ?_)|fail);all_goals try (conv=>whnf);all_goals try (exfalso;omega)
 refine RetE.mk (c:=vopZ_c) (d:=(L,S)) (show Pg from p) hpp ?_
 repeat' (first|(with_reducible refine Unf.h ?_)|((conv=>whnf);first|(refine Side.mk ?_ ?_;focus (first|with_reducible rfl|(refine congrArg (SV.int _) ?_;omega)))|(with_reducible refine Unf.h ?_)|exact rfl)|fail);all_goals try (conv=>whnf);all_goals try (exfalso;omega)
def wu8_c:Ctr where
 D:=Bs×Int
 pre:=fun (b,x)=>b.length≤1000000∧0≤x∧x≤255
 args:=fun (_,x)=>[.ptr 0 0,.int .i64 x]
 objs:=fun (b,_)=>[(0,.box 200 [.own 1,.bool false]),(1,.row 5 1 eB b)]
 nn:=2
 res:=fun _ _=>.tup []
 out:=fun (b,x) _=>[(0,.box 200 [.own 2,.bool false]),(2,.row 5 1 eB (b++beN 1 (BitVec.ofInt 64 x)))]
 mm:=1
def wu8_H:Cfg:=⟨[(113,wwi_c),(112,wnum_c)],[],[],[],11,2,[],[],[]⟩
theorem wu8_ok:wu8_c.Ok Tryz.prog 89:=by
 refine fn_ok wu8_H 2 rfl _ Tryz.func89 rfl rfl ⟨wwi_ok,wnum_ok,trivial⟩ rfl rfl (by kernel_rfl) (fun _=>nlb rfl) ?_
 rintro ⟨b,x⟩ hp hr
 try dsimp only [wu8_c] at hp
 try simp only [wu8_c,Rng,RngL,inR,and_true,true_and] at hr
 obtain ⟨hp1,hp2,hp3⟩:=hp;have hp1:b.length≤1000000:=hp1;have hpi:wwi_c.pre (b,x,255):=⟨hp2,hp3⟩;have hpn:wnum_c.pre (b,BitVec.ofInt 64 x,1):=⟨by omega,hp1⟩
 repeat' (first|(with_reducible refine Unf.h ?_)|((conv=>whnf);first|(refine Side.mk ?_ ?_;focus (first|with_reducible rfl|assumption|(refine congrArg (SV.int _) ?_;omega)))|refine RetE.mk () trivial ?_|refine Got.mk (fun _ _=>?_)|refine retK_n ?_|exact rfl|refine CallS.mk (c:=wwi_c) ((b,x,255)) ?_|refine CallS.mk (c:=wnum_c) ((b,BitVec.ofInt 64 x,1)) ?_)|fail);all_goals try (conv=>whnf);all_goals try (exfalso;omega)
abbrev ePt (g:BitVec 32) (p k:Int) (b:Bs):List SV:=[.u32 g,.int .i64 p,.int .i64 k,.fs 1 eB b]
def mkF (g:BitVec 32) (p:Int):BitVec 64:=(g.setWidth 64) <<< (32#64).toNat ||| ((BitVec.ofInt 32 p).setWidth 64)
def wmk_c:Ctr where
 D:=BitVec 32×Int×Int×Bs
 args:=fun (g,p,k,b)=>[.agg (ePt g p k b)]
 res:=fun (g,p,_,_) _=>.u64 (mkF g p)
def wmk_H:Cfg:=⟨[],[],[],[],12,0,[],[],[]⟩
theorem wmk_ok:wmk_c.Ok Tryz.prog 88:=by
 refine fn_ok wmk_H 0 rfl _ Tryz.func88 rfl rfl trivial rfl rfl (by kernel_rfl) (fun _=>nlb rfl) ?_
 rintro ⟨g,p,k,b⟩ hp hr
 try dsimp only [wmk_c] at hp
 try simp only [wmk_c,Rng,RngL,inR,and_true,true_and] at hr
 repeat' (first|(with_reducible refine Unf.h ?_)|((conv=>whnf);first|(refine Side.mk ?_ ?_;focus ((dsimp only [resS,wmk_c];(simp only [*,mkF];done))))|refine RetE.mk () trivial ?_|refine retK_r ?_|exact rfl)|fail);all_goals try (conv=>whnf);all_goals try (exfalso;omega)
def pgF (g:BitVec 32) (p k:Int) (b:Bs):Bs:=[]++beN 8 (mkF g p)++beN 1 (BitVec.ofInt 64 k)++beN 1 (BitVec.ofInt 64 (b.length:Int))++b++List.replicate (110 - b.length) 0#8++beN 8 (mkF g p)
theorem pgF_len (g:BitVec 32) (p k:Int) {b:Bs} (h:b.length≤110):(pgF g p k b).length=128:=by
 unfold pgF;simp only [List.length_append,beN_len,List.length_replicate,List.length_nil];omega
def wpg_c:Ctr where
 D:=BitVec 32×Int×Int×Bs
 pre:=fun (_,_,k,b)=>0≤k∧k≤255∧b.length≤110
 args:=fun (g,p,k,b)=>[.agg (ePt g p k b)]
 res:=fun (g,p,k,b) _=>.tup [.fs 1 eB (pgF g p k b),.int .i64 0]
def wpg_H:Cfg:=⟨[(88,wmk_c),(87,wu64_c),(89,wu8_c),(90,wplain_c),(85,wout_c)],[],[],[],39,0,[],[],[]⟩
theorem wpg_ok:wpg_c.Ok Tryz.prog 51:=by
 refine fn_ok wpg_H 0 rfl _ Tryz.func51 rfl rfl ⟨wmk_ok,wu64_ok,wu8_ok,wplain_ok,wout_ok,trivial⟩ rfl rfl (by kernel_rfl) (fun _=>nlb rfl) ?_
 rintro ⟨g,p,k,b⟩ hp hr
 try dsimp only [wpg_c] at hp
 try simp only [wpg_c,Rng,RngL,inR,and_true,true_and] at hr
 obtain ⟨hp0,hp1,hp⟩:=hp;have hp0:0≤k:=hp0;have hp1:k≤255:=hp1;have hp:b.length≤110:=hp;have hlen:=pgF_len g p k hp;have ek:(110:Int) - (b.length:Int)=((110 - b.length:Nat):Int):=by omega
 have es:pgF g p k b=[]++beN 8 (mkF g p)++beN 1 (BitVec.ofInt 64 k)++beN 1 (BitVec.ofInt 64 (b.length:Int))++b++List.replicate (110 - b.length) 0#8++beN 8 (mkF g p):=rfl;have p1:wu64_c.pre ([],mkF g p):=show 0≤1000000 by omega
 have p2:wu8_c.pre ([]++beN 8 (mkF g p),k):=⟨by show ([]++beN 8 (mkF g p)).length≤1000000;simp [beN_len],hp0,hp1⟩
 have p3:wu8_c.pre ([]++beN 8 (mkF g p)++beN 1 (BitVec.ofInt 64 k),(b.length:Int)):=⟨by show ([]++beN 8 (mkF g p)++beN 1 (BitVec.ofInt 64 k)).length≤1000000;simp [beN_len],by omega,by omega⟩
 have p4:wplain_c.pre ([]++beN 8 (mkF g p)++beN 1 (BitVec.ofInt 64 k)++beN 1 (BitVec.ofInt 64 (b.length:Int)),b):=⟨by show ([]++beN 8 (mkF g p)++beN 1 (BitVec.ofInt 64 k)++beN 1 (BitVec.ofInt 64 (b.length:Int))).length≤1000000;simp [beN_len],by show b.length≤1000000;omega⟩
 have p7:wout_c.pre (pgF g p k b):=by show (pgF g p k b).length≤1000000;omega
 have hkm:110 - b.length≤110:=by omega
 generalize hm:110 - b.length=m at *;have p5:wplain_c.pre ([]++beN 8 (mkF g p)++beN 1 (BitVec.ofInt 64 k)++beN 1 (BitVec.ofInt 64 (b.length:Int))++b,List.replicate m 0#8):=⟨by show ([]++beN 8 (mkF g p)++beN 1 (BitVec.ofInt 64 k)++beN 1 (BitVec.ofInt 64 (b.length:Int))++b).length≤1000000;simp only [List.length_append,beN_len,List.length_nil];omega,by show (List.replicate m 0#8).length≤1000000;rw [List.length_replicate];omega⟩
 have p6:wu64_c.pre ([]++beN 8 (mkF g p)++beN 1 (BitVec.ofInt 64 k)++beN 1 (BitVec.ofInt 64 (b.length:Int))++b++List.replicate m 0#8,mkF g p):=by
   show ([]++beN 8 (mkF g p)++beN 1 (BitVec.ofInt 64 k)++beN 1 (BitVec.ofInt 64 (b.length:Int))++b++List.replicate m 0#8).length≤1000000;simp only [List.length_append,beN_len,List.length_replicate,List.length_nil];omega
 repeat' (first|(with_reducible refine Unf.h ?_)|((conv=>whnf);first|(refine Side.mk ?_ ?_;focus (first|with_reducible rfl|exact True.intro))|refine Got.mk (fun _ _=>?_)|refine CallS.mk (c:=wmk_c) ((g,p,k,b)) ?_)|fail);all_goals try (conv=>whnf);all_goals try (exfalso;omega)
 refine CallS.mk (c:=wu64_c) (([],mkF g p)) ?_
 repeat' (first|(with_reducible refine Unf.h ?_)|((conv=>whnf);first|(refine Side.mk ?_ ?_;focus (first|with_reducible rfl|assumption))|refine Got.mk (fun _ _=>?_))|fail);all_goals try (conv=>whnf);all_goals try (exfalso;omega)
 refine CallS.mk (c:=wu8_c) (([]++beN 8 (mkF g p),k)) ?_
 repeat' (first|(with_reducible refine Unf.h ?_)|((conv=>whnf);first|(refine Side.mk ?_ ?_;focus (first|with_reducible rfl|assumption))|refine Got.mk (fun _ _=>?_))|fail);all_goals try (conv=>whnf);all_goals try (exfalso;omega)
 refine CallS.mk (c:=wu8_c) (([]++beN 8 (mkF g p)++beN 1 (BitVec.ofInt 64 k),(b.length:Int))) ?_
 repeat' (first|(with_reducible refine Unf.h ?_)|((conv=>whnf);first|(refine Side.mk ?_ ?_;focus (first|with_reducible rfl|assumption))|refine Got.mk (fun _ _=>?_))|fail);all_goals try (conv=>whnf);all_goals try (exfalso;omega)
 refine CallS.mk (c:=wplain_c) (([]++beN 8 (mkF g p)++beN 1 (BitVec.ofInt 64 k)++beN 1 (BitVec.ofInt 64 (b.length:Int)),b)) ?_
 repeat' (first|(with_reducible refine Unf.h ?_)|((conv=>whnf);first|(refine Side.mk ?_ ?_;focus (first|with_reducible rfl|assumption|(intros;(try simp only [lenS,inR,cutS,loI,hiI] at *);omega)))|refine Got.mk (fun _ _=>?_))|fail);all_goals try (conv=>whnf);all_goals try (exfalso;omega)
 rw [ek];rcases m with _|m
 · repeat' (first|(with_reducible refine Unf.h ?_)|((conv=>whnf);(refine Side.mk ?_ ?_;focus (omega)))|fail);all_goals try (conv=>whnf);all_goals try (exfalso;omega)
   refine CallS.mk (c:=wplain_c) (([]++beN 8 (mkF g p)++beN 1 (BitVec.ofInt 64 k)++beN 1 (BitVec.ofInt 64 (b.length:Int))++b,List.replicate 0 0#8)) ?_
   repeat' (first|(with_reducible refine Unf.h ?_)|((conv=>whnf);first|(refine Side.mk ?_ ?_;focus (first|with_reducible rfl|exact True.intro|assumption|(simp [*];done)))|refine Got.mk (fun _ _=>?_)|refine CallS.mk (c:=wmk_c) ((g,p,k,b)) ?_)|fail);all_goals try (conv=>whnf);all_goals try (exfalso;omega)
   refine CallS.mk (c:=wu64_c) (([]++beN 8 (mkF g p)++beN 1 (BitVec.ofInt 64 k)++beN 1 (BitVec.ofInt 64 (b.length:Int))++b++List.replicate 0 0#8,mkF g p)) ?_
   repeat' (first|(with_reducible refine Unf.h ?_)|((conv=>whnf);first|(refine Side.mk ?_ ?_;focus (first|with_reducible rfl|assumption))|refine Got.mk (fun _ _=>?_))|fail);all_goals try (conv=>whnf);all_goals try (exfalso;omega)
   refine CallS.mk (c:=wout_c) ((pgF g p k b)) ?_
   repeat' (first|(with_reducible refine Unf.h ?_)|((conv=>whnf);first|(refine Side.mk ?_ ?_;focus (first|with_reducible rfl|assumption|(simp only [*,es];done)))|refine RetE.mk () trivial ?_|refine Got.mk (fun _ _=>?_)|refine retK_r ?_|exact rfl)|fail);all_goals try (conv=>whnf);all_goals try (exfalso;omega)
   all_goals
     refine Side.mk (by rw [es];rfl) ?_
     all_goals try (conv=>whnf);all_goals try (exfalso;omega)
 · repeat' (first|(with_reducible refine Unf.h ?_)|((conv=>whnf);(refine Side.mk ?_ ?_;focus ((dsimp only;omega))))|fail);all_goals try (conv=>whnf);all_goals try (exfalso;omega)
   refine CallS.mk (c:=wplain_c) (([]++beN 8 (mkF g p)++beN 1 (BitVec.ofInt 64 k)++beN 1 (BitVec.ofInt 64 (b.length:Int))++b,List.replicate (m+1) 0#8)) ?_
   repeat' (first|(with_reducible refine Unf.h ?_)|fail);all_goals try (conv=>whnf);all_goals try (exfalso;omega)
   rw [nilsLL_rep]
   repeat' (first|(with_reducible refine Unf.h ?_)|((conv=>whnf);first|(refine Side.mk ?_ ?_;focus (first|with_reducible rfl|exact True.intro|assumption|(simp only [*,List.map_replicate,Int.toNat_natCast];done)))|refine Got.mk (fun _ _=>?_)|refine CallS.mk (c:=wmk_c) ((g,p,k,b)) ?_)|fail);all_goals try (conv=>whnf);all_goals try (exfalso;omega)
   refine CallS.mk (c:=wu64_c) (([]++beN 8 (mkF g p)++beN 1 (BitVec.ofInt 64 k)++beN 1 (BitVec.ofInt 64 (b.length:Int))++b++List.replicate (m+1) 0#8,mkF g p)) ?_
   repeat' (first|(with_reducible refine Unf.h ?_)|((conv=>whnf);first|(refine Side.mk ?_ ?_;focus (first|with_reducible rfl|assumption))|refine Got.mk (fun _ _=>?_))|fail);all_goals try (conv=>whnf);all_goals try (exfalso;omega)
   refine CallS.mk (c:=wout_c) ((pgF g p k b)) ?_
   repeat' (first|(with_reducible refine Unf.h ?_)|((conv=>whnf);first|(refine Side.mk ?_ ?_;focus (first|with_reducible rfl|assumption|(simp only [*,es];done)))|refine RetE.mk () trivial ?_|refine Got.mk (fun _ _=>?_)|refine retK_r ?_|exact rfl)|fail);all_goals try (conv=>whnf);all_goals try (exfalso;omega)
   all_goals
     refine Side.mk (by rw [es];rfl) ?_
     all_goals try (conv=>whnf);all_goals try (exfalso;omega)
def nPt (n:Nat):Nat:=(n - 1) / 110+1
def lprt_c:Ctr where
 D:=Nat
 pre:=fun n=>1≤n∧n≤1000000
 args:=fun n=>[.int .i64 (n:Int)]
 res:=fun n _=>.int .i64 (nPt n:Int)
def lprt_H:Cfg:=⟨[],[],[],[],10,0,[],[],[]⟩
theorem lprt_ok:lprt_c.Ok Tryz.prog 49:=by
 refine fn_ok lprt_H 0 rfl _ Tryz.func49 rfl rfl trivial rfl rfl (by kernel_rfl) (fun _=>nlb rfl) ?_
 intro (n:Nat) hp hr
 try dsimp only [lprt_c] at hp
 try simp only [lprt_c,Rng,RngL,inR,and_true,true_and] at hr
 obtain ⟨hn,hp⟩:=hp;have hn:1≤n:=hn;have hp:n≤1000000:=hp;have e:(nPt n:Int)=((n:Int) - 1) / 110+1:=by unfold nPt;omega
 have hm:max (((n:Int) - 1) / 110+1) 1=((n:Int) - 1) / 110+1:=by omega
 repeat' (first|(with_reducible refine Unf.h ?_)|((conv=>whnf);first|refine Fork.mk (fun h=>?_) (fun h=>?_)|(refine Side.mk ?_ ?_;focus (first|omega|(refine congrArg (SV.int _) ?_;omega)|(intros;(try simp only [lenS,inR,cutS,loI,hiI,e,hm] at *);omega)))|refine RetE.mk () trivial ?_|refine retK_r ?_|exact rfl)|fail);all_goals try (conv=>whnf);all_goals try (exfalso;omega)
abbrev logB (f c:Int) (g:BitVec 32) (nx:Nat):SO:=.box 137 [.ptr 1 0,.int .i64 f,.int .i64 c,.u32 g,.int .i64 (nx:Int),.bool false]
def lroom_c:Ctr where
 D:=Int×Int×BitVec 32×Nat
 pre:=fun (_,c,_,nx)=>0≤c∧c≤100000∧nx≤100000
 args:=fun _=>[.ptr 0 0]
 objs:=fun (f,c,g,nx)=>[(0,logB f c g nx)]
 nn:=2
 res:=fun (_,c,_,nx) _=>.int .i64 (c - nx)
 out:=fun (f,c,g,nx) _=>[(0,logB f c g nx)]
def lroom_H:Cfg:=⟨[],[(3,[3,7],[],(oA 0 (oA 1 (oA 2 (oB 3 (oA 4 (oA 5 (oA 6 (oB 7 (oA 8 (oA 9 .nil)))))))))),[])],[],[],14,2,[],[],[]⟩
theorem lroom_ok:lroom_c.Ok Tryz.prog 50:=by
 refine fn_ok lroom_H 2 rfl _ Tryz.func50 rfl rfl trivial rfl rfl (by kernel_rfl) (fun _=>nlb rfl) ?_
 rintro ⟨f,c,g,nx⟩ hp hr
 try dsimp only [lroom_c] at hp
 try simp only [lroom_c,Rng,RngL,inR,and_true,true_and] at hr
 obtain ⟨hp1,hp2,hp3⟩:=hp;have hp1:0≤c:=hp1;have hp2:c≤100000:=hp2;have hp3:nx≤100000:=hp3
 repeat' (first|(with_reducible refine Unf.h ?_)|((conv=>whnf);first|(refine Side.mk ?_ ?_;focus (first|with_reducible rfl|(refine congrArg (SV.int _) ?_;omega)|(intros;(try simp only [lenS,inR,cutS,loI,hiI] at *);omega)))|refine RetE.mk () trivial ?_|refine retK_r ?_|exact rfl)|fail);all_goals try (conv=>whnf);all_goals try (exfalso;omega)
def ldone_c:Ctr where
 D:=(Int×Int×BitVec 32×Nat)×Int
 pre:=fun (_,e)=>e≠6
 args:=fun (_,e)=>[.ptr 0 0,.int .i64 e]
 objs:=fun ((f,c,g,nx),_)=>[(0,logB f c g nx)]
 nn:=2
 res:=fun (_,e) _=>.int .i64 e
 out:=fun ((f,c,g,nx),_) _=>[(0,logB f c g nx)]
def ldone_H:Cfg:=⟨[],[],[],[],17,2,[],[],[]⟩
theorem ldone_ok:ldone_c.Ok Tryz.prog 53:=by
 refine fn_ok ldone_H 2 rfl _ Tryz.func53 rfl rfl trivial rfl rfl (by kernel_rfl) (fun _=>nlb rfl) ?_
 rintro ⟨⟨f,c,g,nx⟩,e⟩ hp hr
 try dsimp only [ldone_c] at hp
 try simp only [ldone_c,Rng,RngL,inR,and_true,true_and] at hr
 have hp:e≠6:=hp
 repeat' (first|(with_reducible refine Unf.h ?_)|((conv=>whnf);first|(refine Side.mk ?_ ?_;focus (first|with_reducible rfl|(refine congrArg (SV.int _) ?_;omega)|(simp [*];done)))|refine RetE.mk () trivial ?_|refine retK_r ?_|exact rfl)|fail);all_goals try (conv=>whnf);all_goals try (exfalso;omega)
end Go.Proofs.YtfljmihdeimahaaGreatDoor
