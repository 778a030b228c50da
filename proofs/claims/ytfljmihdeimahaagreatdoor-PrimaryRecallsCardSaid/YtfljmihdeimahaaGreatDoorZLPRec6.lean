import Derived.Test.YtfljmihdeimahaaGreatDoorZLPRec5
import Derived.Test.YtfljmihdeimahaaGreatDoorZLPRec4
namespace Go.Proofs.YtfljmihdeimahaaGreatDoor
set_option linter.all false
open Go.RowKit
theorem beV_app (a:Bs) (c:BitVec 8):beV (a++[c])=beV a <<< 8 ||| c.setWidth 64:=by unfold beV;rw [List.foldl_append];rfl
theorem beN_snoc (n:Nat) (x:BitVec 64):beN (n+1) x=beN n (x >>> 8)++[x.setWidth 8]:=by
 unfold beN;rw [List.range_succ,List.map_append]
 congr 1
 · apply List.map_congr_left
   intro i hi;have hi:=List.mem_range.1 hi;rw [← BitVec.shiftRight_add,show 8+8*(n - 1 - i)=8*(n+1 - 1 - i) by omega]
 · simp
theorem beV_beN:∀ (n:Nat) (x:BitVec 64),n≤8→(beV (beN n x)).toNat=x.toNat % 2^(8*n)
 | 0,x,_=>by simp [beN,beV,Nat.mod_one]
 | n+1,x,h=>by
   have ih:=beV_beN n (x >>> 8) (by omega)
   rw [beN_snoc,beV_app,BitVec.toNat_or,BitVec.toNat_shiftLeft,BitVec.toNat_setWidth,ih,BitVec.toNat_setWidth,BitVec.toNat_ushiftRight,Nat.shiftRight_eq_div_pow];have h1:x.toNat / 2^8 % 2^(8*n)<2^(8*n):=Nat.mod_lt _ (Nat.two_pow_pos _);have h2:2^(8*n)≤2^56:=Nat.pow_le_pow_right (by omega) (by omega)
   have h3:x.toNat % 2^8<2^8:=Nat.mod_lt _ (by decide)
   have e1:x.toNat % 2^8 % 2^64=x.toNat % 2^8:=Nat.mod_eq_of_lt (by omega)
   have e2:(x.toNat / 2^8 % 2^(8*n)) <<< 8 % 2^64=(x.toNat / 2^8 % 2^(8*n)) <<< 8:=Nat.mod_eq_of_lt (by rw [Nat.shiftLeft_eq];omega)
   rw [e1,e2,← Nat.shiftLeft_add_eq_or_of_lt h3,Nat.shiftLeft_eq,show 8*(n+1)=8+8*n by omega,Nat.pow_add,Nat.mod_mul]
   omega
theorem beV_u8 {k:Int} (h0:0≤k) (h:k≤255):((beV (beN 1 (BitVec.ofInt 64 k))).toNat:Int)=k:=by
 rw [beV_beN 1 _ (by omega),BitVec.toNat_ofInt];omega
theorem beV_two {n:Nat} (h:n≤65535):(beV (beN 2 (BitVec.ofInt 64 (n:Int)))).toNat=n:=by
 rw [beV_beN 2 _ (by omega),BitVec.toNat_ofInt];omega
theorem beV_eight (x:BitVec 64):beV (beN 8 x)=x:=by
 apply BitVec.eq_of_toNat_eq
 rw [beV_beN 8 _ (by omega)];have:=x.isLt;omega
theorem beV_four (g:BitVec 32):beV (beN 4 (g.setWidth 64))=g.setWidth 64:=by
 apply BitVec.eq_of_toNat_eq
 rw [beV_beN 4 _ (by omega),BitVec.toNat_setWidth];have:=g.isLt;omega
theorem beT {n:Nat} {x:BitVec 64} {r:Bs}:List.take n (beN n x++r)=beN n x:=List.take_left' (beN_len x n)
theorem beD {n:Nat} {x:BitVec 64} {r:Bs}:List.drop n (beN n x++r)=r:=List.drop_left' (beN_len x n)
theorem beL {n:Nat} {x:BitVec 64} {r:Bs}:(beN n x++r).length=n+r.length:=by rw [List.length_append,beN_len]
def qu64_c:Ctr where
 D:=BitVec 64×Bs
 pre:=fun (_,r)=>r.length≤900000
 args:=fun _=>[.ptr 0 0]
 objs:=fun (x,r)=>[(0,rdO (beN 8 x++r))]
 nn:=1
 res:=fun (x,_) _=>.u64 x
 out:=fun (_,r) _=>[(0,rdO r)]
def qu64_H:Cfg:=⟨[(80,rnu_c)],[],[],[],5,1,[],[],[]⟩
theorem qu64_ok:qu64_c.Ok Tryz.prog 74:=by
 refine fn_ok qu64_H 1 rfl _ Tryz.func74 rfl rfl ⟨rnu_ok,trivial⟩ rfl rfl (by kernel_rfl) (fun _=>nlb rfl) ?_
 rintro ⟨x,r⟩ hp hr
 try dsimp only [qu64_c] at hp
 try simp only [qu64_c,Rng,RngL,inR,and_true,true_and] at hr
 have hp:r.length≤900000:=hp;have hpn:rnu_c.pre (beN 8 x++r,8):=⟨by rw [beL];omega,by omega,by rw [beL];omega⟩
 have e:=beV_eight x
 repeat' (first|(with_reducible refine Unf.h ?_)|fail);all_goals try (conv=>whnf);all_goals try (exfalso;omega)
 refine CallS.mk (c:=rnu_c) ((beN 8 x++r,8)) ?_
 repeat' (first|(with_reducible refine Unf.h ?_)|((conv=>whnf);first|(refine Side.mk ?_ ?_;focus (first|with_reducible rfl|assumption|(refine congrArg (SV.int _) ?_;omega)|(simp only [*,beT,beD,e];done)|(dsimp only [resS,qu64_c];(simp only [*,beT,beD,e];done))))|refine RetE.mk () trivial ?_|refine Got.mk (fun _ _=>?_)|refine retK_r ?_|exact rfl)|fail);all_goals try (conv=>whnf);all_goals try (exfalso;omega)
def qu32_c:Ctr where
 D:=BitVec 32×Bs
 pre:=fun (_,r)=>r.length≤900000
 args:=fun _=>[.ptr 0 0]
 objs:=fun (x,r)=>[(0,rdO (beN 4 (x.setWidth 64)++r))]
 nn:=1
 res:=fun (x,_) _=>.u32 x
 out:=fun (_,r) _=>[(0,rdO r)]
def qu32_H:Cfg:=⟨[(80,rnu_c)],[],[],[],6,1,[],[],[]⟩
theorem qu32_ok:qu32_c.Ok Tryz.prog 43:=by
 refine fn_ok qu32_H 1 rfl _ Tryz.func43 rfl rfl ⟨rnu_ok,trivial⟩ rfl rfl (by kernel_rfl) (fun _=>nlb rfl) ?_
 rintro ⟨x,r⟩ hp hr
 try dsimp only [qu32_c] at hp
 try simp only [qu32_c,Rng,RngL,inR,and_true,true_and] at hr
 have hp:r.length≤900000:=hp;have hpn:rnu_c.pre (beN 4 (x.setWidth 64)++r,4):=⟨by rw [beL];omega,by omega,by rw [beL];omega⟩
 have e:=beV_four x;have e2:(x.setWidth 64).setWidth 32=x:=by simp
 repeat' (first|(with_reducible refine Unf.h ?_)|fail);all_goals try (conv=>whnf);all_goals try (exfalso;omega)
 refine CallS.mk (c:=rnu_c) ((beN 4 (x.setWidth 64)++r,4)) ?_
 repeat' (first|(with_reducible refine Unf.h ?_)|((conv=>whnf);first|(refine Side.mk ?_ ?_;focus (first|with_reducible rfl|assumption|(refine congrArg (SV.int _) ?_;omega)|(simp only [*,beT,beD,e,e2];done)|(dsimp only [resS,qu32_c];(simp only [*,beT,beD,e,e2];done))))|refine RetE.mk () trivial ?_|refine Got.mk (fun _ _=>?_)|refine retK_r ?_|exact rfl)|fail);all_goals try (conv=>whnf);all_goals try (exfalso;omega)
def qu8_c:Ctr where
 D:=Int×Bs
 pre:=fun (x,r)=>0≤x∧x≤255∧r.length≤900000
 args:=fun _=>[.ptr 0 0]
 objs:=fun (x,r)=>[(0,rdO (beN 1 (BitVec.ofInt 64 x)++r))]
 nn:=1
 res:=fun (x,_) _=>.int .i64 x
 out:=fun (_,r) _=>[(0,rdO r)]
def qu8_H:Cfg:=⟨[(80,rnu_c)],[],[],[],6,1,[],[],[]⟩
theorem qu8_ok:qu8_c.Ok Tryz.prog 86:=by
 refine fn_ok qu8_H 1 rfl _ Tryz.func86 rfl rfl ⟨rnu_ok,trivial⟩ rfl rfl (by kernel_rfl) (fun _=>nlb rfl) ?_
 rintro ⟨x,r⟩ hp hr
 try dsimp only [qu8_c] at hp
 try simp only [qu8_c,Rng,RngL,inR,and_true,true_and] at hr
 obtain ⟨hp0,hp1,hp⟩:=hp;have hp:r.length≤900000:=hp;have hpn:rnu_c.pre (beN 1 (BitVec.ofInt 64 x)++r,1):=⟨by rw [beL];omega,by omega,by rw [beL];omega⟩
 have e:=beV_u8 hp0 hp1;have h256:(beV (List.take 1 (beN 1 (BitVec.ofInt 64 x)++r))).toNat<256:=beV_one (by rw [beL];omega)
 repeat' (first|(with_reducible refine Unf.h ?_)|fail);all_goals try (conv=>whnf);all_goals try (exfalso;omega)
 refine CallS.mk (c:=rnu_c) ((beN 1 (BitVec.ofInt 64 x)++r,1)) ?_
 repeat' (first|(with_reducible refine Unf.h ?_)|((conv=>whnf);first|(refine Side.mk ?_ ?_;focus (first|with_reducible rfl|assumption|omega|(refine congrArg (SV.int _) ?_;omega)|(simp only [*,beT,beD,e];done)|(dsimp only [resS,qu8_c];(simp only [*,beT,beD,e];done))))|refine RetE.mk () trivial ?_|refine Got.mk (fun _ _=>?_)|refine retK_r ?_|exact rfl)|fail);all_goals try (conv=>whnf);all_goals try (exfalso;omega)
def qflg_c:Ctr where
 D:=Bs
 pre:=fun r=>r.length≤900000
 args:=fun _=>[.ptr 0 0]
 objs:=fun r=>[(0,rdO (beN 1 0#64++r))]
 nn:=1
 res:=fun _ _=>.bool false
 out:=fun r _=>[(0,rdO r)]
def qflg_H:Cfg:=⟨[(78,rpk_c),(80,rnu_c)],[],[],[],21,1,[],[],[]⟩
theorem qflg_ok:qflg_c.Ok Tryz.prog 42:=by
 refine fn_ok qflg_H 1 rfl _ Tryz.func42 rfl rfl ⟨rpk_ok,rnu_ok,trivial⟩ rfl rfl (by kernel_rfl) (fun _=>nlb rfl) ?_
 intro (r:Bs) hp hr
 try dsimp only [qflg_c] at hp
 try simp only [qflg_c,Rng,RngL,inR,and_true,true_and] at hr
 have hp:r.length≤900000:=hp;have hpk:rpk_c.pre (beN 1 0#64++r,1):=⟨by rw [beL];omega,by omega⟩
 have hpn:rnu_c.pre (beN 1 0#64++r,1):=⟨by rw [beL];omega,by omega,by rw [beL];omega⟩
 have e:beV (beN 1 0#64)=0#64:=by decide
 repeat' (first|(with_reducible refine Unf.h ?_)|fail);all_goals try (conv=>whnf);all_goals try (exfalso;omega)
 refine CallS.mk (c:=rpk_c) ((beN 1 0#64++r,1)) ?_
 repeat' (first|(with_reducible refine Unf.h ?_)|((conv=>whnf);first|refine Fork.mk (fun h=>?_) (fun h=>?_)|(refine Side.mk ?_ ?_;focus (first|with_reducible rfl|assumption|(refine congrArg (SV.int _) ?_;omega)))|refine Got.mk (fun _ _=>?_))|fail);all_goals try (conv=>whnf);all_goals try (exfalso;omega)
 all_goals try (exfalso;contradiction)
 all_goals
   refine CallS.mk (c:=rnu_c) ((beN 1 0#64++r,1)) ?_
   repeat' (first|(with_reducible refine Unf.h ?_)|((conv=>whnf);first|(refine Side.mk ?_ ?_;focus (first|with_reducible rfl|assumption|(refine congrArg (SV.int _) ?_;omega)|exact dF (by omega)|(simp only [*,beT,beD,e];done)))|refine RetE.mk () trivial ?_|refine Got.mk (fun _ _=>?_)|refine retK_r ?_|exact rfl)|fail);all_goals try (conv=>whnf);all_goals try (exfalso;omega)
def qpl_c:Ctr where
 D:=Bs×Bs
 pre:=fun (a,r)=>a.length≤900000∧r.length≤90000
 args:=fun (a,_)=>[.ptr 0 0,.int .i64 (a.length:Int)]
 objs:=fun (a,r)=>[(0,rdO (a++r))]
 nn:=1
 res:=fun (a,_) _=>.fs 1 eB a
 out:=fun (_,r) _=>[(0,rdO r)]
def qpl_H:Cfg:=⟨[(110,rtk_c)],[],[],[],8,1,[],[],[]⟩
theorem qpl_ok:qpl_c.Ok Tryz.prog 77:=by
 refine fn_ok qpl_H 1 rfl _ Tryz.func77 rfl rfl ⟨rtk_ok,trivial⟩ rfl rfl (by kernel_rfl) (fun _=>nlb rfl) ?_
 rintro ⟨a,r⟩ hp hr
 try dsimp only [qpl_c] at hp
 try simp only [qpl_c,Rng,RngL,inR,and_true,true_and] at hr
 obtain ⟨hp1,hp2⟩:=hp;have hp1:a.length≤900000:=hp1;have hp2:r.length≤90000:=hp2;have hpn:rtk_c.pre (a++r,a.length):=⟨by simp,by simp;omega⟩
 have et:List.take a.length (a++r)=a:=List.take_left;have ed:List.drop a.length (a++r)=r:=List.drop_left
 repeat' (first|(with_reducible refine Unf.h ?_)|fail);all_goals try (conv=>whnf);all_goals try (exfalso;omega)
 refine CallS.mk (c:=rtk_c) ((a++r,a.length)) ?_
 repeat' (first|(with_reducible refine Unf.h ?_)|((conv=>whnf);first|(refine Side.mk ?_ ?_;focus (first|with_reducible rfl|assumption|(simp only [*,et,ed];done)))|refine RetE.mk () trivial ?_|refine Got.mk (fun _ _=>?_)|refine retK_r ?_|exact rfl)|fail);all_goals try (conv=>whnf);all_goals try (exfalso;omega)
def qi32_c:Ctr where
 D:=Int×Bs
 pre:=fun (_,r)=>r.length≤900000
 args:=fun _=>[.ptr 0 0]
 objs:=fun (x,r)=>[(0,rdO (beN 4 (BitVec.ofInt 64 x)++r))]
 nn:=1
 res:=fun (x,_) _=>.u32 (BitVec.ofInt 32 x)
 out:=fun (_,r) _=>[(0,rdO r)]
def qi32_H:Cfg:=⟨[(80,rnu_c)],[],[],[],6,1,[],[],[]⟩
theorem qi32_ok:qi32_c.Ok Tryz.prog 43:=by
 refine fn_ok qi32_H 1 rfl _ Tryz.func43 rfl rfl ⟨rnu_ok,trivial⟩ rfl rfl (by kernel_rfl) (fun _=>nlb rfl) ?_
 rintro ⟨x,r⟩ hp hr
 try dsimp only [qi32_c] at hp
 try simp only [qi32_c,Rng,RngL,inR,and_true,true_and] at hr
 have hp:r.length≤900000:=hp;have hpn:rnu_c.pre (beN 4 (BitVec.ofInt 64 x)++r,4):=⟨by rw [beL];omega,by omega,by rw [beL];omega⟩
 have e:(beV (beN 4 (BitVec.ofInt 64 x))).setWidth 32=BitVec.ofInt 32 x:=by
   apply BitVec.eq_of_toNat_eq
   rw [BitVec.toNat_setWidth,beV_beN 4 _ (by omega),BitVec.toNat_ofInt,BitVec.toNat_ofInt];omega
 repeat' (first|(with_reducible refine Unf.h ?_)|fail);all_goals try (conv=>whnf);all_goals try (exfalso;omega)
 refine CallS.mk (c:=rnu_c) ((beN 4 (BitVec.ofInt 64 x)++r,4)) ?_
 repeat' (first|(with_reducible refine Unf.h ?_)|((conv=>whnf);first|(refine Side.mk ?_ ?_;focus (first|with_reducible rfl|assumption|(refine congrArg (SV.int _) ?_;omega)|(simp only [*,beT,beD,e];done)|(dsimp only [resS,qi32_c];(simp only [*,beT,beD,e];done))))|refine RetE.mk () trivial ?_|refine Got.mk (fun _ _=>?_)|refine retK_r ?_|exact rfl)|fail);all_goals try (conv=>whnf);all_goals try (exfalso;omega)
abbrev rdX (l:Bs):SO:=.box 193 [.fs 1 eB l,.bool true]
def rspl_c:Ctr where
 D:=Bs×Bool
 args:=fun _=>[.ptr 0 0]
 objs:=fun (l,b)=>[(0,.box 193 [.fs 1 eB l,.bool b])]
 nn:=1
 res:=fun _ _=>.tup []
 out:=fun (l,_) _=>[(0,rdX l)]
def rspl_H:Cfg:=⟨[],[],[],[],7,1,[],[],[]⟩
theorem rspl_ok:rspl_c.Ok Tryz.prog 79:=by
 refine fn_ok rspl_H 1 rfl _ Tryz.func79 rfl rfl trivial rfl rfl (by kernel_rfl) (fun _=>nlb rfl) ?_
 rintro ⟨l,b⟩ hp hr
 try dsimp only [rspl_c] at hp
 try simp only [rspl_c,Rng,RngL,inR,and_true,true_and] at hr
 repeat' (first|(with_reducible refine Unf.h ?_)|((conv=>whnf);first|(refine Side.mk ?_ ?_;focus (with_reducible rfl))|refine RetE.mk () trivial ?_|refine retK_n ?_|exact rfl)|fail);all_goals try (conv=>whnf);all_goals try (exfalso;omega)
def xfl_c:Ctr where
 D:=Bs
 args:=fun _=>[.ptr 0 0]
 objs:=fun l=>[(0,rdX l)]
 nn:=1
 res:=fun _ _=>.bool true
 out:=fun l _=>[(0,rdX l)]
def xfl_H:Cfg:=⟨[],[],[],[],11,1,[],[],[]⟩
theorem xfl_ok:xfl_c.Ok Tryz.prog 76:=by
 refine fn_ok xfl_H 1 rfl _ Tryz.func76 rfl rfl trivial rfl rfl (by kernel_rfl) (fun _=>nlb rfl) ?_
 intro (l:Bs) hp hr
 try dsimp only [xfl_c] at hp
 try simp only [xfl_c,Rng,RngL,inR,and_true,true_and] at hr
 repeat' (first|(with_reducible refine Unf.h ?_)|((conv=>whnf);first|(refine Side.mk ?_ ?_;focus (with_reducible rfl))|refine RetE.mk () trivial ?_|refine retK_r ?_|exact rfl)|fail);all_goals try (conv=>whnf);all_goals try (exfalso;omega)
def qst_c:Ctr where
 D:=Bs×Bs×Nat
 pre:=fun (a,r,m)=>a.length≤8192∧m<1000000∧r.length≤900000∧a.length≤m
 args:=fun (_,_,m)=>[.ptr 0 0,.int .i64 (m:Int)]
 objs:=fun (a,r,_)=>[(0,rdO (strB a++r))]
 nn:=1
 res:=fun (a,_,_) _=>.fs 1 eB a
 out:=fun (_,r,_) _=>[(0,rdO r)]
def qst_H:Cfg:=⟨[(78,rpk_c),(80,rnu_c),(110,rtk_c),(81,rlf_c)],[],[],[],40,1,[],[],[]⟩
theorem qst_ok:qst_c.Ok Tryz.prog 75:=by
 refine fn_ok qst_H 1 rfl _ Tryz.func75 rfl rfl ⟨rpk_ok,rnu_ok,rtk_ok,rlf_ok,trivial⟩ rfl rfl (by kernel_rfl) (fun _=>nlb rfl) ?_
 rintro ⟨a,r,m⟩ hp hr
 try dsimp only [qst_c] at hp
 try simp only [qst_c,Rng,RngL,inR,and_true,true_and] at hr
 obtain ⟨hp1,hp2,hp3,h⟩:=hp;have hp1:a.length≤8192:=hp1;have hp2:m<1000000:=hp2;have hp3:r.length≤900000:=hp3;have h:a.length≤m:=h;have es:strB a++r=beN 2 (BitVec.ofInt 64 (a.length:Int))++(a++r):=by unfold strB;rw [List.append_assoc]
 have en:(beV (beN 2 (BitVec.ofInt 64 (a.length:Int)))).toNat=a.length:=beV_two (by omega)
 have hpp:rpk_c.pre (strB a++r,2):=⟨by rw [es,beL];omega,by omega⟩
 have hpn:rnu_c.pre (strB a++r,2):=⟨by rw [es,beL];omega,by omega,by rw [es,beL,List.length_append];omega⟩
 have hsl:(strB a++r).length=2+(a.length+r.length):=by rw [es,beL,List.length_append]
 have e2:(beV (List.take 2 (strB a++r))).toNat=a.length:=by rw [es,beT,en]
 have e2d:List.drop 2 (strB a++r)=a++r:=by rw [es,beD]
 have hpt:rtk_c.pre (List.drop 2 (strB a++r),a.length):=by
   rw [e2d];exact ⟨by simp,by simp;omega⟩
 have et:List.take a.length (List.drop 2 (strB a++r))=a:=by rw [e2d];exact List.take_left
 have ed:List.drop a.length (List.drop 2 (strB a++r))=r:=by rw [e2d];exact List.drop_left
 have e8:(8192#64).toNat=8192:=rfl
 repeat' (first|(with_reducible refine Unf.h ?_)|fail);all_goals try (conv=>whnf);all_goals try (exfalso;omega)
 have hx8:¬ (8192#64).toNat<(beV (List.take 2 (strB a++r))).toNat:=by rw [e2,e8];omega
 refine CallS.mk (c:=rpk_c) ((strB a++r,2)) ?_
 repeat' (first|(with_reducible refine Unf.h ?_)|((conv=>whnf);first|refine Fork.mk (fun h=>?_) (fun h=>?_)|(refine Side.mk ?_ ?_;focus (first|with_reducible rfl|assumption|omega|(refine congrArg (SV.int _) ?_;omega)))|refine Got.mk (fun _ _=>?_))|fail);all_goals try (conv=>whnf);all_goals try (exfalso;omega)
 all_goals try (exact absurd (by assumption) hx8)
 all_goals
   refine CallS.mk (c:=rlf_c) ((strB a++r)) ?_
   repeat' (first|(with_reducible refine Unf.h ?_)|((conv=>whnf);first|refine Fork.mk (fun h=>?_) (fun h=>?_)|(refine Side.mk ?_ ?_;focus (first|with_reducible rfl|exact True.intro|(intros;(try simp only [lenS,inR,cutS,loI,hiI,e2,e8,hsl] at *);omega)))|refine Got.mk (fun _ _=>?_))|fail);all_goals try (conv=>whnf);all_goals try (exfalso;omega)
 all_goals
   refine CallS.mk (c:=rnu_c) ((strB a++r,2)) ?_
   repeat' (first|(with_reducible refine Unf.h ?_)|((conv=>whnf);first|(refine Side.mk ?_ ?_;focus (first|with_reducible rfl|assumption|omega|(refine congrArg (SV.int _) ?_;omega)))|refine Got.mk (fun _ _=>?_))|fail);all_goals try (conv=>whnf);all_goals try (exfalso;omega)
 all_goals
   refine CallS.mk (c:=rtk_c) ((List.drop 2 (strB a++r),a.length)) ?_
   repeat' (first|(with_reducible refine Unf.h ?_)|((conv=>whnf);first|(refine Side.mk ?_ ?_;focus (first|with_reducible rfl|assumption|(refine congrArg (SV.int _) ?_;omega)))|refine RetE.mk () trivial ?_|refine Got.mk (fun _ _=>?_)|refine retK_r ?_)|fail);all_goals try (conv=>whnf);all_goals try (exfalso;omega)
 all_goals
   refine Side.mk (by rw [et]) ?_
   repeat' (first|(with_reducible refine Unf.h ?_)|fail);all_goals try (conv=>whnf);all_goals try (exfalso;omega)
 all_goals
   refine Side.mk (by rw [ed]) ?_
   repeat' (first|(with_reducible refine Unf.h ?_)|((conv=>whnf);first|(refine Side.mk ?_ ?_;focus (with_reducible rfl))|exact rfl)|fail);all_goals try (conv=>whnf);all_goals try (exfalso;omega)
def qstX_c:Ctr where
 D:=Bs×Bs×Nat
 pre:=fun (a,r,m)=>a.length≤8192∧m<1000000∧r.length≤900000∧m<a.length
 args:=fun (_,_,m)=>[.ptr 0 0,.int .i64 (m:Int)]
 objs:=fun (a,r,_)=>[(0,rdO (strB a++r))]
 nn:=1
 res:=fun _ _=>.fs 1 eB []
 out:=fun (a,r,_) _=>[(0,rdX (strB a++r))]
def qstX_H:Cfg:=⟨[(78,rpk_c),(79,rspl_c)],[],[],[],40,1,[],[],[]⟩
theorem qstX_ok:qstX_c.Ok Tryz.prog 75:=by
 refine fn_ok qstX_H 1 rfl _ Tryz.func75 rfl rfl ⟨rpk_ok,rspl_ok,trivial⟩ rfl rfl (by kernel_rfl) (fun _=>nlb rfl) ?_
 rintro ⟨a,r,m⟩ hp hr
 try dsimp only [qstX_c] at hp
 try simp only [qstX_c,Rng,RngL,inR,and_true,true_and] at hr
 obtain ⟨hp1,hp2,hp3,h⟩:=hp;have hp1:a.length≤8192:=hp1;have hp2:m<1000000:=hp2;have hp3:r.length≤900000:=hp3;have h:m<a.length:=h;have es:strB a++r=beN 2 (BitVec.ofInt 64 (a.length:Int))++(a++r):=by unfold strB;rw [List.append_assoc]
 have en:(beV (beN 2 (BitVec.ofInt 64 (a.length:Int)))).toNat=a.length:=beV_two (by omega)
 have hpp:rpk_c.pre (strB a++r,2):=⟨by rw [es,beL];omega,by omega⟩
 have e2:(beV (List.take 2 (strB a++r))).toNat=a.length:=by rw [es,beT,en]
 repeat' (first|(with_reducible refine Unf.h ?_)|fail);all_goals try (conv=>whnf);all_goals try (exfalso;omega)
 refine CallS.mk (c:=rpk_c) ((strB a++r,2)) ?_
 repeat' (first|(with_reducible refine Unf.h ?_)|((conv=>whnf);first|refine Fork.mk (fun h=>?_) (fun h=>?_)|(refine Side.mk ?_ ?_;focus (first|with_reducible rfl|assumption|omega|(refine congrArg (SV.int _) ?_;omega)))|refine Got.mk (fun _ _=>?_))|fail);all_goals try (conv=>whnf);all_goals try (exfalso;omega)
 all_goals
   refine CallS.mk (c:=rspl_c) ((strB a++r,false)) ?_
   repeat' (first|(with_reducible refine Unf.h ?_)|((conv=>whnf);first|(refine Side.mk ?_ ?_;focus (first|with_reducible rfl|exact True.intro))|refine RetE.mk () trivial ?_|refine Got.mk (fun _ _=>?_)|refine retK_r ?_|exact rfl)|fail);all_goals try (conv=>whnf);all_goals try (exfalso;omega)
def xtk_c:Ctr where
 D:=Bs×Int
 args:=fun (_,n)=>[.ptr 0 0,.int .i64 n]
 objs:=fun (l,_)=>[(0,rdX l)]
 nn:=1
 res:=fun _ _=>.nils
 out:=fun (l,_) _=>[(0,rdX l)]
def xtk_H:Cfg:=⟨[],[],[],[],45,1,[],[],[]⟩
theorem xtk_ok:xtk_c.Ok Tryz.prog 110:=by
 refine fn_ok xtk_H 1 rfl _ Tryz.func110 rfl rfl trivial rfl rfl (by kernel_rfl) (fun _=>nlb rfl) ?_
 rintro ⟨l,n⟩ hp hr
 try dsimp only [xtk_c] at hp
 try simp only [xtk_c,Rng,RngL,inR,and_true,true_and] at hr
 repeat' (first|(with_reducible refine Unf.h ?_)|((conv=>whnf);first|(refine Side.mk ?_ ?_;focus (first|with_reducible rfl|(dsimp only [resS,xtk_c];done)))|refine RetE.mk () trivial ?_|refine retK_r ?_|exact rfl)|fail);all_goals try (conv=>whnf);all_goals try (exfalso;omega)
def xpk_c:Ctr where
 D:=Bs×Int
 args:=fun (_,n)=>[.ptr 0 0,.int .i64 n]
 objs:=fun (l,_)=>[(0,rdX l)]
 nn:=1
 res:=fun _ _=>.tup [.u64 0#64,.bool false]
 out:=fun (l,_) _=>[(0,rdX l)]
def xpk_H:Cfg:=⟨[],[],[],[],44,1,[],[],[]⟩
theorem xpk_ok:xpk_c.Ok Tryz.prog 78:=by
 refine fn_ok xpk_H 1 rfl _ Tryz.func78 rfl rfl trivial rfl rfl (by kernel_rfl) (fun _=>nlb rfl) ?_
 rintro ⟨l,n⟩ hp hr
 try dsimp only [xpk_c] at hp
 try simp only [xpk_c,Rng,RngL,inR,and_true,true_and] at hr
 repeat' (first|(with_reducible refine Unf.h ?_)|((conv=>whnf);first|(refine Side.mk ?_ ?_;focus (with_reducible rfl))|refine RetE.mk () trivial ?_|refine retK_r ?_|exact rfl)|fail);all_goals try (conv=>whnf);all_goals try (exfalso;omega)
def xnu_c:Ctr where
 D:=Bs×Int
 args:=fun (_,n)=>[.ptr 0 0,.int .i64 n]
 objs:=fun (l,_)=>[(0,rdX l)]
 nn:=1
 res:=fun _ _=>.u64 0#64
 out:=fun (l,_) _=>[(0,rdX l)]
def xnu_H:Cfg:=⟨[(78,xpk_c),(110,xtk_c)],[],[],[],19,1,[],[],[]⟩
theorem xnu_ok:xnu_c.Ok Tryz.prog 80:=by
 refine fn_ok xnu_H 1 rfl _ Tryz.func80 rfl rfl ⟨xpk_ok,xtk_ok,trivial⟩ rfl rfl (by kernel_rfl) (fun _=>nlb rfl) ?_
 rintro ⟨l,n⟩ hp hr
 try dsimp only [xnu_c] at hp
 try simp only [xnu_c,Rng,RngL,inR,and_true,true_and] at hr
 repeat' (first|(with_reducible refine Unf.h ?_)|((conv=>whnf);first|(refine Side.mk ?_ ?_;focus (first|with_reducible rfl|exact True.intro|(dsimp only [resS,xnu_c];done)))|refine RetE.mk () trivial ?_|refine Got.mk (fun _ _=>?_)|refine retK_r ?_|exact rfl|refine CallS.mk (c:=xpk_c) ((l,n)) ?_|refine CallS.mk (c:=xtk_c) ((l,n)) ?_)|fail);all_goals try (conv=>whnf);all_goals try (exfalso;omega)
def xu32_c:Ctr where
 D:=Bs
 args:=fun _=>[.ptr 0 0]
 objs:=fun l=>[(0,rdX l)]
 nn:=1
 res:=fun _ _=>.u32 0#32
 out:=fun l _=>[(0,rdX l)]
def xu32_H:Cfg:=⟨[(80,xnu_c)],[],[],[],6,1,[],[],[]⟩
theorem xu32_ok:xu32_c.Ok Tryz.prog 43:=by
 refine fn_ok xu32_H 1 rfl _ Tryz.func43 rfl rfl ⟨xnu_ok,trivial⟩ rfl rfl (by kernel_rfl) (fun _=>nlb rfl) ?_
 intro (l:Bs) hp hr
 try dsimp only [xu32_c] at hp
 try simp only [xu32_c,Rng,RngL,inR,and_true,true_and] at hr
 repeat' (first|(with_reducible refine Unf.h ?_)|((conv=>whnf);first|(refine Side.mk ?_ ?_;focus (first|with_reducible rfl|exact True.intro|(dsimp only [resS,xu32_c];(simp [*];done))))|refine RetE.mk () trivial ?_|refine Got.mk (fun _ _=>?_)|refine retK_r ?_|exact rfl|refine CallS.mk (c:=xnu_c) ((l,4)) ?_)|fail);all_goals try (conv=>whnf);all_goals try (exfalso;omega)
def xst_c:Ctr where
 D:=Bs×Int
 args:=fun (_,n)=>[.ptr 0 0,.int .i64 n]
 objs:=fun (l,_)=>[(0,rdX l)]
 nn:=1
 res:=fun _ _=>.fs 1 eB []
 out:=fun (l,_) _=>[(0,rdX l)]
def xst_H:Cfg:=⟨[(78,xpk_c),(79,rspl_c)],[],[],[],40,1,[],[],[]⟩
theorem xst_ok:xst_c.Ok Tryz.prog 75:=by
 refine fn_ok xst_H 1 rfl _ Tryz.func75 rfl rfl ⟨xpk_ok,rspl_ok,trivial⟩ rfl rfl (by kernel_rfl) (fun _=>nlb rfl) ?_
 rintro ⟨l,n⟩ hp hr
 try dsimp only [xst_c] at hp
 try simp only [xst_c,Rng,RngL,inR,and_true,true_and] at hr
 repeat' (first|(with_reducible refine Unf.h ?_)|((conv=>whnf);first|(refine Side.mk ?_ ?_;focus (first|with_reducible rfl|exact True.intro))|refine RetE.mk () trivial ?_|refine Got.mk (fun _ _=>?_)|refine retK_r ?_|exact rfl|refine CallS.mk (c:=xpk_c) ((l,2)) ?_|refine CallS.mk (c:=rspl_c) ((l,true)) ?_)|fail);all_goals try (conv=>whnf);all_goals try (exfalso;omega)
def xdn_c:Ctr where
 D:=Bs
 args:=fun _=>[.ptr 0 0]
 objs:=fun l=>[(0,rdX l)]
 nn:=1
 res:=fun _ _=>.bool false
 out:=fun l _=>[(0,rdX l)]
def xdn_H:Cfg:=⟨[(76,xfl_c)],[],[],[],11,1,[],[],[]⟩
theorem xdn_ok:xdn_c.Ok Tryz.prog 44:=by
 refine fn_ok xdn_H 1 rfl _ Tryz.func44 rfl rfl ⟨xfl_ok,trivial⟩ rfl rfl (by kernel_rfl) (fun _=>nlb rfl) ?_
 intro (l:Bs) hp hr
 try dsimp only [xdn_c] at hp
 try simp only [xdn_c,Rng,RngL,inR,and_true,true_and] at hr
 repeat' (first|(with_reducible refine Unf.h ?_)|((conv=>whnf);first|(refine Side.mk ?_ ?_;focus (first|with_reducible rfl|exact True.intro))|refine RetE.mk () trivial ?_|refine Got.mk (fun _ _=>?_)|refine retK_r ?_|exact rfl|refine CallS.mk (c:=xfl_c) (l) ?_)|fail);all_goals try (conv=>whnf);all_goals try (exfalso;omega)
def qct_c:Ctr where
 D:=Nat×Bs×Nat
 pre:=fun (n,r,m)=>n≤m∧m≤4096∧r.length≤900000
 args:=fun (_,_,m)=>[.ptr 0 0,.int .i64 (m:Int)]
 objs:=fun (n,r,_)=>[(0,rdO (beN 2 (BitVec.ofInt 64 (n:Int))++r))]
 nn:=1
 res:=fun (n,_,_) _=>.int .i64 (n:Int)
 out:=fun (_,r,_) _=>[(0,rdO r)]
def qct_H:Cfg:=⟨[(78,rpk_c),(80,rnu_c)],[],[],[],29,1,[],[],[]⟩
theorem qct_ok:qct_c.Ok Tryz.prog 103:=by
 refine fn_ok qct_H 1 rfl _ Tryz.func103 rfl rfl ⟨rpk_ok,rnu_ok,trivial⟩ rfl rfl (by kernel_rfl) (fun _=>nlb rfl) ?_
 rintro ⟨n,r,m⟩ hp hr
 try dsimp only [qct_c] at hp
 try simp only [qct_c,Rng,RngL,inR,and_true,true_and] at hr
 obtain ⟨hp1,hp2,hp3⟩:=hp;have hp1:n≤m:=hp1;have hp2:m≤4096:=hp2;have hp3:r.length≤900000:=hp3;have e2:(beV (beN 2 (BitVec.ofInt 64 (n:Int)))).toNat=n:=beV_two (by omega)
 have hpp:rpk_c.pre (beN 2 (BitVec.ofInt 64 (n:Int))++r,2):=⟨by rw [beL];omega,by omega⟩
 have hpn:rnu_c.pre (beN 2 (BitVec.ofInt 64 (n:Int))++r,2):=⟨by rw [beL];omega,by omega,by rw [beL];omega⟩
 have e8:(4096#64).toNat=4096:=rfl;have et2:(beV (List.take 2 (beN 2 (BitVec.ofInt 64 (n:Int))++r))).toNat=n:=by rw [beT,e2]
 have hx8:¬ (4096#64).toNat<(beV (List.take 2 (beN 2 (BitVec.ofInt 64 (n:Int))++r))).toNat:=by rw [beT,e2,e8];omega
 repeat' (first|(with_reducible refine Unf.h ?_)|fail);all_goals try (conv=>whnf);all_goals try (exfalso;omega)
 refine CallS.mk (c:=rpk_c) ((beN 2 (BitVec.ofInt 64 (n:Int))++r,2)) ?_
 repeat' (first|(with_reducible refine Unf.h ?_)|((conv=>whnf);first|refine Fork.mk (fun h=>?_) (fun h=>?_)|(refine Side.mk ?_ ?_;focus (first|with_reducible rfl|assumption|omega|(refine congrArg (SV.int _) ?_;omega)))|refine Got.mk (fun _ _=>?_))|fail);all_goals try (conv=>whnf);all_goals try (exfalso;omega)
 all_goals try (exact absurd (by assumption) hx8)
 all_goals
   refine CallS.mk (c:=rnu_c) ((beN 2 (BitVec.ofInt 64 (n:Int))++r,2)) ?_
   repeat' (first|(with_reducible refine Unf.h ?_)|((conv=>whnf);first|(refine Side.mk ?_ ?_;focus (first|with_reducible rfl|assumption|omega|(refine congrArg (SV.int _) ?_;omega)|(simp only [*,beT,beD,e2,e8];done)))|refine RetE.mk () trivial ?_|refine Got.mk (fun _ _=>?_)|refine retK_r ?_|exact rfl)|fail);all_goals try (conv=>whnf);all_goals try (exfalso;omega)
def qctX_c:Ctr where
 D:=Nat×Bs×Nat
 pre:=fun (n,r,m)=>m<n∧n≤65535∧r.length≤900000
 args:=fun (_,_,m)=>[.ptr 0 0,.int .i64 (m:Int)]
 objs:=fun (n,r,_)=>[(0,rdO (beN 2 (BitVec.ofInt 64 (n:Int))++r))]
 nn:=1
 res:=fun (n,_,_) _=>.int .i64 0
 out:=fun (n,r,_) _=>[(0,rdX (beN 2 (BitVec.ofInt 64 (n:Int))++r))]
def qctX_H:Cfg:=⟨[(78,rpk_c),(79,rspl_c)],[],[],[],29,1,[],[],[]⟩
theorem qctX_ok:qctX_c.Ok Tryz.prog 103:=by
 refine fn_ok qctX_H 1 rfl _ Tryz.func103 rfl rfl ⟨rpk_ok,rspl_ok,trivial⟩ rfl rfl (by kernel_rfl) (fun _=>nlb rfl) ?_
 rintro ⟨n,r,m⟩ hp hr
 try dsimp only [qctX_c] at hp
 try simp only [qctX_c,Rng,RngL,inR,and_true,true_and] at hr
 obtain ⟨hp1,hp2,hp3⟩:=hp;have hp1:m<n:=hp1;have hp2:n≤65535:=hp2;have hp3:r.length≤900000:=hp3;have e2:(beV (beN 2 (BitVec.ofInt 64 (n:Int)))).toNat=n:=beV_two (by omega)
 have hpp:rpk_c.pre (beN 2 (BitVec.ofInt 64 (n:Int))++r,2):=⟨by rw [beL];omega,by omega⟩
 have et2:(beV (List.take 2 (beN 2 (BitVec.ofInt 64 (n:Int))++r))).toNat=n:=by rw [beT,e2]
 repeat' (first|(with_reducible refine Unf.h ?_)|fail);all_goals try (conv=>whnf);all_goals try (exfalso;omega)
 refine CallS.mk (c:=rpk_c) ((beN 2 (BitVec.ofInt 64 (n:Int))++r,2)) ?_
 repeat' (first|(with_reducible refine Unf.h ?_)|((conv=>whnf);first|refine Fork.mk (fun h=>?_) (fun h=>?_)|(refine Side.mk ?_ ?_;focus (first|with_reducible rfl|assumption|omega|(refine congrArg (SV.int _) ?_;omega)))|refine Got.mk (fun _ _=>?_))|fail);all_goals try (conv=>whnf);all_goals try (exfalso;omega)
 all_goals
   refine CallS.mk (c:=rspl_c) ((beN 2 (BitVec.ofInt 64 (n:Int))++r,false)) ?_
   repeat' (first|(with_reducible refine Unf.h ?_)|((conv=>whnf);first|(refine Side.mk ?_ ?_;focus (first|with_reducible rfl|exact True.intro|(refine congrArg (SV.int _) ?_;omega)))|refine RetE.mk () trivial ?_|refine Got.mk (fun _ _=>?_)|refine retK_r ?_|exact rfl)|fail);all_goals try (conv=>whnf);all_goals try (exfalso;omega)
theorem four_doc (n:Int):beN 4 (BitVec.ofInt 64 n % 4294967296#64)=fourB n:=by
 have key:∀ k:Nat,k=0∨k=8∨k=16∨k=24→((BitVec.ofInt 64 n % 4294967296#64) >>> k).setWidth 8=BitVec.ofInt 8 (n / 2^k):=fun k hk=>by
   apply BitVec.eq_of_toNat_eq
   simp only [BitVec.toNat_setWidth,BitVec.toNat_ushiftRight,BitVec.toNat_umod,BitVec.toNat_ofInt,BitVec.toNat_ofNat,Nat.shiftRight_eq_div_pow];have h64:(n % 18446744073709551616).toNat=n % 18446744073709551616:=by omega
   rcases hk with rfl|rfl|rfl|rfl
   all_goals
     simp only [Nat.reducePow,Nat.reduceMod,Int.reducePow,Int.cast_ofNat_Int];omega
 have k0:=key 0 (by omega)
 have k1:=key 8 (by omega)
 have k2:=key 16 (by omega)
 have k3:=key 24 (by omega)
 rw [show (n / 2^0)=n by simp] at k0
 show [_,_,_,_]=[_,_,_,_];rw [← k0,← k1,← k2,← k3]
def rfour_c:Ctr where
 D:=Int
 args:=fun n=>[.int .i64 n]
 res:=fun n _=>.fs 1 eB (fourB n)
def rfour_H:Cfg:=⟨[(29,number_c)],[],[],[],7,0,[],[],[]⟩
theorem rfour_ok:rfour_c.Ok Tryz.prog 116:=by
 refine fn_ok rfour_H 0 rfl _ Tryz.func116 rfl rfl ⟨number_ok,trivial⟩ rfl rfl (by kernel_rfl) (fun _=>nlb rfl) ?_
 intro (n:Int) hp hr
 try dsimp only [rfour_c] at hp
 try simp only [rfour_c,Rng,RngL,inR,and_true,true_and] at hr
 have e:=four_doc n;have hpn:number_c.pre (BitVec.ofInt 64 n % 4294967296#64,4):=show 4≤1000 by omega
 repeat' (first|(with_reducible refine Unf.h ?_)|((conv=>whnf);(refine Side.mk ?_ ?_;focus ((simp [*];done))))|fail);all_goals try (conv=>whnf);all_goals try (exfalso;omega)
 refine CallS.mk (c:=number_c) ((BitVec.ofInt 64 n % 4294967296#64,4)) ?_
 repeat' (first|(with_reducible refine Unf.h ?_)|((conv=>whnf);first|(refine Side.mk ?_ ?_;focus (first|with_reducible rfl|assumption|(refine congrArg (SV.int _) ?_;omega)|(simp only [*,e];done)))|refine RetE.mk () trivial ?_|refine Got.mk (fun _ _=>?_)|refine retK_r ?_|exact rfl)|fail);all_goals try (conv=>whnf);all_goals try (exfalso;omega)
def rsalt14_c:Ctr where
 D:=H256×Bs×Int
 pre:=fun (_,x,_)=>x.length≤1000000
 args:=fun (s,x,n)=>[.agg [.arr8 s],.fs 1 eB x,.int .i64 n]
 res:=fun (s,x,n) _=>.agg [.arr8 (saltL s x n)]
def rsalt14_H:Cfg:=⟨[(115,rtagged_c),(116,rfour_c)],[(1,[],[3,4,5,6],(oA 0 (oA 1 (oA 2 (oC 3 (oC 4 (oC 5 (oC 6 .nil))))))),[])],[],[],13,0,[],[],[]⟩
theorem rsalt14_ok:rsalt14_c.Ok Tryz.prog 93:=by
 refine fn_ok rsalt14_H 0 rfl _ Tryz.func93 rfl rfl ⟨rtagged_ok,rfour_ok,trivial⟩ rfl rfl (by kernel_rfl) (fun _=>nlb rfl) ?_
 rintro ⟨s,x,n⟩ hp hr
 try dsimp only [rsalt14_c] at hp
 try simp only [rsalt14_c,Rng,RngL,inR,and_true,true_and] at hr
 have hp:x.length≤1000000:=hp;have hpt:rtagged_c.pre (122#8,[s.toList,x,fourB n]):=⟨by simp,by simp [fourB_len,hp]⟩
 repeat' (first|(with_reducible refine Unf.h ?_)|((conv=>whnf);first|(refine Side.mk ?_ ?_;focus (first|with_reducible rfl|exact True.intro|(intros;(try simp only [lenS,inR,cutS,loI,hiI,saltL,cutv2] at *);omega)))|refine Got.mk (fun _ _=>?_)|refine CallS.mk (c:=rfour_c) (n) ?_|refine CallS.mk (c:=rtagged_c) ((122#8,[s.toList,x,fourB n])) ?_)|fail);all_goals try (conv=>whnf);all_goals try (exfalso;omega)
 refine Side.mk (by simp only [cutv2];rfl) ?_
 repeat' (first|(with_reducible refine Unf.h ?_)|((conv=>whnf);first|(refine Side.mk ?_ ?_;focus (first|assumption|(simp only [*,saltL];done)))|refine RetE.mk () trivial ?_|refine Got.mk (fun _ _=>?_)|(with_reducible refine Unf.h ?_)|refine retK_r ?_|exact rfl)|fail);all_goals try (conv=>whnf);all_goals try (exfalso;omega)
def rvtext_c:Ctr where
 D:=Bs×Ver
 pre:=fun (x,v)=>x.length≤1000000∧v.val.length≤1000000
 args:=fun (x,v)=>[.fs 1 eB x,.agg (eVr v)]
 res:=fun _ _=>.own 0
 out:=fun (x,v) _=>[(0,.row 5 1 eB (verT x v))]
 mm:=1
def rvtext_H:Cfg:=⟨[(136,rtext_c),(116,rfour_c)],[(1,[2,5,12],[3,6,13,14],(oA 0 (oA 1 (oB 2 (oA 4 (oB 5 (oA 7 (oA 8 (oA 9 (oA 10 (oA 11 (oB 12 (oD 3 (oD 6 (oC 13 (oC 14 (oA 15 .nil)))))))))))))))),[])],[],[],20,0,[],[],[]⟩
theorem rvtext_ok:rvtext_c.Ok Tryz.prog 118:=by
 refine fn_ok rvtext_H 0 rfl _ Tryz.func118 rfl rfl ⟨rtext_ok,rfour_ok,trivial⟩ rfl rfl (by kernel_rfl) (fun _=>nlb rfl) ?_
 rintro ⟨x,v⟩ hp hr
 try dsimp only [rvtext_c] at hp
 try simp only [rvtext_c,Rng,RngL,inR,and_true,true_and] at hr
 obtain ⟨hp1,hp2⟩:=hp;have hpt:rtext_c.pre (99#8,[x,fourB v.num,fourB v.ep,v.salt.toList,v.before.toList,v.val]):=⟨by simp,by simp [fourB_len,hp1,hp2]⟩
 repeat' (first|(with_reducible refine Unf.h ?_)|((conv=>whnf);(refine Side.mk ?_ ?_;focus (exact True.intro)))|fail);all_goals try (conv=>whnf);all_goals try (exfalso;omega)
 refine CallS.mk (c:=rfour_c) (v.num) ?_
 repeat' (first|(with_reducible refine Unf.h ?_)|((conv=>whnf);first|(refine Side.mk ?_ ?_;focus (first|with_reducible rfl|exact True.intro))|refine Got.mk (fun _ _=>?_))|fail);all_goals try (conv=>whnf);all_goals try (exfalso;omega)
 refine CallS.mk (c:=rfour_c) (v.ep) ?_
 repeat' (first|(with_reducible refine Unf.h ?_)|((conv=>whnf);first|(refine Side.mk ?_ ?_;focus (first|with_reducible rfl|exact True.intro|(intros;(try simp only [lenS,inR,cutS,loI,hiI] at *);omega)))|refine Got.mk (fun _ _=>?_))|fail);all_goals try (conv=>whnf);all_goals try (exfalso;omega)
 refine CallS.mk (c:=rtext_c) ((99#8,[x,fourB v.num,fourB v.ep,v.salt.toList,v.before.toList,v.val])) ?_
 repeat' (first|(with_reducible refine Unf.h ?_)|((conv=>whnf);(refine Side.mk ?_ ?_;focus (with_reducible rfl)))|fail);all_goals try (conv=>whnf);all_goals try (exfalso;omega)
 refine Side.mk (by simp only [cutv2];rfl) ?_
 repeat' (first|(with_reducible refine Unf.h ?_)|((conv=>whnf);first|(refine Side.mk ?_ ?_;focus (first|assumption|(simp only [*,verT];done)))|refine RetE.mk () trivial ?_|refine Got.mk (fun _ _=>?_)|(with_reducible refine Unf.h ?_)|refine retK_r ?_|exact rfl)|fail);all_goals try (conv=>whnf);all_goals try (exfalso;omega)
def rcommit_c:Ctr where
 D:=Bs×Ver
 pre:=fun (x,v)=>x.length≤1000000∧v.val.length≤1000000
 args:=fun (x,v)=>[.fs 1 eB x,.agg (eVr v)]
 res:=fun (x,v) _=>.agg [.arr8 (cmL x v)]
def rcommit_H:Cfg:=⟨[(118,rvtext_c),(117,refsum_c)],[],[],[],9,0,[],[],[]⟩
theorem rcommit_ok:rcommit_c.Ok Tryz.prog 94:=by
 refine fn_ok rcommit_H 0 rfl _ Tryz.func94 rfl rfl ⟨rvtext_ok,refsum_ok,trivial⟩ rfl rfl (by kernel_rfl) (fun _=>nlb rfl) ?_
 rintro ⟨x,v⟩ hp hr
 try dsimp only [rcommit_c] at hp
 try simp only [rcommit_c,Rng,RngL,inR,and_true,true_and] at hr
 obtain ⟨hp1,hp2⟩:=hp;have hpt:rvtext_c.pre (x,v):=⟨hp1,hp2⟩;have hps:=verT_small hp1 hp2;have hpr:refsum_c.pre (verT x v):=hps
 repeat' (first|(with_reducible refine Unf.h ?_)|((conv=>whnf);first|(refine Side.mk ?_ ?_;focus (first|with_reducible rfl|assumption|(simp only [*,cmL];done)))|refine RetE.mk () trivial ?_|refine Got.mk (fun _ _=>?_)|refine retK_r ?_|exact rfl|refine CallS.mk (c:=rvtext_c) ((x,v)) ?_|refine CallS.mk (c:=refsum_c) (verT x v) ?_)|fail);all_goals try (conv=>whnf);all_goals try (exfalso;omega)
theorem last_at {x:Bs} {l:List Ver} {j:Nat} (h:(((j+1:Nat):Int) - 1).toNat<l.length):lastE 0 (l.take (j+1))=(l[(((j+1:Nat):Int) - 1).toNat]'h).ep∧lastB (cmL x) zeroH (l.take (j+1))=cmL x (l[(((j+1:Nat):Int) - 1).toNat]'h):=by
 have e:(((j+1:Nat):Int) - 1).toNat=j:=by omega
 have hj:j<l.length:=by omega
 rw [List.take_succ_eq_append_getElem hj,lastE_snoc,lastB_snoc];simp only [e,and_self]
theorem fm_at {x:Bs} {l:List Ver} {j:Nat} (hf:fmV (cmL x) 0 zeroH 0 (l.take (j+1))) (h:(((j+1:Nat):Int) - 1).toNat<l.length):1≤(l[(((j+1:Nat):Int) - 1).toNat]'h).ep∧(l[(((j+1:Nat):Int) - 1).toNat]'h).val.length≤64:=by
 have e:(((j+1:Nat):Int) - 1).toNat=j:=by omega
 have hj:j<l.length:=by omega
 rw [List.take_succ_eq_append_getElem hj,fmV_app] at hf;have h1:=fmV_le (cmL x) hf.1;have h2:=hf.2.2.1;simp only [e];exact ⟨by omega,hf.2.2.2.2.2⟩
def rform14_c:Ctr where
 D:=Bs×List Ver
 pre:=fun (x,l)=>x.length≤1000000∧l.length≤100000
 args:=fun (x,l)=>[.fs 1 eB x,.fs 67 eVr l]
 res:=fun (x,l) _=>.dec (formedC cmL zeroH x l) inferInstance
def rform14_H:Cfg:=⟨[(94,rcommit_c)],[(11,[4,10,14,20],[21],(oA 0 (oA 1 (oA 2 (oA 3 (oB 4 (oA 5 (oA 6 (oA 7 (oA 8 (oA 9 (oB 10 (oA 11 (oA 12 (oA 13 (oB 14 (oA 15 (oA 16 (oA 17 (oA 18 (oA 19 (oB 20 (oD 21 (oA 22 (oA 23 (oA 24 .nil))))))))))))))))))))))))),[])],[],[],84,0,[],[],[]⟩
theorem rform14_ok:rform14_c.Ok Tryz.prog 95:=by
 refine fn_ok rform14_H 0 rfl _ Tryz.func95 rfl rfl ⟨rcommit_ok,trivial⟩ rfl rfl (by kernel_rfl) (fun _=>nlb rfl) ?_
 rintro ⟨x,l⟩ hp hr
 try dsimp only [rform14_c] at hp
 try simp only [rform14_c,Rng,RngL,inR,and_true,true_and] at hr
 obtain ⟨hp1,hp2⟩:=hp;have hp1:x.length≤1000000:=hp1;have hp2:l.length≤100000:=hp2
 by_cases hx:(1≤x.length∧x.length≤32)∧0<l.length
 · obtain ⟨⟨hx1,hx2⟩,hl⟩:=hx
   repeat' (first|(with_reducible refine Unf.h ?_)|((conv=>whnf);refine Fork.mk (fun h=>?_) (fun h=>?_))|fail);all_goals try (conv=>whnf);all_goals try (exfalso;omega)
   refine LoopS.autoN (I:=Nat) (fun i=>i≤l.length∧fmV (cmL x) 0 zeroH 0 (l.take i)) (fun i=>[(5,.int .i64 (i:Int))]) (fun _=>[]) 0 (fun i=>l.length - i) 0 ⟨Nat.zero_le _,trivial⟩ ?_ ?_
   · repeat' (first|(with_reducible refine Unf.h ?_)|((conv=>whnf);first|(refine Side.mk ?_ ?_;focus (first|with_reducible rfl|(refine congrArg (SV.int _) ?_;omega)))|(with_reducible refine Unf.h ?_)|exact True.intro)|fail);all_goals try (conv=>whnf);all_goals try (exfalso;omega)
   · rintro i ⟨hi,hf⟩
     have hi:i≤l.length:=hi
     by_cases hil:i<l.length
     · have hA:formedC cmL zeroH x l→(l[((i:Nat):Int).toNat]'hil).num=(i:Int)+1∧lastE 0 (l.take i)<(l[((i:Nat):Int).toNat]'hil).ep∧(l[((i:Nat):Int).toNat]'hil).ep<2147483648∧(l[((i:Nat):Int).toNat]'hil).before=lastB (cmL x) zeroH (l.take i)∧(l[((i:Nat):Int).toNat]'hil).val.length≤64:=fun hF=>formed_at hF i hil
       rcases Nat.eq_zero_or_pos i with h0|h0
       · subst h0
         have e0:lastE 0 (l.take 0)=0:=rfl;have e1:lastB (cmL x) zeroH (l.take 0)=zeroH:=rfl;rw [e0,e1] at hA
         repeat' (first|(with_reducible first|refine Unf.h ?_|refine loopK_n ?_)|((conv=>whnf);first|refine Fork.mkn (fun h=>?_) (fun h=>?_)|refine Fork.mk (fun h=>?_) (fun h=>?_)|(refine Side.mk ?_ ?_;focus ((intros;(try simp only [lenS,inR,cutS,loI,hiI] at *);omega)))|(refine Idx.mk ?_ ?_;focus (omega))|refine RetE.mk () trivial ?_|refine retK_r ?_)|fail);all_goals try (conv=>whnf);all_goals try (exfalso;omega)
         all_goals first
           | (refine Side.mk (iffF fun hF => ?_) ?_
              · obtain ⟨a1,a2,a3,a4,a5⟩:=hA hF
                first
                  | omega
                  | exact absurd (congrArg Vector.toList a4) (by assumption)
              · repeat' (first|(with_reducible refine Unf.h ?_)|((conv=>whnf);exact rfl)|fail);all_goals try (conv=>whnf);all_goals try (exfalso;omega))
           | skip
         obtain ⟨q1,q2,q3⟩:=fm_step hil hf (by assumption) (by show 0<(l[((0:Nat):Int).toNat]'hil).ep;omega) (by show (l[((0:Nat):Int).toNat]'hil).ep<_;omega) (Vector.toList_inj.1 (by assumption)) (by show (l[((0:Nat):Int).toNat]'hil).val.length≤_;omega)
         refine ⟨0+1,⟨by omega,by omega,q1⟩,?_⟩
         repeat' (first|(with_reducible refine Unf.h ?_)|((conv=>whnf);first|(refine Side.mk ?_ ?_;focus (first|with_reducible rfl|(refine congrArg (SV.int _) ?_;omega)))|(with_reducible refine Unf.h ?_)|exact True.intro)|fail);all_goals try (conv=>whnf);all_goals try (exfalso;omega)
       · obtain ⟨j,rfl⟩:∃ j,i=j+1:=⟨i - 1,by omega⟩
         have hjl:(((j+1:Nat):Int) - 1).toNat<l.length:=by omega
         obtain ⟨e0,e1⟩:=last_at (x:=x) hjl;obtain ⟨e2,e3⟩:=fm_at hf hjl;rw [e0,e1] at hA;have hpc:rcommit_c.pre (x,l[(((j+1:Nat):Int) - 1).toNat]'hjl):=⟨hp1,by show (l[(((j+1:Nat):Int) - 1).toNat]'hjl).val.length≤1000000;omega⟩
         repeat' (first|(with_reducible refine Unf.h ?_)|((conv=>whnf);first|refine Fork.mkn (fun h=>?_) (fun h=>?_)|refine Fork.mk (fun h=>?_) (fun h=>?_)|(refine Side.mk ?_ ?_;focus ((intros;(try simp only [lenS,inR,cutS,loI,hiI] at *);omega)))|(refine Idx.mk ?_ ?_;focus (omega))|refine RetE.mk () trivial ?_|refine retK_r ?_)|fail);all_goals try (conv=>whnf);all_goals try (exfalso;omega)
         all_goals first
           | (refine Side.mk (iffF fun hF => ?_) ?_
              · obtain ⟨a1,a2,a3,a4,a5⟩:=hA hF
                first
                  | omega
                  | exact absurd (congrArg Vector.toList a4) (by assumption)
              · repeat' (first|(with_reducible refine Unf.h ?_)|((conv=>whnf);exact rfl)|fail);all_goals try (conv=>whnf);all_goals try (exfalso;omega))
           | skip
         refine CallS.mk (c:=rcommit_c) ((x,l[(((j+1:Nat):Int) - 1).toNat]'hjl)) ?_
         repeat' (first|(with_reducible first|refine Unf.h ?_|refine loopK_n ?_)|((conv=>whnf);first|refine Fork.mkn (fun h=>?_) (fun h=>?_)|(refine Side.mk ?_ ?_;focus (first|with_reducible rfl|assumption|(intros;(try simp only [lenS,inR,cutS,loI,hiI] at *);omega)))|refine RetE.mk () trivial ?_|refine Got.mk (fun _ _=>?_)|refine retK_r ?_)|fail);all_goals try (conv=>whnf);all_goals try (exfalso;omega)
         all_goals first
           | (refine Side.mk (iffF fun hF => ?_) ?_
              · obtain ⟨a1,a2,a3,a4,a5⟩:=hA hF
                first
                  | omega
                  | exact absurd (congrArg Vector.toList a4) (by assumption)
              · repeat' (first|(with_reducible refine Unf.h ?_)|((conv=>whnf);exact rfl)|fail);all_goals try (conv=>whnf);all_goals try (exfalso;omega))
           | skip
         obtain ⟨q1,q2,q3⟩:=fm_step hil hf (by assumption) (by rw [e0];show _<(l[((j+1:Nat):Int).toNat]'hil).ep;omega) (by show (l[((j+1:Nat):Int).toNat]'hil).ep<_;omega) (by rw [e1];exact Vector.toList_inj.1 (by assumption)) (by show (l[((j+1:Nat):Int).toNat]'hil).val.length≤_;omega)
         refine ⟨j+1+1,⟨by omega,by omega,q1⟩,?_⟩
         repeat' (first|(with_reducible refine Unf.h ?_)|((conv=>whnf);first|(refine Side.mk ?_ ?_;focus (first|with_reducible rfl|(refine congrArg (SV.int _) ?_;omega)))|(with_reducible refine Unf.h ?_)|exact True.intro)|fail);all_goals try (conv=>whnf);all_goals try (exfalso;omega)
     · have e:l.take i=l:=List.take_of_length_le (by omega)
       rw [e] at hf;have hF:formedC cmL zeroH x l:=⟨⟨hx1,hx2⟩,fun h=>by rw [h] at hl;exact absurd hl (by simp),hf⟩
       repeat' (first|(with_reducible refine Unf.h ?_)|((conv=>whnf);first|refine Fork.mk (fun h=>?_) (fun h=>?_)|(refine Side.mk ?_ ?_;focus ((refine ⟨fun h=>?_,fun h=>?_⟩<;>first|rfl|(cases h;done)|omega|(exfalso;omega)|(simp only [Bool.false_eq_true] at h;done))))|refine RetE.mk () trivial ?_|refine retK_r ?_|exact rfl)|fail);all_goals try (conv=>whnf);all_goals try (exfalso;omega)
 · have hn:¬ formedC cmL zeroH x l:=fun h=>hx ⟨h.1,List.length_pos_iff.2 h.2.1⟩
   repeat' (first|(with_reducible refine Unf.h ?_)|((conv=>whnf);first|refine Fork.mk (fun h=>?_) (fun h=>?_)|(refine Side.mk ?_ ?_;focus ((simp [*,hn];done)))|refine RetE.mk () trivial ?_|refine retK_r ?_|exact rfl)|fail);all_goals try (conv=>whnf);all_goals try (exfalso;omega)
def rgrow14_c:Ctr where
 D:=H256×Bs×List Ver×Int×Bs
 pre:=fun (_,x,l,_,val)=>x.length≤100000∧l.length≤10000∧val.length≤100000∧∀ v∈l,v.val.length≤100000
 args:=fun (s,x,l,e,val)=>[.agg [.arr8 s],.fs 1 eB x,.fs 67 eVr l,.int .i64 e,.fs 1 eB val]
 res:=fun (s,x,l,e,val) _=>.tup [.fs 67 eVr (growF s x l e val).1,.int .i64 (growF s x l e val).2]
def rgrow14_H:Cfg:=⟨[(93,rsalt14_c),(94,rcommit_c),(95,rform14_c)],[],[28],[],61,0,[],[],[]⟩
theorem rgrow14_ok:rgrow14_c.Ok Tryz.prog 55:=by
 refine fn_ok rgrow14_H 0 rfl _ Tryz.func55 rfl rfl ⟨rsalt14_ok,rcommit_ok,rform14_ok,trivial⟩ rfl rfl (by kernel_rfl) (fun _=>nlb rfl) ?_
 rintro ⟨s,x,l,e,val⟩ hp hr
 try dsimp only [rgrow14_c] at hp
 try simp only [rgrow14_c,Rng,RngL,inR,and_true,true_and] at hr
 obtain ⟨hp1,hp2,hp3,hp4⟩:=hp;have hp1:x.length≤100000:=hp1;have hp2:l.length≤10000:=hp2;have hp3:val.length≤100000:=hp3;have hcs:rsalt14_c.pre (s,x,(l.length:Int)+1):=show x.length≤1000000 by omega
 obtain ⟨nv,hnv⟩:∃ nv,newV cmL zeroH (saltL s x ((l.length:Int)+1)) x l e val=nv:=⟨_,rfl⟩;have hnv2:nv=⟨(l.length:Int)+1,e,saltL s x ((l.length:Int)+1),lastB (cmL x) zeroH l,val⟩:=hnv.symm;have hfo:formedC cmL zeroH x (l++[nv])↔okG cmL zeroH x l e val:=by rw [← hnv];exact okG_out cmL zeroH _
 repeat' (first|(with_reducible refine Unf.h ?_)|((conv=>whnf);(refine Side.mk ?_ ?_;focus ((intros;(try simp only [lenS,inR,cutS,loI,hiI] at *);omega))))|fail);all_goals try (conv=>whnf);all_goals try (exfalso;omega)
 refine CallS.mk (c:=rsalt14_c) ((s,x,(l.length:Int)+1)) ?_
 repeat' (first|(with_reducible refine Unf.h ?_)|((conv=>whnf);first|(refine Side.mk ?_ ?_;focus (first|with_reducible rfl|assumption))|refine Got.mk (fun _ _=>?_))|fail);all_goals try (conv=>whnf);all_goals try (exfalso;omega)
 refine CutS.auto (I:=Unit) (fun _=>True) (fun _=>[(12,.ptr 1 0)]) (fun _=>[(0,.box 35 [.arr8 s]),(1,.box 151 [.int .i64 ((l.length:Int)+1),.int .i64 e,.arr8 (saltL s x ((l.length:Int)+1)),.arr8 (lastB (cmL x) zeroH l),.fs 1 eB val])]) 2 ?_ ?_
 · rcases Nat.eq_zero_or_pos l.length with hl|hl
   · obtain rfl:=List.eq_nil_of_length_eq_zero hl
     have e0:lastB (cmL x) zeroH []=zeroH:=rfl
     repeat' (first|(with_reducible first|refine Unf.h ?_|refine cutK_n ?_)|((conv=>whnf);refine Fork.mk (fun h=>?_) (fun h=>?_))|fail);all_goals try (conv=>whnf);all_goals try (exfalso;omega)
     refine ⟨(),trivial,?_⟩
     repeat' (first|(with_reducible refine Unf.h ?_)|((conv=>whnf);first|(refine Side.mk ?_ ?_;focus (first|with_reducible rfl|(simp only [*,e0];done)))|(with_reducible refine Unf.h ?_)|exact True.intro)|fail);all_goals try (conv=>whnf);all_goals try (exfalso;omega)
   · have hne:=List.length_pos_iff.1 hl
     have hli:((l.length:Int) - 1).toNat<l.length:=by omega
     have hlast:(l.getLast hne)=l[((l.length:Int) - 1).toNat]'hli:=by
       rw [List.getLast_eq_getElem];congr 1;omega
     have hB:=lastB_at (cmL x) zeroH hne;rw [hlast] at hB;have hpc:rcommit_c.pre (x,l[((l.length:Int) - 1).toNat]'hli):=⟨show x.length≤1000000 by omega,by
       have:=hp4 _ (List.getElem_mem hli)
       show (l[((l.length:Int) - 1).toNat]'hli).val.length≤1000000;omega⟩
     repeat' (first|(with_reducible refine Unf.h ?_)|((conv=>whnf);first|refine Fork.mk (fun h=>?_) (fun h=>?_)|(refine Side.mk ?_ ?_;focus ((intros;(try simp only [lenS,inR,cutS,loI,hiI] at *);omega)))|(refine Idx.mk ?_ ?_;focus (omega)))|fail);all_goals try (conv=>whnf);all_goals try (exfalso;omega)
     refine CallS.mk (c:=rcommit_c) ((x,l[((l.length:Int) - 1).toNat]'hli)) ?_
     repeat' (first|(with_reducible first|refine Unf.h ?_|refine cutK_n ?_)|((conv=>whnf);first|(refine Side.mk ?_ ?_;focus (first|with_reducible rfl|assumption))|refine Got.mk (fun _ _=>?_))|fail);all_goals try (conv=>whnf);all_goals try (exfalso;omega)
     refine ⟨(),trivial,?_⟩
     repeat' (first|(with_reducible refine Unf.h ?_)|((conv=>whnf);first|(refine Side.mk ?_ ?_;focus (first|with_reducible rfl|(simp only [*,hB];done)))|(with_reducible refine Unf.h ?_)|exact True.intro)|fail);all_goals try (conv=>whnf);all_goals try (exfalso;omega)
 · intro _ _
   have hp5:rform14_c.pre (x,l):=⟨show x.length≤1000000 by omega,show l.length≤100000 by omega⟩
   have hp6:rform14_c.pre (x,l++[nv]):=⟨show x.length≤1000000 by omega,by show (l++[nv]).length≤100000;simp;omega⟩
   by_cases hok:okG cmL zeroH x l e val
   · have hf:growF s x l e val=(l++[nv],0):=by rw [← hnv];exact if_pos hok
     have hF2:=hfo.2 hok
     repeat' (first|(with_reducible refine Unf.h ?_)|((conv=>whnf);(refine Side.mk ?_ ?_;focus ((intros;(try simp only [lenS,inR,cutS,loI,hiI] at *);omega))))|fail);all_goals try (conv=>whnf);all_goals try (exfalso;omega)
     refine Ex.mk [nv] (by rw [hnv2];rfl) ?_
     repeat' (first|(with_reducible refine Unf.h ?_)|((conv=>whnf);first|refine Fork.mk (fun h=>?_) (fun h=>?_)|(refine Side.mk ?_ ?_;focus ((intros;(try simp only [lenS,inR,cutS,loI,hiI] at *);omega))))|fail);all_goals try (conv=>whnf);all_goals try (exfalso;omega)
     · refine CallS.mk (c:=rform14_c) ((x,l)) ?_
       repeat' (first|(with_reducible refine Unf.h ?_)|((conv=>whnf);first|refine Fork.mkn (fun h=>?_) (fun h=>?_)|(refine Side.mk ?_ ?_;focus (first|with_reducible rfl|assumption))|refine RetE.mk () trivial ?_|refine Got.mk (fun _ _=>?_)|refine retK_r ?_)|fail);all_goals try (conv=>whnf);all_goals try (exfalso;omega)
       · exact absurd (okG_short cmL zeroH hok (List.length_pos_iff.1 (by omega))) (by assumption)
       refine CallS.mk (c:=rform14_c) ((x,l++[nv])) ?_
       repeat' (first|(with_reducible refine Unf.h ?_)|((conv=>whnf);first|refine Fork.mkn (fun h=>?_) (fun h=>?_)|(refine Side.mk ?_ ?_;focus (first|with_reducible rfl|assumption|(simp only [*,hf];done)))|refine RetE.mk () trivial ?_|refine Got.mk (fun _ _=>?_)|refine retK_r ?_|exact rfl)|fail);all_goals try (conv=>whnf);all_goals try (exfalso;omega)
       exact absurd hF2 (by assumption)
     · refine CallS.mk (c:=rform14_c) ((x,l++[nv])) ?_
       repeat' (first|(with_reducible refine Unf.h ?_)|((conv=>whnf);first|refine Fork.mkn (fun h=>?_) (fun h=>?_)|(refine Side.mk ?_ ?_;focus (first|with_reducible rfl|assumption|(simp only [*,hf];done)))|refine RetE.mk () trivial ?_|refine Got.mk (fun _ _=>?_)|refine retK_r ?_|exact rfl)|fail);all_goals try (conv=>whnf);all_goals try (exfalso;omega)
       exact absurd hF2 (by assumption)
   · have hf:growF s x l e val=([],1):=if_neg hok
     repeat' (first|(with_reducible refine Unf.h ?_)|((conv=>whnf);(refine Side.mk ?_ ?_;focus ((intros;(try simp only [lenS,inR,cutS,loI,hiI] at *);omega))))|fail);all_goals try (conv=>whnf);all_goals try (exfalso;omega)
     refine Ex.mk [nv] (by rw [hnv2];rfl) ?_
     repeat' (first|(with_reducible refine Unf.h ?_)|((conv=>whnf);first|refine Fork.mk (fun h=>?_) (fun h=>?_)|(refine Side.mk ?_ ?_;focus ((intros;(try simp only [lenS,inR,cutS,loI,hiI] at *);omega))))|fail);all_goals try (conv=>whnf);all_goals try (exfalso;omega)
     · refine CallS.mk (c:=rform14_c) ((x,l)) ?_
       repeat' (first|(with_reducible refine Unf.h ?_)|((conv=>whnf);first|refine Fork.mkn (fun h=>?_) (fun h=>?_)|(refine Side.mk ?_ ?_;focus (first|with_reducible rfl|assumption|(simp only [*,hf];done)))|refine RetE.mk () trivial ?_|refine Got.mk (fun _ _=>?_)|refine retK_r ?_|exact rfl)|fail);all_goals try (conv=>whnf);all_goals try (exfalso;omega)
       refine CallS.mk (c:=rform14_c) ((x,l++[nv])) ?_
       repeat' (first|(with_reducible refine Unf.h ?_)|((conv=>whnf);first|refine Fork.mkn (fun h=>?_) (fun h=>?_)|(refine Side.mk ?_ ?_;focus (first|with_reducible rfl|assumption|(simp only [*,hf];done)))|refine RetE.mk () trivial ?_|refine Got.mk (fun _ _=>?_)|refine retK_r ?_|exact rfl)|fail);all_goals try (conv=>whnf);all_goals try (exfalso;omega)
       exact absurd (hfo.1 (by assumption)) hok
     · refine CallS.mk (c:=rform14_c) ((x,l++[nv])) ?_
       repeat' (first|(with_reducible refine Unf.h ?_)|((conv=>whnf);first|refine Fork.mkn (fun h=>?_) (fun h=>?_)|(refine Side.mk ?_ ?_;focus (first|with_reducible rfl|assumption|(simp only [*,hf];done)))|refine RetE.mk () trivial ?_|refine Got.mk (fun _ _=>?_)|refine retK_r ?_|exact rfl)|fail);all_goals try (conv=>whnf);all_goals try (exfalso;omega)
       exact absurd (hfo.1 (by assumption)) hok
abbrev eEp (n:List Nws):List SV:=[.fs 68 eNw n]
abbrev rSt (s:H256) (es:List (List Nws)):SV:=.fpt [.arr8 s,.fs 1 eEp es]
structure RdOk (es:List (List Nws)):Prop where
 len:es.length≤30
 few:∀ n∈es,n.length≤100
 lab:∀ n∈es,∀ p∈n,p.1.length≤100000∧p.2.val.length≤100000
theorem StOk.rd {es:List (List Nws)} (h:StOk es):RdOk es:=⟨by have:=h.len;omega,fun n hn=>by have:=h.few n hn;omega,fun n hn p hp=>by have:=h.lab n hn p hp;omega⟩
abbrev pick1 (x:Bs) (n:List Nws):List Ver:=n.filterMap fun p=>if p.1=x then some p.2 else none
theorem pick1_len (x:Bs) (n:List Nws):(pick1 x n).length≤n.length:=List.length_filterMap_le ..
theorem pick1_step (x:Bs) (n:List Nws) (k:Nat) (h:k<n.length):pick1 x (n.take (k+1))=pick1 x (n.take k)++if n[k].1=x then [n[k].2] else []:=by
 unfold pick1;rw [List.take_succ_eq_append_getElem h,List.filterMap_append]
 congr 1
 split
 · rename_i e;simp [e]
 · rename_i e;simp [e]
theorem chR_step (es:List (List Nws)) (x:Bs) (i:Nat) (h:i<es.length):chR (es.take (i+1)) x=chR (es.take i) x++pick1 x es[i]:=by
 rw [List.take_succ_eq_append_getElem h,chR_snoc]
theorem RdOk.ch {es:List (List Nws)} (h:RdOk es) (x:Bs) (i:Nat):(chR (es.take i) x).length≤3000:=by
 have h1:=chR_len (es.take i) x;have h2:=flat_few (es.take i) 100 fun n hn=>h.few n (List.mem_of_mem_take hn)
 have h3:(es.take i).length≤es.length:=by simp;omega
 have:=h.len
 omega
theorem chR_mem {es:List (List Nws)} {x:Bs} {v:Ver} (h:v∈chR es x):∃ n∈es,∃ p∈n,p.2=v:=by
 unfold chR at h;obtain ⟨p,hp,he⟩:=List.mem_filterMap.1 h;obtain ⟨n,hn,hpn⟩:=List.mem_flatten.1 hp;refine ⟨n,hn,p,hpn,?_⟩
 split at he
 · exact Option.some.inj he
 · cases he
def rchain_c:Ctr where
 D:=H256×List (List Nws)×Bs×Nat
 pre:=fun (_,es,_,_)=>RdOk es
 args:=fun (s,es,x,e)=>[rSt s es,.fs 1 eB x,.int .i64 (e:Int)]
 res:=fun _ _=>.own 0
 out:=fun (_,es,x,e) _=>[(0,.row 151 67 eVr (chR (es.take e) x))]
 mm:=1
def rchain_H:Cfg:=⟨[(26,same_c)],[],[],[],64,0,[],[],[]⟩
theorem rchain_ok:rchain_c.Ok Tryz.prog 56:=by
 refine fn_ok rchain_H 0 rfl _ Tryz.func56 rfl rfl ⟨same_ok,trivial⟩ rfl rfl (by kernel_rfl) (fun _=>nlb rfl) ?_
 rintro ⟨s,es,x,e⟩ hp hr
 try dsimp only [rchain_c] at hp
 try simp only [rchain_c,Rng,RngL,inR,and_true,true_and] at hr
 have hp:RdOk es:=hp
 repeat' (first|(with_reducible refine Unf.h ?_)|fail);all_goals try (conv=>whnf);all_goals try (exfalso;omega)
 refine LoopS.autoN (I:=Nat) (fun i=>i≤es.length∧i≤e) (fun i=>[(8,.int .i64 (i:Int)),(7,.own 0)]) (fun i=>[(0,.row 151 67 eVr (chR (es.take i) x))]) 1 (fun i=>es.length - i) 0 ⟨Nat.zero_le _,Nat.zero_le _⟩ ?_ ?_
 · have e0:chR (es.take 0) x=[]:=rfl
   repeat' (first|(with_reducible refine Unf.h ?_)|((conv=>whnf);first|(refine Side.mk ?_ ?_;focus (first|with_reducible rfl|assumption|(refine congrArg (SV.int _) ?_;omega)))|(with_reducible refine Unf.h ?_)|exact True.intro)|fail);all_goals try (conv=>whnf);all_goals try (exfalso;omega)
 · rintro i ⟨hi,hie⟩
   have hi:i≤es.length:=hi;have hie:i≤e:=hie;have hch:=hp.ch x i
   by_cases hil:i<es.length∧i<e
   · obtain ⟨hil,hil2⟩:=hil
     have hnl:=hp.few (es[((i:Nat):Int).toNat]'hil) (List.getElem_mem _);have es1:chR (es.take (i+1)) x=chR (es.take i) x++pick1 x (es[((i:Nat):Int).toNat]'hil):=chR_step es x i hil
     repeat' (first|(with_reducible refine Unf.h ?_)|((conv=>whnf);refine Fork.mk (fun h=>?_) (fun h=>?_))|fail);all_goals try (conv=>whnf);all_goals try (exfalso;omega)
     refine LoopS.autoN (I:=Nat) (fun k=>k≤(es[((i:Nat):Int).toNat]'hil).length) (fun k=>[(9,.int .i64 (k:Int)),(7,.own 0)]) (fun k=>[(0,.row 151 67 eVr (chR (es.take i) x++pick1 x ((es[((i:Nat):Int).toNat]'hil).take k)))]) 1 (fun k=>(es[((i:Nat):Int).toNat]'hil).length - k) 0 (Nat.zero_le _) ?_ ?_
     · have e0:chR (es.take i) x++pick1 x ((es[((i:Nat):Int).toNat]'hil).take 0)=chR (es.take i) x:=by simp [pick1]
       repeat' (first|(with_reducible refine Unf.h ?_)|((conv=>whnf);first|(refine Side.mk ?_ ?_;focus (first|with_reducible rfl|(refine congrArg (SV.int _) ?_;omega)|(simp only [*,e0];done)))|(with_reducible refine Unf.h ?_)|exact True.intro)|fail);all_goals try (conv=>whnf);all_goals try (exfalso;omega)
     · intro k hk
       have hk:k≤(es[((i:Nat):Int).toNat]'hil).length:=hk;have hpk:=pick1_len x ((es[((i:Nat):Int).toNat]'hil).take k);have htk:((es[((i:Nat):Int).toNat]'hil).take k).length≤(es[((i:Nat):Int).toNat]'hil).length:=by simp;omega
       by_cases hkl:k<(es[((i:Nat):Int).toNat]'hil).length
       · have ek:pick1 x ((es[((i:Nat):Int).toNat]'hil).take (k+1))=pick1 x ((es[((i:Nat):Int).toNat]'hil).take k)++if ((es[((i:Nat):Int).toNat]'hil)[((k:Nat):Int).toNat]'hkl).1=x then [((es[((i:Nat):Int).toNat]'hil)[((k:Nat):Int).toNat]'hkl).2] else []:=pick1_step x (es[((i:Nat):Int).toNat]'hil) k hkl
         repeat' (first|(with_reducible refine Unf.h ?_)|((conv=>whnf);first|refine Fork.mk (fun h=>?_) (fun h=>?_)|(refine Idx.mk ?_ ?_;focus (omega)))|fail);all_goals try (conv=>whnf);all_goals try (exfalso;omega)
         refine CallS.mk (c:=same_c) ((((es[((i:Nat):Int).toNat]'hil)[((k:Nat):Int).toNat]'hkl).1,x)) ?_
         repeat' (first|(with_reducible first|refine Unf.h ?_|refine loopK_n ?_)|((conv=>whnf);first|refine Fork.mk (fun h=>?_) (fun h=>?_)|(refine Side.mk ?_ ?_;focus (first|with_reducible rfl|exact True.intro|(intros;(try simp only [lenS,inR,cutS,loI,hiI] at *);omega)))|(refine Idx.mk ?_ ?_;focus (omega))|refine Got.mk (fun _ _=>?_)|refine Ex.mk [_] rfl ?_)|fail);all_goals try (conv=>whnf);all_goals try (exfalso;omega)
         · rw [if_pos (by assumption)] at ek
           refine ⟨k+1,⟨by omega,by omega⟩,?_⟩
           rw [ek,← List.append_assoc]
           repeat' (first|(with_reducible refine Unf.h ?_)|((conv=>whnf);first|(refine Side.mk ?_ ?_;focus (first|with_reducible rfl|(refine congrArg (SV.int _) ?_;omega)))|(with_reducible refine Unf.h ?_)|exact True.intro)|fail);all_goals try (conv=>whnf);all_goals try (exfalso;omega)
         · rw [if_neg (by assumption),List.append_nil] at ek
           refine ⟨k+1,⟨by omega,by omega⟩,?_⟩
           rw [ek]
           repeat' (first|(with_reducible refine Unf.h ?_)|((conv=>whnf);first|(refine Side.mk ?_ ?_;focus (first|with_reducible rfl|(refine congrArg (SV.int _) ?_;omega)))|(with_reducible refine Unf.h ?_)|exact True.intro)|fail);all_goals try (conv=>whnf);all_goals try (exfalso;omega)
       · have e0:(es[((i:Nat):Int).toNat]'hil).take k=(es[((i:Nat):Int).toNat]'hil):=List.take_of_length_le (by omega)
         rw [e0,← es1]
         repeat' (first|(with_reducible first|refine Unf.h ?_|refine loopK_n ?_)|((conv=>whnf);first|refine Fork.mk (fun h=>?_) (fun h=>?_)|(refine Side.mk ?_ ?_;focus ((intros;(try simp only [lenS,inR,cutS,loI,hiI] at *);omega)))|(refine Idx.mk ?_ ?_;focus (omega)))|fail);all_goals try (conv=>whnf);all_goals try (exfalso;omega)
         refine ⟨i+1,⟨by omega,by omega,by omega⟩,?_⟩
         repeat' (first|(with_reducible refine Unf.h ?_)|((conv=>whnf);first|(refine Side.mk ?_ ?_;focus (first|with_reducible rfl|(refine congrArg (SV.int _) ?_;omega)))|(with_reducible refine Unf.h ?_)|exact True.intro)|fail);all_goals try (conv=>whnf);all_goals try (exfalso;omega)
   · have e1:es.take e=es.take i:=by
       rcases Nat.lt_or_ge i e with h'|h'
       · rw [List.take_of_length_le (by omega),List.take_of_length_le (by omega)]
       · rw [show e=i by omega]
     repeat' (first|(with_reducible refine Unf.h ?_)|((conv=>whnf);first|refine Fork.mk (fun h=>?_) (fun h=>?_)|(refine Side.mk ?_ ?_;focus ((simp only [*,e1];done)))|refine RetE.mk () trivial ?_|refine retK_r ?_|exact rfl)|fail);all_goals try (conv=>whnf);all_goals try (exfalso;omega)
def rwith19_c:Ctr where
 D:=H256×List (List Nws)×List Nws
 pre:=fun (_,es,_)=>es.length≤1000
 args:=fun (s,es,n)=>[rSt s es,.fs 68 eNw n]
 res:=fun (s,es,n) _=>rSt s (es++[n])
def rwith19_H:Cfg:=⟨[],[(2,[4,8],[9,12],(oA 0 (oA 1 (oA 2 (oA 3 (oB 4 (oA 5 (oA 6 (oA 7 (oB 8 (oC 9 (oA 10 (oA 11 (oC 12 .nil))))))))))))),[])],[],[],35,0,[],[],[]⟩
theorem rwith19_ok:rwith19_c.Ok Tryz.prog 58:=by
 refine fn_ok rwith19_H 0 rfl _ Tryz.func58 rfl rfl trivial rfl rfl (by kernel_rfl) (fun _=>nlb rfl) ?_
 rintro ⟨s,es,n⟩ hp hr
 try dsimp only [rwith19_c] at hp
 try simp only [rwith19_c,Rng,RngL,inR,and_true,true_and] at hr
 have hp:es.length≤1000:=hp
 repeat' (first|(with_reducible refine Unf.h ?_)|((conv=>whnf);first|(refine Side.mk ?_ ?_;focus (first|with_reducible rfl|(intros;(try simp only [lenS,inR,cutS,loI,hiI] at *);omega)))|refine RetE.mk () trivial ?_|refine Ex.mk [_] rfl ?_|refine retK_r ?_|exact rfl)|fail);all_goals try (conv=>whnf);all_goals try (exfalso;omega)
abbrev Ppl:=List (Bs×List Ver)
abbrev eS:Bs→SV:=fun s=>.str s
abbrev eZ:Int→SV:=fun n=>.int .i64 n
abbrev nmO (ps:Ppl):SO:=.mp 9 3 inferInstance eS eZ (numsL 0 ps)
abbrev stG (seed:H256) (l:Fo) (ss:List Sld) (ps:Ppl):List Ob:=[(0,.box 176 [.arr8 seed,.ptr 1 0,.own 3,.own 4,.own 5]),(1,.box 171 [.own 2]),(2,.row 283 132 eNd l),(3,.row 275 67 eSl ss),(4,.row 269 2 ePn ps),(5,nmO ps)]
abbrev Dir:=H256×Fo×List Sld×Ppl
theorem mkeyS:MKey Tryz.prog 9 eS:=mkey_str Tryz.underlying9
theorem zeroI:ZeroIs Tryz.prog 3 (.int .i64 0):=⟨_,Tryz.zeroValue3,fun w A σ=>by simp [SV.hv,SV.h1,SV.hc,inR]⟩
def enew_c:Ctr where
 D:=H256
 args:=fun s=>[.agg [.arr8 s]]
 res:=fun _ _=>.ptr 0 0
 out:=fun s _=>stG s [] [] []
 mm:=6
def enew_H:Cfg:=⟨[],[],[],[],9,0,[],[],[]⟩
theorem enew_ok:enew_c.Ok Tryz.prog 35:=by
 refine fn_ok enew_H 0 rfl _ Tryz.func35 rfl rfl trivial rfl rfl (by kernel_rfl) (fun _=>nlb rfl) ?_
 intro (s:H256) hp hr
 try dsimp only [enew_c] at hp
 try simp only [enew_c,Rng,RngL,inR,and_true,true_and] at hr
 repeat' (first|(with_reducible refine Unf.h ?_)|fail);all_goals try (conv=>whnf);all_goals try (exfalso;omega)
 refine MkS.mk inferInstance eS eZ ?_
 repeat' (first|(with_reducible refine Unf.h ?_)|((conv=>whnf);first|(refine Side.mk ?_ ?_;focus (with_reducible rfl))|refine RetE.mk () trivial ?_|refine retK_r ?_)|fail);all_goals try (conv=>whnf);all_goals try (exfalso;omega)
 refine Side.mk rfl ?_
 repeat' (first|(with_reducible refine Unf.h ?_)|((conv=>whnf);exact rfl)|fail);all_goals try (conv=>whnf);all_goals try (exfalso;omega)
def eps_c:Ctr where
 D:=Dir
 args:=fun _=>[.ptr 0 0]
 objs:=fun (s,l,ss,ps)=>stG s l ss ps
 nn:=6
 res:=fun (_,_,ss,_) _=>.int .i64 (ss.length:Int)
 out:=fun (s,l,ss,ps) _=>stG s l ss ps
def eps_H:Cfg:=⟨[],[],[],[],10,6,[],[],[]⟩
theorem eps_ok:eps_c.Ok Tryz.prog 37:=by
 refine fn_ok eps_H 6 rfl _ Tryz.func37 rfl rfl trivial rfl rfl (by kernel_rfl) (fun _=>nlb rfl) ?_
 rintro ⟨s,l,ss,ps⟩ hp hr
 try dsimp only [eps_c] at hp
 try simp only [eps_c,Rng,RngL,inR,and_true,true_and] at hr
 repeat' (first|(with_reducible refine Unf.h ?_)|((conv=>whnf);first|(refine Side.mk ?_ ?_;focus (first|with_reducible rfl|(refine congrArg (SV.int _) ?_;omega)))|refine RetE.mk () trivial ?_|refine retK_r ?_|exact rfl)|fail);all_goals try (conv=>whnf);all_goals try (exfalso;omega)
def lastTr (ss:List Sld):Int:=if h:ss≠[] then (ss.getLast h).tree else -1
def etree_c:Ctr where
 D:=Dir
 args:=fun _=>[.ptr 0 0]
 objs:=fun (s,l,ss,ps)=>stG s l ss ps
 nn:=6
 res:=fun (_,_,ss,_) _=>.int .i64 (lastTr ss)
 out:=fun (s,l,ss,ps) _=>stG s l ss ps
def etree_H:Cfg:=⟨[],[(3,[3,7,12],[],(oA 0 (oA 1 (oA 2 (oB 3 (oA 4 (oA 5 (oA 6 (oB 7 (oA 8 (oA 9 (oA 10 (oA 11 (oB 12 (oA 13 .nil)))))))))))))),[])],[],[],22,6,[],[],[]⟩
theorem etree_ok:etree_c.Ok Tryz.prog 147:=by
 refine fn_ok etree_H 6 rfl _ Tryz.func147 rfl rfl trivial rfl rfl (by kernel_rfl) (fun _=>nlb rfl) ?_
 rintro ⟨s,l,ss,ps⟩ hp hr
 try dsimp only [etree_c] at hp
 try simp only [etree_c,Rng,RngL,inR,and_true,true_and] at hr
 rcases Nat.eq_zero_or_pos ss.length with h0|h0
 · have e:lastTr ss=-1:=by rw [List.eq_nil_of_length_eq_zero h0];rfl
   repeat' (first|(with_reducible refine Unf.h ?_)|((conv=>whnf);first|refine Fork.mk (fun h=>?_) (fun h=>?_)|(refine Side.mk ?_ ?_;focus (first|with_reducible rfl|(refine congrArg (SV.int _) ?_;omega)))|refine RetE.mk () trivial ?_|refine retK_r ?_|exact rfl)|fail);all_goals try (conv=>whnf);all_goals try (exfalso;omega)
 · have e:lastTr ss=(ss[((ss.length:Int) - 1).toNat]'(by omega)).tree:=by
     unfold lastTr;rw [dif_pos (List.length_pos_iff.1 h0),List.getLast_eq_getElem]
     congr 2;omega
   repeat' (first|(with_reducible refine Unf.h ?_)|((conv=>whnf);first|refine Fork.mk (fun h=>?_) (fun h=>?_)|(refine Side.mk ?_ ?_;focus (first|with_reducible rfl|omega|(refine congrArg (SV.int _) ?_;omega)|(intros;(try simp only [lenS,inR,cutS,loI,hiI,e] at *);omega)))|(refine Idx.mk ?_ ?_;focus (omega))|refine RetE.mk () trivial ?_|refine retK_r ?_|exact rfl)|fail);all_goals try (conv=>whnf);all_goals try (exfalso;omega)
def chOf_c:Ctr where
 D:=H256×Ppl×Bs
 pre:=fun (_,_,x)=>x.length≤1000000
 args:=fun (_,_,x)=>[.ptr 0 0,.fs 1 eB x]
 objs:=fun (s,ps,_)=>[(0,.box 176 [.arr8 s,.ptr 1 0,.own 2,.own 3,.own 4]),(3,.row 269 2 ePn ps),(4,nmO ps)]
 nn:=5
 res:=fun (_,ps,x) _=>.fs 67 eVr (chainP ps x)
 out:=fun (s,ps,_) _=>[(0,.box 176 [.arr8 s,.ptr 1 0,.own 2,.own 3,.own 4]),(3,.row 269 2 ePn ps),(4,nmO ps)]
def chOf_H:Cfg:=⟨[],[(1,[3],[5,6],(oA 0 (oA 1 (oA 2 (oB 3 (oA 4 (oD 5 (oC 6 (oA 7 (oA 8 (oA 9 (oA 10 (oA 11 .nil)))))))))))),[])],[],[],26,5,[],[],[]⟩
theorem chOf_ok:chOf_c.Ok Tryz.prog 130:=by
 refine fn_ok chOf_H 5 rfl _ Tryz.func130 rfl rfl trivial rfl rfl (by kernel_rfl) (fun _=>nlb rfl) ?_
 rintro ⟨s,ps,x⟩ hp hr
 try dsimp only [chOf_c] at hp
 try simp only [chOf_c,Rng,RngL,inR,and_true,true_and] at hr
 have hp:x.length≤1000000:=hp;have hk:=mkeyS;have hz:=zeroI
 repeat' (first|(with_reducible refine Unf.h ?_)|((conv=>whnf);refine Ex.mk _ rfl ?_)|fail);all_goals try (conv=>whnf);all_goals try (exfalso;omega)
 refine LookS.mk x rfl hk _ hz ⟨rfl,fun _=>rfl⟩ (fun b hb=>?_) (fun hm=>?_)
 · obtain ⟨j,hj,hkj,e1,e2,e3⟩:=numsL_hit 0 ps hb
   obtain rfl:b=(j:Int):=by simpa using hkj
   have e:chainP ps x=(ps[((j:Nat):Int).toNat]'hj).2:=by unfold chainP;rw [e2];rfl
   repeat' (first|(with_reducible refine Unf.h ?_)|((conv=>whnf);first|(refine Side.mk ?_ ?_;focus (first|with_reducible rfl|omega|(simp only [*,e];done)))|(refine Idx.mk ?_ ?_;focus (omega))|refine RetE.mk () trivial ?_|(with_reducible refine Unf.h ?_)|refine retK_r ?_|exact rfl)|fail);all_goals try (conv=>whnf);all_goals try (exfalso;omega)
 · have e:chainP ps x=[]:=by unfold chainP;rw [(numsL_miss [] 0 ps hm).1];rfl
   repeat' (first|(with_reducible refine Unf.h ?_)|((conv=>whnf);first|(refine Side.mk ?_ ?_;focus (first|with_reducible rfl|assumption))|refine RetE.mk () trivial ?_|(with_reducible refine Unf.h ?_)|refine retK_r ?_|exact rfl)|fail);all_goals try (conv=>whnf);all_goals try (exfalso;omega)
end Go.Proofs.YtfljmihdeimahaaGreatDoor
namespace Go.Proofs.YtfljmihdeimahaaGreatDoor
set_option linter.all false
open Go.RowKit
def growOk (ps:Ppl) (e:Int) (n:List Nws):Prop:=(n.map Prod.fst).Nodup∧∀ p∈n,p.2.ep=e∧formedC cmL zeroH p.1 (chainP ps p.1++[p.2])
instance (ps:Ppl) (e:Int) (n:List Nws):Decidable (growOk ps e n):=inferInstanceAs (Decidable (_∧_))
def chainsN (ps:Ppl) (n:List Nws):List (List Ver):=n.map fun p=>chainP ps p.1++[p.2]
def grownR (ps:Ppl) (e:Int) (n:List Nws):List Nws×List (List Ver):=if growOk ps e n then (n,chainsN ps n) else ([],[])
def seenL (n:List Nws):List (Bs×Int):=n.foldl (fun m p=>mput m p.1 ((mget m p.1).getD 0+1)) []
theorem seenL_snoc (n:List Nws) (p:Nws):seenL (n++[p])=mput (seenL n) p.1 ((mget (seenL n) p.1).getD 0+1):=by unfold seenL;rw [List.foldl_append];rfl
theorem seenL_count (x:Bs):∀ (k:Nat) (n:List Nws),n.length=k→(mget (seenL n) x).getD 0=((n.map Prod.fst).count x:Nat)
 | 0,n,h=>by obtain rfl:=List.eq_nil_of_length_eq_zero h;rfl
 | k+1,n,h=>by
   have hne:n≠[]:=fun e=>by subst e;cases h
   obtain ⟨qs,p,rfl⟩:∃ qs p,n=qs++[p]:=⟨n.dropLast,n.getLast hne,(List.dropLast_concat_getLast hne).symm⟩;have ih:=fun y=>seenL_count y k qs (by simpa using h)
   rw [seenL_snoc,mget_put,List.map_append,List.count_append]
   by_cases hx:p.1=x
   · subst hx
     rw [if_pos rfl];simp only [Option.getD_some,ih,List.map_cons,List.map_nil,List.count_singleton_self];omega
   · rw [if_neg hx,ih x]
     simp [hx]
theorem seenL_len (n:List Nws):(seenL n).length≤n.length:=by
 have key:∀ (k:Nat) (n:List Nws),n.length=k→(seenL n).length≤k:=by
   intro k
   induction k with
   | zero=>intro n h;obtain rfl:=List.eq_nil_of_length_eq_zero h;exact Nat.le_refl _
   | succ k ih =>
     intro n h;have hne:n≠[]:=fun e=>by subst e;cases h
     obtain ⟨qs,p,rfl⟩:∃ qs p,n=qs++[p]:=⟨n.dropLast,n.getLast hne,(List.dropLast_concat_getLast hne).symm⟩;rw [seenL_snoc]
     have:=ih qs (by simpa using h)
     have:=mput_len (l:=seenL qs) (a:=p.1) (b:=(mget (seenL qs) p.1).getD 0+1)
     omega
 exact key _ n rfl
theorem growOk_snoc {ps:Ppl} {e:Int} {n:List Nws} {p:Nws}:growOk ps e (n++[p])↔growOk ps e n∧((n++[p]).map Prod.fst).count p.1≤1∧p.2.ep=e∧formedC cmL zeroH p.1 (chainP ps p.1++[p.2]):=by
 unfold growOk;rw [List.map_append,List.nodup_append,List.count_append];have e1:([p].map Prod.fst).count p.1=1:=by simp
 rw [e1]
 constructor
 · rintro ⟨⟨h1,h2,h3⟩,h4⟩
   refine ⟨⟨h1,fun q hq=>h4 q (by simp [hq])⟩,?_,h4 p (by simp)⟩
   have:(n.map Prod.fst).count p.1=0:=List.count_eq_zero.2 fun hm=>h3 _ hm _ (by simp) rfl
   omega
 · rintro ⟨⟨h1,h2⟩,h3,h4⟩
   refine ⟨⟨h1,by simp,fun a ha b hb e=>?_⟩,fun q hq=>?_⟩
   · have hb:b=p.1:=by simpa using hb
     subst hb;subst e
     have:=List.count_pos_iff.2 ha
     omega
   · rcases List.mem_append.1 hq with hq|hq
     · exact h2 q hq
     · obtain rfl:=List.mem_singleton.1 hq;exact h4
theorem growOk_take {ps:Ppl} {e:Int} {n:List Nws} (h:growOk ps e n) (i:Nat):growOk ps e (n.take i) :=
 ⟨(List.map_take (f:=Prod.fst) (l:=n)▸(List.take_sublist i _).nodup h.1:((n.take i).map Prod.fst).Nodup),fun p hp=>h.2 p (List.mem_of_mem_take hp)⟩
def egrow_c:Ctr where
 D:=Dir×Int×List Nws
 pre:=fun ((_,_,_,ps),_,n)=>n.length≤1000∧(∀ p∈n,p.1.length≤100000)∧∀ x,(chainP ps x).length≤1000
 args:=fun (_,e,n)=>[.ptr 0 0,.int .i64 e,.fs 68 eNw n]
 objs:=fun ((s,l,ss,ps),_)=>stG s l ss ps
 nn:=6
 res:=fun ((_,_,_,ps),e,n) _=>.tup [.agg [.fs 68 eNw (grownR ps e n).1,.fs 1 eCh (grownR ps e n).2],.dec (growOk ps e n) inferInstance]
 out:=fun ((s,l,ss,ps),_) _=>stG s l ss ps
def egrow_H:Cfg:=⟨[(130,chOf_c),(146,cloneV_c),(143,cformed_c)],[(7,[],[2,3,4,6,7,8],(oA 0 (oA 1 (oA 5 (.alt 2 false (.alt 3 false (.alt 4 false (oC 6 (oC 7 (oC 8 (oA 9 .nil)))) (oC 6 (.alt 4 false (oC 7 (oC 8 (oA 9 .nil))) (oC 7 (oC 4 (oC 8 (oA 9 .nil))))))) (oC 6 (.alt 3 false (.alt 4 false (oC 7 (oC 8 (oA 9 .nil))) (oC 7 (oC 4 (oC 8 (oA 9 .nil))))) (oC 7 (oC 3 (oC 4 (oC 8 (oA 9 .nil)))))))) (oC 6 (.alt 2 false (.alt 3 false (.alt 4 false (oC 7 (oC 8 (oA 9 .nil))) (oC 7 (oC 4 (oC 8 (oA 9 .nil))))) (oC 7 (oC 3 (oC 4 (oC 8 (oA 9 .nil)))))) (oC 7 (oC 2 (oC 3 (oC 4 (oC 8 (oA 9 .nil)))))))))))),[1000000])],[],[],66,6,[],[6,7],[]⟩
set_option maxHeartbeats 2000000 in
theorem egrow_ok:egrow_c.Ok Tryz.prog 131:=by
 refine fn_ok egrow_H 6 rfl _ Tryz.func131 rfl rfl ⟨chOf_ok,cloneV_ok,cformed_ok,trivial⟩ rfl rfl (by kernel_rfl) (fun _=>nlb rfl) ?_
 rintro ⟨⟨s,l,ss,ps⟩,e,n⟩ hp hr
 try dsimp only [egrow_c] at hp
 try simp only [egrow_c,Rng,RngL,inR,and_true,true_and] at hr
 obtain ⟨hp1,hp2,hp3⟩:=hp;have hp1:n.length≤1000:=hp1;have hk:=mkeyS;have hz:=zeroI
 repeat' (first|(with_reducible refine Unf.h ?_)|fail);all_goals try (conv=>whnf);all_goals try (exfalso;omega)
 refine MkS.mk inferInstance eS eZ ?_
 repeat' (first|(with_reducible refine Unf.h ?_)|fail);all_goals try (conv=>whnf);all_goals try (exfalso;omega)
 refine LoopS.mk (I:=Nat) (fun i=>i≤n.length∧growOk ps e (n.take i)) (fun i=>[(18,.int .i64 (i:Int)),(17,.int .i64 (n.length:Int)),(16,.fs 68 eNw n),(9,.own 8),(8,.ptr 7 0),(6,.ptr 6 0),(0,.ptr 0 0),(1,.int .i64 e),(2,.fs 68 eNw n)]) (fun i=>stG s l ss ps++[(6,.box 253 [.nils,.nils]),(7,.box 253 [.fs 68 eNw n,.own 9]),(8,.mp 9 3 inferInstance eS eZ (seenL (n.take i))),(9,.row 57 1 eCh (chainsN ps (n.take i)))]) 10 (fun i=>n.length - i) 0 ⟨Nat.zero_le _,by constructor<;>simp⟩ ?_ ?_
 · have e0:seenL (n.take 0)=[]:=rfl
   have e1:chainsN ps (n.take 0)=[]:=rfl
   repeat' (first|(with_reducible refine Unf.h ?_)|((conv=>whnf);first|(refine Side.mk ?_ ?_;focus (first|with_reducible rfl|assumption|(refine congrArg (SV.int _) ?_;omega)|(simp only [*,e0,e1];done)))|(with_reducible refine Unf.h ?_)|exact True.intro)|fail);all_goals try (conv=>whnf);all_goals try (exfalso;omega)
 · rintro i ⟨hi,hg⟩
   by_cases hil:i<n.length
   · obtain ⟨p,hpi⟩:∃ p,n[((i:Nat):Int).toNat]'hil=p:=⟨_,rfl⟩
     have hpi2:n[i]'hil=p:=hpi;have ets:n.take (i+1)=n.take i++[p]:=by rw [List.take_succ_eq_append_getElem hil,hpi2]
     have hsl:=seenL_len (n.take i);have hsl2:(n.take i).length≤n.length:=by simp;omega
     have hct:=seenL_count p.1 _ (n.take i) rfl;have hct2:=List.count_le_length (a:=p.1) (l:=(n.take i).map Prod.fst);rw [List.length_map] at hct2;obtain ⟨c,hc⟩:∃ c,c=(mget (seenL (n.take i)) p.1).getD 0:=⟨_,rfl⟩;rw [← hc] at hct;have es:mput (seenL (n.take i)) p.1 (c+1)=seenL (n.take (i+1)):=by rw [ets,seenL_snoc,← hc]
     repeat' (first|(with_reducible refine Unf.h ?_)|((conv=>whnf);first|refine Fork.mk (fun h=>?_) (fun h=>?_)|(refine Idx.mk ?_ ?_;focus (omega)))|fail);all_goals try (conv=>whnf);all_goals try (exfalso;omega)
     refine CutS.mk (I:=Unit) (fun _=>True) (fun _=>[(11,.ptr 10 0),(18,.int .i64 (i:Int)),(17,.int .i64 (n.length:Int)),(16,.fs 68 eNw n),(9,.own 8),(8,.ptr 7 0),(6,.ptr 6 0),(0,.ptr 0 0),(1,.int .i64 e),(2,.fs 68 eNw n)]) (fun _=>stG s l ss ps++[(6,.box 253 [.nils,.nils]),(7,.box 253 [.fs 68 eNw n,.own 9]),(8,.mp 9 3 inferInstance eS eZ (seenL (n.take (i+1)))),(9,.row 57 1 eCh (chainsN ps (n.take i))),(10,.box 250 (eNw p))]) 11 ?_ ?_
     · repeat' (first|(with_reducible refine Unf.h ?_)|((conv=>whnf);refine Ex.mk _ rfl ?_)|fail);all_goals try (conv=>whnf);all_goals try (exfalso;omega)
       rw [hpi];refine LookS.mk p.1 rfl hk _ hz ⟨rfl,fun _=>rfl⟩ (fun b hb=>?_) (fun hb=>?_)
       · obtain rfl:b=c:=by rw [hc,hb];rfl
         repeat' (first|(with_reducible refine Unf.h ?_)|((conv=>whnf);first|(refine Side.mk ?_ ?_;focus ((intros;(try simp only [lenS,inR,cutS,loI,hiI] at *);omega)))|(with_reducible refine Unf.h ?_))|fail);all_goals try (conv=>whnf);all_goals try (exfalso;omega)
         refine UpdS.mk p.1 rfl (b+1) rfl hk (by omega) ?_
         rw [es]
         repeat' (first|(with_reducible refine cutK_n ?_)|((conv=>whnf);(with_reducible refine Unf.h ?_))|fail);all_goals try (conv=>whnf);all_goals try (exfalso;omega)
         refine ⟨(),trivial,?_⟩
         repeat' (first|(with_reducible refine Unf.h ?_)|((conv=>whnf);first|(refine Side.mk ?_ ?_;focus (with_reducible rfl))|(with_reducible refine Unf.h ?_)|exact True.intro)|fail);all_goals try (conv=>whnf);all_goals try (exfalso;omega)
       · obtain rfl:c=0:=by rw [hc,hb];rfl
         repeat' (first|(with_reducible refine Unf.h ?_)|((conv=>whnf);first|(refine Side.mk ?_ ?_;focus ((intros;(try simp only [lenS,inR,cutS,loI,hiI] at *);omega)))|(with_reducible refine Unf.h ?_))|fail);all_goals try (conv=>whnf);all_goals try (exfalso;omega)
         refine UpdS.mk p.1 rfl (0+1) rfl hk (by omega) ?_
         rw [es]
         repeat' (first|(with_reducible refine cutK_n ?_)|((conv=>whnf);(with_reducible refine Unf.h ?_))|fail);all_goals try (conv=>whnf);all_goals try (exfalso;omega)
         refine ⟨(),trivial,?_⟩
         repeat' (first|(with_reducible refine Unf.h ?_)|((conv=>whnf);first|(refine Side.mk ?_ ?_;focus (with_reducible rfl))|(with_reducible refine Unf.h ?_)|exact True.intro)|fail);all_goals try (conv=>whnf);all_goals try (exfalso;omega)
     · intro _ _
       have hcho:chOf_c.pre (s,ps,p.1):=by
         have:=hp2 p (hpi▸List.getElem_mem _)
         show p.1.length≤1000000;omega
       have hchl:=hp3 p.1;have hclv:cloneV_c.pre (chainP ps p.1):=by show (chainP ps p.1).length≤100000;omega
       repeat' (first|(with_reducible refine Unf.h ?_)|fail);all_goals try (conv=>whnf);all_goals try (exfalso;omega)
       refine CutS.mk (I:=Unit) (fun _=>True) (fun _=>[(12,.own 11),(11,.ptr 10 0),(18,.int .i64 (i:Int)),(17,.int .i64 (n.length:Int)),(16,.fs 68 eNw n),(9,.own 8),(8,.ptr 7 0),(6,.ptr 6 0),(0,.ptr 0 0),(1,.int .i64 e),(2,.fs 68 eNw n)]) (fun _=>stG s l ss ps++[(6,.box 253 [.nils,.nils]),(7,.box 253 [.fs 68 eNw n,.own 9]),(8,.mp 9 3 inferInstance eS eZ (seenL (n.take (i+1)))),(9,.row 57 1 eCh (chainsN ps (n.take i))),(10,.box 250 (eNw p)),(11,.row 248 67 eVr (chainP ps p.1++[p.2]))]) 12 ?_ ?_
       · repeat' (first|(with_reducible refine Unf.h ?_)|((conv=>whnf);first|refine Both.mk ?_ ?_|refine Both.mk ?_ ?_)|fail);all_goals try (conv=>whnf);all_goals try (exfalso;omega)
         all_goals
           refine CallS.mk (c:=chOf_c) ((s,ps,p.1)) ?_
           repeat' (first|(with_reducible first|refine Unf.h ?_|refine cutK_n ?_)|((conv=>whnf);first|refine Both.mk ?_ ?_|refine Both.mk ?_ ?_|(refine Side.mk ?_ ?_;focus (first|with_reducible rfl|assumption|(intros;(try simp only [lenS,inR,cutS,loI,hiI] at *);omega)))|refine Got.mk (fun _ _=>?_)|refine Ex.mk [_] rfl ?_|refine CallS.mk (c:=cloneV_c) (chainP ps p.1) ?_)|fail);all_goals try (conv=>whnf);all_goals try (exfalso;omega)
         all_goals
           refine ⟨(),trivial,?_⟩
           repeat' (first|(with_reducible refine Unf.h ?_)|((conv=>whnf);first|(refine Side.mk ?_ ?_;focus (with_reducible rfl))|(with_reducible refine Unf.h ?_)|exact True.intro)|fail);all_goals try (conv=>whnf);all_goals try (exfalso;omega)
       · intro _ _
         have em:mget (seenL (n.take (i+1))) p.1=some (c+1):=by rw [← es,mget_put,if_pos rfl]
         have hcnt:(((n.take i++[p]).map Prod.fst).count p.1:Int)=c+1:=by
           rw [List.map_append,List.count_append,hct];simp
         have hcf:cformed_c.pre (p.1,chainP ps p.1++[p.2]):=⟨hcho,by show (chainP ps p.1++[p.2]).length≤100000;simp;omega⟩
         have hgs:=growOk_snoc (ps:=ps) (e:=e) (n:=n.take i) (p:=p);rw [← ets] at hgs;have hcl:(chainsN ps (n.take i)).length=(n.take i).length:=by simp [chainsN]
         repeat' (first|(with_reducible refine Unf.h ?_)|((conv=>whnf);refine Ex.mk _ rfl ?_)|fail);all_goals try (conv=>whnf);all_goals try (exfalso;omega)
         refine LookS.mk p.1 rfl hk _ hz ⟨rfl,fun _=>rfl⟩ (fun b hb=>?_) (fun hm=>by rw [em] at hm;cases hm)
         obtain rfl:b=c+1:=by rw [em] at hb;exact (Option.some.inj hb).symm
         by_cases hgp:growOk ps e (n.take (i+1))
         · obtain ⟨_,k1,k2,k3⟩:=hgs.1 hgp
           rw [ets] at k1;have ec:chainsN ps (n.take (i+1))=chainsN ps (n.take i)++[chainP ps p.1++[p.2]]:=by rw [ets];simp [chainsN]
           repeat' (first|(with_reducible refine Unf.h ?_)|((conv=>whnf);first|refine Fork.mkn (fun h=>?_) (fun h=>?_)|refine Fork.mk (fun h=>?_) (fun h=>?_)|(with_reducible refine Unf.h ?_))|fail);all_goals try (conv=>whnf);all_goals try (exfalso;omega)
           refine CallS.mk (c:=cformed_c) ((p.1,chainP ps p.1++[p.2])) ?_
           repeat' (first|(with_reducible first|refine Unf.h ?_|refine loopK_n ?_)|((conv=>whnf);first|refine Fork.mkn (fun h=>?_) (fun h=>?_)|(refine Side.mk ?_ ?_;focus (first|with_reducible rfl|assumption|(intros;(try simp only [lenS,inR,cutS,loI,hiI] at *);omega)))|refine RetE.mk () trivial ?_|refine Got.mk (fun _ _=>?_)|refine Ex.mk [_] rfl ?_|refine retK_r ?_)|fail);all_goals try (conv=>whnf);all_goals try (exfalso;omega)
           · exact absurd k3 (by assumption)
           refine ⟨i+1,⟨by omega,by omega,hgp⟩,?_⟩
           repeat' (first|(with_reducible refine Unf.h ?_)|((conv=>whnf);first|(refine Side.mk ?_ ?_;focus (first|with_reducible rfl|(refine congrArg (SV.int _) ?_;omega)))|(with_reducible refine Unf.h ?_))|fail);all_goals try (conv=>whnf);all_goals try (exfalso;omega)
           refine Side.mk (congrArg (SO.row _ _ _) ec.symm) ?_
           repeat' (first|(with_reducible refine Unf.h ?_)|((conv=>whnf);exact True.intro)|fail);all_goals try (conv=>whnf);all_goals try (exfalso;omega)
         · have hng:¬ growOk ps e n:=fun hF=>hgp (growOk_take hF _)
           have hgr:grownR ps e n=([],[]):=if_neg hng
           repeat' (first|(with_reducible refine Unf.h ?_)|((conv=>whnf);first|refine Fork.mkn (fun h=>?_) (fun h=>?_)|refine Fork.mk (fun h=>?_) (fun h=>?_)|(refine Side.mk ?_ ?_;focus (first|with_reducible rfl|(simp only [*,hgr];done)|(simp [*,hgr];done)))|refine RetE.mk () trivial ?_|(with_reducible refine Unf.h ?_)|refine retK_r ?_|exact rfl)|fail);all_goals try (conv=>whnf);all_goals try (exfalso;omega)
           all_goals try (exact absurd (by assumption) hng)
           refine CallS.mk (c:=cformed_c) ((p.1,chainP ps p.1++[p.2])) ?_
           repeat' (first|(with_reducible first|refine Unf.h ?_|refine loopK_n ?_)|((conv=>whnf);first|refine Fork.mkn (fun h=>?_) (fun h=>?_)|(refine Side.mk ?_ ?_;focus (first|with_reducible rfl|assumption|(intros;(try simp only [lenS,inR,cutS,loI,hiI,hgr] at *);omega)|(simp only [*,hgr];done)|(simp [*,hgr];done)))|refine RetE.mk () trivial ?_|refine Got.mk (fun _ _=>?_)|refine Ex.mk [_] rfl ?_|refine retK_r ?_|exact rfl)|fail);all_goals try (conv=>whnf);all_goals try (exfalso;omega)
           exact absurd (hgs.2 ⟨hg,by rw [ets];omega,by assumption,by assumption⟩) hgp
   · have e0:n.take i=n:=List.take_of_length_le (by omega)
     rw [e0] at hg ⊢;have e1:grownR ps e n=(n,chainsN ps n):=if_pos hg
     repeat' (first|(with_reducible refine Unf.h ?_)|((conv=>whnf);first|refine Fork.mk (fun h=>?_) (fun h=>?_)|(refine Side.mk ?_ ?_;focus (first|with_reducible rfl|(refine ⟨fun h=>?_,fun h=>?_⟩<;>first|rfl|(cases h;done)|omega|(exfalso;omega)|(simp only [Bool.false_eq_true] at h;done))|(simp only [*,e1];done)))|refine RetE.mk () trivial ?_|refine retK_r ?_|exact rfl)|fail);all_goals try (conv=>whnf);all_goals try (exfalso;omega)
end Go.Proofs.YtfljmihdeimahaaGreatDoor
namespace Go.Proofs.YtfljmihdeimahaaGreatDoor
set_option linter.all false
open Go.RowKit
theorem lastT_slds (es:List (List Nws)):lastTr (slds es)=(builtF (kvs es)).2:=by
 rcases Nat.eq_zero_or_pos es.length with h|h
 · obtain rfl:=List.eq_nil_of_length_eq_zero h;rfl
 · have hne:es≠[]:=List.length_pos_iff.1 h
   obtain ⟨qs,p,rfl⟩:∃ qs p,es=qs++[p]:=⟨es.dropLast,es.getLast hne,(List.dropLast_concat_getLast hne).symm⟩;unfold lastTr;rw [slds_snoc,dif_pos (by simp),List.getLast_concat]
def eplant_c:Ctr where
 D:=H256×List (List Nws)×List Nws
 pre:=fun (_,es,n)=>StOk es∧n.length≤16∧∀ p∈n,p.1.length≤1000000∧p.2.val.length≤1000000
 args:=fun (_,_,n)=>[.ptr 0 0,.fs 68 eNw n]
 objs:=fun (s,es,_)=>stG s (builtF (kvs es)).1 (slds es) (peo es)
 nn:=6
 res:=fun (_,es,n) _=>.tup [.int .i64 (builtF (kvs (es++[n]))).2,.int .i64 0]
 out:=fun (s,es,n) _=>[(0,.box 176 [.arr8 s,.ptr 1 0,.own 3,.own 4,.own 5]),(1,.box 171 [.own 6]),(6,.row 283 132 eNd (builtF (kvs (es++[n]))).1),(3,.row 275 67 eSl (slds es)),(4,.row 269 2 ePn (peo es)),(5,nmO (peo es))]
 mm:=1
def eplant_H:Cfg:=⟨[(147,etree_c),(149,ckey_c),(144,ccommit_c),(148,put_c)],[(5,[3,6,9,11],[7,12,13],(oA 0 (oA 1 (oA 2 (oB 3 (oA 4 (oA 5 (oB 6 (oA 8 (oB 9 (oA 10 (oB 11 (oD 7 (oD 12 (oC 13 (oA 14 (oA 15 (oA 16 (oA 17 (oA 18 .nil))))))))))))))))))),[])],[],[],42,6,[],[],[]⟩
theorem eplant_ok:eplant_c.Ok Tryz.prog 133:=by
 refine fn_ok eplant_H 6 rfl _ Tryz.func133 rfl rfl ⟨etree_ok,ckey_ok,ccommit_ok,put_ok,trivial⟩ rfl rfl (by kernel_rfl) (fun _=>nlb rfl) ?_
 rintro ⟨s,es,n⟩ hp hr
 try dsimp only [eplant_c] at hp
 try simp only [eplant_c,Rng,RngL,inR,and_true,true_and] at hr
 obtain ⟨hst,hp1,hp2⟩:=hp;have hp1:n.length≤16:=hp1;have elt:=lastT_slds es
 repeat' (first|(with_reducible refine Unf.h ?_)|fail);all_goals try (conv=>whnf);all_goals try (exfalso;omega)
 refine CallS.mk (c:=etree_c) ((s,(builtF (kvs es)).1,slds es,peo es)) ?_
 repeat' (first|(with_reducible refine Unf.h ?_)|((conv=>whnf);first|(refine Side.mk ?_ ?_;focus (first|with_reducible rfl|exact True.intro))|refine Got.mk (fun _ _=>?_))|fail);all_goals try (conv=>whnf);all_goals try (exfalso;omega)
 refine LoopS.mk (I:=Nat) (fun i=>i≤n.length) (fun i=>[(15,.int .i64 (i:Int)),(14,.int .i64 (n.length:Int)),(13,.fs 68 eNw n),(6,.int .i64 (builtF (kvs es++(n.take i).map kvN)).2),(0,.ptr 0 0),(1,.fs 68 eNw n)]) (fun i=>[(0,.box 176 [.arr8 s,.ptr 1 0,.own 3,.own 4,.own 5]),(1,.box 171 [.own 6]),(6,.row 283 132 eNd (builtF (kvs es++(n.take i).map kvN)).1),(3,.row 275 67 eSl (slds es)),(4,.row 269 2 ePn (peo es)),(5,nmO (peo es))]) 7 (fun i=>n.length - i) 0 (Nat.zero_le _) ?_ ?_
 · have e0:kvs es++(n.take 0).map kvN=kvs es:=by simp
   repeat' (first|(with_reducible refine Unf.h ?_)|((conv=>whnf);first|(refine Side.mk ?_ ?_;focus (first|with_reducible rfl|(refine congrArg (SV.int _) ?_;omega)|(simp only [*,e0];done)))|(with_reducible refine Unf.h ?_)|exact True.intro)|fail);all_goals try (conv=>whnf);all_goals try (exfalso;omega)
 · intro i hi
   by_cases hil:i<n.length
   · obtain ⟨p,hpi⟩:∃ p,n[((i:Nat):Int).toNat]'hil=p:=⟨_,rfl⟩
     have hpi2:n[i]'hil=p:=hpi;have hpm:p∈n:=hpi▸List.getElem_mem _;obtain ⟨hpl,hpv⟩:=hp2 p hpm;have ets:kvs es++(n.take (i+1)).map kvN=(kvs es++(n.take i).map kvN)++[(keyL p.1,cmL p.1 p.2)]:=by
       rw [List.take_succ_eq_append_getElem hil,hpi2,List.map_append,← List.append_assoc];rfl
     have eb:=builtF_snoc (kvs es++(n.take i).map kvN) (keyL p.1,cmL p.1 p.2);rw [← ets] at eb;have eb:builtF (kvs es++(n.take (i+1)).map kvN)=putF (builtF (kvs es++(n.take i).map kvN)).1 (builtF (kvs es++(n.take i).map kvN)).2 (keyL p.1) (cmL p.1 p.2):=eb;have hsz:=hst.forest (m:=0) (qs:=(n.take i).map kvN) (by simp;omega)
     have hbo:=builtOk (kvs es++(n.take i).map kvN);have hit:=treeAt_is hbo.tree;have hpp:put_c.pre ((builtF (kvs es++(n.take i).map kvN)).1,(builtF (kvs es++(n.take i).map kvN)).2,keyL p.1,cmL p.1 p.2):=⟨by omega,hbo.closed,hit⟩
     have hck:ckey_c.pre p.1:=hpl;have hcm:ccommit_c.pre (p.1,p.2):=⟨hpl,hpv⟩
     repeat' (first|(with_reducible refine Unf.h ?_)|((conv=>whnf);first|refine Fork.mk (fun h=>?_) (fun h=>?_)|(refine Idx.mk ?_ ?_;focus (omega)))|fail);all_goals try (conv=>whnf);all_goals try (exfalso;omega)
     rw [hpi];refine CallS.mk (c:=ckey_c) (p.1) ?_
     repeat' (first|(with_reducible refine Unf.h ?_)|((conv=>whnf);first|(refine Side.mk ?_ ?_;focus (first|with_reducible rfl|assumption))|refine Got.mk (fun _ _=>?_))|fail);all_goals try (conv=>whnf);all_goals try (exfalso;omega)
     refine CallS.mk (c:=ccommit_c) ((p.1,p.2)) ?_
     repeat' (first|(with_reducible refine Unf.h ?_)|((conv=>whnf);first|(refine Side.mk ?_ ?_;focus (first|with_reducible rfl|assumption))|refine Got.mk (fun _ _=>?_))|fail);all_goals try (conv=>whnf);all_goals try (exfalso;omega)
     refine CallS.mk (c:=put_c) (((builtF (kvs es++(n.take i).map kvN)).1,(builtF (kvs es++(n.take i).map kvN)).2,keyL p.1,cmL p.1 p.2)) ?_
     repeat' (first|(with_reducible first|refine Unf.h ?_|refine loopK_n ?_)|((conv=>whnf);first|refine Fork.mkn (fun h=>?_) (fun h=>?_)|(refine Side.mk ?_ ?_;focus (first|with_reducible rfl|assumption|(intros;(try simp only [lenS,inR,cutS,loI,hiI] at *);omega)))|refine Got.mk (fun _ _=>?_))|fail);all_goals try (conv=>whnf);all_goals try (exfalso;omega)
     refine ⟨i+1,⟨by omega,by omega⟩,?_⟩
     rw [eb]
     repeat' (first|(with_reducible refine Unf.h ?_)|((conv=>whnf);first|(refine Side.mk ?_ ?_;focus (first|with_reducible rfl|(refine congrArg (SV.int _) ?_;omega)))|(with_reducible refine Unf.h ?_)|exact True.intro)|fail);all_goals try (conv=>whnf);all_goals try (exfalso;omega)
   · have e0:n.take i=n:=List.take_of_length_le (by omega)
     rw [e0,← kvs_snoc]
     repeat' (first|(with_reducible refine Unf.h ?_)|((conv=>whnf);first|refine Fork.mk (fun h=>?_) (fun h=>?_)|(refine Side.mk ?_ ?_;focus (with_reducible rfl))|refine RetE.mk () trivial ?_|refine retK_r ?_|exact rfl)|fail);all_goals try (conv=>whnf);all_goals try (exfalso;omega)
def ecopy_c:Ctr where
 D:=List Nws
 pre:=fun n=>n.length≤10000∧∀ p∈n,p.1.length≤1000000∧p.2.val.length≤1000000
 args:=fun n=>[.fs 68 eNw n]
 res:=fun n _=>.fs 68 eNw n
def ecopy_H:Cfg:=⟨[(73,cloneB_c)],[(5,[1,5],[2,6,8,11],(oA 0 (oB 1 (oA 3 (oA 4 (oB 5 (oD 2 (oA 7 (oC 6 (oC 8 (oA 9 (oA 10 (oC 11 .nil)))))))))))),[])],[],[],28,0,[],[],[]⟩
theorem ecopy_ok:ecopy_c.Ok Tryz.prog 152:=by
 refine fn_ok ecopy_H 0 rfl _ Tryz.func152 rfl rfl ⟨cloneB_ok,trivial⟩ rfl rfl (by kernel_rfl) (fun _=>nlb rfl) ?_
 intro (n:List Nws) hp hr
 try dsimp only [ecopy_c] at hp
 try simp only [ecopy_c,Rng,RngL,inR,and_true,true_and] at hr
 obtain ⟨hp1,hp2⟩:=hp;have hp1:n.length≤10000:=hp1
 repeat' (first|(with_reducible refine Unf.h ?_)|fail);all_goals try (conv=>whnf);all_goals try (exfalso;omega)
 refine LoopS.autoN (I:=Nat) (fun i=>i≤n.length) (fun i=>[(8,.int .i64 (i:Int)),(3,.own 0)]) (fun i=>[(0,.row 250 68 eNw (n.take i))]) 1 (fun i=>n.length - i) 0 (Nat.zero_le _) ?_ ?_
 · have e0:n.take 0=[]:=rfl
   repeat' (first|(with_reducible refine Unf.h ?_)|((conv=>whnf);first|(refine Side.mk ?_ ?_;focus (first|with_reducible rfl|assumption|(refine congrArg (SV.int _) ?_;omega)))|(with_reducible refine Unf.h ?_)|exact True.intro)|fail);all_goals try (conv=>whnf);all_goals try (exfalso;omega)
 · intro i hi
   by_cases hil:i<n.length
   · obtain ⟨p,hpi⟩:∃ p,n[((i:Nat):Int).toNat]'hil=p:=⟨_,rfl⟩
     have hpi2:n[i]'hil=p:=hpi;have hpm:p∈n:=hpi▸List.getElem_mem _;obtain ⟨hpl,hpv⟩:=hp2 p hpm;have hc1:cloneB_c.pre p.1:=hpl;have hc2:cloneB_c.pre p.2.val:=hpv;have ets:n.take (i+1)=n.take i++[p]:=by rw [List.take_succ_eq_append_getElem hil,hpi2]
     repeat' (first|(with_reducible refine Unf.h ?_)|((conv=>whnf);first|refine Fork.mk (fun h=>?_) (fun h=>?_)|(refine Idx.mk ?_ ?_;focus (omega)))|fail);all_goals try (conv=>whnf);all_goals try (exfalso;omega)
     rw [hpi];refine CallS.mk (c:=cloneB_c) (p.1) ?_
     repeat' (first|(with_reducible refine Unf.h ?_)|((conv=>whnf);first|(refine Side.mk ?_ ?_;focus (first|with_reducible rfl|assumption))|refine Got.mk (fun _ _=>?_))|fail);all_goals try (conv=>whnf);all_goals try (exfalso;omega)
     refine CallS.mk (c:=cloneB_c) (p.2.val) ?_
     repeat' (first|(with_reducible first|refine Unf.h ?_|refine loopK_n ?_)|((conv=>whnf);first|(refine Side.mk ?_ ?_;focus (first|with_reducible rfl|assumption|(intros;(try simp only [lenS,inR,cutS,loI,hiI] at *);omega)))|refine Got.mk (fun _ _=>?_)|refine Ex.mk [_] rfl ?_)|fail);all_goals try (conv=>whnf);all_goals try (exfalso;omega)
     refine ⟨i+1,⟨by omega,by omega⟩,?_⟩
     repeat' (first|(with_reducible refine Unf.h ?_)|((conv=>whnf);first|(refine Side.mk ?_ ?_;focus (first|with_reducible rfl|(refine congrArg (SV.int _) ?_;omega)|(simp only [*,ets];done)))|(with_reducible refine Unf.h ?_)|exact True.intro)|fail);all_goals try (conv=>whnf);all_goals try (exfalso;omega)
   · have e0:n.take i=n:=List.take_of_length_le (by omega)
     repeat' (first|(with_reducible refine Unf.h ?_)|((conv=>whnf);first|refine Fork.mk (fun h=>?_) (fun h=>?_)|(refine Side.mk ?_ ?_;focus ((simp only [*,e0];done)))|refine RetE.mk () trivial ?_|refine retK_r ?_|exact rfl)|fail);all_goals try (conv=>whnf);all_goals try (exfalso;omega)
abbrev Bs0:=List (BitVec 8)
def rowB' (e:Nat) (w:World) (v:Value) (b:Bs0):Prop:=b.length≤140737488355328∧w.ownsRow 0 e 1 v b.length (b.map (bV .u8))
theorem rowB'.lt {e:Nat} {w:World} {v:Value} {b:Bs0} (h:rowB' e w v b) {k:Nat} (hk:blkO v=some k):k<w.heap.size:=by
 rw [(own_blk h.2).1] at hk;exact (h.2.lt k hk).2
theorem rowB'.later {e:Nat} {w w':World} {v:Value} {b:Bs0} (h:rowB' e w v b) (hb:∀ k,blkO v=some k→w'.heap[k]?=w.heap[k]?):rowB' e w' v b:=by
 refine ⟨h.1,h.2.1,?_⟩;rcases h.2.2 with hn|⟨g,cap,cur,rfl,hb0,hg,rest⟩
 · exact .inl hn
 · exact .inr ⟨g,cap,cur,rfl,hb0,(hb g rfl).trans hg,rest⟩
abbrev VB:=Value×Bs0
def apartL (l:List VB):Prop:=l.Pairwise fun p q=>∀ k,blkO p.1=some k→blkO q.1≠some k
def subsAO (e:Nat) (l:List VB):AO where
 own:=fun k=>∃ p∈l,blkO p.1=some k
 holds:=fun w _=>(∀ p∈l,rowB' e w p.1 p.2)∧apartL l
 plain:=True
 lt:=fun h ⟨p,hp,hk⟩=>(h.1 p hp).lt hk
 later:=fun h _ hb=>⟨fun p hp=>(h.1 p hp).later fun k hk=>hb k ⟨p,hp,hk⟩,h.2⟩
 any:=fun _ h=>h
section
variable {P:Program} [TabC P] {S:Sig} {σ:Sg} {env:Env} {objs:List Ob} {nx:Nat} {a:Act} {w:World} {A:Own}
theorem St.re {S':Sig} {σ':Sg} {env':Env} {objs':List Ob} {nx':Nat} (h:St P S σ env objs nx a w) (hA0:S'.A0=S.A0) (hn:S'.n=S.n) (hs:Sg.le σ σ') (hown:∀ b,owns σ' objs' b↔owns σ objs b)
   (hslots:∀ t s,lk env' t=some s→s.hv w (S.A σ objs) σ' (a.tmps.getD t undef)) (hdom:∀ k,nx'≤k→σ' k=none)
   (hholds:∀ o∈objs',o.2.holds w (S.A σ objs) σ' o.1) (hdisj:Disj σ' objs') (hist:Mod S'.M0 S'.w0 w) (own0:∀ b,owns σ objs b→S'.M0 b∨S'.w0.heap.size≤b) (a0:∀ b,S.A0 b→b<w.heap.size)
   (base:∀ k,k<S'.nn→∀ v,σ' k=some v→S'.s0 k=some v) (nnx:S'.nn≤nx') (hds:S'.ds=S.ds:=by rfl):St P S' σ' env' objs' nx' a w:=by
 have hA:∀ b,S'.A σ' objs' b↔S.A σ objs b:=fun b=>by simp only [Sig.A,hA0,hown b]
 have hl:Later w (S.A σ objs) w (S'.A σ' objs'):=Later.own fun b hb=>(hA b).1 hb
 exact { slots := fun t s ht => (hslots t s ht).later hl, dom := hdom, size := by rw [hn]; exact h.size, defers := by rw [hds]; exact h.defers
         obs:=⟨fun o ho=>(hholds o ho).later hl (fun _ _=>rfl),hdisj,fun b hb=>by rw [hA0];exact h.obs.lt b ((hown b).1 hb)⟩
         hist:=hist,own0:=fun b hb=>own0 b ((hown b).1 hb),a0:=by rw [hA0];exact a0,mks:=by rw [hds,hA0];exact h.mks,glob:=h.glob.later hl,base:=base,nnx:=nnx }
inductive CloseS (j e:Nat) (l1 l2:List VB) (v:Value) (m:Nat) (K:KS) (env:Env) (objs:List Ob) (nx:Nat):Prop
 | mk (b:Bs0) (o3 o4:List Ob) (so:SO) (h3:rmO objs m=some (.row e 1 eB b,o3)) (hj:lk o3 j=some (.ab (subsAO e (l1++l2)))) (h4:setO o3 j j (.ab (subsAO e (l1++(v,b)::l2)))=some o4) (k:K env o4 nx)
end
section
variable {P:Program} [TabC P] {fn:Nat} {D:Type} {pre:D→Prop} {arg f:D→Bs0} {e:Nat}
end
def soSame (s s':SO):Prop:=(∀ σ k,SO.own σ k s=SO.own σ k s')∧∀ w A σ k,s.holds w A σ k=s'.holds w A σ k
def oSame:List Ob→List Ob→Prop
 | [],[]=>True
 | (k,s)::r,(k',s')::r'=>k=k'∧soSame s s'∧oSame r r'
 | _,_=>False
theorem soSame.row {e z:Nat} {α β:Type} {enc:α→List SV} {enc':β→List SV} {xs:List α} {ys:List β} (h:xs.map enc=ys.map enc'):soSame (.row e z enc xs) (.row e z enc' ys) :=
 ⟨fun _ _=>rfl,fun w A σ k=>by show rowH w A σ k e z (xs.map enc)=rowH w A σ k e z (ys.map enc');rw [h]⟩
theorem oSame.owns {σ:Sg}:∀ {a b:List Ob},oSame a b→owns σ a=owns σ b
 | [],[],_=>rfl
 | (k,s)::r,(k',s')::r',⟨h1,h2,h3⟩=>by
   subst h1
   funext x
   show (SO.own σ k s x∨Go.Proofs.YtfljmihdeimahaaGreatDoor.owns σ r x)=(SO.own σ k s' x∨Go.Proofs.YtfljmihdeimahaaGreatDoor.owns σ r' x);rw [h2.1,oSame.owns h3]
theorem oSame.disj {σ:Sg}:∀ {a b:List Ob},oSame a b→Disj σ a→Disj σ b
 | [],[],_,h=>h
 | (k,s)::r,(k',s')::r',⟨h1,h2,h3⟩,h=>by
   subst h1;refine ⟨fun b hb=>?_,oSame.disj h3 h.2⟩
   have hb':SO.own σ k s' b:=hb;rw [← h2.1] at hb';rw [← oSame.owns h3];exact h.1 b hb'
theorem oSame.mem:∀ {a b:List Ob},oSame a b→∀ o∈b,∃ o'∈a,o'.1=o.1∧soSame o'.2 o.2
 | [],[],_,o,h=>by cases h
 | (k,s)::r,(k',s')::r',⟨h1,h2,h3⟩,o,h=>by
   rcases List.mem_cons.1 h with rfl|h
   · exact ⟨(k,s),List.mem_cons_self,h1,h2⟩
   · obtain ⟨o',ho',e⟩:=oSame.mem h3 o h
     exact ⟨o',List.mem_cons_of_mem _ ho',e⟩
theorem oSame.obs {σ:Sg} {A0:Own} {a b:List Ob} {w:World} (h:oSame a b) (ho:Obs σ A0 a w):Obs σ A0 b w :=
 ⟨fun o hm=>by
   obtain ⟨o',hm',h1,h2⟩:=h.mem o hm
   have:=ho.holds o' hm'
   rw [h1,h2.2,h.owns] at this;exact this,h.disj ho.disj,fun x hx=>ho.lt x (by rw [h.owns];exact hx)⟩
theorem Ctr.Ok.out {P:Program} [TabC P] {f:Nat} {c:Ctr} (h:c.Ok P f) {out':c.D→c.E→List Ob} (hs:∀ d e,c.pre d→c.post d e→oSame (c.out d e) (out' d e)):({ c with out:=out' }:Ctr).Ok P f:=by
 intro d hpre A0 w σ vs hA hobs hargs hdom hgl;refine (h d hpre A0 w σ vs hA hobs hargs hdom hgl).mono ?_;rintro en w' ⟨e',v,σ',rfl,hp,hsame,hdom',hres,hm,hobs',hnew⟩;have hh:=hs d e' hpre hp;refine ⟨e',v,σ',rfl,hp,hsame,hdom',?_,hm,hh.obs hobs',?_⟩
 · show (c.res d e').hv w' (Av A0 σ' (out' d e')) σ' v
   unfold Av at hres ⊢;rw [← hh.owns];exact hres
 · intro b hb
   have hb':owns σ' (out' d e') b:=hb;rw [← hh.owns] at hb';exact hnew b hb'
def soSub (s s':SO):Prop:=(∀ σ k x,SO.own σ k s' x→SO.own σ k s x)∧∀ w A σ k,s.holds w A σ k→s'.holds w A σ k
def oSub:List Ob→List Ob→Prop
 | [],[]=>True
 | (k,s)::r,(k',s')::r'=>k=k'∧soSub s s'∧oSub r r'
 | _,_=>False
theorem oSub.owns {σ:Sg} {x:Nat}:∀ {a b:List Ob},oSub a b→Go.Proofs.YtfljmihdeimahaaGreatDoor.owns σ b x→Go.Proofs.YtfljmihdeimahaaGreatDoor.owns σ a x
 | [],[],_,h=>h
 | (k,s)::r,(k',s')::r',⟨h1,h2,h3⟩,h=>by
   subst h1;exact h.imp (h2.1 σ k x) (oSub.owns h3)
theorem oSub.disj {σ:Sg}:∀ {a b:List Ob},oSub a b→Disj σ a→Disj σ b
 | [],[],_,h=>h
 | (k,s)::r,(k',s')::r',⟨h1,h2,h3⟩,h=>by
   subst h1;exact ⟨fun b hb hr=>h.1 b (h2.1 σ k b hb) (oSub.owns h3 hr),oSub.disj h3 h.2⟩
theorem oSub.mem:∀ {a b:List Ob},oSub a b→∀ o∈b,∃ o'∈a,o'.1=o.1∧soSub o'.2 o.2
 | [],[],_,o,h=>by cases h
 | (k,s)::r,(k',s')::r',⟨h1,h2,h3⟩,o,h=>by
   rcases List.mem_cons.1 h with rfl|h
   · exact ⟨(k,s),List.mem_cons_self,h1,h2⟩
   · obtain ⟨o',ho',e⟩:=oSub.mem h3 o h
     exact ⟨o',List.mem_cons_of_mem _ ho',e⟩
theorem oSub.obs {σ:Sg} {A0:Own} {a b:List Ob} {w:World} (h:oSub a b) (ho:Obs σ A0 a w):Obs σ A0 b w :=
 ⟨fun o hm=>by
   obtain ⟨o',hm',h1,h2⟩:=h.mem o hm
   have:=ho.holds o' hm'
   rw [h1] at this;exact (h2.2 _ _ _ _ this).later (Later.own fun k hk=>hk.imp id h.owns) (fun _ _=>rfl),h.disj ho.disj,fun x hx=>ho.lt x (h.owns hx)⟩
theorem Ctr.Ok.sub {P:Program} [TabC P] {f:Nat} {c:Ctr} (h:c.Ok P f) {out':c.D→c.E→List Ob} (hs:∀ d e,c.pre d→c.post d e→oSub (c.out d e) (out' d e)):({ c with out:=out' }:Ctr).Ok P f:=by
 intro d hpre A0 w σ vs hA hobs hargs hdom hgl;refine (h d hpre A0 w σ vs hA hobs hargs hdom hgl).mono ?_;rintro en w' ⟨e',v,σ',rfl,hp,hsame,hdom',hres,hm,hobs',hnew⟩;have hh:=hs d e' hpre hp;exact ⟨e',v,σ',rfl,hp,hsame,hdom',hres.later (Later.own fun k hk=>hk.imp id hh.owns),hm,hh.obs hobs',fun b hb=>hnew b (hh.owns hb)⟩
def leL:List SV→List SV→Prop
 | [],[]=>True
 | s::r,t::q=>(s=t∨(s=.nils∧∃ (z:Nat) (α:Type) (enc:α→List SV),t=@SV.fs z α enc []))∧leL r q
 | _,_=>False
theorem hL_le {w:World} {A:Own} {σ:Sg}:∀ {ps qs:List SV} {cs:List Value},leL ps qs→hL w A ps σ cs→hL w A qs σ cs
 | [],[],_,_,h=>h
 | s::r,t::q,cs,⟨h1,h2⟩,⟨a,b,e,ha,hb⟩=>by
   refine ⟨a,b,e,?_,hL_le h2 hb⟩;rcases h1 with rfl|⟨rfl,z,α,enc,rfl⟩
   · exact ha
   · simp only [SV.hc] at ha ⊢
     subst ha;refine ⟨none,0,rfl,Nat.zero_le _,Nat.zero_le _,?_⟩
     simp
 | [],_::_,_,h,_=>h.elim
 | _::_,[],_,h,_=>h.elim
section
variable {P:Program} [TabC P] {S:Sig} {σ:Sg} {env:Env} {objs:List Ob} {nx:Nat} {a:Act} {w:World}
theorem St.nilA {t:Nat} {ps qs:List SV} (hst:St P S σ env objs nx a w) (ht:lk env t=some (.agg ps)) (hl:leL ps qs):St P S σ ((t,.agg qs)::env) objs nx a w:=by
 refine hst.re (S':=S) rfl rfl (Sg.le.refl _) (fun k=>Iff.rfl) (fun t' s' hx=>?_) hst.dom hst.obs.holds hst.obs.disj hst.hist (fun k hk=>hst.own0 k hk) hst.a0 hst.base hst.nnx
 unfold lk at hx
 split at hx
 · rename_i hb
   obtain rfl:=Nat.eq_of_beq_eq_true hb
   cases hx
   have:=hst.slots t _ ht
   simp only [SV.hv,SV.h1] at this ⊢;obtain ⟨cs,h1,h2⟩:=this;exact ⟨cs,h1,hL_le hl h2⟩
 · exact hst.slots t' s' hx
theorem OpsK.bslA {H:Cfg} {all r:List Oper} {K:KS} (t k off lo hi:Nat) (ht:lk env t=some (.bsl k off lo hi)) (h:nn1 objs (.bsl k off lo hi) fun o s=>∃ l:List (BitVec 8),s=.fs 1 eB l∧OpsK P H all r K ((t,.fs 1 eB l)::env) o nx):OpsK P H all r K env objs nx:=⟨fun {S Q ops} hcs hn ha hK=>by
 obtain ⟨o',s',⟨l,rfl,h⟩,g,e⟩:=nn1_sound (P:=P) h;intro σ a w hst;have hst1:=g.1 S env nx σ a w hst;refine h.h hcs hn ha hK σ a w (hst1.re (S':=S) rfl rfl (Sg.le.refl _) (fun k=>Iff.rfl) (fun t' s' hx=>?_) hst1.dom hst1.obs.holds hst1.obs.disj hst1.hist (fun k hk=>hst1.own0 k hk) hst1.a0 hst1.base hst1.nnx)
 unfold lk at hx
 split at hx
 · rename_i hb
   obtain rfl:=Nat.eq_of_beq_eq_true hb
   cases hx
   have h1:=hst.slots t _ ht;exact hv_up (e hst h1)
 · exact hst1.slots t' s' hx⟩
theorem OrdK.bslA {H:Cfg} {all:List Oper} {o0:List Ob} {N:List Nat} {r:Ord} {ph q:Bool} {K:KS} (t k off lo hi:Nat) (ht:lk env t=some (.bsl k off lo hi)) (h:nn1 objs (.bsl k off lo hi) fun o s=>∃ l:List (BitVec 8),s=.fs 1 eB l∧OrdK P H all o0 N r ph q K ((t,.fs 1 eB l)::env) o nx):OrdK P H all o0 N r ph q K env objs nx:=⟨fun {S Q ops} hcs hn ha hN hK=>by
 obtain ⟨o',s',⟨l,rfl,h⟩,g,e⟩:=nn1_sound (P:=P) h;intro σ a w w0 e0 a0 hst0 hS hst hph hk;have hst1:=g.1 S env nx σ a w hst;refine h.h hcs hn ha hN hK σ a w w0 e0 a0 hst0 hS (hst1.re (S':=S) rfl rfl (Sg.le.refl _) (fun k=>Iff.rfl) (fun t' s' hx=>?_) hst1.dom hst1.obs.holds hst1.obs.disj hst1.hist (fun k hk=>hst1.own0 k hk) hst1.a0 hst1.base hst1.nnx) hph hk
 unfold lk at hx
 split at hx
 · rename_i hb
   obtain rfl:=Nat.eq_of_beq_eq_true hb
   cases hx
   have h1:=hst.slots t _ ht;exact hv_up (e hst h1)
 · exact hst1.slots t' s' hx⟩
theorem OpsK.nilA {H:Cfg} {all r:List Oper} {K:KS} (t:Nat) (ps qs:List SV) (ht:lk env t=some (.agg ps)) (hl:leL ps qs) (h:OpsK P H all r K ((t,.agg qs)::env) objs nx):OpsK P H all r K env objs nx:=⟨fun {S Q ops} hcs hn ha hK=>by
 intro σ a w hst;exact h.h hcs hn ha hK σ a w (hst.nilA ht hl)⟩
theorem OrdK.nilA {H:Cfg} {all:List Oper} {o0:List Ob} {N:List Nat} {r:Ord} {ph k:Bool} {K:KS} (t:Nat) (ps qs:List SV) (ht:lk env t=some (.agg ps)) (hl:leL ps qs)
   (h:OrdK P H all o0 N r ph k K ((t,.agg qs)::env) objs nx):OrdK P H all o0 N r ph k K env objs nx:=⟨fun {S Q ops} hcs hn ha hN hK=>by
 intro σ a w w0 e0 a0 hst0 hS hst hph hk;exact h.h hcs hn ha hN hK σ a w w0 e0 a0 hst0 hS (hst.nilA ht hl) hph hk⟩
end
end Go.Proofs.YtfljmihdeimahaaGreatDoor
namespace Go.Proofs.YtfljmihdeimahaaGreatDoor
set_option linter.all false
open Go.RowKit
theorem setLb_last {x:Bs} {c:List Ver} {ps:Ppl}:(ps++[(x,([]:List Ver))]).set ps.length (x,c)=ps++[(x,c)]:=by
 rw [List.set_append_right _ _ (Nat.le_refl _),Nat.sub_self];rfl
theorem flat_take_len {es:List (List Nws)} (h:StOk es) (n:List Nws) (hn:n.length≤16) (hd:(n.map Prod.fst).Nodup) (i:Nat):(setAll (peo es) ((n.take i).map (grownL (peo es)))).length≤336:=by
 have h1:=setAll_len _ (peo es) ((n.take i).map (grownL (peo es))) rfl;have h2:=h.people;have h3:((n.take i).map (grownL (peo es))).length≤n.length:=by simp;omega
 omega
def eclose_c:Ctr where
 D:=H256×List (List Nws)×List Nws
 pre:=fun (_,es,n)=>StOk es∧n.length≤16∧(n.map Prod.fst).Nodup∧∀ p∈n,p.1.length≤1000000∧p.2.val.length≤1000000
 args:=fun (_,es,n)=>[.ptr 0 0,.int .i64 (builtF (kvs (es++[n]))).2,.int .i64 ((builtF (kvs es)).1.length:Int),.agg [.fs 68 eNw n,.fs 1 eCh (chainsN (peo es) n)]]
 objs:=fun (s,es,n)=>stG s (builtF (kvs (es++[n]))).1 (slds es) (peo es)
 nn:=6
 res:=fun _ _=>.tup []
 out:=fun (s,es,n) _=>[(0,.box 176 [.arr8 s,.ptr 1 0,.own 6,.own 7,.own 5]),(1,.box 171 [.own 2]),(2,.row 283 132 eNd (builtF (kvs (es++[n]))).1),(6,.row 275 67 eSl (slds (es++[n]))),(7,.row 269 2 ePn (peo (es++[n]))),(5,nmO (peo (es++[n])))]
 mm:=2
def eclose_H:Cfg:=⟨[(150,root_c),(73,cloneB_c),(151,hentry_c),(152,ecopy_c)],[(5,[3,5],[6,7],(oA 0 (oA 1 (oA 2 (oB 3 (oA 4 (oB 5 (oD 6 (oC 7 (oA 8 (oA 9 (oA 10 (oA 11 (oA 12 .nil))))))))))))),[]),(8,[3,5],[6,8],(oA 0 (oA 1 (oA 2 (oB 3 (oA 4 (oB 5 (oA 7 (oD 6 (oC 8 .nil))))))))),[]),(9,[4,6],[7,9,10,13],(oA 0 (oA 1 (oA 2 (oA 3 (oB 4 (oA 5 (oB 6 (oD 7 (oA 8 (oD 9 (oC 10 (oA 11 (oA 12 (oC 13 .nil)))))))))))))),[]),(10,[3,6,9],[12],(oA 0 (oA 1 (oA 2 (oB 3 (oA 4 (oA 5 (oB 6 (oA 7 (oA 8 (oB 9 (oA 10 (oA 11 (oC 12 .nil))))))))))))),[]),(12,[1,6,9,12],[10,13,15,16],(oA 0 (oB 1 (oA 2 (oA 3 (oA 4 (oA 5 (oB 6 (oA 7 (oA 8 (oB 9 (oA 11 (oB 12 (.alt 10 true (.alt 13 true (oA 14 (oD 15 (oC 16 .nil))) (oD 15 (oD 13 (oA 14 (oC 16 .nil))))) (oD 15 (oD 10 (oD 13 (oA 14 (oC 16 .nil)))))))))))))))))),[]),(13,[4,5],[6,7,10],(oA 0 (oA 1 (oA 2 (oA 3 (oB 4 (oB 5 (oD 6 (oC 7 (oA 8 (oA 9 (oC 10 .nil))))))))))),[])],[],[],109,6,[],[],[67]⟩
set_option maxHeartbeats 2000000 in
theorem eclose_ok:eclose_c.Ok Tryz.prog 134:=by
 refine fn_ok eclose_H 6 rfl _ Tryz.func134 rfl rfl ⟨root_ok,cloneB_ok,hentry_ok,ecopy_ok,trivial⟩ rfl rfl (by kernel_rfl) (fun _=>nlb rfl) ?_
 rintro ⟨s,es,n⟩ hp hr
 try dsimp only [eclose_c] at hp
 try simp only [eclose_c,Rng,RngL,inR,and_true,true_and] at hr
 obtain ⟨hst,hp1,hp2,hp3⟩:=hp;have hp1:n.length≤16:=hp1;have hk:=mkeyS;have hz:=zeroI;have hbo:=builtOk (kvs (es++[n]));have hpr:root_c.pre ((builtF (kvs (es++[n]))).1,(builtF (kvs (es++[n]))).2):=treeAt_is hbo.tree;have hcl:(chainsN (peo es) n).length=n.length:=by simp [chainsN]
 repeat' (first|(with_reducible refine Unf.h ?_)|fail);all_goals try (conv=>whnf);all_goals try (exfalso;omega)
 refine CallS.mk (c:=root_c) (((builtF (kvs (es++[n]))).1,(builtF (kvs (es++[n]))).2)) ?_
 repeat' (first|(with_reducible refine Unf.h ?_)|((conv=>whnf);first|(refine Side.mk ?_ ?_;focus (first|with_reducible rfl|assumption))|refine Got.mk (fun _ _=>?_))|fail);all_goals try (conv=>whnf);all_goals try (exfalso;omega)
 refine LoopS.mk (I:=Nat) (fun i=>i≤n.length) (fun i=>[(27,.int .i64 (i:Int)),(26,.int .i64 (n.length:Int)),(25,.fs 68 eNw n),(8,.ptr 7 0),(7,.ptr 6 0),(0,.ptr 0 0),(1,.int .i64 (builtF (kvs (es++[n]))).2),(2,.int .i64 ((builtF (kvs es)).1.length:Int))]) (fun i=>[(0,.box 176 [.arr8 s,.ptr 1 0,.own 3,.own 8,.own 5]),(1,.box 171 [.own 2]),(2,.row 283 132 eNd (builtF (kvs (es++[n]))).1),(3,.row 275 67 eSl (slds es)),(8,.row 269 2 ePn (setAll (peo es) ((n.take i).map (grownL (peo es))))),(5,nmO (setAll (peo es) ((n.take i).map (grownL (peo es))))),(6,.box 253 [.fs 68 eNw n,.fs 1 eCh (chainsN (peo es) n)]),(7,.box 35 [.arr8 (rootF (builtF (kvs (es++[n]))).1 (builtF (kvs (es++[n]))).2)])]) 9 (fun i=>n.length - i) 0 (Nat.zero_le _) ?_ ?_
 · have e0:setAll (peo es) ((n.take 0).map (grownL (peo es)))=peo es:=rfl
   repeat' (first|(with_reducible refine Unf.h ?_)|((conv=>whnf);first|(refine Side.mk ?_ ?_;focus (first|with_reducible rfl|(refine congrArg (SV.int _) ?_;omega)|(simp only [*,e0];done)))|(with_reducible refine Unf.h ?_)|exact True.intro)|fail);all_goals try (conv=>whnf);all_goals try (exfalso;omega)
 · intro i hi
   have hpl:=flat_take_len hst n hp1 hp2 i
   by_cases hil:i<n.length
   · obtain ⟨p,hpi⟩:∃ p,n[((i:Nat):Int).toNat]'hil=p:=⟨_,rfl⟩
     have hpi2:n[i]'hil=p:=hpi;have hpm:p∈n:=hpi▸List.getElem_mem _;obtain ⟨hpl2,hpv⟩:=hp3 p hpm;have hc1:cloneB_c.pre p.1:=hpl2;obtain ⟨c,hc⟩:∃ c,chainP (peo es) p.1++[p.2]=c:=⟨_,rfl⟩;have hci:(chainsN (peo es) n)[((i:Nat):Int).toNat]'(by rw [hcl];exact hil)=c:=by
       simp only [chainsN,List.getElem_map];rw [← hc,hpi]
     have ets:(n.take (i+1)).map (grownL (peo es))=(n.take i).map (grownL (peo es))++[(p.1,c)]:=by
       rw [List.take_succ_eq_append_getElem hil,hpi2,List.map_append,← hc];rfl
     have esa:setAll (peo es) ((n.take (i+1)).map (grownL (peo es)))=setLb (setAll (peo es) ((n.take i).map (grownL (peo es)))) p.1 c:=by rw [ets,setAll_snoc]
     generalize setAll (peo es) ((n.take i).map (grownL (peo es)))=ps at *
     repeat' (first|(with_reducible refine Unf.h ?_)|((conv=>whnf);first|refine Fork.mk (fun h=>?_) (fun h=>?_)|(refine Idx.mk ?_ ?_;focus (omega))|refine Ex.mk _ rfl ?_)|fail);all_goals try (conv=>whnf);all_goals try (exfalso;omega)
     rw [hpi];refine LookS.mk p.1 rfl hk _ hz ⟨rfl,fun _=>rfl⟩ (fun b hb=>?_) (fun hm=>?_)
     · obtain ⟨j,hj,hkj,e1,e2,e3⟩:=numsL_hit 0 ps hb
       obtain rfl:b=(j:Int):=by simpa using hkj
       have f1:=esa.trans (e3 c).1;have f2:=(e3 c).2
       repeat' (first|(with_reducible refine Unf.h ?_)|((conv=>whnf);first|(refine Side.mk ?_ ?_;focus (omega))|(refine Idx.mk ?_ ?_;focus (omega))|(with_reducible refine Unf.h ?_))|fail);all_goals try (conv=>whnf);all_goals try (exfalso;omega)
       refine Ex.mk (p.1,c) (by rw [hci,show (ps[((j:Nat):Int).toNat]'hj).1=p.1 from e1]) ?_
       repeat' (first|(with_reducible first|refine Unf.h ?_|refine loopK_n ?_)|((conv=>whnf);first|(refine Side.mk ?_ ?_;focus ((intros;(try simp only [lenS,inR,cutS,loI,hiI] at *);omega)))|(with_reducible refine Unf.h ?_))|fail);all_goals try (conv=>whnf);all_goals try (exfalso;omega)
       refine ⟨i+1,⟨by omega,by omega⟩,?_⟩
       rw [f1]
       repeat' (first|(with_reducible refine Unf.h ?_)|((conv=>whnf);first|(refine Side.mk ?_ ?_;focus (first|with_reducible rfl|(refine congrArg (SV.int _) ?_;omega)|(simp only [*,f2];done)|(simp [*,f2];done)))|(with_reducible refine Unf.h ?_)|exact True.intro)|fail);all_goals try (conv=>whnf);all_goals try (exfalso;omega)
     · obtain ⟨e1,e2,e3⟩:=numsL_miss c 0 ps hm
       have f1:=esa.trans e2;rw [Nat.zero_add] at e3;have hnl:=numsL_len 0 ps
       repeat' (first|(with_reducible refine Unf.h ?_)|((conv=>whnf);first|refine Ex.mk _ rfl ?_|(with_reducible refine Unf.h ?_))|fail);all_goals try (conv=>whnf);all_goals try (exfalso;omega)
       refine UpdS.mk p.1 rfl (ps.length:Int) rfl hk (by omega) ?_
       rw [e3]
       repeat' (first|(with_reducible refine Unf.h ?_)|((conv=>whnf);(with_reducible refine Unf.h ?_))|fail);all_goals try (conv=>whnf);all_goals try (exfalso;omega)
       refine CallS.mk (c:=cloneB_c) (p.1) ?_
       repeat' (first|(with_reducible refine Unf.h ?_)|((conv=>whnf);first|(refine Side.mk ?_ ?_;focus (first|with_reducible rfl|assumption))|refine Got.mk (fun _ _=>?_))|fail);all_goals try (conv=>whnf);all_goals try (exfalso;omega)
       refine ValS.mk (OrdK.nilA 66 [.fs 1 eB p.1,.nils] [.fs 1 eB p.1,.fs 67 eVr []] rfl ⟨.inl rfl,.inr ⟨rfl,_,_,_,rfl⟩,trivial⟩ ?_)
       repeat' (first|(with_reducible refine Unf.h ?_)|fail);all_goals try (conv=>whnf);all_goals try (exfalso;omega)
       refine Ex.mk [(p.1,[])] rfl ?_;have hlast:∀ h,(ps++[(p.1,([]:List Ver))])[((ps.length:Nat):Int).toNat]'h=(p.1,[]):=fun h=>by simp
       have hset:(ps++[(p.1,([]:List Ver))]).set ((ps.length:Nat):Int).toNat (p.1,c)=ps++[(p.1,c)]:=setLb_last
       repeat' (first|(with_reducible refine Unf.h ?_)|((conv=>whnf);first|(refine Side.mk ?_ ?_;focus ((intros;(try simp only [lenS,inR,cutS,loI,hiI] at *);omega)))|(refine Idx.mk ?_ ?_;focus (first|omega|(simp only [lenS,inR,cutS,loI,hiI];omega))))|fail);all_goals try (conv=>whnf);all_goals try (exfalso;omega)
       refine Ex.mk (p.1,c) (by rw [hci,hlast]) ?_
       rw [hset]
       repeat' (first|(with_reducible first|refine Unf.h ?_|refine loopK_n ?_)|((conv=>whnf);first|(refine Side.mk ?_ ?_;focus ((intros;(try simp only [lenS,inR,cutS,loI,hiI] at *);omega)))|(with_reducible refine Unf.h ?_))|fail);all_goals try (conv=>whnf);all_goals try (exfalso;omega)
       refine ⟨i+1,⟨by omega,by omega⟩,?_⟩
       rw [f1]
       repeat' (first|(with_reducible refine Unf.h ?_)|((conv=>whnf);first|(refine Side.mk ?_ ?_;focus (first|with_reducible rfl|(refine congrArg (SV.int _) ?_;omega)))|(with_reducible refine Unf.h ?_)|exact True.intro)|fail);all_goals try (conv=>whnf);all_goals try (exfalso;omega)
   · have e0:n.take i=n:=List.take_of_length_le (by omega)
     have e1:setAll (peo es) (n.map (grownL (peo es)))=peo (es++[n]):=by rw [peo_snoc,giveLb_all n _ hp2]
     rw [e0,e1];have hsl:=slds_len es;have hsl2:=hst.len;have hph:hentry_c.pre (((slds es).length:Int)+1,rootF (builtF (kvs (es++[n]))).1 (builtF (kvs (es++[n]))).2):=⟨by show 0≤((slds es).length:Int)+1;omega,by show ((slds es).length:Int)+1<_;omega⟩
     have hpc:ecopy_c.pre n:=⟨by show n.length≤10000;omega,hp3⟩
     repeat' (first|(with_reducible refine Unf.h ?_)|((conv=>whnf);first|refine Both.mk ?_ ?_|refine Both.mk ?_ ?_|refine Fork.mk (fun h=>?_) (fun h=>?_)|(refine Side.mk ?_ ?_;focus ((intros;(try simp only [lenS,inR,cutS,loI,hiI] at *);omega))))|fail);all_goals try (conv=>whnf);all_goals try (exfalso;omega)
     all_goals
       refine CallS.mk (c:=hentry_c) ((((slds es).length:Int)+1,rootF (builtF (kvs (es++[n]))).1 (builtF (kvs (es++[n]))).2)) ?_
       repeat' (first|(with_reducible refine Unf.h ?_)|((conv=>whnf);first|refine Both.mk ?_ ?_|refine Both.mk ?_ ?_|(refine Side.mk ?_ ?_;focus (first|with_reducible rfl|assumption))|refine Got.mk (fun _ _=>?_))|fail);all_goals try (conv=>whnf);all_goals try (exfalso;omega)
     all_goals
       refine CallS.mk (c:=ecopy_c) (n) ?_
       repeat' (first|(with_reducible refine Unf.h ?_)|((conv=>whnf);first|(refine Side.mk ?_ ?_;focus (first|with_reducible rfl|assumption))|refine Got.mk (fun _ _=>?_))|fail);all_goals try (conv=>whnf);all_goals try (exfalso;omega)
     all_goals have esl:slds (es++[n])=slds es++[⟨(builtF (kvs (es++[n]))).2,rootB (es++[n]),((builtF (kvs es)).1.length:Int),entH (((slds es).length:Int)+1) (rootB (es++[n])),n⟩]:=by rw [slds_snoc,hsl]
     all_goals
       refine Ex.mk [⟨(builtF (kvs (es++[n]))).2,rootB (es++[n]),((builtF (kvs es)).1.length:Int),entH (((slds es).length:Int)+1) (rootB (es++[n])),n⟩] rfl ?_
       repeat' (first|(with_reducible refine Unf.h ?_)|((conv=>whnf);first|(refine Side.mk ?_ ?_;focus (first|with_reducible rfl|(intros;(try simp only [lenS,inR,cutS,loI,hiI] at *);omega)|(simp only [*];done)))|refine RetE.mk () trivial ?_|refine retK_n ?_|exact rfl)|fail);all_goals try (conv=>whnf);all_goals try (exfalso;omega)
end Go.Proofs.YtfljmihdeimahaaGreatDoor
namespace Go.Proofs.YtfljmihdeimahaaGreatDoor
set_option linter.all false
open Go.RowKit
theorem sealF_ok {s:H256} {es:List (List Nws)} {us:List (Bs×Bs)} (h:StOk es) (hl:es.length<20):StOk (sealF s es us).1:=by
 unfold sealF
 split
 · exact h
 · rename_i h16
   split
   · rename_i hc
     have ha:apartE (es++[us.map (verN s es)]):=by
       intro n hn;rcases List.mem_append.1 hn with hn|hn
       · exact h.apart n hn
       · obtain rfl:=List.mem_singleton.1 hn
         rw [verN_fst];exact hc.2
     refine ⟨ha,by simp;omega,fun n hn=>?_,fun n hn p hp=>?_,fun i hi p hp=>?_⟩
     · rcases List.mem_append.1 hn with hn|hn
       · exact h.few n hn
       · obtain rfl:=List.mem_singleton.1 hn;simp;omega
     · rcases List.mem_append.1 hn with hn|hn
       · exact h.lab n hn p hp
       · obtain rfl:=List.mem_singleton.1 hn
         obtain ⟨u,hu,rfl⟩:=List.mem_map.1 hp;have ho:=hc.1 u hu;exact ⟨ho.1.2,ho.2.2.2.2⟩
     · rcases Nat.lt_or_ge i es.length with hil|hil
       · have e:(es++[us.map (verN s es)])[i]=es[i]:=List.getElem_append_left hil
         have hp:p∈(es++[us.map (verN s es)])[i]:=hp;rw [e] at hp;exact h.ep i hil p hp
       · have hi:i<(es++[us.map (verN s es)]).length:=hi
         obtain rfl:i=es.length:=by simp at hi;omega
         have hp:p∈(es++[us.map (verN s es)])[es.length]:=hp;rw [List.getElem_concat_length rfl] at hp;obtain ⟨u,hu,rfl⟩:=List.mem_map.1 hp
         rfl
   · exact h
theorem growOk_seal {s:H256} {es:List (List Nws)} {us:List (Bs×Bs)} (h:StOk es) (ho:∀ u∈us,okU es u):growOk (peo es) ((es.length:Int)+1) (us.map (verN s es))↔(us.map Prod.fst).Nodup:=by
 unfold growOk;rw [verN_fst];refine ⟨fun h=>h.1,fun h1=>⟨h1,fun p hp=>?_⟩⟩
 obtain ⟨u,hu,rfl⟩:=List.mem_map.1 hp;refine ⟨rfl,?_⟩;show formedC cmL zeroH u.1 (chainP (peo es) u.1++[(verN s es u).2]);rw [h.chain];exact (okG_out cmL zeroH _).2 (ho u hu)
abbrev stO8 (s:H256) (es:List (List Nws)):List Ob:=[(0,.box 176 [.arr8 s,.ptr 1 0,.own 7,.own 8,.own 5]),(1,.box 171 [.own 6]),(6,.row 283 132 eNd (builtF (kvs es)).1),(7,.row 275 67 eSl (slds es)),(8,.row 269 2 ePn (peo es)),(5,nmO (peo es))]
def eseal_c:Ctr where
 D:=H256×List (List Nws)×List (Bs×Bs)
 pre:=fun (_,es,us)=>StOk es∧es.length<20∧us.length≤100000∧∀ u∈us,u.1.length≤10000∧u.2.length≤10000
 args:=fun (_,_,us)=>[.ptr 0 0,.fs 2 eUp us]
 objs:=fun (s,es,_)=>stG s (builtF (kvs es)).1 (slds es) (peo es)
 nn:=6
 res:=fun (s,es,us) _=>.int .i64 (sealF s es us).2
 out:=fun (s,es,us) _=>stO8 s (sealF s es us).1
 mm:=3
def eseal_H:Cfg:=⟨[(130,chOf_c),(129,cgrow_c),(131,egrow_c),(132,size_c),(133,eplant_c),(134,eclose_c)],[(10,[5,8,12],[3,9,13],(oA 0 (oA 1 (oA 2 (oA 4 (oB 5 (oA 6 (oA 7 (oB 8 (oA 10 (oA 11 (oB 12 (.alt 3 true (oD 9 (oC 13 (oA 14 (oA 15 (oA 16 (oA 17 (oA 18 .nil))))))) (oD 9 (oD 3 (oC 13 (oA 14 (oA 15 (oA 16 (oA 17 (oA 18 .nil)))))))))))))))))))),[1000000]),(13,[2,8],[10,11],(oA 0 (oA 1 (oB 2 (oA 3 (oA 4 (oA 5 (oA 6 (oA 7 (oB 8 (oA 9 (oC 10 (oC 11 (oA 12 .nil))))))))))))),[])],[],[],96,6,[],[10],[]⟩
set_option maxHeartbeats 4000000 in
theorem eseal_ok:eseal_c.Ok Tryz.prog 107:=by
 refine fn_ok eseal_H 6 rfl _ Tryz.func107 rfl rfl ⟨chOf_ok,cgrow_ok,egrow_ok,size_ok,eplant_ok,eclose_ok,trivial⟩ rfl rfl (by kernel_rfl) (fun _=>nlb rfl) ?_
 rintro ⟨s,es,us⟩ hp hr
 try dsimp only [eseal_c] at hp
 try simp only [eseal_c,Rng,RngL,inR,and_true,true_and] at hr
 obtain ⟨hst,hp1,hp2,hp3⟩:=hp;have hp1:es.length<20:=hp1;have hp2:us.length≤100000:=hp2;have hsl:=slds_len es;rcases Nat.lt_or_ge 16 us.length with h16|h16
 · have ef:sealF s es us=(es,3):=if_pos h16
   repeat' (first|(with_reducible refine Unf.h ?_)|((conv=>whnf);first|refine Fork.mk (fun h=>?_) (fun h=>?_)|(refine Side.mk ?_ ?_;focus (first|with_reducible rfl|(simp only [*,ef];done)|(dsimp only [resS,eseal_c];(simp only [*,ef];done))))|refine RetE.mk () trivial ?_|refine retK_r ?_|exact rfl)|fail);all_goals try (conv=>whnf);all_goals try (exfalso;omega)
 · have efn:sealF s es us=if (∀ u∈us,okU es u)∧(us.map Prod.fst).Nodup then (es++[us.map (verN s es)],0) else (es,1):=if_neg (by omega)
   repeat' (first|(with_reducible refine Unf.h ?_)|((conv=>whnf);first|refine Fork.mk (fun h=>?_) (fun h=>?_)|(refine Side.mk ?_ ?_;focus ((intros;(try simp only [lenS,inR,cutS,loI,hiI] at *);omega))))|fail);all_goals try (conv=>whnf);all_goals try (exfalso;omega)
   refine LoopS.mk (I:=Nat) (fun i=>i≤us.length∧∀ u∈us.take i,okU es u) (fun i=>[(31,.int .i64 (i:Int)),(30,.int .i64 (us.length:Int)),(29,.fs 2 eUp us),(5,.int .i64 (((slds es).length:Int)+1)),(6,.own 6),(0,.ptr 0 0),(1,.fs 2 eUp us)]) (fun i=>stG s (builtF (kvs es)).1 (slds es) (peo es)++[(6,.row 250 68 eNw ((us.take i).map (verN s es)))]) 7 (fun i=>us.length - i) 0 ⟨Nat.zero_le _,fun u hu=>by simp at hu⟩ ?_ ?_
   · have e0:(us.take 0).map (verN s es)=[]:=rfl
     repeat' (first|(with_reducible refine Unf.h ?_)|((conv=>whnf);first|(refine Side.mk ?_ ?_;focus (first|with_reducible rfl|assumption|(refine congrArg (SV.int _) ?_;omega)))|(with_reducible refine Unf.h ?_)|exact True.intro)|fail);all_goals try (conv=>whnf);all_goals try (exfalso;omega)
   · rintro i ⟨hi,hok⟩
     have hi:i≤us.length:=hi
     by_cases hil:i<us.length
     · obtain ⟨u,hui⟩:∃ u,us[((i:Nat):Int).toNat]'hil=u:=⟨_,rfl⟩
       have hui2:us[i]'hil=u:=hui;have hum:u∈us:=hui▸List.getElem_mem _;obtain ⟨hul,huv⟩:=hp3 u hum;have hch:chainP (peo es) u.1=chR es u.1:=hst.chain u.1;have hcl:=hst.chainLen u.1;rw [← hch] at hcl;have hpc:chOf_c.pre (s,peo es,u.1):=by show u.1.length≤1000000;omega
       have hpg:cgrow_c.pre (s,u.1,chainP (peo es) u.1,((slds es).length:Int)+1,u.2):=⟨by show u.1.length≤100000;omega,by show (chainP (peo es) u.1).length≤10000;omega,by show u.2.length≤100000;omega⟩
       have hgd:growF s u.1 (chainP (peo es) u.1) (((slds es).length:Int)+1) u.2=if okU es u then (chainP (peo es) u.1++[(verN s es u).2],0) else ([],1):=by
         rw [hch,hsl];rfl
       have ets:(us.take (i+1)).map (verN s es)=(us.take i).map (verN s es)++[verN s es u]:=by
         rw [List.take_succ_eq_append_getElem hil,hui2,List.map_append];rfl
       repeat' (first|(with_reducible refine Unf.h ?_)|((conv=>whnf);first|refine Fork.mk (fun h=>?_) (fun h=>?_)|(refine Idx.mk ?_ ?_;focus (omega)))|fail);all_goals try (conv=>whnf);all_goals try (exfalso;omega)
       refine CutS.mk (I:=Unit) (fun _=>True) (fun _=>[(9,.fs 67 eVr (growF s u.1 (chainP (peo es) u.1) (((slds es).length:Int)+1) u.2).1),(10,.int .i64 (growF s u.1 (chainP (peo es) u.1) (((slds es).length:Int)+1) u.2).2),(8,.ptr 7 0),(31,.int .i64 (i:Int)),(30,.int .i64 (us.length:Int)),(29,.fs 2 eUp us),(5,.int .i64 (((slds es).length:Int)+1)),(6,.own 6),(0,.ptr 0 0),(1,.fs 2 eUp us)]) (fun _=>stG s (builtF (kvs es)).1 (slds es) (peo es)++[(6,.row 250 68 eNw ((us.take i).map (verN s es))),(7,.box 244 (eUp u))]) 8 ?_ ?_
       · repeat' (first|(with_reducible refine Unf.h ?_)|((conv=>whnf);first|refine Both.mk ?_ ?_|refine Both.mk ?_ ?_)|fail);all_goals try (conv=>whnf);all_goals try (exfalso;omega)
         all_goals
           rw [hui];refine CallS.mk (c:=chOf_c) ((s,peo es,u.1)) ?_
           repeat' (first|(with_reducible refine Unf.h ?_)|((conv=>whnf);first|(refine Side.mk ?_ ?_;focus (first|with_reducible rfl|assumption))|refine Got.mk (fun _ _=>?_))|fail);all_goals try (conv=>whnf);all_goals try (exfalso;omega)
         all_goals
           refine CallS.mk (c:=cgrow_c) ((s,u.1,chainP (peo es) u.1,((slds es).length:Int)+1,u.2)) ?_
           repeat' (first|(with_reducible first|refine Unf.h ?_|refine cutK_n ?_)|((conv=>whnf);first|(refine Side.mk ?_ ?_;focus (first|with_reducible rfl|assumption))|refine Got.mk (fun _ _=>?_))|fail);all_goals try (conv=>whnf);all_goals try (exfalso;omega)
         all_goals
           refine ⟨(),trivial,?_⟩
           repeat' (first|(with_reducible refine Unf.h ?_)|((conv=>whnf);first|(refine Side.mk ?_ ?_;focus (with_reducible rfl))|(with_reducible refine Unf.h ?_)|exact True.intro)|fail);all_goals try (conv=>whnf);all_goals try (exfalso;omega)
       · intro _ _
         by_cases hoku:okU es u
         · rw [if_pos hoku] at hgd
           have hv:∀ h,(chainP (peo es) u.1++[(verN s es u).2])[(((chainP (peo es) u.1++[(verN s es u).2]).length:Int) - 1).toNat]'h=(verN s es u).2:=fun h=>by
             have e:(((chainP (peo es) u.1++[(verN s es u).2]).length:Int) - 1).toNat=(chainP (peo es) u.1).length:=by simp
             simp only [e];exact List.getElem_concat_length rfl _
           rw [hgd]
           repeat' (first|(with_reducible refine Unf.h ?_)|((conv=>whnf);first|refine Fork.mkn (fun h=>?_) (fun h=>?_)|(refine Side.mk ?_ ?_;focus ((intros;(try simp only [lenS,inR,cutS,loI,hiI] at *);omega)))|(refine Idx.mk ?_ ?_;focus ((simp only [lenS,inR,cutS,loI,hiI];omega))))|fail);all_goals try (conv=>whnf);all_goals try (exfalso;omega)
           refine Ex.mk [verN s es u] (by simp only [hv];rfl) ?_
           repeat' (first|(with_reducible first|refine Unf.h ?_|refine loopK_n ?_)|((conv=>whnf);(refine Side.mk ?_ ?_;focus ((intros;(try simp only [lenS,inR,cutS,loI,hiI] at *);omega))))|fail);all_goals try (conv=>whnf);all_goals try (exfalso;omega)
           refine ⟨i+1,⟨by omega,by omega,fun w hw=>?_⟩,?_⟩
           · rw [List.take_succ_eq_append_getElem hil,hui2] at hw
             rcases List.mem_append.1 hw with hw|hw
             · exact hok w hw
             · obtain rfl:=List.mem_singleton.1 hw;exact hoku
           · rw [ets]
             repeat' (first|(with_reducible refine Unf.h ?_)|((conv=>whnf);first|(refine Side.mk ?_ ?_;focus (first|with_reducible rfl|(refine congrArg (SV.int _) ?_;omega)))|(with_reducible refine Unf.h ?_)|exact True.intro)|fail);all_goals try (conv=>whnf);all_goals try (exfalso;omega)
         · rw [if_neg hoku] at hgd
           have ef:sealF s es us=(es,1):=by rw [efn,if_neg fun h=>hoku (h.1 u hum)]
           rw [hgd]
           repeat' (first|(with_reducible refine Unf.h ?_)|((conv=>whnf);first|refine Fork.mkn (fun h=>?_) (fun h=>?_)|(refine Side.mk ?_ ?_;focus (first|with_reducible rfl|(simp only [*,ef];done)|(dsimp only [resS,eseal_c];(simp only [*,ef];done))))|refine RetE.mk () trivial ?_|refine retK_r ?_|exact rfl)|fail);all_goals try (conv=>whnf);all_goals try (exfalso;omega)
     · have e0:us.take i=us:=List.take_of_length_le (by omega)
       rw [e0] at hok ⊢;have hml:(us.map (verN s es)).length=us.length:=by simp
       have hgs:=growOk_seal (s:=s) hst hok;rw [← hsl] at hgs;have hpg:egrow_c.pre ((s,(builtF (kvs es)).1,slds es,peo es),((slds es).length:Int)+1,us.map (verN s es)):=⟨by show (us.map (verN s es)).length≤1000;omega,fun p hp=>by
         obtain ⟨u,hu,rfl⟩:=List.mem_map.1 hp
         have:=(hp3 u hu).1
         show u.1.length≤100000;omega,fun x=>by
         have:=hst.chainLen x
         rw [hst.chain x];omega⟩
       have hpn:∀ p∈us.map (verN s es),p.1.length≤1000000∧p.2.val.length≤1000000:=fun p hp=>by
         obtain ⟨u,hu,rfl⟩:=List.mem_map.1 hp
         have:=hp3 u hu
         exact ⟨by show u.1.length≤1000000;omega,by show u.2.length≤1000000;omega⟩
       by_cases hgo:growOk (peo es) (((slds es).length:Int)+1) (us.map (verN s es))
       · have ef:sealF s es us=(es++[us.map (verN s es)],0):=by rw [efn,if_pos ⟨hok,hgs.1 hgo⟩]
         have hgr:grownR (peo es) (((slds es).length:Int)+1) (us.map (verN s es))=(us.map (verN s es),chainsN (peo es) (us.map (verN s es))):=if_pos hgo;have hpp:eplant_c.pre (s,es,us.map (verN s es)):=⟨hst,by omega,hpn⟩
         have hpc:eclose_c.pre (s,es,us.map (verN s es)):=⟨hst,by omega,hgo.1,hpn⟩
         repeat' (first|(with_reducible refine Unf.h ?_)|((conv=>whnf);refine Fork.mk (fun h=>?_) (fun h=>?_))|fail);all_goals try (conv=>whnf);all_goals try (exfalso;omega)
         refine CallS.mk (c:=egrow_c) (((s,(builtF (kvs es)).1,slds es,peo es),((slds es).length:Int)+1,us.map (verN s es))) ?_
         repeat' (first|(with_reducible refine Unf.h ?_)|((conv=>whnf);first|refine Fork.mkn (fun h=>?_) (fun h=>?_)|(refine Side.mk ?_ ?_;focus (first|with_reducible rfl|assumption))|refine RetE.mk () trivial ?_|refine Got.mk (fun _ _=>?_)|refine retK_r ?_)|fail);all_goals try (conv=>whnf);all_goals try (exfalso;omega)
         · exact absurd hgo (by assumption)
         rw [hgr];refine CallS.mk (c:=size_c) ((builtF (kvs es)).1) ?_
         repeat' (first|(with_reducible refine Unf.h ?_)|((conv=>whnf);first|(refine Side.mk ?_ ?_;focus (first|with_reducible rfl|exact True.intro))|refine Got.mk (fun _ _=>?_))|fail);all_goals try (conv=>whnf);all_goals try (exfalso;omega)
         refine CallS.mk (c:=eplant_c) ((s,es,us.map (verN s es))) ?_
         repeat' (first|(with_reducible refine Unf.h ?_)|((conv=>whnf);first|refine Fork.mkn (fun h=>?_) (fun h=>?_)|(refine Side.mk ?_ ?_;focus (first|with_reducible rfl|assumption))|refine Got.mk (fun _ _=>?_))|fail);all_goals try (conv=>whnf);all_goals try (exfalso;omega)
         refine CallS.mk (c:=eclose_c) ((s,es,us.map (verN s es))) ?_
         repeat' (first|(with_reducible refine Unf.h ?_)|((conv=>whnf);first|(refine Side.mk ?_ ?_;focus (first|with_reducible rfl|assumption|(simp only [*,ef];done)|(dsimp only [resS,eseal_c];(simp only [*,ef];done))))|refine RetE.mk () trivial ?_|refine Got.mk (fun _ _=>?_)|refine retK_r ?_|exact rfl)|fail);all_goals try (conv=>whnf);all_goals try (exfalso;omega)
       · have ef:sealF s es us=(es,1):=by rw [efn,if_neg fun h=>hgo (hgs.2 h.2)]
         repeat' (first|(with_reducible refine Unf.h ?_)|((conv=>whnf);refine Fork.mk (fun h=>?_) (fun h=>?_))|fail);all_goals try (conv=>whnf);all_goals try (exfalso;omega)
         refine CallS.mk (c:=egrow_c) (((s,(builtF (kvs es)).1,slds es,peo es),((slds es).length:Int)+1,us.map (verN s es))) ?_
         repeat' (first|(with_reducible refine Unf.h ?_)|((conv=>whnf);first|refine Fork.mkn (fun h=>?_) (fun h=>?_)|(refine Side.mk ?_ ?_;focus (first|with_reducible rfl|assumption|(simp only [*,ef];done)|(dsimp only [resS,eseal_c];(simp only [*,ef];done))))|refine RetE.mk () trivial ?_|refine Got.mk (fun _ _=>?_)|refine retK_r ?_|exact rfl)|fail);all_goals try (conv=>whnf);all_goals try (exfalso;omega)
         exact absurd (by assumption) hgo
end Go.Proofs.YtfljmihdeimahaaGreatDoor
namespace Go.Proofs.YtfljmihdeimahaaGreatDoor
set_option linter.all false
open Go.RowKit
def rfits_c:Ctr where
 D:=H256×List (List Nws)×List Nws
 pre:=fun (_,es,n)=>StOk es∧n.length≤1000∧∀ p∈n,p.1.length≤100000∧p.2.val.length≤100000
 args:=fun (s,es,n)=>[rSt s es,.fs 68 eNw n]
 res:=fun (_,es,n) _=>.dec (growOk (peo es) ((es.length:Int)+1) n) inferInstance
def rfits_H:Cfg:=⟨[(26,same_c),(56,rchain_c),(95,rform14_c)],[(7,[4,9],[10],(oA 0 (oA 1 (oA 2 (oA 3 (oB 4 (oA 5 (oA 6 (oA 7 (oA 8 (oB 9 (oC 10 .nil))))))))))),[]),(9,[5,9],[11],(oA 0 (oA 1 (oA 2 (oA 3 (oA 4 (oB 5 (oA 6 (oA 7 (oA 8 (oB 9 (oA 10 (oC 11 (oA 12 .nil))))))))))))),[]),(11,[5,9,18],[20],(oA 0 (oA 1 (oA 2 (oA 3 (oA 4 (oB 5 (oA 6 (oA 7 (oA 8 (oB 9 (oA 10 (oA 11 (oA 12 (oA 13 (oA 14 (oA 15 (oA 16 (oA 17 (oB 18 (oA 19 (oC 20 (oA 21 (oA 22 .nil))))))))))))))))))))))),[])],[],[],73,0,[],[],[]⟩
theorem rfits_ok:rfits_c.Ok Tryz.prog 57:=by
 refine fn_ok rfits_H 0 rfl _ Tryz.func57 rfl rfl ⟨same_ok,rchain_ok,rform14_ok,trivial⟩ rfl rfl (by kernel_rfl) (fun _=>nlb rfl) ?_
 rintro ⟨s,es,n⟩ hp hr
 try dsimp only [rfits_c] at hp
 try simp only [rfits_c,Rng,RngL,inR,and_true,true_and] at hr
 obtain ⟨hst,hp1,hp2⟩:=hp;have hp1:n.length≤1000:=hp1;have hesl:=hst.len
 repeat' (first|(with_reducible refine Unf.h ?_)|fail);all_goals try (conv=>whnf);all_goals try (exfalso;omega)
 refine LoopS.autoN (I:=Nat) (fun i=>i≤n.length∧growOk (peo es) ((es.length:Int)+1) (n.take i)) (fun i=>[(5,.int .i64 (i:Int))]) (fun _=>[]) 0 (fun i=>n.length - i) 0 ⟨Nat.zero_le _,by constructor<;>simp⟩ ?_ ?_
 · repeat' (first|(with_reducible refine Unf.h ?_)|((conv=>whnf);first|(refine Side.mk ?_ ?_;focus (first|with_reducible rfl|(refine congrArg (SV.int _) ?_;omega)))|(with_reducible refine Unf.h ?_)|exact True.intro)|fail);all_goals try (conv=>whnf);all_goals try (exfalso;omega)
 · rintro i ⟨hi,hg⟩
   have hi:i≤n.length:=hi
   by_cases hil:i<n.length
   · obtain ⟨hpl,hpv⟩:=hp2 (n[((i:Nat):Int).toNat]'hil) (List.getElem_mem _)
     have ets:n.take (i+1)=n.take i++[(n[((i:Nat):Int).toNat]'hil)]:=List.take_succ_eq_append_getElem hil;have hgs:=growOk_snoc (ps:=peo es) (e:=(es.length:Int)+1) (n:=n.take i) (p:=(n[((i:Nat):Int).toNat]'hil));rw [← ets,hst.chain] at hgs
     repeat' (first|(with_reducible refine Unf.h ?_)|((conv=>whnf);refine Fork.mk (fun h=>?_) (fun h=>?_))|fail);all_goals try (conv=>whnf);all_goals try (exfalso;omega)
     refine LoopS.autoN (I:=Nat) (fun k=>k≤i∧∀ j,∀ h:j<k,∀ h2:j<n.length,¬ (n[j]'h2).1=(n[((i:Nat):Int).toNat]'hil).1) (fun k=>[(6,.int .i64 (k:Int))]) (fun _=>[]) 0 (fun k=>i - k) 0 ⟨Nat.zero_le _,fun j h=>absurd h (by omega)⟩ ?_ ?_
     · repeat' (first|(with_reducible refine Unf.h ?_)|((conv=>whnf);first|(refine Side.mk ?_ ?_;focus (first|with_reducible rfl|(refine congrArg (SV.int _) ?_;omega)))|(with_reducible refine Unf.h ?_)|exact True.intro)|fail);all_goals try (conv=>whnf);all_goals try (exfalso;omega)
     · rintro k ⟨hk,hkk⟩
       have hk:k≤i:=hk
       by_cases hki:k<i
       · have hkn:k<n.length:=by omega
         repeat' (first|(with_reducible refine Unf.h ?_)|((conv=>whnf);first|refine Fork.mk (fun h=>?_) (fun h=>?_)|(refine Idx.mk ?_ ?_;focus (omega)))|fail);all_goals try (conv=>whnf);all_goals try (exfalso;omega)
         refine CallS.mk (c:=same_c) (((n[((i:Nat):Int).toNat]'hil).1,(n[((k:Nat):Int).toNat]'hkn).1)) ?_
         repeat' (first|(with_reducible first|refine Unf.h ?_|refine loopK_n ?_)|((conv=>whnf);first|refine Fork.mk (fun h=>?_) (fun h=>?_)|(refine Side.mk ?_ ?_;focus (first|with_reducible rfl|exact True.intro|(intros;(try simp only [lenS,inR,cutS,loI,hiI] at *);omega)))|refine RetE.mk () trivial ?_|refine Got.mk (fun _ _=>?_)|refine retK_r ?_)|fail);all_goals try (conv=>whnf);all_goals try (exfalso;omega)
         · have hng:¬ growOk (peo es) ((es.length:Int)+1) n:=fun hF=>by
             have h1:=hF.1;have h2:=(List.nodup_iff_pairwise_ne.1 h1);have h3:=List.pairwise_iff_getElem.1 h2 k i (by simpa using hkn) (by simpa using hil) hki
             simp only [List.getElem_map] at h3;have h4:(n[((i:Nat):Int).toNat]'hil).1=(n[((k:Nat):Int).toNat]'hkn).1:=by assumption
             exact h3 h4.symm
           refine Side.mk (iffF hng) ?_
           repeat' (first|(with_reducible refine Unf.h ?_)|((conv=>whnf);exact rfl)|fail);all_goals try (conv=>whnf);all_goals try (exfalso;omega)
         · refine ⟨k+1,⟨by omega,by omega,fun j h h2=>?_⟩,?_⟩
           · rcases Nat.lt_or_ge j k with h'|h'
             · exact hkk j h' h2
             · obtain rfl:j=k:=by omega
               have h4:¬ (n[((i:Nat):Int).toNat]'hil).1=(n[((j:Nat):Int).toNat]'hkn).1:=by assumption
               exact fun e=>h4 e.symm
           · repeat' (first|(with_reducible refine Unf.h ?_)|((conv=>whnf);first|(refine Side.mk ?_ ?_;focus (first|with_reducible rfl|(refine congrArg (SV.int _) ?_;omega)))|(with_reducible refine Unf.h ?_)|exact True.intro)|fail);all_goals try (conv=>whnf);all_goals try (exfalso;omega)
       · have hcnt:((n.take (i+1)).map Prod.fst).count (n[((i:Nat):Int).toNat]'hil).1≤1:=by
           rw [ets,List.map_append,List.count_append];have h0:((n.take i).map Prod.fst).count (n[((i:Nat):Int).toNat]'hil).1=0:=List.count_eq_zero.2 fun hm=>by
             obtain ⟨q,hq,he⟩:=List.mem_map.1 hm;obtain ⟨j,hj,rfl⟩:=List.mem_iff_getElem.1 hq;rw [List.length_take] at hj;rw [List.getElem_take] at he;exact hkk j (by omega) (by omega) he
           rw [h0];simp
         have hrd:=hst.rd;have hpc:rchain_c.pre (s,es,(n[((i:Nat):Int).toNat]'hil).1,es.length):=hrd;have hcl:=hrd.ch (n[((i:Nat):Int).toNat]'hil).1 es.length;have etl:es.take es.length=es:=List.take_length;have hpf:rform14_c.pre ((n[((i:Nat):Int).toNat]'hil).1,chR (es.take es.length) (n[((i:Nat):Int).toNat]'hil).1++[(n[((i:Nat):Int).toNat]'hil).2]):=⟨by show (n[((i:Nat):Int).toNat]'hil).1.length≤1000000;omega,by show (chR (es.take es.length) (n[((i:Nat):Int).toNat]'hil).1++[(n[((i:Nat):Int).toNat]'hil).2]).length≤100000;simp only [List.length_append,List.length_singleton];omega⟩
         repeat' (first|(with_reducible refine Unf.h ?_)|((conv=>whnf);first|refine Fork.mk (fun h=>?_) (fun h=>?_)|(refine Idx.mk ?_ ?_;focus (omega)))|fail);all_goals try (conv=>whnf);all_goals try (exfalso;omega)
         have hgs2:growOk (peo es) ((es.length:Int)+1) (n.take (i+1))↔growOk (peo es) ((es.length:Int)+1) (n.take i)∧((n.take (i+1)).map Prod.fst).count (n[((i:Nat):Int).toNat]'hil).1≤1∧(n[((i:Nat):Int).toNat]'hil).2.ep=(es.length:Int)+1∧formedC cmL zeroH (n[((i:Nat):Int).toNat]'hil).1 (chR (es.take es.length) (n[((i:Nat):Int).toNat]'hil).1++[(n[((i:Nat):Int).toNat]'hil).2]):=by rw [etl];exact hgs
         refine CallS.mk (c:=rchain_c) ((s,es,(n[((i:Nat):Int).toNat]'hil).1,es.length)) ?_
         repeat' (first|(with_reducible refine Unf.h ?_)|((conv=>whnf);first|refine Fork.mkn (fun h=>?_) (fun h=>?_)|(refine Side.mk ?_ ?_;focus (first|with_reducible rfl|assumption|(intros;(try simp only [lenS,inR,cutS,loI,hiI] at *);omega)))|(refine Idx.mk ?_ ?_;focus (omega))|refine RetE.mk () trivial ?_|refine Got.mk (fun _ _=>?_)|refine Ex.mk [_] rfl ?_|refine retK_r ?_)|fail);all_goals try (conv=>whnf);all_goals try (exfalso;omega)
         · refine Side.mk (iffF fun hF=>?_) ?_
           · have h3:=(hgs2.1 (growOk_take hF _)).2.2.1
             exact absurd h3 (by assumption)
           · repeat' (first|(with_reducible refine Unf.h ?_)|((conv=>whnf);exact rfl)|fail);all_goals try (conv=>whnf);all_goals try (exfalso;omega)
         refine CallS.mk (c:=rform14_c) (((n[((i:Nat):Int).toNat]'hil).1,chR (es.take es.length) (n[((i:Nat):Int).toNat]'hil).1++[(n[((i:Nat):Int).toNat]'hil).2])) ?_
         repeat' (first|(with_reducible first|refine Unf.h ?_|refine loopK_n ?_)|((conv=>whnf);first|refine Fork.mkn (fun h=>?_) (fun h=>?_)|(refine Side.mk ?_ ?_;focus (first|with_reducible rfl|assumption|(intros;(try simp only [lenS,inR,cutS,loI,hiI] at *);omega)))|refine RetE.mk () trivial ?_|refine Got.mk (fun _ _=>?_)|refine retK_r ?_)|fail);all_goals try (conv=>whnf);all_goals try (exfalso;omega)
         · refine Side.mk (iffF fun hF=>?_) ?_
           · have h3:=(hgs2.1 (growOk_take hF _)).2.2.2
             exact absurd h3 (by assumption)
           · repeat' (first|(with_reducible refine Unf.h ?_)|((conv=>whnf);exact rfl)|fail);all_goals try (conv=>whnf);all_goals try (exfalso;omega)
         refine ⟨i+1,⟨by omega,by omega,hgs2.2 ⟨hg,hcnt,by assumption,by assumption⟩⟩,?_⟩
         repeat' (first|(with_reducible refine Unf.h ?_)|((conv=>whnf);first|(refine Side.mk ?_ ?_;focus (first|with_reducible rfl|(refine congrArg (SV.int _) ?_;omega)))|(with_reducible refine Unf.h ?_)|exact True.intro)|fail);all_goals try (conv=>whnf);all_goals try (exfalso;omega)
   · have e0:n.take i=n:=List.take_of_length_le (by omega)
     rw [e0] at hg
     repeat' (first|(with_reducible refine Unf.h ?_)|((conv=>whnf);first|refine Fork.mk (fun h=>?_) (fun h=>?_)|(refine Side.mk ?_ ?_;focus ((refine ⟨fun h=>?_,fun h=>?_⟩<;>first|rfl|(cases h;done)|omega|(exfalso;omega)|(simp only [Bool.false_eq_true] at h;done))))|refine RetE.mk () trivial ?_|refine retK_r ?_|exact rfl)|fail);all_goals try (conv=>whnf);all_goals try (exfalso;omega)
end Go.Proofs.YtfljmihdeimahaaGreatDoor
namespace Go.Proofs.YtfljmihdeimahaaGreatDoor
set_option linter.all false
open Go.RowKit
def rseal_c:Ctr where
 D:=H256×List (List Nws)×List (Bs×Bs)
 pre:=fun (_,es,us)=>StOk es∧es.length<20∧us.length≤100000∧∀ u∈us,u.1.length≤10000∧u.2.length≤10000
 args:=fun (s,es,us)=>[rSt s es,.fs 2 eUp us]
 res:=fun (s,es,us) _=>.tup [rSt s (sealF s es us).1,.int .i64 (sealF s es us).2]
def rseal_H:Cfg:=⟨[(56,rchain_c),(55,rgrow14_c),(57,rfits_c),(58,rwith19_c)],[(8,[3,5,8,12,18,22],[14,23],(oA 0 (oA 1 (oA 2 (oB 3 (oA 4 (oB 5 (oA 6 (oA 7 (oB 8 (oA 9 (oA 10 (oA 11 (oB 12 (oA 13 (oA 15 (oA 16 (oA 17 (oB 18 (oA 19 (oA 20 (oA 21 (oB 22 (oD 14 (oC 23 (oA 24 (oA 25 (oA 26 (oA 27 (oA 28 .nil))))))))))))))))))))))))))))),[]),(11,[2,8],[10,11],(oA 0 (oA 1 (oB 2 (oA 3 (oA 4 (oA 5 (oA 6 (oA 7 (oB 8 (oA 9 (oC 10 (oC 11 (oA 12 .nil))))))))))))),[])],[],[],76,0,[],[8],[]⟩
set_option maxHeartbeats 4000000 in
theorem rseal_ok:rseal_c.Ok Tryz.prog 31:=by
 refine fn_ok rseal_H 0 rfl _ Tryz.func31 rfl rfl ⟨rchain_ok,rgrow14_ok,rfits_ok,rwith19_ok,trivial⟩ rfl rfl (by kernel_rfl) (fun _=>nlb rfl) ?_
 rintro ⟨s,es,us⟩ hp hr
 try dsimp only [rseal_c] at hp
 try simp only [rseal_c,Rng,RngL,inR,and_true,true_and] at hr
 obtain ⟨hst,hp1,hp2,hp3⟩:=hp;have hp1:es.length<20:=hp1;have hp2:us.length≤100000:=hp2;have hrd:=hst.rd;rcases Nat.lt_or_ge 16 us.length with h16|h16
 · have ef:sealF s es us=(es,3):=if_pos h16
   repeat' (first|(with_reducible refine Unf.h ?_)|((conv=>whnf);first|refine Fork.mk (fun h=>?_) (fun h=>?_)|(refine Side.mk ?_ ?_;focus ((simp only [*,ef];done)))|refine RetE.mk () trivial ?_|refine retK_r ?_|exact rfl)|fail);all_goals try (conv=>whnf);all_goals try (exfalso;omega)
 · have efn:sealF s es us=if (∀ u∈us,okU es u)∧(us.map Prod.fst).Nodup then (es++[us.map (verN s es)],0) else (es,1):=if_neg (by omega)
   repeat' (first|(with_reducible refine Unf.h ?_)|((conv=>whnf);refine Fork.mk (fun h=>?_) (fun h=>?_))|fail);all_goals try (conv=>whnf);all_goals try (exfalso;omega)
   refine LoopS.mk (I:=Nat) (fun i=>i≤us.length∧∀ u∈us.take i,okU es u) (fun i=>[(7,.int .i64 (i:Int)),(6,.own 0),(0,rSt s es),(1,.fs 2 eUp us)]) (fun i=>[(0,.row 153 68 eNw ((us.take i).map (verN s es)))]) 1 (fun i=>us.length - i) 0 ⟨Nat.zero_le _,fun u hu=>by simp at hu⟩ ?_ ?_
   · have e0:(us.take 0).map (verN s es)=[]:=rfl
     repeat' (first|(with_reducible refine Unf.h ?_)|((conv=>whnf);first|(refine Side.mk ?_ ?_;focus (first|with_reducible rfl|assumption|(refine congrArg (SV.int _) ?_;omega)))|(with_reducible refine Unf.h ?_)|exact True.intro)|fail);all_goals try (conv=>whnf);all_goals try (exfalso;omega)
   · rintro i ⟨hi,hok⟩
     have hi:i≤us.length:=hi
     by_cases hil:i<us.length
     · obtain ⟨u,hui⟩:∃ u,us[((i:Nat):Int).toNat]'hil=u:=⟨_,rfl⟩
       have hui2:us[i]'hil=u:=hui;have hum:u∈us:=hui▸List.getElem_mem _;obtain ⟨hul,huv⟩:=hp3 u hum;have etl:es.take es.length=es:=List.take_length;have hcl:=hst.chainLen u.1;have hpg:rgrow14_c.pre (s,u.1,chR es u.1,(es.length:Int)+1,u.2):=⟨by show u.1.length≤100000;omega,by show (chR es u.1).length≤10000;omega,by show u.2.length≤100000;omega,fun v hv=>by
         obtain ⟨n,hn,p,hp,rfl⟩:=chR_mem hv
         have:=(hst.lab n hn p hp).2
         omega⟩
       have hgd:growF s u.1 (chR es u.1) ((es.length:Int)+1) u.2=if okU es u then (chR es u.1++[(verN s es u).2],0) else ([],1):=rfl
       have ets:(us.take (i+1)).map (verN s es)=(us.take i).map (verN s es)++[verN s es u]:=by
         rw [List.take_succ_eq_append_getElem hil,hui2,List.map_append];rfl
       repeat' (first|(with_reducible refine Unf.h ?_)|((conv=>whnf);first|refine Fork.mk (fun h=>?_) (fun h=>?_)|(refine Idx.mk ?_ ?_;focus (omega)))|fail);all_goals try (conv=>whnf);all_goals try (exfalso;omega)
       refine CutS.mk (I:=Unit) (fun _=>True) (fun _=>[(9,.fs 67 eVr (growF s u.1 (chR es u.1) ((es.length:Int)+1) u.2).1),(10,.int .i64 (growF s u.1 (chR es u.1) ((es.length:Int)+1) u.2).2),(8,.ptr 1 0),(7,.int .i64 (i:Int)),(6,.own 0),(0,rSt s es),(1,.fs 2 eUp us)]) (fun _=>[(0,.row 153 68 eNw ((us.take i).map (verN s es))),(1,.box 111 (eUp u))]) 2 ?_ ?_
       · repeat' (first|(with_reducible refine Unf.h ?_)|((conv=>whnf);(refine Side.mk ?_ ?_;focus ((intros;(try simp only [lenS,inR,cutS,loI,hiI] at *);omega))))|fail);all_goals try (conv=>whnf);all_goals try (exfalso;omega)
         all_goals
           simp only [hui];refine CallS.mk (c:=rchain_c) ((s,es,u.1,es.length)) ?_
           repeat' (first|(with_reducible refine Unf.h ?_)|((conv=>whnf);first|(refine Side.mk ?_ ?_;focus (first|with_reducible rfl|assumption))|refine Got.mk (fun _ _=>?_))|fail);all_goals try (conv=>whnf);all_goals try (exfalso;omega)
         all_goals simp only [etl]
         all_goals
           refine CallS.mk (c:=rgrow14_c) ((s,u.1,chR es u.1,(es.length:Int)+1,u.2)) ?_
           repeat' (first|(with_reducible first|refine Unf.h ?_|refine cutK_n ?_)|((conv=>whnf);first|(refine Side.mk ?_ ?_;focus (first|with_reducible rfl|assumption))|refine Got.mk (fun _ _=>?_))|fail);all_goals try (conv=>whnf);all_goals try (exfalso;omega)
         all_goals
           refine ⟨(),trivial,?_⟩
           repeat' (first|(with_reducible refine Unf.h ?_)|((conv=>whnf);first|(refine Side.mk ?_ ?_;focus (with_reducible rfl))|(with_reducible refine Unf.h ?_)|exact True.intro)|fail);all_goals try (conv=>whnf);all_goals try (exfalso;omega)
       · intro _ _
         by_cases hoku:okU es u
         · rw [if_pos hoku] at hgd
           have hv:∀ h,(chR es u.1++[(verN s es u).2])[(((chR es u.1++[(verN s es u).2]).length:Int) - 1).toNat]'h=(verN s es u).2:=fun h=>by
             have e:(((chR es u.1++[(verN s es u).2]).length:Int) - 1).toNat=(chR es u.1).length:=by simp
             simp only [e];exact List.getElem_concat_length rfl _
           rw [hgd]
           repeat' (first|(with_reducible refine Unf.h ?_)|((conv=>whnf);first|refine Fork.mkn (fun h=>?_) (fun h=>?_)|(refine Side.mk ?_ ?_;focus ((intros;(try simp only [lenS,inR,cutS,loI,hiI] at *);omega)))|(refine Idx.mk ?_ ?_;focus ((simp only [lenS,inR,cutS,loI,hiI];omega))))|fail);all_goals try (conv=>whnf);all_goals try (exfalso;omega)
           refine Ex.mk [verN s es u] (by simp only [hv];rfl) ?_
           repeat' (first|(with_reducible first|refine Unf.h ?_|refine loopK_n ?_)|((conv=>whnf);(refine Side.mk ?_ ?_;focus ((intros;(try simp only [lenS,inR,cutS,loI,hiI] at *);omega))))|fail);all_goals try (conv=>whnf);all_goals try (exfalso;omega)
           refine ⟨i+1,⟨by omega,by omega,fun w hw=>?_⟩,?_⟩
           · rw [List.take_succ_eq_append_getElem hil,hui2] at hw
             rcases List.mem_append.1 hw with hw|hw
             · exact hok w hw
             · obtain rfl:=List.mem_singleton.1 hw;exact hoku
           · rw [ets]
             repeat' (first|(with_reducible refine Unf.h ?_)|((conv=>whnf);first|(refine Side.mk ?_ ?_;focus (first|with_reducible rfl|(refine congrArg (SV.int _) ?_;omega)))|(with_reducible refine Unf.h ?_)|exact True.intro)|fail);all_goals try (conv=>whnf);all_goals try (exfalso;omega)
         · rw [if_neg hoku] at hgd
           have ef:sealF s es us=(es,1):=by rw [efn,if_neg fun h=>hoku (h.1 u hum)]
           rw [hgd]
           repeat' (first|(with_reducible refine Unf.h ?_)|((conv=>whnf);first|refine Fork.mkn (fun h=>?_) (fun h=>?_)|(refine Side.mk ?_ ?_;focus ((simp only [*,ef];done)))|refine RetE.mk () trivial ?_|refine retK_r ?_|exact rfl)|fail);all_goals try (conv=>whnf);all_goals try (exfalso;omega)
     · have e0:us.take i=us:=List.take_of_length_le (by omega)
       rw [e0] at hok ⊢;have hml:(us.map (verN s es)).length=us.length:=by simp
       have hgs:=growOk_seal (s:=s) hst hok;have hpn:∀ p∈us.map (verN s es),p.1.length≤100000∧p.2.val.length≤100000:=fun p hp=>by
         obtain ⟨u,hu,rfl⟩:=List.mem_map.1 hp
         have:=hp3 u hu
         exact ⟨by show u.1.length≤100000;omega,by show u.2.length≤100000;omega⟩
       have hpf:rfits_c.pre (s,es,us.map (verN s es)):=⟨hst,by show (us.map (verN s es)).length≤1000;omega,hpn⟩
       have hpw:rwith19_c.pre (s,es,us.map (verN s es)):=by show es.length≤1000;omega
       by_cases hgo:growOk (peo es) ((es.length:Int)+1) (us.map (verN s es))
       · have ef:sealF s es us=(es++[us.map (verN s es)],0):=by rw [efn,if_pos ⟨hok,hgs.1 hgo⟩]
         repeat' (first|(with_reducible refine Unf.h ?_)|((conv=>whnf);refine Fork.mk (fun h=>?_) (fun h=>?_))|fail);all_goals try (conv=>whnf);all_goals try (exfalso;omega)
         refine CallS.mk (c:=rfits_c) ((s,es,us.map (verN s es))) ?_
         repeat' (first|(with_reducible refine Unf.h ?_)|((conv=>whnf);first|refine Fork.mkn (fun h=>?_) (fun h=>?_)|(refine Side.mk ?_ ?_;focus (first|with_reducible rfl|assumption))|refine RetE.mk () trivial ?_|refine Got.mk (fun _ _=>?_)|refine retK_r ?_)|fail);all_goals try (conv=>whnf);all_goals try (exfalso;omega)
         · exact absurd hgo (by assumption)
         refine CallS.mk (c:=rwith19_c) ((s,es,us.map (verN s es))) ?_
         repeat' (first|(with_reducible refine Unf.h ?_)|((conv=>whnf);first|(refine Side.mk ?_ ?_;focus (first|with_reducible rfl|assumption|(simp only [*,ef];done)))|refine RetE.mk () trivial ?_|refine Got.mk (fun _ _=>?_)|refine retK_r ?_|exact rfl)|fail);all_goals try (conv=>whnf);all_goals try (exfalso;omega)
       · have ef:sealF s es us=(es,1):=by rw [efn,if_neg fun h=>hgo (hgs.2 h.2)]
         repeat' (first|(with_reducible refine Unf.h ?_)|((conv=>whnf);refine Fork.mk (fun h=>?_) (fun h=>?_))|fail);all_goals try (conv=>whnf);all_goals try (exfalso;omega)
         refine CallS.mk (c:=rfits_c) ((s,es,us.map (verN s es))) ?_
         repeat' (first|(with_reducible refine Unf.h ?_)|((conv=>whnf);first|refine Fork.mkn (fun h=>?_) (fun h=>?_)|(refine Side.mk ?_ ?_;focus (first|with_reducible rfl|assumption|(simp only [*,ef];done)))|refine RetE.mk () trivial ?_|refine Got.mk (fun _ _=>?_)|refine retK_r ?_|exact rfl)|fail);all_goals try (conv=>whnf);all_goals try (exfalso;omega)
         exact absurd (by assumption) hgo
end Go.Proofs.YtfljmihdeimahaaGreatDoor
namespace Go.Proofs.YtfljmihdeimahaaGreatDoor
set_option linter.all false
open Go.RowKit
abbrev Rq:=(Int×Int)×(Bs×Bs)
abbrev eRq (r:Rq):List SV:=[.int .i64 r.1.1,.int .i64 r.1.2,.fs 1 eB r.2.1,.fs 1 eB r.2.2]
abbrev Sl20:=Int×List Rq
abbrev eS20 (x:Sl20):List SV:=[.int .i64 x.1,.fs 4 eRq x.2]
abbrev zh:H256:=Vector.replicate 32 0#8
abbrev nMsg (k f t q e n r:Int) (l v:SV):List SV:=[.int .i64 k,.int .i64 f,.int .i64 t,.int .i64 q,.int .i64 e,.int .i64 n,.int .i64 r,l,v,.int .i64 0,.int .i64 0,.arr8 zh,.arr8 zh,.nils,.nils,.nils,.nils,.nils,.arr8 zh,.nils,.int .i64 0,.arr8 zh,.arr8 zh,.int .i64 0,.arr8 zh,.arr8 zh,.arr8 zh,.nils,.nils,.nils,.nils]
abbrev Ak:=Int×Int×Int
abbrev eAk (a:Ak):List SV:=nMsg 2 0 a.1 a.2.1 a.2.2 0 0 .nils .nils
structure LastIs (eps:List Sl20) (f q:Int) (e:Nat):Prop where
 le:e≤eps.length
 none:e=0→q=0∧∀ x∈eps,∀ r∈x.2,r.1.1≠f
 some:∀ h:e - 1<eps.length,1≤e→∃ r∈(eps[e - 1]).2,r.1.1=f∧r.1.2=q
 above:∀ j (h:j<eps.length),e≤j→∀ r∈(eps[j]).2,r.1.1≠f
theorem LastIs.zero {eps:List Sl20} {f:Int} (h:∀ j (h:j<eps.length),0≤j→∀ r∈(eps[j]).2,r.1.1≠f):LastIs eps f 0 0 :=
 ⟨Nat.zero_le _,fun _=>⟨rfl,fun x hx=>by
   obtain ⟨j,hj,rfl⟩:=List.mem_iff_getElem.1 hx;exact h j hj (Nat.zero_le _)⟩,fun _ h=>by omega,h⟩
def okRq (q:Int) (e:Nat) (ws:List Rq) (r:Rq):Prop :=
 (¬ (0<e∧r.1.2≤q))∧(1≤r.2.1.length∧r.2.1.length≤32∧r.2.2.length≤64)∧ws.length<16∧∀ w∈ws,w.1.1≠r.1.1∧w.2.1≠r.2.1
abbrev prO (s:H256) (es:List (List Nws)) (eps:List Sl20) (ws:List Rq):List Ob:=[(0,.box 66 [.int .i64 1,.int .i64 2,.int .i64 3,.arr8 s,rSt s es,.own 1,.own 2]),(1,.row 41 2 eS20 eps),(2,.row 44 4 eRq ws)]
abbrev Pr20:=H256×List (List Nws)×List Sl20×List Rq
def rlast_c:Ctr where
 D:=Pr20×Int
 pre:=fun ((_,_,eps,_),_)=>eps.length≤1000∧∀ x∈eps,x.2.length≤1000
 args:=fun (_,f)=>[.ptr 0 0,.int .i64 f]
 objs:=fun ((s,es,eps,ws),_)=>prO s es eps ws
 nn:=3
 E:=Int×Nat
 post:=fun ((_,_,eps,_),f) r=>LastIs eps f r.1 r.2
 res:=fun _ r=>.tup [.int .i64 r.1,.int .i64 (r.2:Int)]
 out:=fun ((s,es,eps,ws),_) _=>prO s es eps ws
def rlast_H:Cfg:=⟨[],[],[],[],46,3,[],[],[]⟩
theorem rlast_ok:rlast_c.Ok Tryz.prog 24:=by
 refine fn_ok rlast_H 3 rfl _ Tryz.func24 rfl rfl trivial rfl rfl (by kernel_rfl) (fun _=>nlb rfl) ?_
 rintro ⟨⟨s,es,eps,ws⟩,f⟩ hp hr
 try dsimp only [rlast_c] at hp
 try simp only [rlast_c,Rng,RngL,inR,and_true,true_and] at hr
 obtain ⟨hp,hpx⟩:=hp;have hp:eps.length≤1000:=hp
 repeat' (first|(with_reducible refine Unf.h ?_)|fail);all_goals try (conv=>whnf);all_goals try (exfalso;omega)
 refine LoopS.autoN (I:=Nat) (fun e=>e≤eps.length∧∀ j (h:j<eps.length),e≤j→∀ r∈(eps[j]).2,r.1.1≠f) (fun e=>[(6,.int .i64 (e:Int))]) (fun _=>prO s es eps ws) 3 (fun e=>e) eps.length ⟨Nat.le_refl _,fun j h1 h2=>by omega⟩ ?_ ?_
 · repeat' (first|(with_reducible refine Unf.h ?_)|((conv=>whnf);first|(refine Side.mk ?_ ?_;focus (with_reducible rfl))|(with_reducible refine Unf.h ?_)|exact True.intro)|fail);all_goals try (conv=>whnf);all_goals try (exfalso;omega)
 · rintro e ⟨he,hno⟩
   have he:e≤eps.length:=he;rcases Nat.eq_zero_or_pos e with rfl|h0
   · repeat' (first|(with_reducible refine Unf.h ?_)|((conv=>whnf);first|refine Fork.mk (fun h=>?_) (fun h=>?_)|refine retK_r ?_)|fail);all_goals try (conv=>whnf);all_goals try (exfalso;omega)
     refine RetE.mk (c:=rlast_c) (d:=((s,es,eps,ws),f)) (show Int×Nat from (0,0)) (LastIs.zero hno) ?_
     repeat' (first|(with_reducible refine Unf.h ?_)|((conv=>whnf);first|(refine Side.mk ?_ ?_;focus (first|with_reducible rfl|(simp [*];done)))|(with_reducible refine Unf.h ?_)|exact rfl)|fail);all_goals try (conv=>whnf);all_goals try (exfalso;omega)
   · obtain ⟨k,rfl⟩:∃ k,e=k+1:=⟨e - 1,by omega⟩
     have hk:k<eps.length:=by omega
     have ek:((((k+1:Nat):Int)) - 1).toNat=k:=by omega
     obtain ⟨x,hx⟩:∃ x,eps[k]'hk=x:=⟨_,rfl⟩;have hxl:x.2.length≤1000:=hpx x (hx▸List.getElem_mem _);have hx2:eps[((((k+1:Nat):Int)) - 1).toNat]'(by omega)=x:=by rw [← hx];congr 1
     repeat' (first|(with_reducible refine Unf.h ?_)|((conv=>whnf);first|refine Fork.mk (fun h=>?_) (fun h=>?_)|(refine Side.mk ?_ ?_;focus (first|omega|(intros;(try simp only [lenS,inR,cutS,loI,hiI,hx2] at *);omega)))|(refine Idx.mk ?_ ?_;focus (omega)))|fail);all_goals try (conv=>whnf);all_goals try (exfalso;omega)
     refine LoopS.autoN (I:=Nat) (fun i=>i≤x.2.length∧∀ r∈x.2.take i,r.1.1≠f) (fun i=>[(8,.int .i64 (i:Int)),(7,.fs 4 eRq x.2)]) (fun _=>prO s es eps ws) 3 (fun i=>x.2.length - i) 0 ⟨Nat.zero_le _,fun r hr=>by simp at hr⟩ ?_ ?_
     · repeat' (first|(with_reducible refine Unf.h ?_)|((conv=>whnf);first|(refine Side.mk ?_ ?_;focus (first|with_reducible rfl|(refine congrArg (SV.int _) ?_;omega)|(simp only [*,hx2];done)))|(with_reducible refine Unf.h ?_)|exact True.intro)|fail);all_goals try (conv=>whnf);all_goals try (exfalso;omega)
     · rintro i ⟨hi,hin⟩
       have hi:i≤x.2.length:=hi
       by_cases hil:i<x.2.length
       · have hri2:x.2[i]'hil=x.2[((i:Nat):Int).toNat]'hil:=rfl
         have hrm:x.2[((i:Nat):Int).toNat]'hil∈x.2:=List.getElem_mem _
         by_cases hf:(x.2[((i:Nat):Int).toNat]'hil).1.1=f
         · have hlast:LastIs eps f (x.2[((i:Nat):Int).toNat]'hil).1.2 (k+1):=⟨by omega,fun h=>by omega,fun h _=>by
             have e1:k+1 - 1=k:=rfl;simp only [e1,hx];exact ⟨_,hrm,hf,rfl⟩,hno⟩
           repeat' (first|(with_reducible refine Unf.h ?_)|((conv=>whnf);first|refine Fork.mk (fun h=>?_) (fun h=>?_)|(refine Idx.mk ?_ ?_;focus (omega))|refine retK_r ?_)|fail);all_goals try (conv=>whnf);all_goals try (exfalso;omega)
           all_goals try contradiction
           refine RetE.mk (c:=rlast_c) (d:=((s,es,eps,ws),f)) (show Int×Nat from ((x.2[((i:Nat):Int).toNat]'hil).1.2,k+1)) hlast ?_
           repeat' (first|(with_reducible refine Unf.h ?_)|((conv=>whnf);first|(refine Side.mk ?_ ?_;focus (with_reducible rfl))|(with_reducible refine Unf.h ?_)|exact rfl)|fail);all_goals try (conv=>whnf);all_goals try (exfalso;omega)
         · repeat' (first|(with_reducible first|refine Unf.h ?_|refine loopK_n ?_)|((conv=>whnf);first|refine Fork.mk (fun h=>?_) (fun h=>?_)|(refine Side.mk ?_ ?_;focus ((intros;(try simp only [lenS,inR,cutS,loI,hiI,hx2] at *);omega)))|(refine Idx.mk ?_ ?_;focus (omega)))|fail);all_goals try (conv=>whnf);all_goals try (exfalso;omega)
           all_goals try contradiction
           refine ⟨i+1,⟨by omega,by omega,fun w hw=>?_⟩,?_⟩
           · rw [List.take_succ_eq_append_getElem hil,hri2] at hw
             rcases List.mem_append.1 hw with hw|hw
             · exact hin w hw
             · obtain rfl:=List.mem_singleton.1 hw;exact hf
           · repeat' (first|(with_reducible refine Unf.h ?_)|((conv=>whnf);first|(refine Side.mk ?_ ?_;focus (first|with_reducible rfl|(refine congrArg (SV.int _) ?_;omega)|(simp only [*];done)))|(with_reducible refine Unf.h ?_)|exact True.intro)|fail);all_goals try (conv=>whnf);all_goals try (exfalso;omega)
       · have e0:x.2.take i=x.2:=List.take_of_length_le (by omega)
         rw [e0] at hin
         repeat' (first|(with_reducible first|refine Unf.h ?_|refine loopK_n ?_)|((conv=>whnf);first|refine Fork.mk (fun h=>?_) (fun h=>?_)|(refine Side.mk ?_ ?_;focus ((intros;(try simp only [lenS,inR,cutS,loI,hiI] at *);omega))))|fail);all_goals try (conv=>whnf);all_goals try (exfalso;omega)
         refine ⟨k,⟨by omega,by omega,fun j h1 h2=>?_⟩,?_⟩
         · rcases Nat.eq_or_lt_of_le h2 with rfl|h3
           · rw [hx];exact hin
           · exact hno j h1 h3
         · repeat' (first|(with_reducible refine Unf.h ?_)|((conv=>whnf);first|(refine Side.mk ?_ ?_;focus (first|with_reducible rfl|(refine congrArg (SV.int _) ?_;omega)))|(with_reducible refine Unf.h ?_)|exact True.intro)|fail);all_goals try (conv=>whnf);all_goals try (exfalso;omega)
def rans_c:Ctr where
 D:=Rq×Int×Int
 args:=fun (r,e,c)=>[.agg (nMsg 1 r.1.1 0 r.1.2 0 0 0 (.fs 1 eB r.2.1) (.fs 1 eB r.2.2)),.int .i64 e,.int .i64 c]
 res:=fun (r,e,c) _=>.tup [.agg (nMsg 2 0 r.1.1 r.1.2 e 0 c .nils .nils),.bool true]
def rans_H:Cfg:=⟨[],[],[],[],17,0,[],[],[]⟩
theorem rans_ok:rans_c.Ok Tryz.prog 25:=by
 refine fn_ok rans_H 0 rfl _ Tryz.func25 rfl rfl trivial rfl rfl (by kernel_rfl) (fun _=>nlb rfl) ?_
 rintro ⟨r,e,c⟩ hp hr
 try dsimp only [rans_c] at hp
 try simp only [rans_c,Rng,RngL,inR,and_true,true_and] at hr
 clear hr
 repeat' (first|(with_reducible refine Unf.h ?_)|((conv=>whnf);first|(refine Side.mk ?_ ?_;focus (with_reducible rfl))|refine RetE.mk () trivial ?_|refine retK_r ?_|exact rfl)|fail);all_goals try (conv=>whnf);all_goals try (exfalso;omega)
def rans0_c:Ctr where
 D:=(Int×Int)×Int×Int
 args:=fun (r,e,c)=>[.agg (nMsg 0 r.1 0 r.2 0 0 0 .nils .nils),.int .i64 e,.int .i64 c]
 res:=fun (r,e,c) _=>.tup [.agg (nMsg 2 0 r.1 r.2 e 0 c .nils .nils),.bool true]
def rans0_H:Cfg:=⟨[],[],[],[],17,0,[],[],[]⟩
theorem rans0_ok:rans0_c.Ok Tryz.prog 25:=by
 refine fn_ok rans0_H 0 rfl _ Tryz.func25 rfl rfl trivial rfl rfl (by kernel_rfl) (fun _=>nlb rfl) ?_
 rintro ⟨r,e,c⟩ hp hr
 try dsimp only [rans0_c] at hp
 try simp only [rans0_c,Rng,RngL,inR,and_true,true_and] at hr
 clear hr
 repeat' (first|(with_reducible refine Unf.h ?_)|((conv=>whnf);first|(refine Side.mk ?_ ?_;focus (with_reducible rfl))|refine RetE.mk () trivial ?_|refine retK_r ?_|exact rfl)|fail);all_goals try (conv=>whnf);all_goals try (exfalso;omega)
def busyB (ws:List Rq) (r:Rq) (k:Nat):Bool:=decide (16≤ws.length)||(ws.take k).any fun w=>decide (w.1.1=r.1.1)||decide (w.2.1=r.2.1)
theorem busyB_succ {ws:List Rq} {r w:Rq} {k:Nat} (h:k<ws.length) (hw:ws[k]=w):busyB ws r (k+1)=(busyB ws r k||(decide (w.1.1=r.1.1)||decide (w.2.1=r.2.1))):=by
 unfold busyB;rw [List.take_succ_eq_append_getElem h,hw,List.any_append]
 simp [Bool.or_assoc]
theorem busyB_false {ws:List Rq} {r:Rq} {k:Nat} (hk:ws.length≤k):busyB ws r k=false↔ws.length<16∧∀ w∈ws,w.1.1≠r.1.1∧w.2.1≠r.2.1:=by
 unfold busyB;rw [List.take_of_length_le hk]
 simp [Nat.not_le]
abbrev AnsR:=(Int×Int×Int×Int×Int)×Bool×List Rq
def rsub_c:Ctr where
 D:=Pr20×Rq
 pre:=fun ((_,_,eps,ws),r)=>(eps.length≤1000∧∀ x∈eps,x.2.length≤1000)∧ws.length≤1000∧r.2.1.length≤100000∧r.2.2.length≤100000
 args:=fun (_,r)=>[.ptr 0 0,.agg (nMsg 1 r.1.1 0 r.1.2 0 0 0 (.fs 1 eB r.2.1) (.fs 1 eB r.2.2))]
 objs:=fun ((s,es,eps,ws),_)=>prO s es eps ws
 nn:=3
 E:=AnsR
 post:=fun ((_,_,eps,ws),r) e=>∃ q n,LastIs eps r.1.1 q n∧(okRq q n ws r→e.2.1=false∧e.2.2=ws++[r])∧(¬ okRq q n ws r→e.2.2=ws)
 res:=fun _ e=>.tup [.agg (nMsg e.1.1 0 e.1.2.1 e.1.2.2.1 e.1.2.2.2.1 0 e.1.2.2.2.2 .nils .nils),.bool e.2.1]
 out:=fun ((s,es,eps,_),_) e=>[(0,.box 66 [.int .i64 1,.int .i64 2,.int .i64 3,.arr8 s,rSt s es,.own 1,.own 3]),(1,.row 41 2 eS20 eps),(3,.row 44 4 eRq e.2.2)]
 mm:=1
def rsub_H:Cfg:=⟨[(24,rlast_c),(25,rans_c),(26,same_c)],[(14,[3,7,9,15,19,21],[],(oA 0 (oA 1 (oA 2 (oB 3 (oA 4 (oA 5 (oA 6 (oB 7 (oA 8 (oB 9 (oA 10 (oA 11 (oA 12 (oA 13 (oA 14 (oB 15 (oA 16 (oA 17 (oA 18 (oB 19 (oA 20 (oB 21 (oA 22 (oA 23 .nil)))))))))))))))))))))))),[]),(16,[5,9,11,18,22,24],[25],(oA 0 (oA 1 (oA 2 (oA 3 (oA 4 (oB 5 (oA 6 (oA 7 (oA 8 (oB 9 (oA 10 (oB 11 (oA 12 (oA 13 (oA 14 (oA 15 (oA 16 (oA 17 (oB 18 (oA 19 (oA 20 (oA 21 (oB 22 (oA 23 (oB 24 (oC 25 (oA 26 (oA 27 .nil)))))))))))))))))))))))))))),[]),(19,[4,6,8,10,12],[14,15,18],(oA 0 (oA 1 (oA 2 (oA 3 (oB 4 (oA 5 (oB 6 (oA 7 (oB 8 (oA 9 (oB 10 (oA 11 (oB 12 (oA 13 (oD 14 (oC 15 (oA 16 (oA 17 (oC 18 .nil))))))))))))))))))),[])],[],[],157,3,[],[],[]⟩
set_option maxHeartbeats 4000000 in
theorem rsub_ok:rsub_c.Ok Tryz.prog 9:=by
 refine fn_ok rsub_H 3 rfl _ Tryz.func9 rfl rfl ⟨rlast_ok,rans_ok,same_ok,trivial⟩ rfl rfl (by kernel_rfl) (fun _=>nlb rfl) ?_
 rintro ⟨⟨s,es,eps,ws⟩,r⟩ hp hr
 try dsimp only [rsub_c] at hp
 try simp only [rsub_c,Rng,RngL,inR,and_true,true_and] at hr
 obtain ⟨hp1,hp2,hp3,hp4⟩:=hp;have hp2:ws.length≤1000:=hp2;have hp3:r.2.1.length≤100000:=hp3;have hp4:r.2.2.length≤100000:=hp4;have hpl:rlast_c.pre ((s,es,eps,ws),r.1.1):=hp1;clear hr
 repeat' (first|(with_reducible refine Unf.h ?_)|((conv=>whnf);refine Fork.mkn (fun h=>?_) (fun h=>?_))|fail);all_goals try (conv=>whnf);all_goals try (exfalso;omega)
 first|refine CallS.mk (c:=rlast_c) (((s,es,eps,ws),r.1.1)) ?_|refine Or2.l (CallS.mk (c:=rlast_c) (((s,es,eps,ws),r.1.1)) ?_)|refine Or2.r (CallS.mk (c:=rlast_c) (((s,es,eps,ws),r.1.1)) ?_)
 repeat (first|(with_reducible refine Unf.h ?_)|((conv=>whnf);first|(refine Side.mk ?_ ?_;focus (first|with_reducible rfl|assumption|exact True.intro|rfl))|(with_reducible refine Unf.h ?_)))
 conv=>whnf
 refine Got.mk (fun e he=>?_)
 obtain ⟨q,n⟩:=e;have hpp:LastIs eps r.1.1 q n:=he;have hno:∀ x,¬ okRq q n ws r→rsub_c.post ((s,es,eps,ws),r) (x,true,ws):=fun x h=>⟨q,n,hpp,fun h'=>absurd h' h,fun _=>rfl⟩
 have hno2:∀ x,¬ okRq q n ws r→rsub_c.post ((s,es,eps,ws),r) (x,false,ws):=fun x h=>⟨q,n,hpp,fun h'=>absurd h' h,fun _=>rfl⟩
 have hqn:((q,n):Int×Nat).2=n:=rfl
 by_cases hA:0<n∧r.1.2≤q
 · have hk:¬ okRq q n ws r:=fun h=>h.1 hA
   obtain ⟨hA1,hA2⟩:=hA
   repeat' (first|(with_reducible refine Unf.h ?_)|((conv=>whnf);first|refine Fork.mk (fun h=>?_) (fun h=>?_)|(with_reducible refine Unf.h ?_))|fail);all_goals try (conv=>whnf);all_goals try (exfalso;omega)
   · refine CallS.mk (c:=rans_c) ((r,(n:Int),0)) ?_
     repeat' (first|(with_reducible refine Unf.h ?_)|((conv=>whnf);first|(refine Side.mk ?_ ?_;focus (first|with_reducible rfl|exact True.intro))|refine Got.mk (fun _ _=>?_)|refine retK_r ?_)|fail);all_goals try (conv=>whnf);all_goals try (exfalso;omega)
     refine RetE.mk (c:=rsub_c) (d:=((s,es,eps,ws),r)) (show AnsR from ((2,r.1.1,r.1.2,(n:Int),0),true,ws)) (hno _ hk) ?_
     repeat' (first|(with_reducible refine Unf.h ?_)|((conv=>whnf);first|(refine Side.mk ?_ ?_;focus (with_reducible rfl))|(with_reducible refine Unf.h ?_)|exact rfl)|fail);all_goals try (conv=>whnf);all_goals try (exfalso;omega)
   · refine CallS.mk (c:=rans_c) ((r,0,11)) ?_
     repeat' (first|(with_reducible refine Unf.h ?_)|((conv=>whnf);first|(refine Side.mk ?_ ?_;focus (first|with_reducible rfl|exact True.intro))|refine Got.mk (fun _ _=>?_)|refine retK_r ?_)|fail);all_goals try (conv=>whnf);all_goals try (exfalso;omega)
     refine RetE.mk (c:=rsub_c) (d:=((s,es,eps,ws),r)) (show AnsR from ((2,r.1.1,r.1.2,0,11),true,ws)) (hno _ hk) ?_
     repeat' (first|(with_reducible refine Unf.h ?_)|((conv=>whnf);first|(refine Side.mk ?_ ?_;focus (with_reducible rfl))|(with_reducible refine Unf.h ?_)|exact rfl)|fail);all_goals try (conv=>whnf);all_goals try (exfalso;omega)
 · by_cases hB:1≤r.2.1.length∧r.2.1.length≤32∧r.2.2.length≤64
   · obtain ⟨hB1,hB2,hB3⟩:=hB
     have hnA:n=0∨q<r.1.2:=by
       rcases Nat.eq_zero_or_pos n with h|h
       · exact .inl h
       · exact .inr (by by_cases h2:q<r.1.2;exact h2;exact absurd ⟨h,by omega⟩ hA)
     repeat' (first|(with_reducible refine Unf.h ?_)|((conv=>whnf);first|refine Fork.mk (fun h=>?_) (fun h=>?_)|(with_reducible refine Unf.h ?_))|fail);all_goals try (conv=>whnf);all_goals try (exfalso;omega)
     all_goals
       refine LoopS.mk (I:=Nat) (fun k=>k≤ws.length∧∀ w∈ws.take k,¬ (w.1.1=r.1.1∧w.1.2=r.1.2)) (fun k=>[(9,.int .i64 (k:Int)),(8,.bool (busyB ws r k)),(0,.ptr 0 0),(3,.ptr 3 0),(4,.ptr 4 0),(5,.bool false)]) (fun _=>prO s es eps ws++[(3,.box 61 (nMsg 1 r.1.1 0 r.1.2 0 0 0 (.fs 1 eB r.2.1) (.fs 1 eB r.2.2))),(4,.box 61 (nMsg 0 0 0 0 0 0 0 .nils .nils))]) 5 (fun k=>ws.length - k) 0 ⟨Nat.zero_le _,fun w hw=>by simp at hw⟩ ?_ ?_
       · have e0:decide ((16:Int)≤(ws.length:Int))=busyB ws r 0:=by
           unfold busyB;simp only [List.take_zero,List.any_nil,Bool.or_false];exact decide_eq_decide.2 (by omega)
         repeat' (first|(with_reducible refine Unf.h ?_)|((conv=>whnf);first|(refine Side.mk ?_ ?_;focus (first|with_reducible rfl|assumption|(refine congrArg (SV.int _) ?_;omega)))|(with_reducible refine Unf.h ?_)|exact True.intro)|fail);all_goals try (conv=>whnf);all_goals try (exfalso;omega)
       · rintro k ⟨hk,hno3⟩
         have hk:k≤ws.length:=hk;have hno3:∀ w∈ws.take k,¬ (w.1.1=r.1.1∧w.1.2=r.1.2):=hno3;have hemp:∀ h:k<ws.length,(ws[((k:Nat):Int).toNat]'h).1.1=r.1.1→(ws[((k:Nat):Int).toNat]'h).1.2=r.1.2→¬ okRq q n ws r:=fun h h1 h2 h3=>(h3.2.2.2 _ (List.getElem_mem h)).1 h1
         have hst:∀ h:k<ws.length,busyB ws r (k+1)=(busyB ws r k||(decide ((ws[((k:Nat):Int).toNat]'h).1.1=r.1.1)||decide ((ws[((k:Nat):Int).toNat]'h).2.1=r.2.1))):=fun h=>busyB_succ h rfl
         have hnx:∀ h:k<ws.length,¬ ((ws[((k:Nat):Int).toNat]'h).1.1=r.1.1∧(ws[((k:Nat):Int).toNat]'h).1.2=r.1.2)→∀ w∈ws.take (k+1),¬ (w.1.1=r.1.1∧w.1.2=r.1.2):=fun h hw w hm=>by
           rw [List.take_succ_eq_append_getElem h] at hm;rcases List.mem_append.1 hm with hm|hm
           · exact hno3 w hm
           · obtain rfl:=List.mem_singleton.1 hm;exact hw
         cases hbz:busyB ws r k with
         | true =>
           repeat' (first|(with_reducible first|refine Unf.h ?_|refine loopK_n ?_)|((conv=>whnf);first|refine Fork.mk (fun h=>?_) (fun h=>?_)|(refine Side.mk ?_ ?_;focus (first|omega|(intros;(try simp only [lenS,inR,cutS,loI,hiI] at *);omega)))|(refine Idx.mk ?_ ?_;focus (omega))|refine retK_r ?_)|fail);all_goals try (conv=>whnf);all_goals try (exfalso;omega)
           · refine RetE.mk (c:=rsub_c) (d:=((s,es,eps,ws),r)) (show AnsR from ((0,0,0,0,0),false,ws)) (hno2 _ (hemp (by omega) (by assumption) (by assumption))) ?_
             repeat' (first|(with_reducible refine Unf.h ?_)|((conv=>whnf);first|(refine Side.mk ?_ ?_;focus (with_reducible rfl))|(with_reducible refine Unf.h ?_)|exact rfl)|fail);all_goals try (conv=>whnf);all_goals try (exfalso;omega)
           · refine ⟨k+1,⟨by omega,by omega,hnx (by omega) fun hh=>absurd hh.2 (by assumption)⟩,?_⟩
             rw [hst (by omega),hbz,Bool.true_or]
             repeat' (first|(with_reducible refine Unf.h ?_)|((conv=>whnf);first|(refine Side.mk ?_ ?_;focus (first|with_reducible rfl|(refine congrArg (SV.int _) ?_;omega)))|(with_reducible refine Unf.h ?_)|exact True.intro)|fail);all_goals try (conv=>whnf);all_goals try (exfalso;omega)
           · refine ⟨k+1,⟨by omega,by omega,hnx (by omega) fun hh=>absurd hh.1 (by assumption)⟩,?_⟩
             rw [hst (by omega),hbz,Bool.true_or]
             repeat' (first|(with_reducible refine Unf.h ?_)|((conv=>whnf);first|(refine Side.mk ?_ ?_;focus (first|with_reducible rfl|(refine congrArg (SV.int _) ?_;omega)))|(with_reducible refine Unf.h ?_)|exact True.intro)|fail);all_goals try (conv=>whnf);all_goals try (exfalso;omega)
           · have hno4:¬ okRq q n ws r:=fun h=>by
               rw [(busyB_false (by omega)).2 h.2.2] at hbz
               cases hbz
             refine CallS.mk (c:=rans_c) ((r,0,13)) ?_
             repeat' (first|(with_reducible refine Unf.h ?_)|((conv=>whnf);first|(refine Side.mk ?_ ?_;focus (first|with_reducible rfl|exact True.intro))|refine Got.mk (fun _ _=>?_)|refine retK_r ?_)|fail);all_goals try (conv=>whnf);all_goals try (exfalso;omega)
             refine RetE.mk (c:=rsub_c) (d:=((s,es,eps,ws),r)) (show AnsR from ((2,r.1.1,r.1.2,0,13),true,ws)) (hno _ hno4) ?_
             repeat' (first|(with_reducible refine Unf.h ?_)|((conv=>whnf);first|(refine Side.mk ?_ ?_;focus (with_reducible rfl))|(with_reducible refine Unf.h ?_)|exact rfl)|fail);all_goals try (conv=>whnf);all_goals try (exfalso;omega)
         | false =>
           repeat' (first|(with_reducible first|refine Unf.h ?_|refine loopK_n ?_)|((conv=>whnf);first|refine Fork.mk (fun h=>?_) (fun h=>?_)|(refine Side.mk ?_ ?_;focus (first|omega|(intros;(try simp only [lenS,inR,cutS,loI,hiI] at *);omega)))|(refine Idx.mk ?_ ?_;focus (omega))|refine Ex.mk [_] rfl ?_|refine retK_r ?_)|fail);all_goals try (conv=>whnf);all_goals try (exfalso;omega)
           · refine RetE.mk (c:=rsub_c) (d:=((s,es,eps,ws),r)) (show AnsR from ((0,0,0,0,0),false,ws)) (hno2 _ (hemp (by omega) (by assumption) (by assumption))) ?_
             repeat' (first|(with_reducible refine Unf.h ?_)|((conv=>whnf);first|(refine Side.mk ?_ ?_;focus (with_reducible rfl))|(with_reducible refine Unf.h ?_)|exact rfl)|fail);all_goals try (conv=>whnf);all_goals try (exfalso;omega)
           · refine ⟨k+1,⟨by omega,by omega,hnx (by omega) fun hh=>absurd hh.2 (by assumption)⟩,?_⟩
             have hfr:busyB ws r (k+1)=true:=by rw [hst (by omega),hbz,decide_eq_true (by assumption)];rfl
             rw [hfr]
             repeat' (first|(with_reducible refine Unf.h ?_)|((conv=>whnf);first|(refine Side.mk ?_ ?_;focus (first|with_reducible rfl|(refine congrArg (SV.int _) ?_;omega)))|(with_reducible refine Unf.h ?_)|exact True.intro)|fail);all_goals try (conv=>whnf);all_goals try (exfalso;omega)
           · have hps:same_c.pre ((ws[((k:Nat):Int).toNat]'(by omega)).2.1,r.2.1):=by trivial
             refine CallS.mk (c:=same_c) (((ws[((k:Nat):Int).toNat]'(by omega)).2.1,r.2.1)) ?_
             repeat' (first|(with_reducible first|refine Unf.h ?_|refine loopK_n ?_)|((conv=>whnf);first|(refine Side.mk ?_ ?_;focus (first|with_reducible rfl|exact True.intro|(intros;(try simp only [lenS,inR,cutS,loI,hiI] at *);omega)))|refine Got.mk (fun _ _=>?_))|fail);all_goals try (conv=>whnf);all_goals try (exfalso;omega)
             refine ⟨k+1,⟨by omega,by omega,hnx (by omega) fun hh=>absurd hh.1 (by assumption)⟩,?_⟩
             have hfr:busyB ws r (k+1)=decide ((ws[((k:Nat):Int).toNat]'(by omega)).2.1=r.2.1):=by rw [hst (by omega),hbz,decide_eq_false (by assumption)];rfl
             rw [hfr]
             repeat' (first|(with_reducible refine Unf.h ?_)|((conv=>whnf);first|(refine Side.mk ?_ ?_;focus (first|with_reducible rfl|(refine congrArg (SV.int _) ?_;omega)))|(with_reducible refine Unf.h ?_)|exact True.intro)|fail);all_goals try (conv=>whnf);all_goals try (exfalso;omega)
           · all_goals try (conv=>whnf);all_goals try (exfalso;omega)
             refine RetE.mk (c:=rsub_c) (d:=((s,es,eps,ws),r)) (show AnsR from ((0,0,0,0,0),false,ws++[r])) ?_ ?_
             · have hfin:=(busyB_false (ws:=ws) (r:=r) (k:=k) (by omega)).1 hbz
               have hyes:okRq q n ws r:=⟨hA,⟨hB1,hB2,hB3⟩,hfin⟩;exact ⟨q,n,hpp,fun _=>⟨rfl,rfl⟩,fun h=>absurd hyes h⟩
             · repeat' (first|(with_reducible refine Unf.h ?_)|((conv=>whnf);first|(refine Side.mk ?_ ?_;focus (with_reducible rfl))|(with_reducible refine Unf.h ?_)|exact rfl)|fail);all_goals try (conv=>whnf);all_goals try (exfalso;omega)
   · have hk:¬ okRq q n ws r:=fun h=>hB h.2.1
     have hB':r.2.1.length=0∨32<r.2.1.length∨64<r.2.2.length:=by omega
     repeat' (first|(with_reducible refine Unf.h ?_)|((conv=>whnf);first|refine Fork.mk (fun h=>?_) (fun h=>?_)|(with_reducible refine Unf.h ?_))|fail);all_goals try (conv=>whnf);all_goals try (exfalso;omega)
     all_goals
       refine CallS.mk (c:=rans_c) ((r,0,1)) ?_
       repeat' (first|(with_reducible refine Unf.h ?_)|((conv=>whnf);first|(refine Side.mk ?_ ?_;focus (first|with_reducible rfl|exact True.intro))|refine Got.mk (fun _ _=>?_)|refine retK_r ?_)|fail);all_goals try (conv=>whnf);all_goals try (exfalso;omega)
     all_goals
       refine RetE.mk (c:=rsub_c) (d:=((s,es,eps,ws),r)) (show AnsR from ((2,r.1.1,r.1.2,0,1),true,ws)) (hno _ hk) ?_
       repeat' (first|(with_reducible refine Unf.h ?_)|((conv=>whnf);first|(refine Side.mk ?_ ?_;focus (with_reducible rfl))|(with_reducible refine Unf.h ?_)|exact rfl)|fail);all_goals try (conv=>whnf);all_goals try (exfalso;omega)
end Go.Proofs.YtfljmihdeimahaaGreatDoor
namespace Go.Proofs.YtfljmihdeimahaaGreatDoor
set_option linter.all false
open Go.RowKit
section
variable {P:Program} [TabC P] {S:Sig} {σ:Sg} {env:Env} {objs:List Ob} {nx:Nat} {a:Act} {w:World}
def CallsF (P:Program) [TabC P] (v:Value) (args:Array Value) (w:World) (R:Ending→World→Prop):Prop:=∃ f lb,v=.func (.func f) #[] lb∧nth (TabC.cl P) f=some true∧Calls P f (args++lb) w R
theorem CallsF.mono {v:Value} {args:Array Value} {w:World} {R R':Ending→World→Prop} (h:CallsF P v args w R) (hr:∀ e w',R e w'→R' e w'):CallsF P v args w R':=by
 obtain ⟨f,lb,hv,hc,hR⟩:=h;exact ⟨f,lb,hv,hc,hR.mono hr⟩
variable (P) in
inductive CallF (H:Cfg) (all r:List Oper) (K:KS) (o:Oper) (env:Env) (objs:List Ob) (nx:Nat):Prop
 | mk {t:Nat} {ars:Array Operand} {ts:Array TypeId} {v:Value} {s:SV} {ss:List SV} {c:Ctr} (hc:c.OkBy P (CallsF P v)) (ho:o.op=.call { callee:=.value (.tmp t),args:=ars,argTypes:=ts }) (hv:lk env t=some s) (hs:s=.val v∨∃ f,s=.fn f∧v=.func (.func f) #[] #[]) (ha:evs P env ars.toList=some ss) (hnt:noTups ss=true)
   (h:callG c H.n o.dst ss env objs nx (OpsK P H all r K))
theorem CallF.sound {H:Cfg} {all r:List Oper} {K:KS} {o:Oper} (h:CallF P H all r K o env objs nx) {Q:Exit→Act→World→Prop} {ops:Array Oper} (hcs:CsOk P H.cs) (hn:H.n=S.n) (hall:ops.toList=all) (hK:∀ env objs nx,K env objs nx→Pr P S env objs nx (Q .normal)) (hst:St P S σ env objs nx a w) :
   o.wp P a w (wpListIn Fence.wide 0 P ops Q r) Q:=by
 obtain @⟨t,ars,ts,v,s,ss,c,hc,ho,hv,hs,ha,hnt,h⟩:=h;rw [hn] at h;have hev:a.eval (.tmp t)=v:=by
   have:=hst.slots t _ hv
   rcases hs with rfl|⟨f,rfl,rfl⟩
   · simp only [SV.hv,SV.h1,SV.hc,List.cons.injEq,and_true] at this
     exact this.1
   · simp only [SV.hv,SV.h1,SV.hc,List.cons.injEq,and_true] at this
     exact this
 obtain ⟨f,lb,hvl,hcl,hR⟩:=callG_core (C:=CallsF P v) (fun h k=>CallsF.mono h k) hc ha hnt h hst (X:=wpListIn Fence.wide 0 P ops Q r) (fun σ' e' o' n' a' w' h1 h2 _=>h1.h hcs hn hall hK σ' a' w' h2)
 subst hvl;unfold Oper.wp;obtain ⟨fn,h1,h2,h3⟩:=call_spec (P:=P) hcl;have h4:¬ fn.body=none:=by intro e;rw [e] at h3;cases h3
 have h5 : ¬ fn.name = "runtime.NumGoroutine" := by simpa using h2
 have hrun:(execOp a.eval o).run P w=.ok (.enter f ((ars.map a.eval)++lb)) w:=by
   simp only [execOp,ho,resolve,Sem.run_bind,Act.eval] at hev ⊢;rw [hev]
   simp [Deferred.ofValue,invoke,Result.andThen,callFunc,h1,h5,h4]
 rw [hrun,Oper.upon_enter];refine Calls.mono hR ?_;rintro e w' ⟨v,rfl,hx⟩;exact hx
theorem OpsK.callFG {H:Cfg} {all r:List Oper} {K:KS} {o:Oper} (h:vcGuard all H.n o env (fun env=>CallF P H all r K o env objs nx) (fun env=>OpsK P H all r K env objs nx)):OpsK P H all (o::r) K env objs nx:=⟨fun {S Q ops} hcs hn hall hK σ a w hst=>by
 subst hall;rw [hn] at h;unfold wpListIn;rcases guard_sound h hst with ⟨env',h,hst',hw⟩|⟨env',h,hst',hw⟩
 · rw [if_pos hw]
   exact Oper.wp_in (h.sound hcs hn rfl hK hst')
 · rw [if_neg (by rw [hw];simp)]
   exact ⟨fun _ _=>trivial,h.h hcs hn rfl hK σ _ w hst'⟩⟩
theorem OpsK.mkFn1 {H:Cfg} {all r:List Oper} {K:KS} {o:Oper} {d f t k T:Nat} {ps:List SV} {rest:List Ob} (ho:o.op=.makeFunc (.func f) #[] #[.tmp t]) (hd:o.dst=some d) (hlt:d<H.n) (hg:o.guard=none) (ht:lk env t=some (.ptr k 0)) (hrm:rmO objs k=some (.box T ps,rest)) (hnn:noName ps=true)
   (h:∀ v τ,OpsK P H all r K ((d,.val v)::env) ((nx,.ab (packAO τ [(0,.box T ps)] (cloQ f 1 τ v)))::rest) (nx+1)):OpsK P H all (o::r) K env objs nx:=⟨fun {S Q ops} hcs hn hall hK σ a w hst=>by
 unfold wpListIn;rw [if_pos (by simp [Region.wanted,hg])]
 have hp:=hst.perm (rmO_perm hrm);obtain ⟨b,cs,h1,h2,h3⟩:=(show (SO.box T ps).holds w (S.A σ ((k,SO.box T ps)::rest)) σ k from hp.obs.holds _ (List.mem_cons_self ..));have hev:a.eval (.tmp t)=.pointer (some ⟨b,0,none⟩):=by
   obtain ⟨b',c',e1,e2⟩:=hst.slots t _ ht;rw [h1] at e1;simp only [Option.some.injEq,Value.pointer.injEq,Addr.mk.injEq,and_true] at e1;obtain ⟨rfl,rfl⟩:=e1;simp only [List.cons.injEq,and_true] at e2;exact e2
 refine Oper.wp_in ?_;unfold Oper.wp;obtain ⟨v,hv⟩:∃ v,v=Value.func (.func f) #[] #[.pointer (some ⟨b,0,none⟩)]:=⟨_,rfl⟩;obtain ⟨τ,hτ⟩:∃ τ:Sg,τ=fun j=>if j=0 then some (.pointer (some ⟨b,0,none⟩)) else none:=⟨_,rfl⟩
 have hrun:(execOp a.eval o).run P w=.ok (.value v) w:=by
   simp only [execOp,ho];rw [hv]
   simp [Instr.makeFunc,hev]
 rw [hrun];have e0:τ 0=some (.pointer (some ⟨b,0,none⟩)):=by rw [hτ];rfl
 have own0:∀ c,owns τ [(0,SO.box T ps)] c↔c=b:=fun c=>by
   simp only [owns,SO.own,e0,Option.some.injEq,or_false];exact ⟨fun ⟨u,hu,hc⟩=>by subst hu;simp only [blkO,Option.some.injEq] at hc;exact hc.symm,fun e=>⟨_,rfl,by rw [e];rfl⟩⟩
 have hown:∀ c,(SO.box T ps).own σ k c↔c=b:=fun c=>by
   simp only [SO.own,h1,Option.some.injEq];exact ⟨fun ⟨u,hu,hc⟩=>by subst hu;simp only [blkO,Option.some.injEq] at hc;exact hc.symm,fun e=>⟨_,rfl,by rw [e];rfl⟩⟩
 have hs:SetO ((k,SO.box T ps)::rest) (k,SO.box T ps) (nx,.ab (packAO τ [(0,.box T ps)] (cloQ f 1 τ v))) ((nx,.ab (packAO τ [(0,.box T ps)] (cloQ f 1 τ v)))::rest):=.here;have hqo:∀ c,(SO.ab (packAO τ [(0,.box T ps)] (cloQ f 1 τ v))).own σ nx c→(SO.box T ps).own σ k c:=fun c hc=>(hown c).2 ((own0 c).1 hc)
 have hgh:=hp.ghost hs (by
   refine ⟨⟨[.pointer (some ⟨b,0,none⟩)],rfl,fun i hi=>?_,fun u hu=>?_,hv,fun j hj=>?_⟩,fun o ho=>?_,⟨fun _ _ h=>h,trivial⟩⟩
   · match i,hi with
     | 0,_=>exact e0
   · obtain rfl:=List.mem_singleton.1 hu;exact ⟨b,rfl⟩
   · rw [hτ];simp only;rw [if_neg (by omega)]
   · obtain rfl:=List.mem_singleton.1 ho
     refine ⟨b,cs,e0,h2,?_⟩;exact noName_spec hnn (hL.later (Later.own fun c hc=>hc.imp id (hs.owns_le hqo c)) _ _ _ h3)) hqo
 have hst2:=(hgh.nx_le (Nat.le_succ nx)).put (d:=d) (s:=.val v) (v:=v) (hn▸hlt) ⟨rfl,by rw [hv];rfl⟩
 rw [← hd] at hst2;exact (h v τ).h hcs hn hall hK σ _ w hst2⟩
end
def wantR_c (wn:Rq→Bool) (J:AO):Ctr where
 D:=Rq
 args:=fun r=>[.agg (eRq r)]
 objs:=fun _=>[(0,.ab J)]
 nn:=1
 res:=fun r _=>.bool (wn r)
 out:=fun _ _=>[(0,.ab J)]
def idxR_c:Ctr where
 D:=List Rq×(Rq→Bool)×AO×Value
 pre:=fun (l,wn,J,y)=>l.length≤100000∧(wantR_c wn J).OkBy Tryz.prog (CallsF Tryz.prog y)
 args:=fun (l,_,_,y)=>[.fs 4 eRq l,.val y]
 objs:=fun (_,_,J,_)=>[(0,.ab J)]
 nn:=1
 E:=Int
 post:=fun (l,wn,_,_) i=>0≤i↔l.any wn=true
 res:=fun _ i=>.int .i64 i
 out:=fun (_,_,J,_) _=>[(0,.ab J)]
def idxR_H:Cfg:=⟨[],[],[],[],19,1,[],[],[]⟩
theorem idxR_ok:idxR_c.Ok Tryz.prog 128:=by
 refine fn_ok idxR_H 1 rfl _ Tryz.func128 rfl rfl trivial rfl rfl (by kernel_rfl) (fun _=>nlb rfl) ?_
 rintro ⟨l,wn,J,y⟩ hp hr
 try dsimp only [idxR_c] at hp
 try simp only [idxR_c,Rng,RngL,inR,and_true,true_and] at hr
 obtain ⟨hlen,hw⟩:=hp;have hlen:l.length≤100000:=hlen
 repeat' (first|(with_reducible refine Unf.h ?_)|fail);all_goals try (conv=>whnf);all_goals try (exfalso;omega)
 refine LoopS.autoN (I:=Nat) (fun i=>i≤l.length∧(l.take i).any wn=false) (fun i=>[(8,.int .i64 (i:Int))]) (fun _=>[(0,.ab J)]) 1 (fun i=>l.length - i) 0 ⟨Nat.zero_le _,rfl⟩ ?_ ?_
 · repeat' (first|(with_reducible refine Unf.h ?_)|((conv=>whnf);first|(refine Side.mk ?_ ?_;focus (first|with_reducible rfl|(refine congrArg (SV.int _) ?_;omega)))|(with_reducible refine Unf.h ?_)|exact True.intro)|fail);all_goals try (conv=>whnf);all_goals try (exfalso;omega)
 · rintro i ⟨hi,hno⟩
   have hi:i≤l.length:=hi
   by_cases hil:i<l.length
   · obtain ⟨r,hri⟩:∃ r,l[((i:Nat):Int).toNat]'hil=r:=⟨_,rfl⟩
     have hri2:l[i]'hil=r:=hri;have hts:(l.take (i+1)).any wn=wn r:=by
       rw [List.take_succ_eq_append_getElem hil,hri2,List.any_append,hno];simp
     repeat' (first|(with_reducible refine Unf.h ?_)|((conv=>whnf);first|refine Fork.mk (fun h=>?_) (fun h=>?_)|(refine Idx.mk ?_ ?_;focus (omega)))|fail);all_goals try (conv=>whnf);all_goals try (exfalso;omega)
     refine ValS.mk (OpsK.callFG ?_)
     all_goals try (conv=>whnf);all_goals try (exfalso;omega)
     refine CallF.mk hw rfl rfl (.inl rfl) rfl rfl ?_;refine CallS.mk (c:=wantR_c wn J) r ?_
     cases hwn:wn r with
     | false =>
       repeat' (first|(with_reducible refine Unf.h ?_)|((conv=>whnf);first|(refine Side.mk ?_ ?_;focus (first|with_reducible rfl|exact True.intro|(simp only [*];done)))|refine Got.mk (fun _ _=>?_))|fail);all_goals try (conv=>whnf);all_goals try (exfalso;omega)
       rw [hwn]
       repeat' (first|(with_reducible first|refine Unf.h ?_|refine loopK_n ?_)|((conv=>whnf);(refine Side.mk ?_ ?_;focus ((intros;(try simp only [lenS,inR,cutS,loI,hiI] at *);omega))))|fail);all_goals try (conv=>whnf);all_goals try (exfalso;omega)
       refine ⟨i+1,⟨by omega,by omega,by rw [hts,hwn]⟩,?_⟩
       repeat' (first|(with_reducible refine Unf.h ?_)|((conv=>whnf);first|(refine Side.mk ?_ ?_;focus (first|with_reducible rfl|(refine congrArg (SV.int _) ?_;omega)))|(with_reducible refine Unf.h ?_)|exact True.intro)|fail);all_goals try (conv=>whnf);all_goals try (exfalso;omega)
     | true =>
       have hpo:idxR_c.post (l,wn,J,y) (i:Int):=by
         refine ⟨fun _=>?_,fun _=>by omega⟩
         rw [List.any_eq_true];exact ⟨r,hri2▸List.getElem_mem _,hwn⟩
       repeat' (first|(with_reducible refine Unf.h ?_)|((conv=>whnf);first|(refine Side.mk ?_ ?_;focus (first|with_reducible rfl|exact True.intro|(simp only [*];done)))|refine Got.mk (fun _ _=>?_))|fail);all_goals try (conv=>whnf);all_goals try (exfalso;omega)
       rw [hwn]
       repeat' (first|(with_reducible refine Unf.h ?_)|((conv=>whnf);refine retK_r ?_)|fail);all_goals try (conv=>whnf);all_goals try (exfalso;omega)
       refine RetE.mk (c:=idxR_c) (d:=(l,wn,J,y)) (show Int from (i:Int)) hpo ?_
       repeat' (first|(with_reducible refine Unf.h ?_)|((conv=>whnf);first|(refine Side.mk ?_ ?_;focus (first|with_reducible rfl|(dsimp only [resS,idxR_c];done)))|exact rfl)|fail);all_goals try (conv=>whnf);all_goals try (exfalso;omega)
   · have e0:l.take i=l:=List.take_of_length_le (by omega)
     rw [e0] at hno;have hpo:idxR_c.post (l,wn,J,y) (-1:Int):=by
       refine ⟨fun h=>?_,fun h=>?_⟩
       · have h:(0:Int)≤-1:=h
         omega
       · have h:l.any wn=true:=h
         rw [hno] at h;cases h
     repeat' (first|(with_reducible refine Unf.h ?_)|((conv=>whnf);first|refine Fork.mk (fun h=>?_) (fun h=>?_)|refine retK_r ?_)|fail);all_goals try (conv=>whnf);all_goals try (exfalso;omega)
     refine RetE.mk (c:=idxR_c) (d:=(l,wn,J,y)) (show Int from -1) hpo ?_
     repeat' (first|(with_reducible refine Unf.h ?_)|((conv=>whnf);first|(refine Side.mk ?_ ?_;focus (first|with_reducible rfl|(dsimp only [resS,idxR_c];done)))|exact rfl)|fail);all_goals try (conv=>whnf);all_goals try (exfalso;omega)
def cfnR_c:Ctr where
 D:=List Rq×(Rq→Bool)×AO×Value
 pre:=fun (l,wn,J,y)=>l.length≤100000∧(wantR_c wn J).OkBy Tryz.prog (CallsF Tryz.prog y)
 args:=fun (l,_,_,y)=>[.fs 4 eRq l,.val y]
 objs:=fun (_,_,J,_)=>[(0,.ab J)]
 nn:=1
 res:=fun (l,wn,_,_) _=>.bool (l.any wn)
 out:=fun (_,_,J,_) _=>[(0,.ab J)]
def cfnR_H:Cfg:=⟨[(128,idxR_c)],[],[],[],9,1,[],[],[]⟩
theorem cfnR_ok:cfnR_c.Ok Tryz.prog 105:=by
 refine fn_ok cfnR_H 1 rfl _ Tryz.func105 rfl rfl ⟨idxR_ok,trivial⟩ rfl rfl (by kernel_rfl) (fun _=>nlb rfl) ?_
 rintro ⟨l,wn,J,y⟩ hp hr
 try dsimp only [cfnR_c] at hp
 try simp only [cfnR_c,Rng,RngL,inR,and_true,true_and] at hr
 have hpi:idxR_c.pre (l,wn,J,y):=hp
 repeat' (first|(with_reducible refine Unf.h ?_)|fail);all_goals try (conv=>whnf);all_goals try (exfalso;omega)
 refine CallS.mk (c:=idxR_c) ((l,wn,J,y)) ?_
 repeat' (first|(with_reducible refine Unf.h ?_)|((conv=>whnf);first|(refine Side.mk ?_ ?_;focus (first|with_reducible rfl|assumption))|refine RetE.mk () trivial ?_|refine Got.mk (fun _ _=>?_)|refine retK_r ?_)|fail);all_goals try (conv=>whnf);all_goals try (exfalso;omega)
 rename_i p hpp;revert p;intro (p:Int) (hpp:0≤p↔l.any wn=true);refine Side.mk ?_ ?_
 · change decide ((0:Int)≤p)=l.any wn
   by_cases hb:(0:Int)≤p
   · rw [decide_eq_true hb];exact (hpp.1 hb).symm
   · rw [decide_eq_false hb]
     cases h:l.any wn with
     | true=>exact absurd (hpp.2 h) hb
     | false=>rfl
 repeat' (first|(with_reducible refine Unf.h ?_)|((conv=>whnf);first|(refine Side.mk ?_ ?_;focus (with_reducible rfl))|exact rfl)|fail);all_goals try (conv=>whnf);all_goals try (exfalso;omega)
def apq_c (r:Rq):Ctr where
 D:=Rq
 args:=fun x=>[.agg (eRq x),.ptr 0 0]
 objs:=fun _=>[(0,.box 182 (eRq r))]
 nn:=1
 res:=fun x _=>.dec (x.1.1=r.1.1) inferInstance
 out:=fun _ _=>[(0,.box 182 (eRq r))]
def apq_H:Cfg:=⟨[],[],[],[],9,1,[],[],[]⟩
theorem apq_ok (r:Rq): (apq_c r).Ok Tryz.prog 106:=by
 refine fn_ok apq_H 1 rfl _ Tryz.func106 rfl rfl trivial rfl rfl (by kernel_rfl) (fun _=>nlb rfl) ?_
 intro (x:Rq) hp hr
 try dsimp only [apq_c] at hp
 try simp only [apq_c,Rng,RngL,inR,and_true,true_and] at hr
 repeat' (first|(with_reducible refine Unf.h ?_)|((conv=>whnf);first|(refine Side.mk ?_ ?_;focus (with_reducible rfl))|refine RetE.mk () trivial ?_|refine retK_r ?_|exact rfl)|fail);all_goals try (conv=>whnf);all_goals try (exfalso;omega)
theorem apq_by (r:Rq) (τ:Sg) (v:Value):(wantR_c (fun x=>decide (x.1.1=r.1.1)) (packAO τ [(0,.box 182 (eRq r))] (cloQ 106 1 τ v))).OkBy Tryz.prog (CallsF Tryz.prog v):=by
 intro (i:Rq) _ A0 w σ vs hA hobs hargs hdom hgl;obtain ⟨p,m1,rfl,h1,h3⟩:=hargs;simp only [hvs] at h3;subst h3;obtain ⟨⟨lb,hlen,hlb,hptr,hv,hd⟩,hob⟩:=hobs.unpack;refine ⟨106,lb.toArray,hv,by kernel_rfl,?_⟩
 have hA':Later w (Av A0 σ (wantR_c (fun x=>decide (x.1.1=r.1.1)) (packAO τ [(0,.box 182 (eRq r))] (cloQ 106 1 τ v)) |>.objs i)) w (Av A0 τ [(0,.box 182 (eRq r))]):=Later.own fun b hb=>hb.imp id (pack_owns b).2
 have hpt:hvs w (Av A0 τ [(0,.box 182 (eRq r))]) τ (ptrsF 0 lb.length) lb:=ptrs_hvs (fun j hj=>by rw [Nat.zero_add];exact hlb j (by omega)) hptr
 rw [hlen] at hpt;have h1':(SV.agg (eRq i)).hv w (Av A0 τ [(0,.box 182 (eRq r))]) τ p:=by
   have h:=SV.hv.later (s:=SV.agg (eRq i)) (v:=p) hA' (by simp only [SV.hv];exact h1)
   simp only [SV.hv,SV.h1,hL,SV.hc] at h ⊢;exact h
 have hc:=apq_ok r i trivial A0 w τ (p::lb) hA hob ⟨p,lb,rfl,h1',hpt⟩ hd (hgl.later hA');rw [show (p::lb).toArray=#[p]++lb.toArray by simp] at hc
 refine hc.mono ?_;rintro e w' ⟨e',u,σ',rfl,_,s1,s2,r1,m,ob,ow⟩;obtain rfl:σ'=τ:=by
   funext k
   cases k with
   | zero =>
     obtain ⟨b,cs,h,_⟩:=ob.holds _ (List.mem_cons_self ..);dsimp only at h;rw [h];exact (s1 0 Nat.zero_lt_one _ h).symm
   | succ k=>rw [s2 (k+1) (by show 1+0≤k+1;omega),hd (k+1) (by show 1≤k+1;omega)]
 refine ⟨(),u,σ,rfl,trivial,fun _ _ _ h=>h,fun k hk=>hdom k hk,hvB.2 (hvD.1 r1),m.mono fun b hb=>⟨rfl,(pack_owns b).2 hb.2⟩,ob.pack ⟨lb,hlen,hlb,hptr,hv,hd⟩,fun c hc=>?_⟩
 exact (ow c ((pack_owns c).1 hc)).imp (pack_owns c).2 id
def apaP (l:List Rq):Prop:=(l.map fun r=>r.1.1).Nodup
instance (l:List Rq):Decidable (apaP l):=inferInstanceAs (Decidable (List.Nodup _))
def papart_c:Ctr where
 D:=List Rq
 pre:=fun l=>l.length≤1000
 args:=fun l=>[.fs 4 eRq l]
 res:=fun l _=>.dec (apaP l) inferInstance
def papart_H:Cfg:=⟨[(105,cfnR_c)],[],[],[],18,0,[],[],[]⟩
theorem papart_ok:papart_c.Ok Tryz.prog 68:=by
 refine fn_ok papart_H 0 rfl _ Tryz.func68 rfl rfl ⟨cfnR_ok,trivial⟩ rfl rfl (by kernel_rfl) (fun _=>nlb rfl) ?_
 intro (l:List Rq) hp hr
 try dsimp only [papart_c] at hp
 try simp only [papart_c,Rng,RngL,inR,and_true,true_and] at hr
 have hp:l.length≤1000:=hp
 repeat' (first|(with_reducible refine Unf.h ?_)|fail);all_goals try (conv=>whnf);all_goals try (exfalso;omega)
 refine LoopS.mk (I:=Nat) (fun i=>i≤l.length∧apaP (l.take i)) (fun i=>[(7,.int .i64 (i:Int)),(5,.fs 4 eRq l),(6,.int .i64 (l.length:Int)),(0,.fs 4 eRq l),(2,.bool false)]) (fun _=>[]) 0 (fun i=>l.length - i) 0 ⟨Nat.zero_le _,List.nodup_nil⟩ ?_ ?_
 · repeat' (first|(with_reducible refine Unf.h ?_)|((conv=>whnf);first|(refine Side.mk ?_ ?_;focus (first|with_reducible rfl|(refine congrArg (SV.int _) ?_;omega)))|(with_reducible refine Unf.h ?_)|exact True.intro)|fail);all_goals try (conv=>whnf);all_goals try (exfalso;omega)
 · rintro i ⟨hi,hno⟩
   have hi:i≤l.length:=hi
   by_cases hil:i<l.length
   · obtain ⟨r,hri⟩:∃ r,l[((i:Nat):Int).toNat]'hil=r:=⟨_,rfl⟩
     have hri2:l[i]'hil=r:=hri;have hat:(l.take i).any (fun x=>decide (x.1.1=r.1.1))=true↔r.1.1∈(l.take i).map fun x=>x.1.1:=by
       rw [List.any_eq_true,List.mem_map];exact ⟨fun ⟨x,h1,h2⟩=>⟨x,h1,of_decide_eq_true h2⟩,fun ⟨x,h1,h2⟩=>⟨x,h1,decide_eq_true h2⟩⟩
     have hts:apaP (l.take (i+1))↔apaP (l.take i)∧r.1.1∉(l.take i).map fun x=>x.1.1:=by
       unfold apaP;rw [List.take_succ_eq_append_getElem hil,hri2,List.map_append,List.nodup_append]
       constructor
       · rintro ⟨h1,_,h3⟩
         exact ⟨h1,fun h=>h3 _ h _ (by simp) rfl⟩
       · rintro ⟨h1,h2⟩
         refine ⟨h1,by simp,fun a ha b hb e=>?_⟩
         have hb:b=r.1.1:=by simpa using hb
         exact h2 (hb▸e▸ha)
     have hall:apaP l→apaP (l.take (i+1)):=fun h=>by
       unfold apaP at h ⊢;rw [List.map_take];exact h.sublist (List.take_sublist ..)
     subst hri
     repeat' (first|(with_reducible refine Unf.h ?_)|((conv=>whnf);first|refine Fork.mk (fun h=>?_) (fun h=>?_)|(refine Side.mk ?_ ?_;focus ((intros;(try simp only [lenS,inR,cutS,loI,hiI] at *);omega)))|(refine Idx.mk ?_ ?_;focus (omega)))|fail);all_goals try (conv=>whnf);all_goals try (exfalso;omega)
     refine ValS.mk (OpsK.mkFn1 rfl rfl (by decide) rfl rfl rfl rfl ?_)
     intro v τ;have hby:=apq_by (l[((i:Nat):Int).toNat]'hil) τ v;generalize hJ:packAO τ [(0,SO.box 182 (eRq (l[((i:Nat):Int).toNat]'hil)))] (cloQ 106 1 τ v)=J at hby
     repeat' (first|(with_reducible refine Unf.h ?_)|fail);all_goals try (conv=>whnf);all_goals try (exfalso;omega)
     clear hJ;have hpn:cfnR_c.pre (l.take i,(fun x=>decide (x.1.1=(l[((i:Nat):Int).toNat]'hil).1.1)),J,v):=⟨by show (l.take i).length≤100000;rw [List.length_take];omega,hby⟩
     refine CallS.mk (c:=cfnR_c) ((l.take i,(fun x=>decide (x.1.1=(l[((i:Nat):Int).toNat]'hil).1.1)),J,v)) ?_
     repeat' (first|(with_reducible refine Unf.h ?_)|fail);all_goals try (conv=>whnf);all_goals try (exfalso;omega)
     refine Side.mk rfl ?_
     cases hany:(l.take i).any (fun x=>decide (x.1.1=(l[((i:Nat):Int).toNat]'hil).1.1)) with
     | true =>
       have hfl:¬ apaP l:=fun h=>(hts.1 (hall h)).2 (hat.1 hany)
       repeat' (first|(with_reducible refine Unf.h ?_)|((conv=>whnf);first|(refine Side.mk ?_ ?_;focus (first|with_reducible rfl|assumption))|refine Got.mk (fun _ _=>?_))|fail);all_goals try (conv=>whnf);all_goals try (exfalso;omega)
       rw [hany]
       repeat' (first|(with_reducible refine Unf.h ?_)|((conv=>whnf);first|(refine Side.mk ?_ ?_;focus ((simp [*];done)))|refine RetE.mk () trivial ?_|refine retK_r ?_|exact rfl)|fail);all_goals try (conv=>whnf);all_goals try (exfalso;omega)
     | false =>
       repeat' (first|(with_reducible refine Unf.h ?_)|((conv=>whnf);first|(refine Side.mk ?_ ?_;focus (first|with_reducible rfl|assumption))|refine Got.mk (fun _ _=>?_))|fail);all_goals try (conv=>whnf);all_goals try (exfalso;omega)
       rw [hany]
       repeat' (first|(with_reducible first|refine Unf.h ?_|refine loopK_n ?_)|((conv=>whnf);(refine Side.mk ?_ ?_;focus ((intros;(try simp only [lenS,inR,cutS,loI,hiI] at *);omega))))|fail);all_goals try (conv=>whnf);all_goals try (exfalso;omega)
       refine ⟨i+1,⟨by omega,by omega,hts.2 ⟨hno,fun h=>by rw [hat.2 h] at hany;cases hany⟩⟩,?_⟩
       repeat' (first|(with_reducible refine Unf.h ?_)|((conv=>whnf);first|(refine Side.mk ?_ ?_;focus (first|with_reducible rfl|(refine congrArg (SV.int _) ?_;omega)))|(with_reducible refine Unf.h ?_)|exact True.intro)|fail);all_goals try (conv=>whnf);all_goals try (exfalso;omega)
   · have e0:l.take i=l:=List.take_of_length_le (by omega)
     rw [e0] at hno
     repeat' (first|(with_reducible refine Unf.h ?_)|((conv=>whnf);first|refine Fork.mk (fun h=>?_) (fun h=>?_)|(refine Side.mk ?_ ?_;focus ((refine ⟨fun h=>?_,fun h=>?_⟩<;>first|rfl|(cases h;done)|omega|(exfalso;omega)|(simp only [Bool.false_eq_true] at h;done))))|refine RetE.mk () trivial ?_|refine retK_r ?_|exact rfl)|fail);all_goals try (conv=>whnf);all_goals try (exfalso;omega)
end Go.Proofs.YtfljmihdeimahaaGreatDoor
namespace Go.Proofs.YtfljmihdeimahaaGreatDoor
set_option linter.all false
open Go.RowKit
def reqB (r:Rq):Bs:=beN 4 (BitVec.ofInt 64 r.1.1)++(beN 4 (BitVec.ofInt 64 r.1.2)++(strB r.2.1++strB r.2.2))
def flB (l:List Rq):Bs:=(l.map reqB).flatten
def recB (x:Sl20):Bs:=beN 4 (BitVec.ofInt 64 x.1)++(beN 2 (BitVec.ofInt 64 (x.2.length:Int))++flB x.2)
structure RqOk (r:Rq):Prop where
 f0:0≤r.1.1
 f1:r.1.1<2147483648
 q0:0≤r.1.2
 q1:r.1.2<2147483648
 l:r.2.1.length≤100
 v:r.2.2.length≤100
structure SlOk (x:Sl20):Prop where
 t0:0≤x.1
 t1:x.1<2147483648
 n:x.2.length≤20
 r:∀ r∈x.2,RqOk r
theorem strB_len (v:Bs):(strB v).length=v.length+2:=by unfold strB;rw [List.length_append,beN_len];omega
theorem reqB_len {r:Rq} (h:RqOk r):12≤(reqB r).length∧(reqB r).length≤212:=by
 have h1:=h.l;have h2:=h.v;unfold reqB;rw [beL,beL,List.length_append,strB_len,strB_len];omega
theorem flB_len:∀ {l:List Rq},(∀ r∈l,RqOk r)→(flB l).length≤212*l.length
 | [],_=>by simp [flB]
 | r::l,h=>by
   have h1:=(reqB_len (h r (by simp))).2
   have h2:=flB_len (l:=l) fun r hr=>h r (by simp [hr])
   unfold flB at h2 ⊢;rw [List.map_cons,List.flatten_cons,List.length_append,List.length_cons];omega
theorem flB_cons (r:Rq) (l:List Rq):flB (r::l)=reqB r++flB l:=rfl
theorem recB_len {x:Sl20} (h:SlOk x):1≤(recB x).length∧(recB x).length≤4300:=by
 have h1:=flB_len h.r;have h2:=h.n;unfold recB;rw [beL,beL];omega
theorem u32_int {n:Int} (h0:0≤n) (h1:n<2147483648):((BitVec.ofInt 32 n).toNat:Int)=n:=by
 rw [BitVec.toNat_ofInt];omega
def okD (l:List Rq):Prop:=l.length≤16∧∀ r∈l,r.2.1.length≤32∧r.2.2.length≤64
def dcd_c:Ctr where
 D:=Sl20
 pre:=fun x=>SlOk x∧okD x.2
 args:=fun x=>[.fs 1 eB (recB x)]
 res:=fun x _=>.tup [.int .i64 x.1,.fs 4 eRq x.2,.bool true]
def dcd_H:Cfg:=⟨[(41,rnew_c),(43,qi32_c),(103,qct_c),(75,qst_c),(44,rdn_c)],[],[],[],49,0,[],[],[]⟩
set_option maxHeartbeats 2000000 in
theorem dcd_ok:dcd_c.Ok Tryz.prog 65:=by
 refine fn_ok dcd_H 0 rfl _ Tryz.func65 rfl rfl ⟨rnew_ok,qi32_ok,qct_ok,qst_ok,rdn_ok,trivial⟩ rfl rfl (by kernel_rfl) (fun _=>nlb rfl) ?_
 intro (x:Sl20) hp hr
 try dsimp only [dcd_c] at hp
 try simp only [dcd_c,Rng,RngL,inR,and_true,true_and] at hr
 obtain ⟨hx,h16,hlv⟩:=hp;have h16:x.2.length≤16:=h16;have hfl:=flB_len hx.r;have hrl:=(recB_len hx).2;have h1:rnew_c.pre (recB x):=by show (recB x).length≤1000000;omega
 have h2:qi32_c.pre (x.1,beN 2 (BitVec.ofInt 64 (x.2.length:Int))++flB x.2):=by
   show (beN 2 (BitVec.ofInt 64 (x.2.length:Int))++flB x.2).length≤900000;rw [beL];omega
 have h3:qct_c.pre (x.2.length,flB x.2,16):=⟨h16,by omega,by omega⟩
 have et:=u32_int hx.t0 hx.t1;have er:recB x=beN 4 (BitVec.ofInt 64 x.1)++(beN 2 (BitVec.ofInt 64 (x.2.length:Int))++flB x.2):=rfl
 repeat' (first|(with_reducible refine Unf.h ?_)|fail);all_goals try (conv=>whnf);all_goals try (exfalso;omega)
 refine CallS.mk (c:=rnew_c) ((recB x)) ?_;rw [er]
 repeat' (first|(with_reducible refine Unf.h ?_)|((conv=>whnf);first|(refine Side.mk ?_ ?_;focus (first|with_reducible rfl|assumption))|refine Got.mk (fun _ _=>?_))|fail);all_goals try (conv=>whnf);all_goals try (exfalso;omega)
 refine CallS.mk (c:=qi32_c) ((x.1,beN 2 (BitVec.ofInt 64 (x.2.length:Int))++flB x.2)) ?_
 repeat' (first|(with_reducible refine Unf.h ?_)|((conv=>whnf);first|(refine Side.mk ?_ ?_;focus (first|with_reducible rfl|assumption))|refine Got.mk (fun _ _=>?_))|fail);all_goals try (conv=>whnf);all_goals try (exfalso;omega)
 refine CallS.mk (c:=qct_c) ((x.2.length,flB x.2,16)) ?_
 repeat' (first|(with_reducible refine Unf.h ?_)|((conv=>whnf);first|(refine Side.mk ?_ ?_;focus (first|with_reducible rfl|assumption|(refine congrArg (SV.int _) ?_;omega)))|refine Got.mk (fun _ _=>?_))|fail);all_goals try (conv=>whnf);all_goals try (exfalso;omega)
 refine LoopS.mk (I:=Nat) (fun i=>i≤x.2.length) (fun i=>[(16,.int .i64 (i:Int)),(15,.int .i64 (x.2.length:Int)),(5,.ptr 0 0),(6,.int .i64 x.1),(7,.own 1),(2,.int .i64 0),(3,.nils),(4,.bool false)]) (fun i=>[(0,rdO (flB (x.2.drop i))),(1,.row 182 4 eRq (x.2.take i))]) 2 (fun i=>x.2.length - i) 0 (Nat.zero_le _) ?_ ?_
 · have e0:x.2.take 0=[]:=rfl
   have e1:x.2.drop 0=x.2:=rfl
   repeat' (first|(with_reducible refine Unf.h ?_)|((conv=>whnf);first|(refine Side.mk ?_ ?_;focus (first|with_reducible rfl|assumption|(refine congrArg (SV.int _) ?_;omega)|(simp only [*,e0,e1];done)))|(with_reducible refine Unf.h ?_)|exact True.intro)|fail);all_goals try (conv=>whnf);all_goals try (exfalso;omega)
 · intro i hi
   have hi:i≤x.2.length:=hi;rcases Nat.lt_or_ge i x.2.length with h|h
   · obtain ⟨r,hri⟩:∃ r,x.2[i]=r:=⟨_,rfl⟩
     have hrm:r∈x.2:=hri▸List.getElem_mem _;have hrk:=hx.r r hrm;have hlr:=hlv r hrm;have hdr:x.2.drop i=r::x.2.drop (i+1):=by rw [List.drop_eq_getElem_cons h,hri]
     have htk:x.2.take (i+1)=x.2.take i++[r]:=by rw [List.take_succ_eq_append_getElem h,hri]
     have hzl:(flB (x.2.drop (i+1))).length≤212*20:=by
       have:=flB_len (l:=x.2.drop (i+1)) fun r hr=>hx.r r (List.mem_of_mem_drop hr)
       rw [List.length_drop] at this;omega
     generalize hz:flB (x.2.drop (i+1))=z at *;have efl:flB (x.2.drop i)=beN 4 (BitVec.ofInt 64 r.1.1)++(beN 4 (BitVec.ofInt 64 r.1.2)++(strB r.2.1++(strB r.2.2++z))):=by
       rw [hdr,flB_cons,hz];unfold reqB;simp only [List.append_assoc]
     have hl1:=hrk.l;have hl2:=hrk.v;have hs2:(strB r.2.2++z).length≤5000:=by rw [List.length_append,strB_len];omega
     have hs1:(strB r.2.1++(strB r.2.2++z)).length≤6000:=by rw [List.length_append,strB_len];omega
     have k1:qi32_c.pre (r.1.1,beN 4 (BitVec.ofInt 64 r.1.2)++(strB r.2.1++(strB r.2.2++z))):=by
       show (beN 4 (BitVec.ofInt 64 r.1.2)++(strB r.2.1++(strB r.2.2++z))).length≤900000;rw [beL];omega
     have k2:qi32_c.pre (r.1.2,strB r.2.1++(strB r.2.2++z)):=by
       show (strB r.2.1++(strB r.2.2++z)).length≤900000;omega
     have k3:qst_c.pre (r.2.1,strB r.2.2++z,32):=⟨by omega,by omega,by omega,hlr.1⟩
     have k4:qst_c.pre (r.2.2,z,64):=⟨by omega,by omega,by omega,hlr.2⟩
     have ef:=u32_int hrk.f0 hrk.f1;have eq:=u32_int hrk.q0 hrk.q1;have g1:=hrk.f1;have g2:=hrk.q1;clear hfl hrl h1 h2 h3 er hlv hx;rw [efl]
     repeat' (first|(with_reducible refine Unf.h ?_)|((conv=>whnf);refine Fork.mk (fun h=>?_) (fun h=>?_))|fail);all_goals try (conv=>whnf);all_goals try (exfalso;omega)
     refine CallS.mk (c:=qi32_c) ((r.1.1,beN 4 (BitVec.ofInt 64 r.1.2)++(strB r.2.1++(strB r.2.2++z)))) ?_
     repeat' (first|(with_reducible refine Unf.h ?_)|((conv=>whnf);first|(refine Side.mk ?_ ?_;focus (first|with_reducible rfl|assumption))|refine Got.mk (fun _ _=>?_))|fail);all_goals try (conv=>whnf);all_goals try (exfalso;omega)
     refine CallS.mk (c:=qi32_c) ((r.1.2,strB r.2.1++(strB r.2.2++z))) ?_
     repeat' (first|(with_reducible refine Unf.h ?_)|((conv=>whnf);first|(refine Side.mk ?_ ?_;focus (first|with_reducible rfl|assumption))|refine Got.mk (fun _ _=>?_))|fail);all_goals try (conv=>whnf);all_goals try (exfalso;omega)
     refine CallS.mk (c:=qst_c) ((r.2.1,strB r.2.2++z,32)) ?_
     repeat' (first|(with_reducible refine Unf.h ?_)|((conv=>whnf);first|(refine Side.mk ?_ ?_;focus (first|with_reducible rfl|assumption|(refine congrArg (SV.int _) ?_;omega)))|refine Got.mk (fun _ _=>?_))|fail);all_goals try (conv=>whnf);all_goals try (exfalso;omega)
     refine CallS.mk (c:=qst_c) ((r.2.2,z,64)) ?_
     repeat' (first|(with_reducible refine Unf.h ?_)|((conv=>whnf);first|refine Fork.mk (fun h=>?_) (fun h=>?_)|(refine Side.mk ?_ ?_;focus (first|with_reducible rfl|assumption|(refine congrArg (SV.int _) ?_;omega)))|refine Got.mk (fun _ _=>?_))|fail);all_goals try (conv=>whnf);all_goals try (exfalso;omega)
     refine Ex.mk [r] (by rw [ef,eq];rfl) ?_
     repeat' (first|(with_reducible first|refine Unf.h ?_|refine loopK_n ?_)|((conv=>whnf);(refine Side.mk ?_ ?_;focus ((intros;(try simp only [lenS,inR,cutS,loI,hiI] at *);omega))))|fail);all_goals try (conv=>whnf);all_goals try (exfalso;omega)
     refine ⟨i+1,⟨by omega,by omega⟩,?_⟩
     rw [htk,hz]
     repeat' (first|(with_reducible refine Unf.h ?_)|((conv=>whnf);first|(refine Side.mk ?_ ?_;focus (first|with_reducible rfl|(refine congrArg (SV.int _) ?_;omega)))|(with_reducible refine Unf.h ?_)|exact True.intro)|fail);all_goals try (conv=>whnf);all_goals try (exfalso;omega)
   · have e0:x.2.take i=x.2:=List.take_of_length_le h
     have e1:flB (x.2.drop i)=[]:=by rw [List.drop_of_length_le h];rfl
     rw [e0,e1]
     repeat' (first|(with_reducible refine Unf.h ?_)|((conv=>whnf);refine Fork.mk (fun h=>?_) (fun h=>?_))|fail);all_goals try (conv=>whnf);all_goals try (exfalso;omega)
     refine CallS.mk (c:=rdn_c) (([]:Bs)) ?_
     repeat' (first|(with_reducible refine Unf.h ?_)|((conv=>whnf);first|(refine Side.mk ?_ ?_;focus (first|with_reducible rfl|exact True.intro|(simp [*];done)))|refine RetE.mk () trivial ?_|refine Got.mk (fun _ _=>?_)|refine retK_r ?_|exact rfl)|fail);all_goals try (conv=>whnf);all_goals try (exfalso;omega)
end Go.Proofs.YtfljmihdeimahaaGreatDoor
namespace Go.Proofs.YtfljmihdeimahaaGreatDoor
set_option linter.all false
open Go.RowKit
abbrev rdB (l:Bs) (b:Bool):SO:=.box 193 [.fs 1 eB l,.bool b]
abbrev gdR (r:Rq):Prop:=r.2.1.length≤32∧r.2.2.length≤64
def dcdX_c:Ctr where
 D:=Sl20
 pre:=fun x=>SlOk x∧¬ okD x.2
 args:=fun x=>[.fs 1 eB (recB x)]
 E:=List Rq
 res:=fun x l=>.tup [.int .i64 x.1,.fs 4 eRq l,.bool false]
def dcdX_H:Cfg:=⟨[(41,rnew_c),(43,qi32_c),(103,qct_c),(103,qctX_c),(75,qst_c),(75,qstX_c),(43,xu32_c),(75,xst_c),(44,rdn_c),(44,xdn_c)],[],[],[],49,0,[],[],[]⟩
set_option maxHeartbeats 4000000 in
theorem dcdX_ok:dcdX_c.Ok Tryz.prog 65:=by
 refine fn_ok dcdX_H 0 rfl _ Tryz.func65 rfl rfl ⟨rnew_ok,qi32_ok,qct_ok,qctX_ok,qst_ok,qstX_ok,xu32_ok,xst_ok,rdn_ok,xdn_ok,trivial⟩ rfl rfl (by kernel_rfl) (fun _=>nlb rfl) ?_
 intro (x:Sl20) hp hr
 try dsimp only [dcdX_c] at hp
 try simp only [dcdX_c,Rng,RngL,inR,and_true,true_and] at hr
 obtain ⟨hx,hno⟩:=hp;have hfl:=flB_len hx.r;have hrl:=(recB_len hx).2;have hn20:=hx.n;have h1:rnew_c.pre (recB x):=by show (recB x).length≤1000000;omega
 have h2:qi32_c.pre (x.1,beN 2 (BitVec.ofInt 64 (x.2.length:Int))++flB x.2):=by
   show (beN 2 (BitVec.ofInt 64 (x.2.length:Int))++flB x.2).length≤900000;rw [beL];omega
 have et:=u32_int hx.t0 hx.t1;have er:recB x=beN 4 (BitVec.ofInt 64 x.1)++(beN 2 (BitVec.ofInt 64 (x.2.length:Int))++flB x.2):=rfl;rcases Nat.lt_or_ge 16 x.2.length with h16|h16
 · have h3:qctX_c.pre (x.2.length,flB x.2,16):=⟨h16,by omega,by omega⟩
   clear hno hx
   repeat' (first|(with_reducible refine Unf.h ?_)|fail);all_goals try (conv=>whnf);all_goals try (exfalso;omega)
   refine CallS.mk (c:=rnew_c) ((recB x)) ?_;rw [er]
   repeat' (first|(with_reducible refine Unf.h ?_)|((conv=>whnf);first|(refine Side.mk ?_ ?_;focus (first|with_reducible rfl|assumption))|refine Got.mk (fun _ _=>?_))|fail);all_goals try (conv=>whnf);all_goals try (exfalso;omega)
   refine Or2.l (CallS.mk (c:=qi32_c) ((x.1,beN 2 (BitVec.ofInt 64 (x.2.length:Int))++flB x.2)) ?_)
   repeat' (first|(with_reducible refine Unf.h ?_)|((conv=>whnf);first|(refine Side.mk ?_ ?_;focus (first|with_reducible rfl|assumption))|refine Got.mk (fun _ _=>?_))|fail);all_goals try (conv=>whnf);all_goals try (exfalso;omega)
   refine Or2.r (CallS.mk (c:=qctX_c) ((x.2.length,flB x.2,16)) ?_)
   repeat' (first|(with_reducible refine Unf.h ?_)|((conv=>whnf);first|(refine Side.mk ?_ ?_;focus (first|with_reducible rfl|assumption|(refine congrArg (SV.int _) ?_;omega)))|refine Got.mk (fun _ _=>?_))|fail);all_goals try (conv=>whnf);all_goals try (exfalso;omega)
   refine LoopS.autoN (I:=Unit) (fun _=>True) (fun _=>[(16,.int .i64 0),(7,.nils)]) (fun _=>[(0,rdX (beN 2 (BitVec.ofInt 64 (x.2.length:Int))++flB x.2))]) 1 (fun _=>0) () trivial ?_ ?_
   · repeat' (first|(with_reducible refine Unf.h ?_)|((conv=>whnf);first|(refine Side.mk ?_ ?_;focus (with_reducible rfl))|(with_reducible refine Unf.h ?_)|exact True.intro)|fail);all_goals try (conv=>whnf);all_goals try (exfalso;omega)
   · intro _ _
     repeat' (first|(with_reducible refine Unf.h ?_)|((conv=>whnf);refine Fork.mk (fun h=>?_) (fun h=>?_))|fail);all_goals try (conv=>whnf);all_goals try (exfalso;omega)
     refine Or2.r (CallS.mk (c:=xdn_c) ((beN 2 (BitVec.ofInt 64 (x.2.length:Int))++flB x.2)) ?_)
     repeat' (first|(with_reducible refine Unf.h ?_)|((conv=>whnf);first|(refine Side.mk ?_ ?_;focus (first|with_reducible rfl|exact True.intro))|refine Got.mk (fun _ _=>?_)|refine retK_r ?_)|fail);all_goals try (conv=>whnf);all_goals try (exfalso;omega)
     refine RetE.mk (c:=dcdX_c) (d:=x) (show List Rq from []) trivial ?_
     repeat' (first|(with_reducible refine Unf.h ?_)|((conv=>whnf);first|(refine Side.mk ?_ ?_;focus (first|with_reducible rfl|(refine congrArg (SV.int _) ?_;omega)))|(with_reducible refine Unf.h ?_)|exact rfl)|fail);all_goals try (conv=>whnf);all_goals try (exfalso;omega)
 · have h3:qct_c.pre (x.2.length,flB x.2,16):=⟨h16,by omega,by omega⟩
   have hbad:¬ ∀ r∈x.2,gdR r:=fun h=>hno ⟨h16,h⟩
   repeat' (first|(with_reducible refine Unf.h ?_)|fail);all_goals try (conv=>whnf);all_goals try (exfalso;omega)
   refine CallS.mk (c:=rnew_c) ((recB x)) ?_;rw [er]
   repeat' (first|(with_reducible refine Unf.h ?_)|((conv=>whnf);first|(refine Side.mk ?_ ?_;focus (first|with_reducible rfl|assumption))|refine Got.mk (fun _ _=>?_))|fail);all_goals try (conv=>whnf);all_goals try (exfalso;omega)
   refine Or2.l (CallS.mk (c:=qi32_c) ((x.1,beN 2 (BitVec.ofInt 64 (x.2.length:Int))++flB x.2)) ?_)
   repeat' (first|(with_reducible refine Unf.h ?_)|((conv=>whnf);first|(refine Side.mk ?_ ?_;focus (first|with_reducible rfl|assumption))|refine Got.mk (fun _ _=>?_))|fail);all_goals try (conv=>whnf);all_goals try (exfalso;omega)
   refine Or2.l (CallS.mk (c:=qct_c) ((x.2.length,flB x.2,16)) ?_)
   repeat' (first|(with_reducible refine Unf.h ?_)|((conv=>whnf);first|(refine Side.mk ?_ ?_;focus (first|with_reducible rfl|assumption|(refine congrArg (SV.int _) ?_;omega)))|refine Got.mk (fun _ _=>?_))|fail);all_goals try (conv=>whnf);all_goals try (exfalso;omega)
   clear h1 h2 h3 er hrl hno;refine LoopS.mk (I:=Nat×Bool×Bs×List Rq) (fun s=>s.1≤x.2.length∧s.2.2.2.length≤16*s.1∧s.2.2.1.length≤900000∧(s.2.1=false→s.2.2.1=flB (x.2.drop s.1)∧∀ r∈x.2.take s.1,gdR r)) (fun s=>[(16,.int .i64 (s.1:Int)),(15,.int .i64 (x.2.length:Int)),(5,.ptr 0 0),(6,.int .i64 x.1),(7,.own 1),(2,.int .i64 0),(3,.nils),(4,.bool false)]) (fun s=>[(0,rdB s.2.2.1 s.2.1),(1,.row 182 4 eRq s.2.2.2)]) 2 (fun s=>x.2.length - s.1) (0,false,flB x.2,[]) ⟨Nat.zero_le _,by simp,by show (flB x.2).length≤900000;omega,fun _=>⟨rfl,fun r hr=>by simp at hr⟩⟩ ?_ ?_
   · repeat' (first|(with_reducible refine Unf.h ?_)|((conv=>whnf);first|(refine Side.mk ?_ ?_;focus (first|with_reducible rfl|(refine congrArg (SV.int _) ?_;omega)))|(with_reducible refine Unf.h ?_)|exact True.intro)|fail);all_goals try (conv=>whnf);all_goals try (exfalso;omega)
   · rintro ⟨i,b,bs,l⟩ ⟨hi,hll,hbl,hb⟩
     have hi:i≤x.2.length:=hi;have hll:l.length≤16*i:=hll;have hbl:bs.length≤900000:=hbl;rcases Nat.lt_or_ge i x.2.length with h|h
     · cases b with
       | true =>
         clear hb hx hfl;have e0:((0#32).toNat:Int)=0:=rfl
         repeat' (first|(with_reducible refine Unf.h ?_)|((conv=>whnf);refine Fork.mk (fun h=>?_) (fun h=>?_))|fail);all_goals try (conv=>whnf);all_goals try (exfalso;omega)
         refine Or2.r (CallS.mk (c:=xu32_c) (bs) ?_)
         repeat' (first|(with_reducible refine Unf.h ?_)|((conv=>whnf);first|(refine Side.mk ?_ ?_;focus (first|with_reducible rfl|exact True.intro))|refine Got.mk (fun _ _=>?_))|fail);all_goals try (conv=>whnf);all_goals try (exfalso;omega)
         refine Or2.r (CallS.mk (c:=xu32_c) (bs) ?_)
         repeat' (first|(with_reducible refine Unf.h ?_)|((conv=>whnf);first|(refine Side.mk ?_ ?_;focus (first|with_reducible rfl|exact True.intro))|refine Got.mk (fun _ _=>?_))|fail);all_goals try (conv=>whnf);all_goals try (exfalso;omega)
         refine Or2.r (Or2.r (CallS.mk (c:=xst_c) ((bs,32)) ?_))
         repeat' (first|(with_reducible refine Unf.h ?_)|((conv=>whnf);first|(refine Side.mk ?_ ?_;focus (first|with_reducible rfl|exact True.intro))|refine Got.mk (fun _ _=>?_))|fail);all_goals try (conv=>whnf);all_goals try (exfalso;omega)
         refine Or2.r (Or2.r (CallS.mk (c:=xst_c) ((bs,64)) ?_))
         repeat' (first|(with_reducible refine Unf.h ?_)|((conv=>whnf);first|refine Fork.mk (fun h=>?_) (fun h=>?_)|(refine Side.mk ?_ ?_;focus (first|with_reducible rfl|exact True.intro))|refine Got.mk (fun _ _=>?_))|fail);all_goals try (conv=>whnf);all_goals try (exfalso;omega)
         refine Ex.mk [((0,0),([],[]))] rfl ?_
         repeat' (first|(with_reducible first|refine Unf.h ?_|refine loopK_n ?_)|((conv=>whnf);(refine Side.mk ?_ ?_;focus ((intros;(try simp only [lenS,inR,cutS,loI,hiI] at *);omega))))|fail);all_goals try (conv=>whnf);all_goals try (exfalso;omega)
         refine ⟨(i+1,true,bs,l++[((0,0),([],[]))]),⟨by dsimp only;omega,by dsimp only;omega,by rw [List.length_append];simp;omega,hbl,fun h=>by cases h⟩,?_⟩
         repeat' (first|(with_reducible refine Unf.h ?_)|((conv=>whnf);first|(refine Side.mk ?_ ?_;focus (first|with_reducible rfl|(refine congrArg (SV.int _) ?_;omega)))|(with_reducible refine Unf.h ?_)|exact True.intro)|fail);all_goals try (conv=>whnf);all_goals try (exfalso;omega)
       | false =>
         obtain ⟨hbs,hgood⟩:=hb rfl;have hbs:bs=flB (x.2.drop i):=hbs;have hgood:∀ r∈x.2.take i,gdR r:=hgood;obtain ⟨r,hri⟩:∃ r,x.2[i]=r:=⟨_,rfl⟩;have hrm:r∈x.2:=hri▸List.getElem_mem _;have hrk:=hx.r r hrm;have hdr:x.2.drop i=r::x.2.drop (i+1):=by rw [List.drop_eq_getElem_cons h,hri]
         have htk:x.2.take (i+1)=x.2.take i++[r]:=by rw [List.take_succ_eq_append_getElem h,hri]
         have hzl:(flB (x.2.drop (i+1))).length≤212*20:=by
           have:=flB_len (l:=x.2.drop (i+1)) fun r hr=>hx.r r (List.mem_of_mem_drop hr)
           rw [List.length_drop] at this;omega
         obtain ⟨z,hz⟩:∃ z,flB (x.2.drop (i+1))=z:=⟨_,rfl⟩;rw [hz] at hzl;have efl:bs=beN 4 (BitVec.ofInt 64 r.1.1)++(beN 4 (BitVec.ofInt 64 r.1.2)++(strB r.2.1++(strB r.2.2++z))):=by
           rw [hbs,hdr,flB_cons,hz];unfold reqB;simp only [List.append_assoc]
         have hl1:=hrk.l;have hl2:=hrk.v;have hs2:(strB r.2.2++z).length≤5000:=by rw [List.length_append,strB_len];omega
         have hs1:(strB r.2.1++(strB r.2.2++z)).length≤6000:=by rw [List.length_append,strB_len];omega
         have k1:qi32_c.pre (r.1.1,beN 4 (BitVec.ofInt 64 r.1.2)++(strB r.2.1++(strB r.2.2++z))):=by
           show (beN 4 (BitVec.ofInt 64 r.1.2)++(strB r.2.1++(strB r.2.2++z))).length≤900000;rw [beL];omega
         have k2:qi32_c.pre (r.1.2,strB r.2.1++(strB r.2.2++z)):=by
           show (strB r.2.1++(strB r.2.2++z)).length≤900000;omega
         have ef:=u32_int hrk.f0 hrk.f1;have eq:=u32_int hrk.q0 hrk.q1;have g1:=hrk.f1;have g2:=hrk.q1;clear hfl hx hbs hb;subst efl
         repeat' (first|(with_reducible refine Unf.h ?_)|((conv=>whnf);refine Fork.mk (fun h=>?_) (fun h=>?_))|fail);all_goals try (conv=>whnf);all_goals try (exfalso;omega)
         refine Or2.l (CallS.mk (c:=qi32_c) ((r.1.1,beN 4 (BitVec.ofInt 64 r.1.2)++(strB r.2.1++(strB r.2.2++z)))) ?_)
         repeat' (first|(with_reducible refine Unf.h ?_)|((conv=>whnf);first|(refine Side.mk ?_ ?_;focus (first|with_reducible rfl|assumption))|refine Got.mk (fun _ _=>?_))|fail);all_goals try (conv=>whnf);all_goals try (exfalso;omega)
         refine Or2.l (CallS.mk (c:=qi32_c) ((r.1.2,strB r.2.1++(strB r.2.2++z))) ?_)
         repeat' (first|(with_reducible refine Unf.h ?_)|((conv=>whnf);first|(refine Side.mk ?_ ?_;focus (first|with_reducible rfl|assumption))|refine Got.mk (fun _ _=>?_))|fail);all_goals try (conv=>whnf);all_goals try (exfalso;omega)
         clear k1 k2;rcases Nat.lt_or_ge 32 r.2.1.length with h32|h32
         · have k3:qstX_c.pre (r.2.1,strB r.2.2++z,32):=⟨by omega,by omega,by omega,h32⟩
           refine Or2.r (Or2.l (CallS.mk (c:=qstX_c) ((r.2.1,strB r.2.2++z,32)) ?_))
           repeat' (first|(with_reducible refine Unf.h ?_)|((conv=>whnf);first|(refine Side.mk ?_ ?_;focus (first|with_reducible rfl|assumption|(refine congrArg (SV.int _) ?_;omega)))|refine Got.mk (fun _ _=>?_))|fail);all_goals try (conv=>whnf);all_goals try (exfalso;omega)
           refine Or2.r (Or2.r (CallS.mk (c:=xst_c) ((strB r.2.1++(strB r.2.2++z),64)) ?_))
           repeat' (first|(with_reducible refine Unf.h ?_)|((conv=>whnf);first|refine Fork.mk (fun h=>?_) (fun h=>?_)|(refine Side.mk ?_ ?_;focus (first|with_reducible rfl|exact True.intro))|refine Got.mk (fun _ _=>?_))|fail);all_goals try (conv=>whnf);all_goals try (exfalso;omega)
           refine Ex.mk [((r.1.1,r.1.2),([],[]))] (by rw [ef,eq];rfl) ?_
           repeat' (first|(with_reducible first|refine Unf.h ?_|refine loopK_n ?_)|((conv=>whnf);(refine Side.mk ?_ ?_;focus ((intros;(try simp only [lenS,inR,cutS,loI,hiI] at *);omega))))|fail);all_goals try (conv=>whnf);all_goals try (exfalso;omega)
           refine ⟨(i+1,true,strB r.2.1++(strB r.2.2++z),l++[((r.1.1,r.1.2),([],[]))]),⟨by dsimp only;omega,by dsimp only;omega,by rw [List.length_append];simp;omega,by show (strB r.2.1++(strB r.2.2++z)).length≤900000;omega,fun h=>by cases h⟩,?_⟩
           repeat' (first|(with_reducible refine Unf.h ?_)|((conv=>whnf);first|(refine Side.mk ?_ ?_;focus (first|with_reducible rfl|(refine congrArg (SV.int _) ?_;omega)))|(with_reducible refine Unf.h ?_)|exact True.intro)|fail);all_goals try (conv=>whnf);all_goals try (exfalso;omega)
         · have k3:qst_c.pre (r.2.1,strB r.2.2++z,32):=⟨by omega,by omega,by omega,h32⟩
           refine Or2.l (CallS.mk (c:=qst_c) ((r.2.1,strB r.2.2++z,32)) ?_)
           repeat' (first|(with_reducible refine Unf.h ?_)|((conv=>whnf);first|(refine Side.mk ?_ ?_;focus (first|with_reducible rfl|assumption|(refine congrArg (SV.int _) ?_;omega)))|refine Got.mk (fun _ _=>?_))|fail);all_goals try (conv=>whnf);all_goals try (exfalso;omega)
           rcases Nat.lt_or_ge 64 r.2.2.length with h64|h64
           · have k4:qstX_c.pre (r.2.2,z,64):=⟨by omega,by omega,by omega,h64⟩
             refine Or2.r (Or2.l (CallS.mk (c:=qstX_c) ((r.2.2,z,64)) ?_))
             repeat' (first|(with_reducible refine Unf.h ?_)|((conv=>whnf);first|refine Fork.mk (fun h=>?_) (fun h=>?_)|(refine Side.mk ?_ ?_;focus (first|with_reducible rfl|assumption|(refine congrArg (SV.int _) ?_;omega)))|refine Got.mk (fun _ _=>?_))|fail);all_goals try (conv=>whnf);all_goals try (exfalso;omega)
             refine Ex.mk [((r.1.1,r.1.2),(r.2.1,[]))] (by rw [ef,eq];rfl) ?_
             repeat' (first|(with_reducible first|refine Unf.h ?_|refine loopK_n ?_)|((conv=>whnf);(refine Side.mk ?_ ?_;focus ((intros;(try simp only [lenS,inR,cutS,loI,hiI] at *);omega))))|fail);all_goals try (conv=>whnf);all_goals try (exfalso;omega)
             refine ⟨(i+1,true,strB r.2.2++z,l++[((r.1.1,r.1.2),(r.2.1,[]))]),⟨by dsimp only;omega,by dsimp only;omega,by rw [List.length_append];simp;omega,by show (strB r.2.2++z).length≤900000;omega,fun h=>by cases h⟩,?_⟩
             repeat' (first|(with_reducible refine Unf.h ?_)|((conv=>whnf);first|(refine Side.mk ?_ ?_;focus (first|with_reducible rfl|(refine congrArg (SV.int _) ?_;omega)))|(with_reducible refine Unf.h ?_)|exact True.intro)|fail);all_goals try (conv=>whnf);all_goals try (exfalso;omega)
           · have k4:qst_c.pre (r.2.2,z,64):=⟨by omega,by omega,by omega,h64⟩
             refine Or2.l (CallS.mk (c:=qst_c) ((r.2.2,z,64)) ?_)
             repeat' (first|(with_reducible refine Unf.h ?_)|((conv=>whnf);first|refine Fork.mk (fun h=>?_) (fun h=>?_)|(refine Side.mk ?_ ?_;focus (first|with_reducible rfl|assumption|(refine congrArg (SV.int _) ?_;omega)))|refine Got.mk (fun _ _=>?_))|fail);all_goals try (conv=>whnf);all_goals try (exfalso;omega)
             refine Ex.mk [r] (by rw [ef,eq];rfl) ?_
             repeat' (first|(with_reducible first|refine Unf.h ?_|refine loopK_n ?_)|((conv=>whnf);(refine Side.mk ?_ ?_;focus ((intros;(try simp only [lenS,inR,cutS,loI,hiI] at *);omega))))|fail);all_goals try (conv=>whnf);all_goals try (exfalso;omega)
             refine ⟨(i+1,false,z,l++[r]),⟨by dsimp only;omega,by dsimp only;omega,by rw [List.length_append];simp;omega,by show z.length≤900000;omega,fun _=>⟨hz.symm,fun w hw=>?_⟩⟩,?_⟩
             · have hw:w∈x.2.take (i+1):=hw
               rw [htk] at hw;rcases List.mem_append.1 hw with hw|hw
               · exact hgood w hw
               · obtain rfl:=List.mem_singleton.1 hw;exact ⟨h32,h64⟩
             · repeat' (first|(with_reducible refine Unf.h ?_)|((conv=>whnf);first|(refine Side.mk ?_ ?_;focus (first|with_reducible rfl|(refine congrArg (SV.int _) ?_;omega)))|(with_reducible refine Unf.h ?_)|exact True.intro)|fail);all_goals try (conv=>whnf);all_goals try (exfalso;omega)
     · cases b with
       | true =>
         repeat' (first|(with_reducible refine Unf.h ?_)|((conv=>whnf);refine Fork.mk (fun h=>?_) (fun h=>?_))|fail);all_goals try (conv=>whnf);all_goals try (exfalso;omega)
         refine Or2.r (CallS.mk (c:=xdn_c) (bs) ?_)
         repeat' (first|(with_reducible refine Unf.h ?_)|((conv=>whnf);first|(refine Side.mk ?_ ?_;focus (first|with_reducible rfl|exact True.intro))|refine Got.mk (fun _ _=>?_)|refine retK_r ?_)|fail);all_goals try (conv=>whnf);all_goals try (exfalso;omega)
         refine RetE.mk (c:=dcdX_c) (d:=x) (show List Rq from l) trivial ?_
         repeat' (first|(with_reducible refine Unf.h ?_)|((conv=>whnf);first|(refine Side.mk ?_ ?_;focus (with_reducible rfl))|(with_reducible refine Unf.h ?_)|exact rfl)|fail);all_goals try (conv=>whnf);all_goals try (exfalso;omega)
       | false =>
         have hgood:=(hb rfl).2;have e0:x.2.take i=x.2:=List.take_of_length_le h;have hgood:∀ r∈x.2.take i,gdR r:=hgood;rw [e0] at hgood;exact absurd hgood hbad
end Go.Proofs.YtfljmihdeimahaaGreatDoor
namespace Go.Proofs.YtfljmihdeimahaaGreatDoor
set_option linter.all false
open Go.RowKit
structure MHd where
 a0:Int
 a1:Int
 a2:Vector (BitVec 8) 32
 a3:Vector (BitVec 8) 32
structure Sgd where
 a0:MHd
 a1:List (BitVec 8)
structure Trl where
 a0:List (Vector (BitVec 8) 32)
 a1:List (Vector (BitVec 8) 32)
structure Pfz where
 a0:Int
 a1:Vector (BitVec 8) 32
structure Stpz where
 a0:Pfz
 a1:Vector (BitVec 8) 32
structure Prfz where
 a0:List Stpz
 a1:Int
 a2:Vector (BitVec 8) 32
 a3:Vector (BitVec 8) 32
 a4:Pfz
 a5:Vector (BitVec 8) 32
 a6:Vector (BitVec 8) 32
structure MVer where
 a0:Int
 a1:Int
 a2:Vector (BitVec 8) 32
 a3:Vector (BitVec 8) 32
 a4:List (BitVec 8)
structure Drow where
 a0:Bool
 a1:Vector (BitVec 8) 32
 a2:Vector (BitVec 8) 32
 a3:Pfz
 a4:Vector (BitVec 8) 32
 a5:Vector (BitVec 8) 32
structure MNws where
 a0:List (BitVec 8)
 a1:MVer
structure Msg where
 a0:Int
 a1:Int
 a2:Int
 a3:Int
 a4:Int
 a5:Int
 a6:Int
 a7:List (BitVec 8)
 a8:List (BitVec 8)
 a9:Sgd
 a10:Trl
 a11:Trl
 a12:Vector (BitVec 8) 32
 a13:Prfz
 a14:List MVer
 a15:List Drow
 a16:List MNws
 a17:List (Vector (BitVec 8) 32)
structure Ses where
 number:Int
 pub:List (BitVec 8)
 age:Int
 trusted:MHd
 floor:Int
 asked:Int
 opn:Bool
 last:Msg
theorem Ctr.Ok.kept {P:Program} [TabC P] {f:Nat} {c:Ctr} (h:c.Ok P f) (ho:∀ d,c.objs d=[]):({ c with kp:=true }:Ctr).Ok P f:=by
 intro d hpre A0 w σ vs hA hobs hargs hdom hgl;refine (h d hpre A0 w σ vs hA hobs hargs hdom hgl).mono ?_;rintro en w' ⟨e',v,σ',rfl,hpost,hsame,hdom',hres,hm,hobs',hnew⟩;refine ⟨e',v,σ',rfl,hpost,hsame,hdom',hres,hm.mono fun b hb=>?_,hobs',hnew⟩
 have:=hb.2
 rw [ho d] at this;exact this.elim
def lendS (nx:Nat):SV→Bool
 | .ptr o _=>Nat.blt o nx
 | .own o=>Nat.blt o nx
 | .agg ps=>flatL ps
 | s=>flatS s
def lendOk (nx:Nat) (e:Env):Env→Prop
 | []=>True
 | (t,s)::r=>lk e t=some s∧lendS nx s=true∧lendOk nx e r
theorem lendOk_spec {nx:Nat} {e:Env}:∀ {L:Env},lendOk nx e L→∀ t s,lk L t=some s→lk e t=some s∧lendS nx s=true
 | [],_,t,s,h=>by simp [lk] at h
 | (u,x)::r,⟨h1,h2,h3⟩,t,s,h=>by
   unfold lk at h
   split at h
   · rename_i hb
     obtain rfl:=Nat.eq_of_beq_eq_true hb
     cases h
     exact ⟨h1,h2⟩
   · exact lendOk_spec h3 t s h
theorem lendS_hv {nx:Nat} {s:SV} (hs:lendS nx s=true) {w w':World} {A A':Own} {σ σ':Sg} {v:Value} (hb:∀ k,k<nx→∀ v,σ' k=some v→σ k=some v) (h:s.hv w' A' σ' v):s.hv w A σ v:=by
 cases s with
 | ptr o off =>
   have hlt:o<nx:=by simpa [lendS,Nat.blt_eq] using hs
   simp only [SV.hv,SV.h1,SV.hc,List.cons.injEq,and_true] at h ⊢;obtain ⟨b,c,h1,h2⟩:=h;exact ⟨b,c,hb o hlt _ h1,h2⟩
 | own o =>
   have hlt:o<nx:=by simpa [lendS,Nat.blt_eq] using hs
   simp only [SV.hv,SV.h1,SV.hc,List.cons.injEq,and_true] at h ⊢;obtain ⟨u,h1,h2,h3⟩:=h;exact ⟨u,hb o hlt _ h1,h2,h3⟩
 | agg ps =>
   obtain ⟨cs,h1,h2⟩:=h;exact ⟨cs,h1,flatL_hL hs h2⟩
 | tup vs=>simp [lendS,flatS] at hs
 | undef=>simp [lendS,flatS] at hs
 | rptr o q z off=>simp [lendS,flatS] at hs
 | cptr o off q=>simp [lendS,flatS] at hs
 | bsl o off lo hi=>simp [lendS,flatS] at hs
 | fs z enc xs=>simp [lendS,flatS] at hs
 | fpt ps=>simp [lendS,flatS] at hs
 | arrG z enc xs=>simp [lendS,flatS] at hs
 | _=>(simp only [SV.hv,SV.h1] at h ⊢;exact flatS_hc rfl h)
section
variable {P:Program} [TabC P] {S:Sig} {σ:Sg} {env:Env} {objs:List Ob} {nx:Nat} {a:Act} {w:World}
theorem St.back {σ1:Sg} {e1:Env} {o1:List Ob} {n1:Nat} {a1:Act} {w1:World} {S1:Sig} {L:Env} (h:St P S σ env objs nx a w) (h1:St P S1 σ1 e1 o1 n1 a1 w1) (hn:S1.n=S.n) (hd:S1.ds=S.ds) (hs:S1.s0=σ) (hnn:S1.nn=nx) (hk:Kept w w1) (hl:lendOk nx e1 L):St P S σ L objs nx a1 w1:=by
 have hlat:Later w (S.A σ objs) w1 (S.A σ objs):=hk.later _ fun b _ hb=>hb
 refine { slots:=fun t s ht=>?_,dom:=h.dom,size:=by rw [h1.size,hn],defers:=by rw [h1.defers,hd],obs:=⟨fun o ho=>?_,h.obs.disj,fun b hb=>?_⟩,hist:=h.hist.step hk fun b hb=>hb.elim,own0:=h.own0,a0:=fun b hb=>?_,mks:=fun D hD=>?_,glob:=h.glob.later hlat,base:=h.base,nnx:=h.nnx }
 · obtain ⟨e1',e2⟩:=lendOk_spec hl t s ht
   exact lendS_hv e2 (fun k hk' v hv=>by have:=h1.base k (by rw [hnn];exact hk') v hv;rw [hs] at this;exact this) (h1.slots t s e1')
 · exact (h.obs.holds o ho).later hlat fun b hb=>hk.block b ((h.obs.lt b (owns_mem ho hb)).1) (fun x=>x)
 · have:=h.obs.lt b hb
   exact ⟨Nat.lt_of_lt_of_le this.1 hk.size,this.2⟩
 · exact Nat.lt_of_lt_of_le (h.a0 b hb) hk.size
 · obtain ⟨m1,m2⟩:=h.mks D hD
   refine ⟨m1,?_⟩;rw [hk.block D (Array.getElem?_eq_some_iff.1 m2).1 (fun x=>x)];exact m2
theorem OrdK.lend {H:Cfg} {all:List Oper} {o0:List Ob} {N:List Nat} {i j:Nat} {n1 n2:Bool} {r:Ord} {ph:Bool} {K:KS} (o1 o2:Oper) (L:Env) (h1:opAt all i=some o1) (g1:o1.guard=none) (h2:opAt all j=some o2) (g2:o2.guard=none) (k1:keptB H.cs o1.op=true) (k2:keptB H.cs o2.op=true)
   (h:vcEff P H.cs H.n o1 env objs nx fun e o n=>vcEff P H.cs H.n o2 e o n fun e _ _=>lendOk nx e L∧OrdK P H all o0 N r false true K L objs nx):OrdK P H all o0 N (.one i 2 n1 (.one j 2 n2 r)) ph true K env objs nx:=⟨fun {S Q ops} hcs hn ha hN hK=>by
 subst ha;intro σ a w w0 e0 a0 hst0 hS hst hph hk
 let S1:Sig:={ S with s0:=σ,nn:=nx,w0:=w,M0:=fun _=>True }
 have hst1:St P S1 σ env objs nx a w:={ slots:=hst.slots,dom:=hst.dom,size:=hst.size,defers:=hst.defers,obs:=hst.obs,hist:=Mod.refl _ _,own0:=fun _ _=>.inl trivial,a0:=hst.a0,mks:=hst.mks,glob:=hst.glob,base:=fun k _ v hv=>hv,nnx:=Nat.le_refl _ }
 have hn1:H.n=S1.n:=hn;refine tree_loud h1 (by simp [Region.wanted,g1]) fun X hX=>?_
 rw [hn1] at h;refine vcEff_sound hcs h σ a w hst1 X Q fun σ2 e2 ob2 m2 a2 w2 h3 hst2 hk2=>hX _ _ ⟨fun _=>(hk rfl).trans ((hk2 k1).mono fun _ x=>x.elim),?_⟩
 refine tree_loud h2 (by simp [Region.wanted,g2]) fun Y hY=>?_
 refine vcEff_sound hcs h3 σ2 a2 w2 hst2 Y Q fun σ3 e3 ob3 m3 a3 w3 h4 hst3 hk3=>hY _ _ ?_
 have hkk:Kept w w3:=(hk2 k1).trans (hk3 k2);have hmm:Mod (MN S.s0 N) w0 w3:=(hk rfl).trans (hkk.mono fun _ x=>x.elim)
 exact ⟨fun _=>hmm,h4.2.h hcs hn rfl hN hK σ a3 w3 w0 e0 a0 hst0 hS (hst.back hst3 rfl rfl rfl rfl hkk h4.1) (fun e=>by cases e) (fun _=>hmm)⟩⟩
end
abbrev ID16:=Vector (BitVec 8) 16
def q4 (q:BitVec 32):Bs:=[(q >>> 24).setWidth 8,(q >>> 16).setWidth 8,(q >>> 8).setWidth 8,q.setWidth 8]
def undP (id:ID16) (q:BitVec 32) (i:Int):Bs:=id.toList++(q4 q++[BitVec.ofInt 8 (i / 256),BitVec.ofInt 8 i])
def undF (id:ID16) (q:BitVec 32) (i:Int) (ps:List Bs):H256:=sha (undP id q i++ps.flatten)
def und_c:Ctr where
 D:=ID16×BitVec 32×Int×List Bs
 pre:=fun (_,_,i,ps)=>0≤i∧i<65536∧ps.length≤10000∧∀ p∈ps,p.length≤10000
 args:=fun (id,q,i,ps)=>[.agg [.arr8 id],.u32 q,.int .i64 i,.fs 1 eP ps]
 res:=fun (id,q,i,ps) _=>.agg [.arr8 (undF id q i ps)]
def und_H:Cfg:=⟨[(63,sum_c)],[],[],[],47,0,[],[],[]⟩
theorem und_ok:und_c.Ok Tryz.prog 140:=by
 refine fn_ok und_H 0 rfl _ Tryz.func140 rfl rfl ⟨sum_ok,trivial⟩ rfl rfl (by kernel_rfl) (fun _=>nlb rfl) ?_
 rintro ⟨id,q,i,ps⟩ hp hr
 try dsimp only [und_c] at hp
 try simp only [und_c,Rng,RngL,inR,and_true,true_and] at hr
 obtain ⟨hp0,hp1,hp2,hp3⟩:=hp;have hp0:0≤i:=hp0;have hp1:i<65536:=hp1;have hp2:ps.length≤10000:=hp2;have hbd:∀ k,(ps.take k).flatten.length≤100000000:=fun k=>by
   have h1:=flatB (ps.take k) 10000 fun p hp=>hp3 p (List.mem_of_mem_take hp)
   have h2:(ps.take k).length≤ps.length:=by simp;omega
   omega
 have hid:List.drop (loI none).toNat (List.take (hiI 16 none).toNat (Vector.toList id))=id.toList:=by
   simp only [loI,hiI,Int.toNat_zero,List.drop_zero];exact List.take_of_length_le (by simp)
 have hq:(q4 q).length=4:=rfl;have hidl:id.toList.length=16:=by simp
 have hu:(undP id q i).length=22:=by simp [undP,q4]
 repeat' (first|(with_reducible refine Unf.h ?_)|((conv=>whnf);(refine Side.mk ?_ ?_;focus (first|exact True.intro|(dsimp only;omega)|(intros;(try simp only [lenS,inR,cutS,loI,hiI] at *);omega)|exact nnS (by decide))))|fail);all_goals try (conv=>whnf);all_goals try (exfalso;omega)
 refine Ex.mk (q4 q++[BitVec.ofInt 8 (i / 256),BitVec.ofInt 8 i]) rfl ?_
 repeat' (first|(with_reducible refine Unf.h ?_)|((conv=>whnf);(refine Side.mk ?_ ?_;focus ((intros;(try simp only [lenS,inR,cutS,loI,hiI,hid,hq,hidl] at *);omega))))|fail);all_goals try (conv=>whnf);all_goals try (exfalso;omega)
 refine LoopS.autoN (I:=Nat) (fun k=>k≤ps.length) (fun k=>[(37,.int .i64 (k:Int)),(9,.own 2)]) (fun k=>[(0,.box 158 [.arr8 id]),(1,.box 35 [.arr8 zeroH]),(2,.row 5 1 eB (undP id q i++(ps.take k).flatten))]) 3 (fun k=>ps.length - k) 0 (Nat.zero_le _) ?_ ?_
 · have e0:undP id q i++(ps.take 0).flatten=List.drop (loI none).toNat (List.take (hiI 16 none).toNat (Vector.toList id))++(q4 q++[BitVec.ofInt 8 (i / 256),BitVec.ofInt 8 i]):=by rw [hid];simp [undP]
   repeat' (first|(with_reducible refine Unf.h ?_)|((conv=>whnf);first|(refine Side.mk ?_ ?_;focus (first|with_reducible rfl|(refine congrArg (SV.int _) ?_;omega)|(simp only [*,e0];done)))|(with_reducible refine Unf.h ?_)|exact True.intro)|fail);all_goals try (conv=>whnf);all_goals try (exfalso;omega)
 · intro k hk
   have hbk:=hbd k;rcases Nat.lt_or_ge k ps.length with hkl|hkl
   · have hb:(ps[((k:Nat):Int).toNat]'hkl).length≤10000:=hp3 _ (List.getElem_mem _)
     have es:undP id q i++(ps.take (k+1)).flatten=undP id q i++(ps.take k).flatten++ps[((k:Nat):Int).toNat]'hkl:=by
       rw [flat_step ps k hkl,← List.append_assoc];rfl
     repeat' (first|(with_reducible first|refine Unf.h ?_|refine loopK_n ?_)|((conv=>whnf);first|refine Fork.mk (fun h=>?_) (fun h=>?_)|(refine Side.mk ?_ ?_;focus ((intros;(try simp only [lenS,inR,cutS,loI,hiI,eP] at *);omega)))|(refine Idx.mk ?_ ?_;focus (omega))|refine Ex.mk _ rfl ?_)|fail);all_goals try (conv=>whnf);all_goals try (exfalso;omega)
     refine ⟨k+1,⟨by omega,by omega⟩,?_⟩
     repeat' (first|(with_reducible refine Unf.h ?_)|((conv=>whnf);first|(refine Side.mk ?_ ?_;focus (first|with_reducible rfl|(refine congrArg (SV.int _) ?_;omega)|(simp only [*,es];done)))|(with_reducible refine Unf.h ?_)|exact True.intro)|fail);all_goals try (conv=>whnf);all_goals try (exfalso;omega)
   · have e:ps.take k=ps:=List.take_of_length_le (by omega)
     rw [e]
     repeat' (first|(with_reducible refine Unf.h ?_)|((conv=>whnf);refine Fork.mk (fun h=>?_) (fun h=>?_))|fail);all_goals try (conv=>whnf);all_goals try (exfalso;omega)
     refine CallS.mk (c:=sum_c) ((undP id q i++ps.flatten)) ?_
     repeat' (first|(with_reducible refine Unf.h ?_)|((conv=>whnf);first|(refine Side.mk ?_ ?_;focus (first|with_reducible rfl|exact True.intro|(simp only [*,undF];done)))|refine RetE.mk () trivial ?_|refine Got.mk (fun _ _=>?_)|refine retK_r ?_|exact rfl)|fail);all_goals try (conv=>whnf);all_goals try (exfalso;omega)
end Go.Proofs.YtfljmihdeimahaaGreatDoor
