/- Contracts of functions of the program,and the laws that stand on them: what each function answers,whatever its arguments. -/
import Derived.Test.YtiodgjgngfklkaaGreatDoorC1
import Derived.Test.YtiodgjgngfklkaaGreatDoorVw5
set_option linter.all false
set_option maxRecDepth 100000
set_option maxHeartbeats 8000000
namespace Go.Proofs.YtiodgjgngfklkaaGreatDoor
open Go Go.VA
def tyL:List ByteArray:=[{ data:= #[100,105,115,107] },{ data:= #[110,111,100,101] },{ data:= #[110,111,116,101] },{ data:= #[114,117,108,101] }]
theorem aTypes:ACall Tryz.prog gl 83 [] [] (.c (.sl false 1 4 (rS tyL))):=by
 refine acall_of_vc htb hmix (f:=83) rfl rfl rfl (by kernel_rfl) rfl rfl ?_; conv=>whnf
 repeat' (first|((with_reducible refine NilOr.l ?_); conv=>whnf)|((with_reducible refine OwnOr.l ?_); (conv=>whnf))|fail)
 exact leSl rfl (fun i hi=>by match i,hi with|0,_=>rfl|1,_=>rfl|2,_=>rfl|3,_=>rfl)
theorem aIdxS (t:Bool)(l:List ByteArray)(x:ByteArray):ACall Tryz.prog gl 111 [.c (.sl t 1 l.length (rS l)),.c (.v (.string x))] [] (intA .i64 (fidx (eqs x) l 0)):=by
 refine acall_of_vcb htb hmix (f:=111) rfl rfl rfl (by kernel_rfl) rfl rfl fun hb=> ?_; simp only [bndAll,AV.bnd,bnds,C.bnd,cVt,cS,true_and,and_true] at hb; conv=>whnf
 repeat' (fail)
 refine loopI Nat (fun c=>c≤l.length∧fidx (eqs x) (l.drop c) c=fidx (eqs x) l 0) (fun c=>[(8,intA .i64 c)]) (fun c=>[]) (fun c=>l.length-c) 0 ⟨Nat.zero_le _,rfl⟩ ?_ (fun _=>rfl) fun c ⟨hc,hR⟩=> ?_
 ·(refine And.intro ?_ (And.intro ?_ (And.intro ?_ rfl))<;>(conv=>whnf)<;>repeat' (first|exact trivial|exact LeE.of (Le.refl _)|(first|exact rfl|fail)|((with_reducible refine And.intro ?_ ?_)<;>conv=>whnf)))
 ·conv=>whnf
  repeat' (first|(refine And.intro (fun h=> ?_) (fun h=> ?_)<;>(first|(with_reducible have hd:_<_:=of_decide_eq_true h)|(with_reducible have hd:¬ (_<_):=of_decide_eq_false h)|skip)<;>conv=>whnf)|(refine And.intro ?_ ?_; (focus (first|(refine chainI ?_; (first|omega|fail))|fail)); conv=>whnf)|fail)
  ·have h1:c<l.length:=by omega
   have h:eqs x (l.getD c ByteArray.empty)=true:=h
   have e:l[c]? =some (l.getD c ByteArray.empty):=by rw [List.getD_eq_getElem?_getD,List.getElem?_eq_getElem h1]; rfl
   exact leI (by rw [← hR,drop_cons? e]; simp only [fidx]; rw [if_pos h])
  ·have h1:c<l.length:=by omega
   have h:eqs x (l.getD c ByteArray.empty)=false:=h
   have e:l[c]? =some (l.getD c ByteArray.empty):=by rw [List.getD_eq_getElem?_getD,List.getElem?_eq_getElem h1]; rfl
   refine ⟨c+1,⟨h1,?_⟩,?_,by show l.length-(c+1)<l.length-c; omega⟩
   ·rw [← hR,drop_cons? e]; simp only [fidx]; rw [if_neg (by rw [h]; simp)]
   ·(refine And.intro ?_ (And.intro ?_ (And.intro ?_ rfl))<;>(conv=>whnf)<;>repeat' (first|exact trivial|exact LeE.of (Le.refl _)|(with_reducible refine LeE.of ?_)|(first|exact rfl|exact leI (by first|rfl|(rw [wrap64 (by omega) (by omega)]; omega)|fail)|fail)|((with_reducible refine And.intro ?_ ?_)<;>conv=>whnf)))
  ·obtain rfl:c=l.length:=by omega
   exact leI (by rw [← hR,List.drop_length]; rfl)
theorem aConS (t:Bool)(l:List ByteArray)(x:ByteArray):ACall Tryz.prog gl 82 [.c (.sl t 1 l.length (rS l)),.c (.v (.string x))] [] (boolA (l.any (eqs x))):=by
 refine acall_of_vc htb hmix (f:=82) rfl rfl rfl (by kernel_rfl) rfl rfl ?_; conv=>whnf
 repeat' (first|(refine Exists.intro _ (And.intro (aIdxS _ _ _) ?_); conv=>whnf)|((with_reducible refine xc_pure ?_); conv=>whnf))
 exact leB (fidx_any _ _ _)
structure Rw where
 t:ByteArray
 n:ByteArray
 k:Int
 o:Int
 i:ByteArray
def tabR:List Rw:=[
 ⟨{ data:= #[100,105,115,107] },{ data:= #[105,100] },3,0,{ data:= #[99] }⟩,
 ⟨{ data:= #[100,105,115,107] },{ data:= #[107,105,110,100] },3,0,{ data:= #[97] }⟩,
 ⟨{ data:= #[100,105,115,107] },{ data:= #[108,97,98,101,108] },3,0,{ data:= #[] }⟩,
 ⟨{ data:= #[100,105,115,107] },{ data:= #[115,101,114,105,97,108] },2,0,{ data:= #[99] }⟩,
 ⟨{ data:= #[100,105,115,107] },{ data:= #[115,105,122,101] },2,0,{ data:= #[110] }⟩,
 ⟨{ data:= #[110,111,100,101] },{ data:= #[97,100,100,114] },3,0,{ data:= #[99] }⟩,
 ⟨{ data:= #[110,111,100,101] },{ data:= #[100,105,115,107] },3,0,{ data:= #[] }⟩,
 ⟨{ data:= #[110,111,100,101] },{ data:= #[105,100] },3,0,{ data:= #[99] }⟩,
 ⟨{ data:= #[110,111,100,101] },{ data:= #[105,109,97,103,101] },3,0,{ data:= #[110,97] }⟩,
 ⟨{ data:= #[110,111,100,101] },{ data:= #[112,111,114,116,115] },4,2,{ data:= #[] }⟩,
 ⟨{ data:= #[110,111,100,101] },{ data:= #[115,101,99,114,101,116] },3,0,{ data:= #[111] }⟩,
 ⟨{ data:= #[110,111,100,101] },{ data:= #[116,97,103,115] },5,3,{ data:= #[] }⟩,
 ⟨{ data:= #[110,111,116,101] },{ data:= #[105,100] },3,0,{ data:= #[99] }⟩,
 ⟨{ data:= #[110,111,116,101] },{ data:= #[109,101,116,97] },5,0,{ data:= #[] }⟩,
 ⟨{ data:= #[110,111,116,101] },{ data:= #[116,101,120,116] },3,0,{ data:= #[] }⟩,
 ⟨{ data:= #[114,117,108,101] },{ data:= #[97,108,108,111,119] },4,3,{ data:= #[] }⟩,
 ⟨{ data:= #[114,117,108,101] },{ data:= #[102,114,111,109] },3,0,{ data:= #[110] }⟩,
 ⟨{ data:= #[114,117,108,101] },{ data:= #[105,100] },3,0,{ data:= #[99] }⟩,
 ⟨{ data:= #[114,117,108,101] },{ data:= #[116,111] },3,0,{ data:= #[] }⟩]
def hasB (s:ByteArray) (c:Int):Bool:=(List.range s.size).any fun j=>byteN s j==c
structure Aw where
 n:ByteArray
 k:Int
 o:Int
 a:Bool
 b:Bool
 c:Bool
 d:Bool
def cAw (r:Aw):List C:=[.v (.string r.n),.v (.int .i64 r.k),.v (.int .i64 r.o),.v (.bool r.a),.v (.bool r.b),.v (.bool r.c),.v (.bool r.d)]
def aw0:Aw:=⟨ByteArray.empty,0,0,false,false,false,false⟩
abbrev rAw (l:List Aw):Nat→List C:=rowE cAw aw0 l
def awOf (r:Rw):Aw:=⟨r.n,r.k,r.o,hasB r.i 110,hasB r.i 99,hasB r.i 97,hasB r.i 111⟩
def atN (t:ByteArray) (c:Nat):List Aw:=((tabR.take c).filter fun r=>eqs r.t t).map awOf
theorem atN_le (t:ByteArray)(c:Nat):(atN t c).length≤c:=by
 unfold atN
 rw [List.length_map]
 exact Nat.le_trans (List.length_filter_le _ _) (by rw [List.length_take]; omega)
theorem ty_law (t:ByteArray):decide (((atN t 19).length:Int)>0)=tyL.any (eqs t):=by
 rw [Bool.eq_iff_iff,decide_eq_true_eq,List.any_eq_true]
 have hs:∀ x y:ByteArray,eqs x y=eqs y x:=fun x y=>by unfold eqs; exact Bool.beq_comm
 have h1:∀ x ∈ tyL,∃ r ∈ tabR,r.t=x:=by decide +kernel
 have h2:∀ r ∈ tabR,∃ x ∈ tyL,r.t=x:=by decide +kernel
 constructor
 ·intro h
  have h0:atN t 19≠[]:=fun e=>by rw [e] at h; simp at h
  obtain ⟨a,ha⟩:=List.exists_mem_of_ne_nil _ h0
  unfold atN at ha
  obtain ⟨r,hr,_⟩:=List.mem_map.1 ha
  obtain ⟨hr1,hr2⟩:=List.mem_filter.1 hr
  obtain ⟨x,hx,e⟩:=h2 r (List.mem_of_mem_take hr1)
  exact ⟨x,hx,by rw [hs,← e]; exact hr2⟩
 ·rintro ⟨x,hx,he⟩
  obtain ⟨r,hr,rfl⟩:=h1 x hx
  have hm:awOf r ∈ atN t 19:=List.mem_map.2 ⟨r,List.mem_filter.2 ⟨by rw [List.take_of_length_le (by decide)]; exact hr,by rw [hs]; exact he⟩,rfl⟩
  have:=List.length_pos_of_mem hm
  omega
theorem eqSs_len {a b:List ByteArray}(h:eqSs a b=true):a.length=b.length:=by
 induction a generalizing b with
 | nil=>cases b with
  | nil=>rfl
  | cons y b=>simp [eqSs] at h
 | cons x a ih=>cases b with
  | nil=>simp [eqSs] at h
  | cons y b =>
   simp only [eqSs,Bool.and_eq_true] at h
   simp only [List.length_cons,ih h.2]
theorem checkV_if (v:V):checkV v=if checkR v then 0 else 1:=by
 rw [← check_law]
 unfold checkV
 split<;>simp
end Go.Proofs.YtiodgjgngfklkaaGreatDoor
