/- Contracts of functions of the program,and the laws that stand on them: what each function answers,whatever its arguments. -/
import Derived.Test.YtiodgjgngfklkaaGreatDoorE7
import Derived.Test.YtiodgjgngfklkaaGreatDoorVD
set_option linter.all false
set_option maxRecDepth 100000
set_option maxHeartbeats 8000000
namespace Go.Proofs.YtiodgjgngfklkaaGreatDoor
open Go Go.VA
def nmD:ByteArray:={ data:= #[100,105,115,107] }
def nmN:ByteArray:={ data:= #[110,111,100,101] }
def nmO:ByteArray:={ data:= #[110,111,116,101] }
def nmR:ByteArray:={ data:= #[114,117,108,101] }
def lD:List Aw:=[⟨{ data:= #[105,100] },3,0,false,true,false,false⟩,⟨{ data:= #[107,105,110,100] },3,0,false,false,true,false⟩,⟨{ data:= #[108,97,98,101,108] },3,0,false,false,false,false⟩,⟨{ data:= #[115,101,114,105,97,108] },2,0,false,true,false,false⟩,⟨{ data:= #[115,105,122,101] },2,0,true,false,false,false⟩]
def lN:List Aw:=[⟨{ data:= #[97,100,100,114] },3,0,false,true,false,false⟩,⟨{ data:= #[100,105,115,107] },3,0,false,false,false,false⟩,⟨{ data:= #[105,100] },3,0,false,true,false,false⟩,⟨{ data:= #[105,109,97,103,101] },3,0,true,false,true,false⟩,⟨{ data:= #[112,111,114,116,115] },4,2,false,false,false,false⟩,⟨{ data:= #[115,101,99,114,101,116] },3,0,false,false,false,true⟩,⟨{ data:= #[116,97,103,115] },5,3,false,false,false,false⟩]
def lO:List Aw:=[⟨{ data:= #[105,100] },3,0,false,true,false,false⟩,⟨{ data:= #[109,101,116,97] },5,0,false,false,false,false⟩,⟨{ data:= #[116,101,120,116] },3,0,false,false,false,false⟩]
def lR:List Aw:=[⟨{ data:= #[97,108,108,111,119] },4,3,false,false,false,false⟩,⟨{ data:= #[102,114,111,109] },3,0,true,false,false,false⟩,⟨{ data:= #[105,100] },3,0,false,true,false,false⟩,⟨{ data:= #[116,111] },3,0,false,false,false,false⟩]
theorem atN_of (t:ByteArray):atN t 19=(tabR.filter fun r=>decide (r.t=t)).map awOf:=by
 unfold atN
 rw [List.take_of_length_le (by decide)]
 congr 1
 refine List.filter_congr fun r _=> ?_
 rw [Bool.eq_iff_iff,eqs_iff,decide_eq_true_eq]
theorem atN_D:atN nmD 19=lD:=by rw [atN_of]; kernel_rfl
theorem atN_N:atN nmN 19=lN:=by rw [atN_of]; kernel_rfl
theorem atN_O:atN nmO 19=lO:=by rw [atN_of]; kernel_rfl
theorem atN_R:atN nmR 19=lR:=by rw [atN_of]; kernel_rfl
def tyB (t:ByteArray):Bool:=tyL.any (eqs t)
theorem tyB_or (t:ByteArray):tyB t=(eqs t nmD||(eqs t nmN||(eqs t nmO||eqs t nmR))):=by
 unfold tyB tyL
 simp only [List.any_cons,List.any_nil,Bool.or_false]
 rfl
theorem aAttrsY (t:ByteArray)(h0:tyB t=true):ACall Tryz.prog gl 113 [.c (.v (.string t))] [] (.c (.sl false 7 (atN t 19).length (rAw (atN t 19)))):=by
 rw [tyB_or] at h0
 refine acall_of_vc htb hmix (f:=113) rfl rfl rfl (by kernel_rfl) rfl rfl ?_; conv=>whnf
 repeat' (first|(refine And.intro (fun h=> ?_) (fun h=> ?_)<;>(first|skip)<;>(first|(conv=>whnf)))|((with_reducible refine NilOr.l ?_); conv=>whnf)|((with_reducible refine OwnOr.l ?_); (conv=>whnf))|fail)
 ·have h:eqs t nmD=true:=h
  rw [eqs_iff.1 h,atN_D]
  exact leSl rfl (fun i hi=>by match i,hi with|0,_=>rfl|1,_=>rfl|2,_=>rfl|3,_=>rfl|4,_=>rfl)
 ·have h:eqs t nmN=true:=h
  rw [eqs_iff.1 h,atN_N]
  exact leSl rfl (fun i hi=>by match i,hi with|0,_=>rfl|1,_=>rfl|2,_=>rfl|3,_=>rfl|4,_=>rfl|5,_=>rfl|6,_=>rfl)
 ·have h:eqs t nmO=true:=h
  rw [eqs_iff.1 h,atN_O]
  exact leSl rfl (fun i hi=>by match i,hi with|0,_=>rfl|1,_=>rfl|2,_=>rfl)
 ·have h:eqs t nmR=true:=h
  rw [eqs_iff.1 h,atN_R]
  exact leSl rfl (fun i hi=>by match i,hi with|0,_=>rfl|1,_=>rfl|2,_=>rfl|3,_=>rfl)
 ·exfalso
  rename_i h1 h2 h3
  have h1:eqs t nmD=false:=h1
  have h2:eqs t nmN=false:=h2
  have h3:eqs t nmO=false:=h3
  have h:eqs t nmR=false:=h
  rw [h1,h2,h3,h] at h0
  exact absurd h0 (by decide)
theorem aAttrsN (t:ByteArray)(h0:tyB t=false):ACall Tryz.prog gl 113 [.c (.v (.string t))] [] (.c (.v (.slice none 0 0))):=by
 rw [tyB_or] at h0
 simp only [Bool.or_eq_false_iff] at h0
 obtain ⟨h1,h2,h3,h4⟩:=h0
 refine acall_of_vc htb hmix (f:=113) rfl rfl rfl (by kernel_rfl) rfl rfl ?_; conv=>whnf
 repeat' (first|(refine And.intro (fun h=> ?_) (fun h=> ?_)<;>(first|skip)<;>(first|(conv=>whnf)))|((with_reducible refine NilOr.r ?_); conv=>whnf)|((with_reducible refine OwnOr.l ?_); (conv=>whnf))|fail)
 ·exact absurd (h1.symm.trans h) (by decide)
 ·exact absurd (h2.symm.trans h) (by decide)
 ·exact absurd (h3.symm.trans h) (by decide)
 ·exact absurd (h4.symm.trans h) (by decide)
 ·exact Le.refl _
theorem at_pos {t:ByteArray}(h:tyB t=true):0<(atN t 19).length:=by
 have:=ty_law t
 have h:tyL.any (eqs t)=true:=h
 rw [h] at this
 have:=of_decide_eq_true this
 omega
theorem at_nil {t:ByteArray}(h:tyB t=false):atN t 19=[]:=by
 have:=ty_law t
 have h:tyL.any (eqs t)=false:=h
 rw [h] at this
 have:=of_decide_eq_false this
 exact List.eq_nil_of_length_eq_zero (by omega)
theorem aAttrsE (t:ByteArray):ACall Tryz.prog gl 141 [.c (.v (.string t))] [] (.tup [.c (.sl false 7 (atN t 19).length (rAw (atN t 19))),intA .i64 (if tyB t then 0 else 9)]):=by
 cases h0:tyB t
 ·have A:=aAttrsN t h0
  rw [at_nil h0]
  refine acall_of_vc htb hmix (f:=141) rfl rfl rfl (by kernel_rfl) rfl rfl ?_; conv=>whnf
  repeat' (first|(refine Exists.intro _ (And.intro (A) ?_); conv=>whnf)|(refine And.intro (fun h=> ?_) (fun h=> ?_)<;>(first|skip)<;>(first|exact absurd h (by decide)|(conv=>whnf)))|((with_reducible refine NilOr.r ?_); conv=>whnf)|((with_reducible refine xc_pure ?_); conv=>whnf))
  exact leTup2 (Le.toC (LeC.nil rfl)) (Le.refl _)
 ·have A:=aAttrsY t h0
  have hp:=at_pos h0
  refine acall_of_vc htb hmix (f:=141) rfl rfl rfl (by kernel_rfl) rfl rfl ?_; conv=>whnf
  repeat' (first|(refine Exists.intro _ (And.intro (A) ?_); conv=>whnf)|(refine And.intro (fun h=> ?_) (fun h=> ?_)<;>(first|skip)<;>(first|(conv=>whnf)))|((with_reducible refine NilOr.r ?_); conv=>whnf)|((with_reducible refine xc_pure ?_); conv=>whnf))
  ·exfalso
   have h:true=true→(atN t 19).length=0:=h
   have:=h rfl
   omega
  ·exact Le.refl _
def atI (t:ByteArray) (i:Nat):Aw:=(atN t 19).getD i aw0
def objI (t:ByteArray) (v:V) (i:Nat):Bool:= !(!(eqs (v.ks.getD i ByteArray.empty) (atI t i).n)|| !(fits (v.l.getD i V.z) ((atI t i).k,(atI t i).o))||(atI t i).a&&(v.l.getD i V.z).k==0)
def objH (t:ByteArray) (v:V):Bool:=v.k != 5||checkV v != 0||(v.ks.length:Int) != ((atN t 19).length:Int)
def objP (t:ByteArray) (v:V):Int:=if !tyB t then 9 else if objH t v then 8 else if (List.range (atN t 19).length).all (objI t v) then 0 else 8
def findV (v:V) (key:ByteArray):Int:=if v.k==5 then fidx (fun k=>eqs k key) (v.ks.take (nIt v)) 0 else -1
def objJ (t:ByteArray) (v:V) (i:Nat):Bool:= !(decide (findV v (atI t i).n<0)|| !(fitsR (v.l.getD (findV v (atI t i).n).toNat V.z) ((atI t i).k,(atI t i).o))||(atI t i).a&&(v.l.getD (findV v (atI t i).n).toNat V.z).k==0)
def objG (t:ByteArray) (v:V):Bool:=v.k != 5|| !checkR v||(v.ks.length:Int) != ((atN t 19).length:Int)
def objR (t:ByteArray) (v:V):Int:=if !tyB t then 9 else if objG t v then 8 else if (List.range (atN t 19).length).all (objJ t v) then 0 else 8
theorem cases4 {p:ByteArray→Prop}(h1:p nmD)(h2:p nmN)(h3:p nmO)(h4:p nmR){t:ByteArray}(h:tyB t=true):p t:=by
 rw [tyB_or] at h
 simp only [Bool.or_eq_true] at h
 rcases h with h|h|h|h
 ·rw [eqs_iff.1 h]; exact h1
 ·rw [eqs_iff.1 h]; exact h2
 ·rw [eqs_iff.1 h]; exact h3
 ·rw [eqs_iff.1 h]; exact h4
def names (t:ByteArray):List ByteArray:=(atN t 19).map Aw.n
theorem names_len (t:ByteArray):(names t).length=(atN t 19).length:=by unfold names; rw [List.length_map]
theorem srt_dec {l:List ByteArray}(h:(List.range l.length).all (fun i=>decide (i+1<l.length→bl (l.getD i ByteArray.empty) (l.getD (i+1) ByteArray.empty)=true))=true):Srt l:=by
 refine srt_of_next fun i a b ha hb=> ?_
 have hi:i+1<l.length:=(List.getElem?_eq_some_iff.1 hb).1
 have:=of_decide_eq_true (List.all_eq_true.1 h i (by simp; omega)) hi
 rw [List.getD_eq_getElem?_getD,ha,List.getD_eq_getElem?_getD,hb] at this
 exact this
theorem srt_names {t:ByteArray}(h:tyB t=true):Srt (names t):=by
 refine cases4 (p:=fun t=>Srt (names t)) ?_ ?_ ?_ ?_ h<;>unfold names
 ·rw [atN_D]; exact srt_dec (by decide +kernel)
 ·rw [atN_N]; exact srt_dec (by decide +kernel)
 ·rw [atN_O]; exact srt_dec (by decide +kernel)
 ·rw [atN_R]; exact srt_dec (by decide +kernel)
theorem names_at {t:ByteArray}{i:Nat}(h:i<(atN t 19).length):(names t)[i]? =some (atI t i).n:=by
 unfold names atI
 rw [List.getElem?_map,List.getElem?_eq_getElem h,List.getD_eq_getElem?_getD,List.getElem?_eq_getElem h]; rfl
theorem objHG (t:ByteArray)(v:V):objH t v=objG t v:=by
 unfold objH objG
 rw [← check_law]
 rfl
theorem keys_names {t:ByteArray}{v:V}(hs:Srt v.ks)(h:v.ks=names t){i:Nat}(hi:i<(atN t 19).length)(h5:v.k=5)(hl:v.ks.length=v.l.length):findV v (atI t i).n=(i:Int):=by
 unfold findV
 have hn:nIt v=v.ks.length:=by unfold nIt nPairs; rw [h5]; simp; omega
 rw [h5,if_pos (by decide),hn,List.take_length,fidx_at hs 0 i _ (by rw [h]; exact names_at hi),Nat.zero_add]
theorem obj_law (t:ByteArray)(v:V):objP t v=objR t v:=by
 unfold objP objR
 rw [objHG]
 cases ht:tyB t
 ·rfl
 ·cases hg:objG t v
  ·simp only [Bool.not_true,Bool.false_eq_true,if_false]
   have hg':=hg
   unfold objG at hg'
   simp only [Bool.or_eq_false_iff,bne_eq_false_iff_eq,Bool.not_eq_false'] at hg'
   obtain ⟨⟨h5,hc⟩,hl⟩:=hg'
   have ok:=ok_of hc
   have hs:=ok.srt
   have hkl:v.ks.length=v.l.length:=ok.f.ks5 h5
   have hl:v.ks.length=(names t).length:=by rw [names_len]; omega
   have key:((List.range (atN t 19).length).all (objI t v))=((List.range (atN t 19).length).all (objJ t v)):=by
    rw [Bool.eq_iff_iff,List.all_eq_true,List.all_eq_true]
    have fwd:v.ks=names t→∀ i,i<(atN t 19).length→objI t v i=objJ t v i:=fun hk i hi=>by
     have e:=keys_names hs hk hi h5 hkl
     have e2:v.ks.getD i ByteArray.empty=(atI t i).n:=by rw [hk,List.getD_eq_getElem?_getD,names_at hi]; rfl
     unfold objI objJ
     rw [e,e2,eqs_refl,Int.toNat_natCast,fits_R]
     have:decide ((i:Int)<0)=false:=decide_eq_false (by omega)
     rw [this]
     rfl
    constructor
    ·intro h
     have hk:v.ks=names t:=List.ext_getElem? fun i=>by
      by_cases hi:i<(atN t 19).length
      ·rw [names_at hi]
       have:=h i (by simpa using hi)
       unfold objI at this
       simp only [Bool.not_eq_true',Bool.or_eq_false_iff,Bool.not_eq_false'] at this
       have e:=eqs_iff.1 this.1.1
       rw [List.getElem?_eq_getElem (by rw [hl,names_len]; exact hi)]
       rw [List.getD_eq_getElem?_getD,List.getElem?_eq_getElem (by rw [hl,names_len]; exact hi)] at e
       exact congrArg some e
      ·rw [List.getElem?_eq_none (by rw [hl,names_len]; omega),List.getElem?_eq_none (by rw [names_len]; omega)]
     intro i hi
     rw [← fwd hk i (by simpa using hi)]
     exact h i hi
    ·intro h
     have hk:v.ks=names t:=by
      refine srt_eq hs (srt_names ht) hl fun x hx=> ?_
      obtain ⟨i,hi⟩:=List.mem_iff_getElem?.1 hx
      have hin:i<(atN t 19).length:=by have:=(List.getElem?_eq_some_iff.1 hi).1; rwa [names_len] at this
      rw [names_at hin] at hi
      simp only [Option.some.injEq] at hi
      have:=h i (by simpa using hin)
      unfold objJ at this
      simp only [Bool.not_eq_true',Bool.or_eq_false_iff,decide_eq_false_iff_not] at this
      have hp:0≤findV v (atI t i).n:=by have:=this.1.1; omega
      unfold findV at hp
      rw [h5,if_pos (by decide)] at hp
      obtain ⟨j,y,y1,y2,_⟩:=fidx_pos hp
      have:=eqs_iff.1 y2
      rw [← hi,← this]
      exact List.mem_of_mem_take (List.mem_of_getElem? y1)
     intro i hi
     rw [fwd hk i (by simpa using hi)]
     exact h i hi
   rw [key]
  ·rfl
theorem obj_keys {t:ByteArray}{v:V}(h:objP t v=0):tyB t=true∧v.k=5∧checkR v=true∧v.ks=names t∧v.l.length=(atN t 19).length:=by
 unfold objP at h
 rw [objHG] at h
 cases ht:tyB t
 ·rw [ht,if_pos (by decide)] at h; exact absurd h (by decide)
 ·cases hg:objG t v
  ·rw [ht,hg] at h
   simp only [Bool.not_true,Bool.false_eq_true,if_false] at h
   have hg':=hg
   unfold objG at hg'
   simp only [Bool.or_eq_false_iff,bne_eq_false_iff_eq,Bool.not_eq_false'] at hg'
   obtain ⟨⟨h5,hc⟩,hl⟩:=hg'
   have ok:=ok_of hc
   have hkl:v.ks.length=v.l.length:=ok.f.ks5 h5
   have ha:(List.range (atN t 19).length).all (objI t v)=true:=by
    cases hq:(List.range (atN t 19).length).all (objI t v)
    ·rw [hq,if_neg (by decide)] at h; exact absurd h (by decide)
    ·rfl
   refine ⟨rfl,h5,hc,List.ext_getElem? fun i=> ?_,by omega⟩
   by_cases hi:i<(atN t 19).length
   ·rw [names_at hi]
    have:=List.all_eq_true.1 ha i (by simpa using hi)
    unfold objI at this
    simp only [Bool.not_eq_true',Bool.or_eq_false_iff,Bool.not_eq_false'] at this
    have e:=eqs_iff.1 this.1.1
    rw [List.getElem?_eq_getElem (by omega)]
    rw [List.getD_eq_getElem?_getD,List.getElem?_eq_getElem (by omega)] at e
    exact congrArg some e
   ·rw [List.getElem?_eq_none (by omega),List.getElem?_eq_none (by rw [names_len]; omega)]
  ·rw [ht,hg] at h
   simp only [Bool.not_true,Bool.false_eq_true,if_false,if_true] at h
   exact absurd h (by decide)
def finI (t:ByteArray) (v:V) (i:Nat):Bool:= !((atI t i).b&&(v.l.getD i V.z).k==0)
def finP (t:ByteArray) (v:V):Int:=if objP t v != 0 then objP t v else if (List.range (atN t 19).length).all (finI t v) then (if !known v then 8 else 0) else 8
def fromV (v x:V):V:= .mk x.k x.i x.s x.l x.ks x.tk x.to (x.sec||v.sec)
def elemV (v:V) (key:ByteArray):V:=if findV v key≥0 then fromV v (v.l.getD (findV v key).toNat V.z) else V.z
def finJ (t:ByteArray) (v:V) (i:Nat):Bool:= !((atI t i).b&&(elemV v (atI t i).n).k==0)
def finR (t:ByteArray) (v:V):Int:=if objR t v != 0 then objR t v else if (List.range (atN t 19).length).all (finJ t v) then (if !known v then 8 else 0) else 8
theorem fin_law (t:ByteArray)(v:V):finP t v=finR t v:=by
 unfold finP finR
 rw [← obj_law]
 cases hq:(objP t v != 0)
 ·simp only [Bool.false_eq_true,if_false]
  obtain ⟨ht,h5,hc,hk,hl⟩:=obj_keys (by simpa using hq)
  have hs:=(ok_of hc).srt
  have hkl:v.ks.length=v.l.length:=(ok_of hc).f.ks5 h5
  have key:(List.range (atN t 19).length).all (finI t v)=(List.range (atN t 19).length).all (finJ t v):=by
   refine all_congr' fun i hi=> ?_
   have hi:i<(atN t 19).length:=by simpa using hi
   unfold finI finJ elemV
   rw [keys_names hs hk hi h5 hkl,if_pos (by omega),Int.toNat_natCast]
   rfl
  rw [key]
 ·rfl
end Go.Proofs.YtiodgjgngfklkaaGreatDoor
