/- Contracts of functions of the program,and the laws that stand on them: what each function answers,whatever its arguments. -/
import Derived.Test.YtiodgjgngfklkaaGreatDoorD15
import Derived.Lib.Hide
import Derived.WalkKit
set_option linter.all false
set_option maxRecDepth 100000
set_option maxHeartbeats 8000000
namespace Go.Proofs.YtiodgjgngfklkaaGreatDoor
open Go Go.VA Go.RowKit
abbrev Ft:=ByteArray×ByteArray×ByteArray
abbrev mtB:ByteArray:=ByteArray.empty
def putF (s x z:ByteArray):List Ft→List Ft
 | []=>[(s,x,z)]
 | e::r=>if s=e.1 then (s,x,z)::r else e::putF s x z r
def delF (s:ByteArray):List Ft→List Ft
 | []=>[]
 | e::r=>if s=e.1 then r else e::delF s r
def lkF (s:ByteArray):List Ft→Option (ByteArray×ByteArray)
 | []=>none
 | e::r=>if s=e.1 then some e.2 else lkF s r
abbrev oC (s:ByteArray):C:= .sl false 1 s.size (strCells s)
def mB (l:List Ft):List (Value×AV):=l.map fun e=>(.string e.1,fl (oC e.2.1) (oC e.2.2))
theorem mB_ok (l:List Ft):mOk (tb 9).k (mB l)=true:=by
 induction l with
 | nil=>rfl
 | cons a r ih=>exact ih
theorem keqS (s t:ByteArray):keqV (.string s) (.string t)=decide (s=t):=by simp [keqV,ba_beq]
theorem mB_put (s x z:ByteArray):∀ l,mPut (.string s) (fl (oC x) (oC z)) (mB l)=mB (putF s x z l)
 | []=>rfl
 | e::r=>by
  show mPut _ _ ((Value.string e.1,_)::mB r)=_
  by_cases h:s=e.1
  ·simp only [mPut,keqS,h,decide_true,putF,if_true]
   rfl
  ·simp only [mPut,keqS,h,decide_false,putF,if_false]
   rw [mB_put s x z r]
   rfl
theorem mB_del (s:ByteArray):∀ l,mDel (.string s) (mB l)=mB (delF s l)
 | []=>rfl
 | e::r=>by
  show mDel _ ((Value.string e.1,_)::mB r)=_
  by_cases h:s=e.1
  ·simp only [mDel,keqS,h,decide_true,delF,if_true]
  ·simp only [mDel,keqS,h,decide_false,delF,if_false]
   rw [mB_del s r]
   rfl
theorem mB_find (s:ByteArray):∀ l,mFind (.string s) (mB l)=(lkF s l).map fun p=>fl (oC p.1) (oC p.2)
 | []=>rfl
 | e::r=>by
  show mFind _ ((Value.string e.1,_)::mB r)=_
  by_cases h:s=e.1
  ·simp only [mFind,keqS,h,decide_true,lkF,if_true]
   rfl
  ·simp only [mFind,keqS,h,decide_false,lkF,if_false]
   exact mB_find s r
theorem mB_some {s x z:ByteArray}{l:List Ft}(h:lkF s l=some (x,z)):mFnd s (mB l) (fl (oC x) (oC z),true):=by
 show MFind _ _ _ _
 unfold MFind
 rw [mB_find,h]
 exact ⟨Le.refl _,rfl⟩
theorem mB_none {s:ByteArray}{l:List Ft}(h:lkF s l=none):mFnd s (mB l) (fl (oC mtB) (oC mtB),false):=by
 have:=fndNone (s:=s) (m:=mB l) (by rw [mB_find,h]; rfl) (strCells mtB) (strCells mtB)
 exact this
def getF (s:ByteArray) (l:List Ft):ByteArray×ByteArray:=(lkF s l).getD (mtB,mtB)
theorem mB_get (s:ByteArray)(l:List Ft):∃ b,mFnd s (mB l) (fl (oC (getF s l).1) (oC (getF s l).2),b):=by
 unfold getF
 cases h:lkF s l with
 | none=>exact ⟨_,mB_none h⟩
 | some p=>exact ⟨_,mB_some h⟩
structure Dk where
 l:List Ft
 fuse:Int
 dead:Bool
 ops:Int
def fzN (f:Int):Int:=if f=0 then 0 else IntKind.i64.wrap (f-1)
def bnt (f:Int):Bool:=if f=0 then false else (IntKind.i64.wrap (f-1)==0)
def Dk.chg (d:Dk) (l':List Ft) (late:Bool):Dk×Int:=(⟨if bnt d.fuse=true∧late=false then d.l else l',fzN d.fuse,bnt d.fuse,IntKind.i64.wrap (d.ops+1)⟩,if bnt d.fuse then 21 else 0)
def Dk.wrt (d:Dk) (s b:ByteArray):Dk×Int:=if d.dead=true then (d,21) else if wordB s=false then (d,1) else if b.size>262144 then (d,3) else d.chg (putF s b (getF s d.l).2 d.l) true
def Dk.app (d:Dk) (s b:ByteArray):Dk×Int:=d.wrt s ((getF s d.l).1++b)
def Dk.syn (d:Dk) (s:ByteArray):Dk×Int:=if d.dead=true then (d,21) else if wordB s=false then (d,1) else match lkF s d.l with
 | none=>(d,11)
 | some p=>d.chg (putF s p.1 p.1 d.l) false
def Dk.ren (d:Dk) (s t:ByteArray):Dk×Int:=if d.dead=true then (d,21) else if wordB s=false∨wordB t=false then (d,1) else match lkF s d.l with
 | none=>(d,11)
 | some p=>d.chg (putF t p.1 p.2 (delF s d.l)) false
def begB (x z:ByteArray):Bool:=decide (z.size≤x.size∧x.extract 0 z.size=z)
def torB (keep:Int) (x z:ByteArray):ByteArray:=if x=z then x else
 let base:=if begB x z=true then z.size else 0
 x.extract 0 (base+pk keep (x.size-base))
def Dk.bot (d:Dk) (keep:Int):Dk:=⟨d.l.map fun e=>(e.1,torB keep e.2.1 e.2.2,torB keep e.2.1 e.2.2),0,false,d.ops⟩
def Dk.dB (d:Dk):AO:=dskB d.fuse d.dead d.ops
def Dk.mp (d:Dk):AO:= .mp (mB d.l)
structure Dk.Ok (d:Dk) (n:Nat):Prop where
 nodup:(d.l.map (·.1)).Nodup
 word:∀ e ∈ d.l,wordB e.1=true
 size:∀ e ∈ d.l,e.2.1.size≤262144∧e.2.2.size≤262144
 len:d.l.length≤n
 fz:0≤d.fuse∧d.fuse≤9223372036854775807
theorem mem_putF {s x z:ByteArray}{e:Ft}:∀ {l:List Ft},e ∈ putF s x z l→e=(s,x,z)∨e ∈ l
 | [],h=>by simpa [putF] using h
 | a::r,h=>by
  unfold putF at h
  split at h
  ·rcases List.mem_cons.1 h with h|h
   ·exact .inl h
   ·exact .inr (List.mem_cons_of_mem _ h)
  ·rcases List.mem_cons.1 h with h|h
   ·exact .inr (h ▸ List.mem_cons_self)
   ·rcases mem_putF h with h|h
    ·exact .inl h
    ·exact .inr (List.mem_cons_of_mem _ h)
theorem mem_delF {s:ByteArray}{e:Ft}:∀ {l:List Ft},e ∈ delF s l→e ∈ l
 | [],h=>h
 | a::r,h=>by
  unfold delF at h
  split at h
  ·exact List.mem_cons_of_mem _ h
  ·rcases List.mem_cons.1 h with h|h
   ·exact h ▸ List.mem_cons_self
   ·exact List.mem_cons_of_mem _ (mem_delF h)
theorem mem_fndF {s:ByteArray}{p:ByteArray×ByteArray}:∀ {l:List Ft},lkF s l=some p→(s,p.1,p.2) ∈ l
 | [],h=>by cases h
 | a::r,h=>by
  unfold lkF at h
  split at h
  ·rename_i e
   cases h
   subst e
   exact List.mem_cons_self
  ·exact List.mem_cons_of_mem _ (mem_fndF h)
theorem nodup_putF {s x z:ByteArray}:∀ {l:List Ft},(l.map (·.1)).Nodup→((putF s x z l).map (·.1)).Nodup
 | [],_=>by simp [putF]
 | a::r,h=>by
  have h':=List.nodup_cons.1 (by simpa using h:(a.1::r.map (·.1)).Nodup)
  unfold putF
  split
  ·rename_i e
   subst e
   exact h
  ·rename_i e
   refine List.nodup_cons.2 ⟨fun hm=> ?_,nodup_putF h'.2⟩
   obtain ⟨b,hb,hab⟩:=List.mem_map.1 hm
   rcases mem_putF hb with rfl|hb
   ·exact e hab
   ·exact h'.1 (List.mem_map.2 ⟨b,hb,hab⟩)
theorem nodup_delF {s:ByteArray}:∀ {l:List Ft},(l.map (·.1)).Nodup→((delF s l).map (·.1)).Nodup
 | [],h=>h
 | a::r,h=>by
  have h':=List.nodup_cons.1 (by simpa using h:(a.1::r.map (·.1)).Nodup)
  unfold delF
  split
  ·exact h'.2
  ·refine List.nodup_cons.2 ⟨fun hm=> ?_,nodup_delF h'.2⟩
   obtain ⟨b,hb,hab⟩:=List.mem_map.1 hm
   exact h'.1 (List.mem_map.2 ⟨b,mem_delF hb,hab⟩)
theorem len_putF (s x z:ByteArray):∀ l:List Ft,(putF s x z l).length≤l.length+1
 | []=>by simp [putF]
 | a::r=>by
  have:=len_putF s x z r
  unfold putF
  split<;>simp
  omega
theorem len_delF (s:ByteArray):∀ l:List Ft,(delF s l).length≤l.length
 | []=>by simp [delF]
 | a::r=>by
  have:=len_delF s r
  unfold delF
  split<;>simp
  omega
theorem fzN_ok {f:Int}(h:0≤f∧f≤9223372036854775807):0≤fzN f∧fzN f≤9223372036854775807:=by
 unfold fzN
 split
 ·omega
 ·rw [wrap64 (by omega) (by omega)]; omega
theorem Dk.Ok.more {d:Dk}{n m:Nat}(h:d.Ok n)(hm:n≤m):d.Ok m:=⟨h.nodup,h.word,h.size,Nat.le_trans h.len hm,h.fz⟩
theorem Dk.Ok.chg {d:Dk}{n:Nat}(h:d.Ok n){l':List Ft}(late:Bool)(h1:(l'.map (·.1)).Nodup)(h2:∀ e ∈ l',wordB e.1=true)(h3:∀ e ∈ l',e.2.1.size≤262144∧e.2.2.size≤262144)(h4:l'.length≤n+1):(d.chg l' late).1.Ok (n+1):=by
 unfold Dk.chg
 split
 ·exact ⟨h.nodup,h.word,h.size,Nat.le_succ_of_le h.len,fzN_ok h.fz⟩
 ·exact ⟨h1,h2,h3,h4,fzN_ok h.fz⟩
theorem getF_size {d:Dk}{n:Nat}(h:d.Ok n)(s:ByteArray):(getF s d.l).1.size≤262144∧(getF s d.l).2.size≤262144:=by
 unfold getF
 cases hf:lkF s d.l with
 | none=>exact ⟨Nat.zero_le _,Nat.zero_le _⟩
 | some p=>exact h.size _ (mem_fndF hf)
theorem Dk.Ok.put {d:Dk}{n:Nat}(h:d.Ok n){s x z:ByteArray}(late:Bool)(hs:wordB s=true)(hx:x.size≤262144)(hz:z.size≤262144):(d.chg (putF s x z d.l) late).1.Ok (n+1):=by
 refine h.chg late (nodup_putF h.nodup) (fun e he=> ?_) (fun e he=> ?_) (Nat.le_trans (len_putF _ _ _ _) (Nat.succ_le_succ h.len))
 ·rcases mem_putF he with rfl|he
  ·exact hs
  ·exact h.word e he
 ·rcases mem_putF he with rfl|he
  ·exact ⟨hx,hz⟩
  ·exact h.size e he
theorem Dk.Ok.wrt {d:Dk}{n:Nat}(h:d.Ok n)(s b:ByteArray):(d.wrt s b).1.Ok (n+1):=by
 unfold Dk.wrt
 split
 ·exact h.more (Nat.le_succ _)
 ·split
  ·exact h.more (Nat.le_succ _)
  ·split
   ·exact h.more (Nat.le_succ _)
   ·exact h.put true (by simp_all) (by omega) (getF_size h s).2
theorem Dk.Ok.syn {d:Dk}{n:Nat}(h:d.Ok n)(s:ByteArray):(d.syn s).1.Ok (n+1):=by
 unfold Dk.syn
 split
 ·exact h.more (Nat.le_succ _)
 ·split
  ·exact h.more (Nat.le_succ _)
  ·split
   ·exact h.more (Nat.le_succ _)
   ·rename_i p hp
    have:=h.size _ (mem_fndF hp)
    exact h.put false (by simp_all) this.1 this.1
theorem Dk.Ok.ren {d:Dk}{n:Nat}(h:d.Ok n)(s t:ByteArray):(d.ren s t).1.Ok (n+1):=by
 unfold Dk.ren
 split
 ·exact h.more (Nat.le_succ _)
 ·split
  ·exact h.more (Nat.le_succ _)
  ·rename_i hw
   split
   ·exact h.more (Nat.le_succ _)
   ·rename_i p hp
    have hz:=h.size _ (mem_fndF hp)
    have ht:wordB t=true:=by
     cases ht:wordB t with
     | true=>rfl
     | false=>exact absurd (.inr ht) hw
    refine h.chg false (nodup_putF (nodup_delF h.nodup)) (fun e he=> ?_) (fun e he=> ?_) (Nat.le_trans (len_putF _ _ _ _) (Nat.succ_le_succ (Nat.le_trans (len_delF _ _) h.len)))
    ·rcases mem_putF he with rfl|he
     ·exact ht
     ·exact h.word e (mem_delF he)
    ·rcases mem_putF he with rfl|he
     ·exact hz
     ·exact h.size e (mem_delF he)
theorem ext_size (x:ByteArray)(n:Nat):(x.extract 0 n).size=min n x.size:=by simp
theorem torB_size (keep:Int)(x z:ByteArray):(torB keep x z).size≤x.size:=by
 unfold torB
 split
 ·exact Nat.le_refl _
 ·dsimp only
  rw [ext_size]
  exact Nat.min_le_right _ _
theorem Dk.Ok.bot {d:Dk}{n:Nat}(h:d.Ok n)(keep:Int):(d.bot keep).Ok n where
 nodup:=by
  show ((d.l.map _).map _).Nodup
  rw [List.map_map]
  exact h.nodup
 word:=fun e he=>by
  obtain ⟨f,hf,rfl⟩:=List.mem_map.1 he
  exact h.word f hf
 size:=fun e he=>by
  obtain ⟨f,hf,rfl⟩:=List.mem_map.1 he
  have:=torB_size keep f.2.1 f.2.2
  have:=(h.size f hf).1
  exact ⟨by show (torB keep f.2.1 f.2.2).size≤_; omega,by show (torB keep f.2.1 f.2.2).size≤_; omega⟩
 len:=by
  show (d.l.map _).length≤n
  rw [List.length_map]
  exact h.len
 fz:=⟨Int.le_refl _,by show (0:Int)≤_; decide⟩
theorem isbS (s:ByteArray):isBytes s.size (strCells s):=fun i hi=>⟨_,rfl⟩
theorem isbP (s:ByteArray)(n:Nat)(k:Nat):isBytes n (fun j=>strCells s (k+j)):=fun i hi=>⟨_,rfl⟩
theorem bytesOf_str (s:ByteArray)(n:Nat)(h:n≤s.size):bytesOf n (strCells s)=s.extract 0 n:=by
 apply ByteArray.ext
 apply Array.ext'
 unfold bytesOf
 rw [ByteArray.data_extract,Array.toList_extract]
 simp only [List.extract_eq_take_drop,List.drop_zero,Nat.sub_zero]
 refine List.ext_getElem? fun i=> ?_
 rw [List.getElem?_map,List.getElem?_take]
 rcases Nat.lt_or_ge i n with hi|hi
 ·have hs:i<s.data.toList.length:=by have:s.size=s.data.toList.length:=rfl; omega
  rw [if_pos hi,List.getElem?_range hi,List.getElem?_eq_getElem hs]
  have e:s.data[i]? =some s.data[i]:=Array.getElem?_eq_getElem (by simpa using hs)
  simp [strCells,byteC,List.getElem?_eq_getElem hs,e]
 ·rw [if_neg (by omega),List.getElem?_eq_none (by simpa using hi)]
  rfl
theorem ext_self (s:ByteArray):s.extract 0 s.size=s:=by simp
theorem listEq (a b:ByteArray):(a.toList==b.toList)=decide (a=b):=by
 rw [ByteArray.toList_eq,ByteArray.toList_eq,Bool.eq_iff_iff,beq_iff_eq,decide_eq_true_eq]
 exact ⟨fun h=>by cases a; cases b; simpa using Array.ext' h,fun h=>h ▸ rfl⟩
theorem aEqSD (t u:Bool)(x z:ByteArray):ACall Tryz.prog glD 32 [.c (.sl t 1 x.size (strCells x)),.c (.sl u 1 z.size (strCells z))] [] (boolA (decide (x=z))) :=
 aEqB t u _ _ _ _ (isbS x) (isbS z) _ (by rw [bytesOf_str x _ (Nat.le_refl _),bytesOf_str z _ (Nat.le_refl _),ext_self,ext_self,listEq])
theorem aPreS (t u:Bool)(x z:ByteArray):ACall Tryz.prog glD 36 [.c (.sl t 1 x.size (strCells x)),.c (.sl u 1 z.size (strCells z))] [] (boolA (begB x z)):=by
 by_cases hz:z.size≤x.size
 ·have hB:decide ((x.size:Int)≥(z.size:Int))=true:=by simpa using hz
  have e:(fun j=>strCells x (0+j))=strCells x:=by funext j; rw [Nat.zero_add]
  have E:=aEqB t u z.size z.size (fun j=>strCells x (0+j)) (strCells z) (isbP x _ 0) (isbS z) (decide (x.extract 0 z.size=z)) (by rw [e,bytesOf_str x _ hz,bytesOf_str z _ (Nat.le_refl _),ext_self,listEq])
  have er:begB x z=decide (x.extract 0 z.size=z):=by unfold begB; simp [hz]
  rw [er]
  refine acall_of_vc htb hmix (f:=36) rfl rfl rfl (by kernel_rfl) rfl rfl ?_; conv=>whnf
  repeat' (first|((with_reducible refine GOr.l ?_); (conv=>whnf); refine Exists.intro _ (And.intro (chainI (E)) ?_); conv=>whnf)|(refine And.intro ?_ ?_; (focus (first|(refine chainI ?_; (first|(first|omega|fail)|fail))|fail)); conv=>whnf)|(rw [hB]; conv=>whnf))
  all_goals exact Go.VA.leB rfl
 ·have hB:decide ((x.size:Int)≥(z.size:Int))=false:=by simpa using hz
  have er:begB x z=false:=by unfold begB; simp [hz]
  rw [er]
  have E:=aEqB t u z.size z.size (fun j=>strCells x (0+j)) (strCells z) (isbP x _ 0) (isbS z) _ rfl
  refine acall_of_vc htb hmix (f:=36) rfl rfl rfl (by kernel_rfl) rfl rfl ?_; conv=>whnf
  repeat' (first|((with_reducible refine GOr.l ?_); (conv=>whnf); refine Exists.intro _ (And.intro (chainI (E)) ?_); conv=>whnf)|(refine And.intro ?_ ?_; (focus (first|((conv=>whnf); intros; (try simp only [decide_eq_true_eq,decide_eq_false_iff_not,Bool.and_eq_true,Bool.or_eq_true,Bool.and_eq_false_imp,Bool.or_eq_false_iff,Bool.not_eq_true',Bool.not_eq_false',beq_iff_eq,bne_iff_ne,ne_eq] at *); (first|(first|omega|fail)|fail)))); conv=>whnf)|(rw [hB]; conv=>whnf))
  all_goals exact Go.VA.leB rfl
theorem preW (x z:ByteArray){W:World}{S:Rd}{v1 v2:Value}(hS:Sees S W)(h1:RepC S (oC x) v1)(h2:RepC S (oC z) v2):Calls Tryz.prog 36 #[v1,v2] (W.alloc (.cells #[v1,v2] 83)) fun e W'=>e= .returned (.bool (begB x z))∧W'.cell? ⟨W.heap.size,0,none⟩=some v1∧W'.cell? ⟨W.heap.size,1,none⟩=some v2∧Below (W.heap.size+1) (W.alloc (.cells #[v1,v2] 83)) W':=by
 have hS':Sees S (W.alloc (.cells #[v1,v2] 83)):=fun t b o u h=>by
  have:=hS t b o u h
  rw [World.cell?_of_block (w:=W) (Below.heap_alloc _ _ _ (block_lt this))]
  exact this
 have hv:RelVs [] (Sr M0 [] [] (W.alloc (.cells #[v1,v2] 83))) [.c (oC x),.c (oC z)] (#[v1,v2]:Array Value).toList:=by
  simp only [RelVs,RelV]
  exact ⟨_,_,rfl,RepC.mono hS'.le _ _ h1,_,_,rfl,RepC.mono hS'.le _ _ h2,rfl⟩
 refine ((aPreS false false x z).run _ M0 [] #[v1,v2] rfl (RelL_nil (fun b h=>h.elim)) (fun g=>trivial) hv).mono ?_
 rintro e W' ⟨u,rfl,hb,hu⟩
 obtain ⟨rfl,_⟩:u= .bool (begB x z)∧_:=hu
 have hb':Below (W.heap.size+1) (W.alloc (.cells #[v1,v2] 83)) W':=by simpa using hb
 have hbl:W'.heap[W.heap.size]? =some (.cells #[v1,v2] 83):=by rw [hb'.block _ (Nat.lt_succ_self _)]; exact hanew W _
 exact ⟨rfl,by simp [World.cell?,hbl],by simp [World.cell?,hbl],hb'⟩
set_option maxHeartbeats 4000000 in
set_option maxHeartbeats 4000000 in
theorem tornT (keep:Int)(x z:ByteArray)(hn:x.size≤262144)(hq:begB x z=true):TornC (oC x) (oC z) keep (.sl false 1 (z.size+pk keep (x.size-z.size)) (strCells x)):=fun W S v1 v2 hS h1 h2=>by
 have hP:=preW x z hS h1 h2
 rw [hq] at hP
 have hz:z.size≤x.size:=by
  first
   | exact Nat.zero_le _
   | (unfold begB at hq
      exact (of_decide_eq_true hq).1)
 simp only [RepC] at h1 h2
 obtain ⟨a,cap,rfl,⟨hc1,hc2⟩,h1⟩:=h1
 obtain ⟨a',cap',rfl,⟨hc1',hc2'⟩,h2⟩:=h2
 clear h1 h2
 have hN0:0<((x.size:Int)-(z.size:Int)+1):=by omega
 have hN:((x.size:Int)-(z.size:Int)+1)=((x.size-z.size:Nat):Int)+1:=by omega
 have t1:=tmod_b keep (m:=((x.size:Int)-(z.size:Int)+1)) hN0
 have k2:IntKind.i64.wrap (keep.tmod ((x.size:Int)-(z.size:Int)+1)+((x.size:Int)-(z.size:Int)+1))=keep.tmod ((x.size:Int)-(z.size:Int)+1)+((x.size:Int)-(z.size:Int)+1):=by rw [IntKind.wrap_i64]; omega
 have t2:0≤(keep.tmod ((x.size:Int)-(z.size:Int)+1)+((x.size:Int)-(z.size:Int)+1)).tmod ((x.size:Int)-(z.size:Int)+1)∧(keep.tmod ((x.size:Int)-(z.size:Int)+1)+((x.size:Int)-(z.size:Int)+1)).tmod ((x.size:Int)-(z.size:Int)+1)≤((x.size-z.size:Nat):Int):=by rw [hN]; exact pk_le keep (x.size-z.size)
 have e3:((pk keep (x.size-z.size):Nat):Int)=(keep.tmod ((x.size:Int)-(z.size:Int)+1)+((x.size:Int)-(z.size:Int)+1)).tmod ((x.size:Int)-(z.size:Int)+1):=by rw [hN]; exact Int.toNat_of_nonneg (pk_le keep (x.size-z.size)).1
 have k3:IntKind.i64.wrap ((z.size:Int)+(keep.tmod ((x.size:Int)-(z.size:Int)+1)+((x.size:Int)-(z.size:Int)+1)).tmod ((x.size:Int)-(z.size:Int)+1))=((z.size:Int)+(keep.tmod ((x.size:Int)-(z.size:Int)+1)+((x.size:Int)-(z.size:Int)+1)).tmod ((x.size:Int)-(z.size:Int)+1)):=by rw [IntKind.wrap_i64]; omega
 have k4:¬ (((x.size:Int)-(z.size:Int)+1)=0):=by omega
 have k5:((z.size:Int)+(keep.tmod ((x.size:Int)-(z.size:Int)+1)+((x.size:Int)-(z.size:Int)+1)).tmod ((x.size:Int)-(z.size:Int)+1))≤(cap:Int):=by omega
 have k6:(0:Int)≤((z.size:Int)+(keep.tmod ((x.size:Int)-(z.size:Int)+1)+((x.size:Int)-(z.size:Int)+1)).tmod ((x.size:Int)-(z.size:Int)+1)):=by omega
 clear hN
 rcases a with _|⟨b,o,g⟩
 ·go_enter Tryz.func33,Tryz.ntmps33
  go_wp2_with (go_at_call 36; refine hP.mono ?_; rintro e W1 ⟨rfl,hq0,hq1,hB1⟩)
  go_region
  go_wp2
  go_ret
  refine ⟨_,rfl,((Below.refl _ W).alloc (Nat.le_refl _) _).trans (hB1.mono (Nat.le_succ _)).drew,fun S' h=> ?_⟩
  obtain ⟨a,c,e1,⟨q1,q2⟩,h3⟩:=h
  simp only [Value.slice.injEq,true_and] at e1
  obtain ⟨rfl,rfl⟩:=e1
  have e5:(((z.size:Int)+(keep.tmod ((x.size:Int)-(z.size:Int)+1)+((x.size:Int)-(z.size:Int)+1)).tmod ((x.size:Int)-(z.size:Int)+1))).toNat=z.size+pk keep (x.size-z.size):=by omega
  exact ⟨_,_,congrArg (fun n=>Value.slice _ n _) e5,⟨by omega,by omega⟩,h3.elim (fun h=> .inl (by omega)) (fun ⟨b2,o2,e2,h4⟩=> .inr ⟨b2,o2,e2,fun i hi=>h4 i (by omega)⟩)⟩
 ·go_enter Tryz.func33,Tryz.ntmps33
  go_wp2_with (go_at_call 36; refine hP.mono ?_; rintro e W1 ⟨rfl,hq0,hq1,hB1⟩)
  go_region
  go_wp2
  go_ret
  refine ⟨_,rfl,((Below.refl _ W).alloc (Nat.le_refl _) _).trans (hB1.mono (Nat.le_succ _)).drew,fun S' h=> ?_⟩
  obtain ⟨a,c,e1,⟨q1,q2⟩,h3⟩:=h
  simp only [Value.slice.injEq,true_and] at e1
  obtain ⟨rfl,rfl⟩:=e1
  have e5:(((z.size:Int)+(keep.tmod ((x.size:Int)-(z.size:Int)+1)+((x.size:Int)-(z.size:Int)+1)).tmod ((x.size:Int)-(z.size:Int)+1))).toNat=z.size+pk keep (x.size-z.size):=by omega
  exact ⟨_,_,congrArg (fun n=>Value.slice _ n _) e5,⟨by omega,by omega⟩,h3.elim (fun h=> .inl (by omega)) (fun ⟨b2,o2,e2,h4⟩=> .inr ⟨b2,o2,e2,fun i hi=>h4 i (by omega)⟩)⟩
set_option maxHeartbeats 4000000 in
theorem tornF (keep:Int)(x z:ByteArray)(hn:x.size≤262144)(hq:begB x z=false):TornC (oC x) (oC z) keep (.sl false 1 (0+pk keep (x.size-0)) (strCells x)):=fun W S v1 v2 hS h1 h2=>by
 have hP:=preW x z hS h1 h2
 rw [hq] at hP
 have hz:0≤x.size:=by
  first
   | exact Nat.zero_le _
   | (unfold begB at hq
      exact (of_decide_eq_true hq).1)
 simp only [RepC] at h1 h2
 obtain ⟨a,cap,rfl,⟨hc1,hc2⟩,h1⟩:=h1
 obtain ⟨a',cap',rfl,⟨hc1',hc2'⟩,h2⟩:=h2
 clear h1 h2
 have hN0:0<((x.size:Int)+1):=by omega
 have hN:((x.size:Int)+1)=((x.size-0:Nat):Int)+1:=by omega
 have t1:=tmod_b keep (m:=((x.size:Int)+1)) hN0
 have k2:IntKind.i64.wrap (keep.tmod ((x.size:Int)+1)+((x.size:Int)+1))=keep.tmod ((x.size:Int)+1)+((x.size:Int)+1):=by rw [IntKind.wrap_i64]; omega
 have t2:0≤(keep.tmod ((x.size:Int)+1)+((x.size:Int)+1)).tmod ((x.size:Int)+1)∧(keep.tmod ((x.size:Int)+1)+((x.size:Int)+1)).tmod ((x.size:Int)+1)≤((x.size-0:Nat):Int):=by rw [hN]; exact pk_le keep (x.size-0)
 have e3:((pk keep (x.size-0):Nat):Int)=(keep.tmod ((x.size:Int)+1)+((x.size:Int)+1)).tmod ((x.size:Int)+1):=by rw [hN]; exact Int.toNat_of_nonneg (pk_le keep (x.size-0)).1
 have k3:IntKind.i64.wrap ((keep.tmod ((x.size:Int)+1)+((x.size:Int)+1)).tmod ((x.size:Int)+1))=((keep.tmod ((x.size:Int)+1)+((x.size:Int)+1)).tmod ((x.size:Int)+1)):=by rw [IntKind.wrap_i64]; omega
 have k4:¬ (((x.size:Int)+1)=0):=by omega
 have k5:((keep.tmod ((x.size:Int)+1)+((x.size:Int)+1)).tmod ((x.size:Int)+1))≤(cap:Int):=by omega
 have k6:(0:Int)≤((keep.tmod ((x.size:Int)+1)+((x.size:Int)+1)).tmod ((x.size:Int)+1)):=by omega
 clear hN
 rcases a with _|⟨b,o,g⟩
 ·go_enter Tryz.func33,Tryz.ntmps33
  go_wp2_with (go_at_call 36; refine hP.mono ?_; rintro e W1 ⟨rfl,hq0,hq1,hB1⟩)
  go_region
  go_wp2
  go_ret
  refine ⟨_,rfl,((Below.refl _ W).alloc (Nat.le_refl _) _).trans (hB1.mono (Nat.le_succ _)).drew,fun S' h=> ?_⟩
  obtain ⟨a,c,e1,⟨q1,q2⟩,h3⟩:=h
  simp only [Value.slice.injEq,true_and] at e1
  obtain ⟨rfl,rfl⟩:=e1
  have e5:(((keep.tmod ((x.size:Int)+1)+((x.size:Int)+1)).tmod ((x.size:Int)+1))).toNat=0+pk keep (x.size-0):=by omega
  exact ⟨_,_,congrArg (fun n=>Value.slice _ n _) e5,⟨by omega,by omega⟩,h3.elim (fun h=> .inl (by omega)) (fun ⟨b2,o2,e2,h4⟩=> .inr ⟨b2,o2,e2,fun i hi=>h4 i (by omega)⟩)⟩
 ·go_enter Tryz.func33,Tryz.ntmps33
  go_wp2_with (go_at_call 36; refine hP.mono ?_; rintro e W1 ⟨rfl,hq0,hq1,hB1⟩)
  go_region
  go_wp2
  go_ret
  refine ⟨_,rfl,((Below.refl _ W).alloc (Nat.le_refl _) _).trans (hB1.mono (Nat.le_succ _)).drew,fun S' h=> ?_⟩
  obtain ⟨a,c,e1,⟨q1,q2⟩,h3⟩:=h
  simp only [Value.slice.injEq,true_and] at e1
  obtain ⟨rfl,rfl⟩:=e1
  have e5:(((keep.tmod ((x.size:Int)+1)+((x.size:Int)+1)).tmod ((x.size:Int)+1))).toNat=0+pk keep (x.size-0):=by omega
  exact ⟨_,_,congrArg (fun n=>Value.slice _ n _) e5,⟨by omega,by omega⟩,h3.elim (fun h=> .inl (by omega)) (fun ⟨b2,o2,e2,h4⟩=> .inr ⟨b2,o2,e2,fun i hi=>h4 i (by omega)⟩)⟩
theorem TornC.le {x z y y':C}{keep:Int}(h:TornC x z keep y)(hy:∀ S u,RepC S y u→RepC S y' u):TornC x z keep y':=fun W S v1 v2 hS h1 h2=>(h W S v1 v2 hS h1 h2).mono fun e W' ⟨u,he,hb,hu⟩=>⟨u,he,hb,fun S' hx=>hy _ _ (hu S' hx)⟩
theorem pk_lt (keep:Int)(n:Nat):pk keep n≤n:=by
 have:=pk_le keep n
 unfold pk
 omega
theorem cut_get (x:ByteArray)(k i:Nat)(hk:k≤x.size)(hi:i<k):strCells x i=strCells (x.extract 0 k) i:=by
 unfold strCells
 rw [ByteArray.data_extract,Array.toList_extract]
 simp only [List.extract_eq_take_drop,List.drop_zero,Nat.sub_zero]
 rw [List.getElem?_take,if_pos hi]
theorem cut_le (x:ByteArray)(k:Nat)(hk:k≤x.size):∀ S u,RepC S (.sl false 1 k (strCells x)) u→RepC S (oC (x.extract 0 k)) u:=fun S u h=>by
 have hle:Le 0 (.c (.sl false 1 k (strCells x))) (.c (oC (x.extract 0 k))):=leSl (by rw [ext_size]; omega) (fun i hi=>cut_get x k i hk (by rw [ext_size] at hi; omega))
 exact hle.h [] S u (Nat.zero_le _) h
theorem btAll (keep:Int)(nm x z:ByteArray)(hx:x.size≤262144):Bt keep (nm,oC x,oC z,oC (torB keep x z)):=by
 by_cases e:x=z
 ·subst e
  have h:=aEqSD false false x x
  rw [decide_eq_true rfl] at h
  refine .inl ⟨h,?_⟩
  show oC (torB keep x x)=oC x
  unfold torB
  rw [if_pos rfl]
 ·have h:=aEqSD false false x z
  rw [decide_eq_false e] at h
  refine .inr ⟨h,?_⟩
  show TornC (oC x) (oC z) keep (oC (torB keep x z))
  unfold torB
  rw [if_neg e]
  dsimp only
  cases hb:begB x z with
  | true =>
   have hz:z.size≤x.size:=(of_decide_eq_true hb).1
   rw [if_pos rfl]
   exact (tornT keep x z hx hb).le (cut_le x _ (by have:=pk_lt keep (x.size-z.size); omega))
  | false =>
   rw [if_neg (by simp)]
   exact (tornF keep x z hx hb).le (cut_le x _ (by have:=pk_lt keep (x.size-0); omega))
end Go.Proofs.YtiodgjgngfklkaaGreatDoor
