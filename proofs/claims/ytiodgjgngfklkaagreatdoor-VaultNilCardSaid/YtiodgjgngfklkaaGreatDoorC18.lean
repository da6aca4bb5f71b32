/- Contracts of functions of the program,and the laws that stand on them: what each function answers,whatever its arguments. -/
import Derived.Test.YtiodgjgngfklkaaGreatDoorC13
import Derived.Test.YtiodgjgngfklkaaGreatDoorVD
set_option linter.all false
set_option maxRecDepth 100000
set_option maxHeartbeats 8000000
namespace Go.Proofs.YtiodgjgngfklkaaGreatDoor
open Go Go.VA
def AtL (s:ByteArray) (a:Nat) (L:List Int):Prop:=a+L.length≤s.size∧∀ j,j<L.length→byteN s (a+j)=L.getD j 0
theorem AtL.left {s:ByteArray}{a:Nat}{A B:List Int}(h:AtL s a (A++B)):AtL s a A:=by
 have h1:=h.1
 rw [List.length_append] at h1
 refine ⟨by omega,fun j hj=> ?_⟩
 rw [h.2 j (by rw [List.length_append]; omega)]
 simp [List.getD_eq_getElem?_getD,List.getElem?_append_left hj]
theorem AtL.right {s:ByteArray}{a:Nat}{A B:List Int}(h:AtL s a (A++B)):AtL s (a+A.length) B:=by
 have h1:=h.1
 rw [List.length_append] at h1
 refine ⟨by omega,fun j hj=> ?_⟩
 have:=h.2 (A.length+j) (by rw [List.length_append]; omega)
 rw [Nat.add_assoc,this]
 simp [List.getD_eq_getElem?_getD,List.getElem?_append_right (show A.length≤A.length+j by omega)]
theorem AtL.head {s:ByteArray}{a:Nat}{x:Int}{L:List Int}(h:AtL s a (x::L)):byteN s a=x∧a<s.size:=by
 have h1:=h.1
 rw [List.length_cons] at h1
 exact ⟨h.2 0 (by simp),by omega⟩
theorem AtL.tail {s:ByteArray}{a:Nat}{x:Int}{L:List Int}(h:AtL s a (x::L)):AtL s (a+1) L:=AtL.right (A:=[x]) (B:=L) h
theorem pow7s (i:Nat):2 ^ (7*(i+1))=128*2 ^ (7*i):=by rw [Nat.mul_add,Nat.pow_add]; omega
theorem gS_back (s:ByteArray):∀ (m k i acc n M:Nat),i+m=9→acc<2 ^ (7*i)→acc+n*2 ^ (7*i)<2 ^ 64→(0<n∨i=0)→AtL s (k+i) (shortF m n)→(shortF m n).length≤M →
  gS s k M i acc=(((acc+n*2 ^ (7*i):Nat):Int),((i+(shortF m n).length:Nat):Int),0)
 | 0,k,i,acc,n,M,hi,ha,hn,h0,hL,hM=>by
  obtain rfl:i=9:=by omega
  have h1:n≤1:=by omega
  simp only [shortF] at hL hM ⊢
  obtain ⟨M,rfl⟩:∃ m,M=m+1:=⟨M-1,by simp at hM; omega⟩
  have hb:=hL.head.1
  simp only [gS]
  rw [hb]
  have hn0:0<n:=by omega
  rw [if_neg (by simp; omega),if_pos (by simp; omega),if_neg (by simp; omega),gSt_eq acc 9 n (by omega) (by omega) ha (fun _=>h1)]
  rw [Nat.mod_eq_of_lt (by omega)]
  rfl
 | m+1,k,i,acc,n,M,hi,ha,hn,h0,hL,hM=>by
  obtain ⟨M,rfl⟩:∃ m,M=m+1:=⟨M-1,by
   have:0<(shortF (m+1) n).length:=by simp only [shortF]; split<;>simp
   omega⟩
  by_cases hs:n<128
  ·have e:shortF (m+1) n=[(n:Int)]:=by simp only [shortF]; rw [if_pos hs]
   rw [e] at hL ⊢
   have hb:=hL.head.1
   simp only [gS]
   rw [hb,if_neg (by simp; omega),if_pos (by simp; omega),if_neg (by simp; omega),gSt_eq acc i n (by omega) (by omega) ha (fun h=>by omega),Nat.mod_eq_of_lt hs]
   rfl
  ·have e:shortF (m+1) n=((n%128+128:Nat):Int)::shortF m (n/128):=by simp only [shortF]; rw [if_neg hs]
   rw [e] at hL hM ⊢
   have hb:=hL.head.1
   have hp:=pow7s i
   have hd:acc+n%128*2 ^ (7*i)+n/128*2 ^ (7*(i+1))=acc+n*2 ^ (7*i):=by
    rw [hp]
    have:n*2 ^ (7*i)=(128*(n/128)+n%128)*2 ^ (7*i):=by rw [Nat.div_add_mod]
    rw [this]
    grind
   have hlt:acc+n%128*2 ^ (7*i)<2 ^ (7*(i+1)):=by
    rw [hp]
    have h7:n%128≤127:=by omega
    have:=Nat.mul_le_mul_right (2 ^ (7*i)) h7
    omega
   simp only [gS]
   rw [hb,if_neg (by simp; omega),if_neg (by simp; omega),gSt_eq acc i (n%128+128) (by omega) (by omega) ha (fun h=>by omega)]
   rw [show (n%128+128)%128=n%128 by omega]
   have hL':AtL s (k+(i+1)) (shortF m (n/128)):=hL.tail
   rw [gS_back s m k (i+1) (acc+n%128*2 ^ (7*i)) (n/128) M (by omega) hlt (by rw [hd]; exact hn) (.inl (by omega)) hL' (by simpa using hM),hd]
   rw [List.length_cons]
   congr 2
   push_cast; omega
theorem gSx_back (s:ByteArray)(a n:Nat)(hn:n<2 ^ 64)(h:AtL s a (shortL n)):gSx s (a:Int)=((n:Int),((shortL n).length:Int),0):=by
 unfold gSx
 rw [Int.toNat_natCast]
 have hl:=h.1
 have:=gS_back s 9 a 0 0 n (s.size-a) rfl (by decide) (by rw [Nat.zero_add,Nat.mul_zero,Nat.pow_zero,Nat.mul_one]; exact hn) (.inr rfl) h (by show (shortL n).length≤_; omega)
 simp only [Nat.mul_zero,Nat.pow_zero,Nat.mul_one,Nat.zero_add] at this
 exact this
theorem ba_ext {x y:ByteArray}(h:x.size=y.size)(h2:∀ i,i<x.size→x.data.toList[i]? =y.data.toList[i]?):x=y:=by
 obtain ⟨⟨x⟩⟩:=x
 obtain ⟨⟨y⟩⟩:=y
 congr 2
 refine List.ext_getElem? fun i=> ?_
 by_cases hi:i<x.length
 ·exact h2 i (by simpa [ByteArray.size] using hi)
 ·have:x.length=y.length:=by simpa [ByteArray.size] using h
  rw [List.getElem?_eq_none (by omega),List.getElem?_eq_none (by omega)]
theorem subS_back (s t:ByteArray)(a:Nat)(h:AtL s a (bytesL t)):subS s a t.size=t:=by
 have hsz:(subS s a t.size).size=t.size:=by
  show (List.map (fun i=>byteC (strCells s (a+i))) (List.range t.size)).toArray.size=t.size
  rw [List.size_toArray,List.length_map,List.length_range]
 refine ba_ext hsz fun i hi=> ?_
 rw [hsz] at hi
 have hb:=h.2 i (by rw [bytesL_len]; exact hi)
 have hi':i<t.data.toList.length:=by simpa using hi
 have e1:(bytesL t).getD i 0=((t.data.toList[i]?.getD 0).toNat:Int):=by
  simp [bytesL,List.getD_eq_getElem?_getD,List.getElem?_map,List.getElem?_eq_getElem hi']
 rw [e1] at hb
 unfold byteN at hb
 have hb:(s.data.toList[a+i]?.getD 0)=(t.data.toList[i]?.getD 0):=by
  apply UInt8.toNat_inj.1
  omega
 simp only [subS,bytesOf]
 rw [List.getElem?_map,List.getElem?_range hi]
 simp only [Option.map_some,byteC,strCells]
 rw [hb]
 rw [List.getElem?_eq_getElem hi']
 simp
theorem gTx_back (s t:ByteArray)(a:Nat)(ht:t.size≤1024)(h:AtL s a (strL t)):gTx s (a:Int)=(t,((strL t).length:Int),0):=by
 have h1:AtL s a (shortL t.size):=h.left
 have h2:AtL s (a+(shortL t.size).length) (bytesL t):=h.right
 have hg:=gSx_back s a t.size (by omega) h1
 have hl:=h2.1
 rw [bytesL_len] at hl
 unfold gSx at hg
 rw [Int.toNat_natCast] at hg
 unfold gTx gStr
 rw [Int.toNat_natCast,hg]
 have w:IntKind.u64.wrap (if (0:Int)>1024 then 0 else 1024)=1024:=rfl
 rw [if_neg (by simp),w,if_neg (by simp; omega),if_neg (by simp; omega)]
 simp only [Int.toNat_natCast]
 rw [subS_back s t _ h2]
 have:(strL t).length=(shortL t.size).length+t.size:=by rw [strL,List.length_append,bytesL_len]
 rw [this]
 push_cast
 rfl
theorem zig_back (i:Int)(h0: -9223372036854775808≤i)(h1:i≤9223372036854775807):zgR ((zigI i).toNat:Int)=i:=by
 have hz:zigI i=if i<0 then -1-2*i else 2*i:=by
  unfold zigI
  have hs:shrI .i64 i 63=if i<0 then -1 else 0:=by
   unfold shrI
   have:min ((63:Int)).toNat IntKind.i64.bits=63:=by decide
   rw [this,Int.fdiv_eq_ediv_of_nonneg i (by decide)]
   split<;>omega
  have hl:shlI .u64 (IntKind.u64.wrap i) 1=if i<0 then 18446744073709551616+2*i else 2*i:=by
   show (i%18446744073709551616*2 ^ 1)%18446744073709551616=_
   split<;>omega
  rw [hs,hl]
  by_cases hi:i<0
  ·rw [if_pos hi,if_pos hi,if_pos hi]
   obtain ⟨n,hn⟩:∃ n:Nat,18446744073709551616+2*i=(n:Int):=⟨(18446744073709551616+2*i).toNat,by omega⟩
   rw [hn]
   have hn':n<2 ^ 64:=by omega
   unfold bitsI
   show IntKind.u64.wrap (((BitVec.ofInt 64 (n:Int) ^^^ BitVec.ofInt 64 (IntKind.u64.wrap (-1))).toNat:Nat):Int)=_
   rw [show BitVec.ofInt 64 (IntKind.u64.wrap (-1))=BitVec.allOnes 64 from by decide,BitVec.xor_allOnes,BitVec.toNat_not,ofNat64 _ hn']
   show (((2 ^ 64-1-n:Nat):Int))%18446744073709551616=_
   omega
  ·rw [if_neg hi,if_neg hi,if_neg hi]
   obtain ⟨n,hn⟩:∃ n:Nat,2*i=(n:Int):=⟨(2*i).toNat,by omega⟩
   rw [hn]
   have hn':n<2 ^ 64:=by omega
   unfold bitsI
   show IntKind.u64.wrap (((BitVec.ofInt 64 (n:Int) ^^^ BitVec.ofInt 64 (IntKind.u64.wrap 0)).toNat:Nat):Int)=_
   rw [show BitVec.ofInt 64 (IntKind.u64.wrap 0)=0#64 from by decide,BitVec.xor_zero,ofNat64 _ hn']
   show ((n:Nat):Int)%18446744073709551616=_
   omega
 rw [hz]
 by_cases hi:i<0
 ·rw [if_pos hi]
  obtain ⟨n,rfl⟩:∃ n:Nat,i= -1-(n:Int):=⟨(-1-i).toNat,by omega⟩
  have e:((-1-2*(-1-(n:Int))).toNat:Int)=((2*n+1:Nat):Int):=by omega
  rw [e]
  unfold zgR
  have ht:((2*n+1:Nat):Int).tdiv 2=(n:Int):=by rw [Int.tdiv_eq_ediv_of_nonneg (by omega)]; omega
  have hm:((2*n+1:Nat):Int).tmod 2=1:=by rw [Int.tmod_eq_emod_of_nonneg (by omega)]; omega
  rw [ht,hm,if_pos (by decide),wrapU (by omega) (by omega),wrap64 (n:=(n:Int)) (by omega) (by omega),wrap64 (by omega) (by omega)]
 ·rw [if_neg hi]
  obtain ⟨n,rfl⟩:∃ n:Nat,i=(n:Int):=⟨i.toNat,by omega⟩
  have e:((2*(n:Int)).toNat:Int)=((2*n:Nat):Int):=by omega
  rw [e]
  unfold zgR
  have ht:((2*n:Nat):Int).tdiv 2=(n:Int):=by rw [Int.tdiv_eq_ediv_of_nonneg (by omega)]; omega
  have hm:((2*n:Nat):Int).tmod 2=0:=by rw [Int.tmod_eq_emod_of_nonneg (by omega)]; omega
  rw [ht,hm,if_neg (by decide),wrapU (by omega) (by omega),wrap64 (by omega) (by omega)]
theorem ty_back (t:Ty)(h:chkR t=true):tyR (codeT t)=t∧0≤codeT t∧codeT t<256:=by
 obtain ⟨k,o⟩:=t
 unfold chkR at h
 split at h
 ·exact absurd h (by decide)
 ·rename_i hn
  simp at hn
  have hf:∀ a:Fin 6,∀ b:Fin 4,chkR ((a.val:Int),(b.val:Int))=true→tyR (codeT ((a.val:Int),(b.val:Int)))=((a.val:Int),(b.val:Int))∧0≤codeT ((a.val:Int),(b.val:Int))∧codeT ((a.val:Int),(b.val:Int))<256:=by decide +kernel
  obtain ⟨a,rfl⟩:∃ a:Nat,k=(a:Int):=⟨k.toNat,by omega⟩
  obtain ⟨b,rfl⟩:∃ b:Nat,o=(b:Int):=⟨o.toNat,by omega⟩
  refine hf ⟨a,by omega⟩ ⟨b,by omega⟩ ?_
  unfold chkR
  rw [if_neg (by simp; omega)]
  exact h
theorem first_back (v:V)(h0:0≤v.k)(h6:v.k≤6):kdR (firstB v)=v.k∧scR (firstB v)=v.sec∧0≤firstB v∧firstB v<256:=by
 obtain ⟨k,i,s,l,ks,tk,to,sec⟩:=v
 simp only [V.k,V.sec,firstB] at *
 obtain ⟨a,rfl⟩:∃ a:Nat,k=(a:Int):=⟨k.toNat,by omega⟩
 have hf:∀ a:Fin 7,∀ sec:Bool,(let f:=if sec=true then bitsI .or .u8 (IntKind.u8.wrap (a.val:Int)) 128 else IntKind.u8.wrap (a.val:Int); kdR f=(a.val:Int)∧scR f=sec∧0≤f∧f<256):=by decide +kernel
 exact hf ⟨a,by omega⟩ sec
theorem keysOk_at (ks:List ByteArray):∀ (r:List ByteArray) (c:Nat),keysOk ks r c=true→∀ (j:Nat) x,r[j]? =some x→keyOk ks (c+j) x=false
 | [],_,_,j,x,hx=>by simp at hx
 | y::r,c,h,0,x,hx=>by
  simp at hx
  subst hx
  simp only [keysOk] at h
  split at h
  ·exact absurd h (by decide)
  ·rename_i h1; simpa using h1
 | y::r,c,h,j+1,x,hx=>by
  simp only [keysOk] at h
  split at h
  ·exact absurd h (by decide)
  ·have:=keysOk_at ks r (c+1) h j x (by simpa using hx)
   rw [show c+(j+1)=c+1+j by omega]
   exact this
theorem key_back {ks:List ByteArray}{c:Nat}{x:ByteArray}(hc:c≤ks.length)(hb:ks.length≤1000000)(h:keyOk ks c x=false):keyBad (ks.take c) x=false∧x.size≤1024:=by
 unfold keyOk at h
 rw [Bool.or_eq_false_iff] at h
 obtain ⟨h1,h2⟩:=h
 have h1:x.size≤1024:=by
  have:=of_decide_eq_false h1
  omega
 refine ⟨?_,h1⟩
 unfold keyBad
 have hl:(ks.take c).length=c:=by rw [List.length_take]; omega
 rw [hl]
 by_cases h0:c=0
 ·subst h0; rfl
 ·have hw:(IntKind.i64.wrap ((c:Int)-1)).toNat=c-1:=by rw [wrap64 (by omega) (by omega)]; omega
  rw [hw] at h2 ⊢
  have e:(ks.take c).getD (c-1) ByteArray.empty=ks.getD (c-1) ByteArray.empty:=by
   rw [List.getD_eq_getElem?_getD,List.getD_eq_getElem?_getD,List.getElem?_take_of_lt (by omega)]
  rw [e]; exact h2
theorem layIts_pre (v:V)(rs:List (List Int))(c:Nat):∀ d,c≤d→∃ r,layIts v rs d=layIts v rs c++r:=by
 intro d h
 induction d with
 | zero => exact ⟨[], by obtain rfl : c = 0 := by omega
                         simp⟩
 | succ d ih =>
  by_cases hc:c=d+1
  ·exact ⟨[],by subst hc; simp⟩
  ·obtain ⟨r,hr⟩:=ih (by omega)
   exact ⟨r++((if v.k==5 then strL (v.ks.getD d ByteArray.empty) else [])++rs.getD d []),by rw [layIts_succ,hr,List.append_assoc]⟩
theorem AtL.pre {s:ByteArray}{a:Nat}{A B:List Int}(h:AtL s a B)(hp:∃ r,B=A++r):AtL s a A:=by
 obtain ⟨r,rfl⟩:=hp
 exact h.left
theorem rIt_back {val:Int→V×Int×Int}{s:ByteArray}{v:V}{a0:Nat}(hb:v.ks.length≤1000000)
  (hk:(v.k==5)=true→v.ks.length=v.l.length∧∀ (j:Nat) x,v.ks[j]? =some x→keyOk v.ks j x=false) (h4:(v.k==5)=false→v.ks=[])
  (hv:∀ (j:Nat) x,v.l[j]? =some x→∀ a:Nat,AtL s a (layL x)→val (a:Int)=(x,((a+(layL x).length:Nat):Int),0))
  (h:AtL s a0 (layIts v (v.l.map layL) v.l.length)):∀ m c,c+m=v.l.length →
  rIt val s v.k m (v.ks.take c) (v.l.take c) ((a0+(layIts v (v.l.map layL) c).length:Nat):Int)=(v.ks,v.l,((a0+(layIts v (v.l.map layL) v.l.length).length:Nat):Int),0)
 | 0,c,hc=>by
  obtain rfl:c=v.l.length:=by omega
  have e1:v.l.take v.l.length=v.l:=List.take_length
  have e2:v.ks.take v.l.length=v.ks:=by
   by_cases h5:(v.k==5)=true
   ·rw [← (hk h5).1]; exact List.take_length
   ·rw [h4 (by simpa using h5)]; simp
  rw [e1,e2]; rfl
 | m+1,c,hc=>by
  obtain ⟨x,hx⟩:∃ x,v.l[c]? =some x:=⟨_,List.getElem?_eq_getElem (show c<v.l.length by omega)⟩
  have hp:=h.pre (layIts_pre v (v.l.map layL) (c+1) v.l.length (by omega))
  have ih:=rIt_back hb hk h4 hv h m (c+1) (by omega)
  rw [layIts_succ] at hp
  rw [layIts_succ,List.length_append,List.length_append,getD_map layL v.l c (by omega) [] x hx,List.take_add_one,List.take_add_one,hx] at ih
  rw [getD_map layL v.l c (by omega) [] x hx] at hp
  have hp:=hp.right
  have hx2:=hv c x hx _ hp.right
  simp only [rIt]
  by_cases h5:(v.k==5)=true
  ·obtain ⟨hl,hko⟩:=hk h5
   obtain ⟨y,hy⟩:∃ y,v.ks[c]? =some y:=⟨_,List.getElem?_eq_getElem (show c<v.ks.length by omega)⟩
   have hyd:v.ks.getD c ByteArray.empty=y:=by rw [List.getD_eq_getElem?_getD,hy]; rfl
   obtain ⟨k1,k2⟩:=key_back (by omega) hb (hko c y hy)
   rw [if_pos h5,hyd] at hp hx2 ih
   have ht:=gTx_back s y _ k2 hp.left
   rw [if_pos h5,ht]
   have e:((a0+(layIts v (v.l.map layL) c).length:Nat):Int)+((strL y).length:Int)=((a0+(layIts v (v.l.map layL) c).length+(strL y).length:Nat):Int):=by push_cast; rfl
   simp only [e,hx2]
   rw [if_neg (by simp),if_neg (by rw [k1]; simp),if_neg (by simp)]
   rw [hy] at ih
   rw [← ih]
   congr 1
   push_cast; omega
  ·rw [if_neg h5] at hp hx2 ih
   have e0:v.ks=[]:=h4 (by simpa using h5)
   rw [List.length_nil,Nat.add_zero] at hx2
   rw [if_neg h5,hx2,if_neg (by simp)]
   rw [e0] at ih ⊢
   rw [← ih]
   have e9:∀ n:Nat,List.take n ([]:List ByteArray)++([]:List ByteArray)[n]?.toList=List.take n []:=fun n=>by simp
   rw [e9]
   congr 1
   show ((a0+(layIts v (v.l.map layL) c).length+(layL x).length:Nat):Int)=((a0+((layIts v (v.l.map layL) c).length+(0+(layL x).length)):Nat):Int)
   omega
theorem toList_nil {s:ByteArray}(h:(s.toList==({ data:= #[] }:ByteArray).toList)=true):s=ByteArray.empty:=eqs_iff.1 h
theorem lay_backV (s:ByteArray)(v:V):∀ (m:Nat) (d:Int) (a:Nat),allV v d=true→0≤d→d≤8→d≤m→rgV v=true→AtL s a (layL v) →
  rGet s m (9-d) (a:Int)=(v,((a+(layL v).length:Nat):Int),0):=by
 induction v using V.ind with
 | h v ih =>
 intro m d a hA hd0 hd8 hm hR hL
 rw [allV_eq] at hA
 have hdv:d≠0∧shaped v=true∧(v.l.all fun x=>allV x (IntKind.i64.wrap (d-1)))=true:=by
  split at hA
  ·exact absurd hA (by decide)
  ·rename_i h
   simp only [Bool.or_eq_true,beq_iff_eq,Bool.not_eq_true',not_or] at h
   exact ⟨h.1,by simpa using h.2,hA⟩
 obtain ⟨hd,hS,hl⟩:=hdv
 obtain ⟨m,rfl⟩:∃ k,m=k+1:=⟨m-1,by omega⟩
 rw [rgV_eq] at hR
 simp only [Bool.and_eq_true,decide_eq_true_eq] at hR
 obtain ⟨⟨r0,r1⟩,hR⟩:=hR
 rw [shaped_law v d (by omega)] at hS
 simp only [Bool.and_eq_true,Bool.not_eq_true'] at hS
 obtain ⟨⟨⟨⟨⟨⟨c1,c2⟩,c3⟩,c4⟩,c5⟩,c6⟩,ck⟩:=hS
 have hv:∀ (j:Nat) x,v.l[j]? =some x→∀ a:Nat,AtL s a (layL x)→rGet s m (IntKind.i64.wrap (9-d+1)) (a:Int)=(x,((a+(layL x).length:Nat):Int),0):=by
  intro j x hx a ha
  have hmem:=List.mem_of_getElem? hx
  have:=ih x hmem m (d-1) a (by
   have:=List.all_eq_true.1 hl x hmem
   rw [Go.VA.wrap_small (d:=d) (by omega) (by omega)] at this
   exact this) (by omega) (by omega) (by omega) (List.all_eq_true.1 hR x hmem) ha
  rw [wrap64 (by omega) (by omega),show 9-d+1=9-(d-1) by omega]
  exact this
 have k06:0≤v.k∧v.k≤6:=by unfold chk1 at c1; simp at c1; omega
 obtain ⟨f1,f2,f3,f4⟩:=first_back v k06.1 k06.2
 rw [layL_eq] at hL ⊢
 have hh:=hL.head
 have ht:=hL.tail
 simp only [rGet,rG1]
 have hb:byteAt s (a:Int)=firstB v:=by show byteN s (a:Int).toNat=_; rw [Int.toNat_natCast]; exact hh.1
 rw [if_neg (by simp; omega),if_neg (by simp; omega),hb,f1,f2]
 clear hb f1 f2 f3 f4 hh hL ih hA hl
 have e1:((a:Int)+1)=((a+1:Nat):Int):=by push_cast; rfl
 rw [e1]
 generalize ha:a+1=a1 at *
 have key:∀ (n:Nat) (w:V),n=(layB v (v.l.map layL)).length→w=v→(w,((a1+n:Nat):Int),(0:Int))=(v,((a+(firstB v::layB v (v.l.map layL)).length:Nat):Int),0):=by
  intro n w hn hw
  rw [hn,hw,List.length_cons,← ha]
  congr 2
  push_cast; omega
 obtain ⟨k,i,st,l,ks,tk,to,sec⟩:=v
 simp only [V.k,V.i,V.s,V.l,V.ks,V.tk,V.to,V.sec,V.t,chk2,chk3,chk4,chk5,chk6] at *
 simp only [Bool.or_eq_false_iff,Bool.and_eq_false_iff,decide_eq_false_iff_not] at c2 c3 c4 c5 c6
 have hk:k=0∨k=1∨k=2∨k=3∨k=4∨k=5∨k=6:=by omega
 rcases hk with rfl|rfl|rfl|rfl|rfl|rfl|rfl
 ·have hi:i=0:=by simpa using c2.1
  have hst:st=ByteArray.empty:=toList_nil (by simpa using c3.1)
  have ht0:tk=0∧to=0:=by simpa using c4.1
  have hl0:l=[]:=by simpa using c5.1
  have hk0:ks=[]:=by simpa using c6.1
  obtain ⟨rfl,rfl⟩:=ht0
  subst hi; subst hst; subst hl0; subst hk0
  unfold rGk
  rw [if_pos (by decide)]
  exact key 0 _ rfl rfl
 ·have hi:i=0∨i=1:=by simpa using c2.2
  have hst:st=ByteArray.empty:=toList_nil (by simpa using c3.1)
  have ht0:tk=0∧to=0:=by simpa using c4.1
  have hl0:l=[]:=by simpa using c5.1
  have hk0:ks=[]:=by simpa using c6.1
  obtain ⟨rfl,rfl⟩:=ht0
  subst hst; subst hl0; subst hk0
  have hh:=AtL.head (L:=[]) ht
  have hb:byteAt s (a1:Int)=i:=by
   show byteN s (a1:Int).toNat=_
   rw [Int.toNat_natCast,hh.1]
   rcases hi with rfl|rfl<;>rfl
  unfold rGk
  rw [if_neg (by decide),if_pos (by decide),if_neg (by simp; omega),hb,if_neg (by simp; omega)]
  exact key 1 _ rfl (by rw [wrap64 (by omega) (by omega)])
 ·have hst:st=ByteArray.empty:=toList_nil (by simpa using c3.1)
  have ht0:tk=0∧to=0:=by simpa using c4.1
  have hl0:l=[]:=by simpa using c5.1
  have hk0:ks=[]:=by simpa using c6.1
  obtain ⟨rfl,rfl⟩:=ht0
  subst hst; subst hl0; subst hk0
  have hz:=zigI_rg i
  have ht:AtL s a1 (shortL (zigI i).toNat):=ht
  have hg:=gSx_back s a1 (zigI i).toNat (by omega) ht
  unfold rGk
  rw [if_neg (by decide),if_neg (by decide),if_pos (by decide),hg,if_neg (by simp)]
  exact key (shortL (zigI i).toNat).length _ rfl (by rw [zig_back i r0 r1])
 ·have hi:i=0:=by simpa using c2.1
  have ht0:tk=0∧to=0:=by simpa using c4.1
  have hl0:l=[]:=by simpa using c5.1
  have hk0:ks=[]:=by simpa using c6.1
  obtain ⟨rfl,rfl⟩:=ht0
  subst hi; subst hl0; subst hk0
  have ht:AtL s a1 (strL st):=ht
  have hs3:st.size≤1024:=by
   have:=of_decide_eq_false c3.2
   omega
  have hg:=gTx_back s st a1 hs3 ht
  unfold rGk
  rw [if_neg (by decide),if_neg (by decide),if_neg (by decide),if_pos (by decide),hg,if_neg (by simp)]
  exact key (strL st).length _ rfl rfl
 ·have hi:i=0:=by simpa using c2.1
  have hst:st=ByteArray.empty:=toList_nil (by simpa using c3.1)
  have ht0:tk=0∧to=0:=by simpa using c4.1
  have hk0:ks=[]:=by simpa using c6.1
  have hl8:l.length≤128:=by
   have:=of_decide_eq_false c5.2
   omega
  obtain ⟨rfl,rfl⟩:=ht0
  subst hi; subst hst; subst hk0
  have ht:AtL s a1 (shortL l.length++layIts (V.mk 4 0 ByteArray.empty l [] 0 0 sec) (l.map layL) l.length):=ht
  have hg:=gSx_back s a1 l.length (by omega) ht.left
  have hr:=rIt_back (val:=rGet s m (IntKind.i64.wrap (9-d+1))) (s:=s) (v:=V.mk 4 0 ByteArray.empty l [] 0 0 sec) (a0:=a1+(shortL l.length).length) (by simp [V.ks]) (fun h=>absurd h (by simp [V.k])) (fun _=>rfl) hv ht.right l.length 0 (by simp [V.l])
  unfold rGk
  rw [if_neg (by decide),if_neg (by decide),if_neg (by decide),if_neg (by decide),if_neg (by decide),if_pos (by decide)]
  have hra:rAll (rGet s m (IntKind.i64.wrap (9-d+1))) s 4 (a1:Int)=([],l,((a1+(shortL l.length).length+(layIts (V.mk 4 0 ByteArray.empty l [] 0 0 sec) (l.map layL) l.length).length:Nat):Int),0):=by
   unfold rAll
   rw [hg]
   exact hr
  rw [hg,if_neg (by simp),if_neg (by simp; omega),hra,if_neg (by simp)]
  rw [Nat.add_assoc]
  exact key _ _ (List.length_append).symm rfl
 ·have hi:i=0:=by simpa using c2.1
  have hst:st=ByteArray.empty:=toList_nil (by simpa using c3.1)
  have ht0:tk=0∧to=0:=by simpa using c4.1
  have hk0:ks.length=l.length:=by
   have:=c6.2
   simp at this
   omega
  have hl8:l.length≤128:=by
   have:=of_decide_eq_false c5.2
   omega
  obtain ⟨rfl,rfl⟩:=ht0
  subst hi; subst hst
  have ht:AtL s a1 (shortL l.length++layIts (V.mk 5 0 ByteArray.empty l ks 0 0 sec) (l.map layL) l.length):=ht
  have hg:=gSx_back s a1 l.length (by omega) ht.left
  have hr:=rIt_back (val:=rGet s m (IntKind.i64.wrap (9-d+1))) (s:=s) (v:=V.mk 5 0 ByteArray.empty l ks 0 0 sec) (a0:=a1+(shortL l.length).length) (by show ks.length≤_; omega) (fun _=>⟨hk0,fun j x hx=>by have:=keysOk_at ks ks 0 ck j x hx; rwa [Nat.zero_add] at this⟩) (fun h=>absurd h (by simp [V.k])) hv ht.right l.length 0 (by simp [V.l])
  unfold rGk
  rw [if_neg (by decide),if_neg (by decide),if_neg (by decide),if_neg (by decide),if_neg (by decide),if_pos (by decide)]
  have hra:rAll (rGet s m (IntKind.i64.wrap (9-d+1))) s 5 (a1:Int)=(ks,l,((a1+(shortL l.length).length+(layIts (V.mk 5 0 ByteArray.empty l ks 0 0 sec) (l.map layL) l.length).length:Nat):Int),0):=by
   unfold rAll
   rw [hg]
   exact hr
  rw [hg,if_neg (by simp),if_neg (by simp; omega),hra,if_neg (by simp)]
  rw [Nat.add_assoc]
  exact key _ _ (List.length_append).symm rfl
 ·have hi:i=0:=by simpa using c2.1
  have hst:st=ByteArray.empty:=toList_nil (by simpa using c3.1)
  have hl0:l=[]:=by simpa using c5.1
  have hk0:ks=[]:=by simpa using c6.1
  have hc:chkR (tk,to)=true:=by simpa using c4.2
  subst hi; subst hst; subst hl0; subst hk0
  obtain ⟨t1,t2,t3⟩:=ty_back (tk,to) hc
  have hh:=AtL.head (x:=codeT (tk,to)) (L:=[]) ht
  have hb:byteAt s (a1:Int)=codeT (tk,to):=by
   show byteN s (a1:Int).toNat=_
   rw [Int.toNat_natCast,hh.1]
  unfold rGk
  rw [if_neg (by decide),if_neg (by decide),if_neg (by decide),if_neg (by decide),if_pos (by decide),if_neg (by simp; omega),hb,t1,hc,if_neg (by simp)]
  exact key 1 _ rfl rfl
theorem cGet_back (s:ByteArray)(v:V)(hc:checkV v=0)(hR:rgV v=true)(h:AtL s 0 (layL v)):cGet s=(v,((layL v).length:Int),0):=by
 unfold checkV at hc
 have hq:allV v 8=true∧weight v≤512:=by
  split at hc
  ·exact absurd hc (by decide)
  ·rename_i hn
   simp at hn
   exact hn
 have hb:=lay_backV s v 8 8 0 hq.1 (by decide) (by decide) (by decide) hR h
 have hb:rGet s 8 1 0=(v,((layL v).length:Int),0):=by
  have e:(9:Int)-8=1:=rfl
  rw [e,Nat.zero_add] at hb
  exact hb
 rw [cGet_eq]
 unfold dGet dGe
 rw [hb]
 rw [if_neg (show ¬(((0:Int)==0&&decide (weight v>512))=true) by simp; omega)]
 rfl
theorem shaped_parts {v:V}(h:shaped v=true):0≤v.k∧v.k≤6∧v.s.size≤1024∧v.l.length≤128∧(v.k≠4→v.k≠5→v.l=[])∧(v.k=5→v.ks.length=v.l.length)∧(v.k≠5→v.ks=[])∧keysOk v.ks v.ks 0=true:=by
 rw [shaped_law v 1 (by omega)] at h
 simp only [Bool.and_eq_true,Bool.not_eq_true'] at h
 obtain ⟨⟨⟨⟨⟨⟨c1,c2⟩,c3⟩,c4⟩,c5⟩,c6⟩,ck⟩:=h
 unfold chk1 at c1; unfold chk3 at c3; unfold chk5 at c5; unfold chk6 at c6
 simp only [Bool.or_eq_false_iff,Bool.and_eq_false_iff,decide_eq_false_iff_not,bne_eq_false_iff_eq,Bool.not_eq_false',beq_eq_false_iff_ne] at c1 c3 c5 c6
 refine ⟨by omega,by omega,by omega,by omega,fun h4 h5=> ?_,fun h5=> ?_,fun h5=> ?_,ck⟩
 ·apply List.eq_nil_of_length_eq_zero
  rcases c5.1 with (h|h)|h
  ·exact absurd h h4
  ·exact absurd h h5
  ·omega
 ·rcases c6.2 with h|h
  ·exact absurd h5 h
  ·omega
 ·apply List.eq_nil_of_length_eq_zero
  rcases c6.1 with h|h
  ·exact absurd h h5
  ·omega
theorem nIt_all {v:V}(h:shaped v=true):nIt v=v.l.length:=by
 obtain ⟨_,_,_,_,h1,h2,_,_⟩:=shaped_parts h
 unfold nIt nPairs
 by_cases h4:v.k=4
 ·rw [if_pos (by simpa using h4)]
 ·rw [if_neg (by simpa using h4)]
  by_cases h5:v.k=5
  ·rw [if_pos (by simpa using h5),h2 h5]; omega
  ·rw [if_neg (by simpa using h5),h1 h4 h5]; rfl
theorem allV_parts {v:V}{d:Int}(h:allV v d=true):d≠0∧shaped v=true∧∀ x ∈ v.l,allV x (IntKind.i64.wrap (d-1))=true:=by
 rw [allV_eq] at h
 split at h
 ·exact absurd h (by decide)
 ·rename_i hn
  simp only [Bool.or_eq_true,beq_iff_eq,Bool.not_eq_true',not_or] at hn
  exact ⟨hn.1,by simpa using hn.2,List.all_eq_true.1 h⟩
theorem fold_nat (B:Nat):∀ (l:List V) (acc:Nat),(∀ x ∈ l,∃ n:Nat,weight x=n∧n≤B∧bigL x+1044≤2108*n)→acc+l.length*B<2 ^ 63 →
  ∃ m:Nat,(l.map weight).foldl (fun n r=>IntKind.i64.wrap (n+r)) (acc:Int)=((acc+m:Nat):Int)∧m≤l.length*B∧(l.map bigL).sum+1044*l.length≤2108*m
 | [],acc,_,_=>⟨0,by simp,by simp,by simp⟩
 | x::r,acc,hx,hb=>by
  obtain ⟨n,h1,h2,h3⟩:=hx x (by simp)
  rw [List.length_cons,Nat.add_mul,Nat.one_mul] at hb
  obtain ⟨m,h4,h5,h6⟩:=fold_nat B r (acc+n) (fun y hy=>hx y (by simp [hy])) (by omega)
  refine ⟨n+m,?_,by rw [List.length_cons,Nat.add_mul,Nat.one_mul]; omega,by rw [List.map_cons,List.sum_cons,List.length_cons]; omega⟩
  rw [List.map_cons,List.foldl_cons,h1,show ((acc:Int)+(n:Int))=((acc+n:Nat):Int) by push_cast; rfl,wrap64 (by omega) (by omega),h4,Nat.add_assoc]
theorem sumTo_le (ks:List ByteArray)(hk:∀ (j:Nat) x,ks[j]? =some x→x.size≤1024)(rs:List Nat):∀ c,c≤rs.length→sumTo ks rs c≤1044*c+(rs.take c).sum
 | 0,_=>by simp [sumTo]
 | c+1,hc=>by
  have ih:=sumTo_le ks hk rs c (by omega)
  have hs:(ks.getD c ByteArray.empty).size≤1024:=by
   rw [List.getD_eq_getElem?_getD]
   cases h:ks[c]? with
   | none=>show ByteArray.empty.size≤1024; decide
   | some x=>exact hk c x h
  have hr:(rs.take (c+1)).sum=(rs.take c).sum+rs.getD c 0:=by
   rw [List.take_add_one,List.sum_append,List.getD_eq_getElem?_getD,List.getElem?_eq_getElem (show c<rs.length by omega)]
   simp
  simp only [sumTo]
  rw [hr]; omega
theorem keys_small {ks:List ByteArray}(h:keysOk ks ks 0=true)(j:Nat)(x:ByteArray)(hx:ks[j]? =some x):x.size≤1024:=by
 have:=keysOk_at ks ks 0 h j x hx
 unfold keyOk at this
 rw [Bool.or_eq_false_iff] at this
 have:=of_decide_eq_false this.1
 omega
theorem big_ok (v:V):∀ d:Nat,allV v d=true→d≤8→(∃ n:Nat,weight v=n∧n≤129 ^ d∧bigL v+1044≤2108*n)∧keyed v=true:=by
 induction v using V.ind with
 | h v ih =>
 intro d hA hd
 obtain ⟨h0,hS,hl⟩:=allV_parts hA
 obtain ⟨d,rfl⟩:∃ e,d=e+1:=⟨d-1,by omega⟩
 have hw:IntKind.i64.wrap (((d+1:Nat):Int)-1)=(d:Int):=by rw [wrap64 (by omega) (by omega)]; omega
 rw [hw] at hl
 obtain ⟨p1,p2,p3,p4,p5,p6,p7,p8⟩:=shaped_parts hS
 have hx:=fun x hx=>ih x hx d (hl x hx) (by omega)
 have hp:(129:Nat) ^ d≤129 ^ 7:=Nat.pow_le_pow_right (by decide) (by omega)
 have hm:v.l.length*129 ^ d≤128*129 ^ d:=Nat.mul_le_mul_right _ p4
 obtain ⟨m,h1,h2,h3⟩:=fold_nat (129 ^ d) v.l 1 (fun x hx'=>(hx x hx').1) (by omega)
 constructor
 ·refine ⟨1+m,?_,?_,?_⟩
  ·rw [weight_eq]
   unfold items
   rw [nIt_all hS,List.take_length]
   exact h1
  ·rw [Nat.pow_succ]
   have:0<129 ^ d:=Nat.pow_pos (by decide)
   omega
  ·rw [bigL_eq]
   have:=sumTo_le v.ks (keys_small p8) (v.l.map bigL) v.l.length (by simp)
   rw [List.take_of_length_le (by simp)] at this
   omega
 ·rw [keyed_eq]
  simp only [Bool.and_eq_true,List.all_eq_true]
  refine ⟨?_,fun x h=>(hx x h).2⟩
  by_cases h5:v.k=5
  ·simp [p6 h5]
  ·simp [h5]
theorem check_parts {v:V}(h:checkV v=0):allV v 8=true∧weight v≤512:=by
 unfold checkV at h
 split at h
 ·exact absurd h (by decide)
 ·rename_i hn
  simpa using hn
theorem check_big {v:V}(h:checkV v=0):bigL v≤2000000∧keyed v=true:=by
 obtain ⟨h1,h2⟩:=check_parts h
 obtain ⟨⟨n,h3,_,h4⟩,h5⟩:=big_ok v 8 h1 (by decide)
 exact ⟨by omega,h5⟩
abbrev Bys (l:List Int):Prop:=∀ x ∈ l,0≤x∧x<256
theorem bys_app {a b:List Int}(h:Bys a)(h2:Bys b):Bys (a++b):=fun x hx=>(List.mem_append.1 hx).elim (h x) (h2 x)
theorem bys_short:∀ (m k:Nat),k<256*128 ^ m→Bys (shortF m k)
 | 0,k,h,x,hx=>by simp [shortF] at hx; subst hx; simp at h; omega
 | m+1,k,h,x,hx=>by
  simp only [shortF] at hx
  split at hx
  ·simp at hx; subst hx; omega
  ·rcases List.mem_cons.1 hx with rfl|hx
   ·omega
   ·refine bys_short m (k/128) ?_ x hx
    rw [Nat.pow_succ] at h
    have:k<256*128 ^ m*128:=by rw [Nat.mul_assoc]; exact h
    omega
theorem bys_shortL {k:Nat}(h:k<2 ^ 64):Bys (shortL k):=bys_short 9 k (by omega)
theorem bys_str (s:ByteArray):Bys (bytesL s):=fun x hx=>by
 obtain ⟨y,_,rfl⟩:=List.mem_map.1 hx
 have:=y.toNat_lt
 omega
theorem bys_strL {s:ByteArray}(h:s.size≤1024):Bys (strL s):=bys_app (bys_shortL (by omega)) (bys_str s)
theorem bys_w8 (x:Int):0≤IntKind.u8.wrap x∧IntKind.u8.wrap x<256:=by
 show 0≤x%256∧x%256<256
 omega
theorem bys_one {x:Int}(h:0≤x∧x<256):Bys [x]:=fun y hy=>by simp at hy; subst hy; exact h
theorem codeT_rg (t:Ty):0≤codeT t∧codeT t<256:=by
 unfold codeT
 split
 ·exact bys_w8 _
 ·decide
theorem layL_bys (v:V):∀ d:Nat,allV v d=true→d≤8→Bys (layL v):=by
 induction v using V.ind with
 | h v ih =>
 intro d hA hd
 obtain ⟨h0,hS,hl⟩:=allV_parts hA
 obtain ⟨d,rfl⟩:∃ e,d=e+1:=⟨d-1,by omega⟩
 have hw:IntKind.i64.wrap (((d+1:Nat):Int)-1)=(d:Int):=by rw [wrap64 (by omega) (by omega)]; omega
 rw [hw] at hl
 obtain ⟨p1,p2,p3,p4,p5,p6,p7,p8⟩:=shaped_parts hS
 obtain ⟨_,_,f3,f4⟩:=first_back v p1 p2
 have hits:Bys (layIts v (v.l.map layL) v.l.length):=fun y hy=>by
  unfold layIts at hy
  obtain ⟨j,hj,hy⟩:=List.mem_flatMap.1 hy
  have hj:=List.mem_range.1 hj
  have hx:v.l[j]? =some v.l[j]:=List.getElem?_eq_getElem hj
  rw [getD_map layL v.l j hj [] _ hx] at hy
  refine bys_app ?_ (ih _ (List.mem_of_getElem? hx) d (hl _ (List.mem_of_getElem? hx)) (by omega)) y hy
  split
  ·refine bys_strL ?_
   rw [List.getD_eq_getElem?_getD]
   cases h:v.ks[j]? with
   | none=>show ByteArray.empty.size≤1024; decide
   | some x=>exact keys_small p8 j x h
  ·exact fun y hy=>absurd hy (by simp)
 rw [layL_eq]
 refine bys_app (a:=[firstB v]) (bys_one ⟨f3,f4⟩) ?_
 show Bys (if (v.k==1)=true then [IntKind.u8.wrap v.i] else _)
 split
 ·exact bys_one (bys_w8 _)
 ·split
  ·have:=zigI_rg v.i
   exact bys_shortL (by omega)
  ·split
   ·exact bys_strL p3
   ·split
    ·exact bys_one (codeT_rg _)
    ·split
     ·exact bys_app (bys_shortL (by omega)) hits
     ·exact fun y hy=>absurd hy (by simp)
def baL (l:List Int):ByteArray:=⟨(l.map fun x=>UInt8.ofNat x.toNat).toArray⟩
theorem baL_size (l:List Int):(baL l).size=l.length:=by
 show (l.map fun x=>UInt8.ofNat x.toNat).toArray.size=_
 rw [List.size_toArray,List.length_map]
theorem baL_byte {l:List Int}(h:Bys l)(i:Nat)(hi:i<l.length):byteN (baL l) i=l.getD i 0:=by
 unfold byteN baL
 have hx:l[i]? =some l[i]:=List.getElem?_eq_getElem hi
 rw [List.getElem?_map,hx,List.getD_eq_getElem?_getD,hx]
 have:=h _ (List.mem_of_getElem? hx)
 show ((UInt8.ofNat l[i].toNat).toNat:Int)=l[i]
 rw [UInt8.toNat_ofNat']
 omega
end Go.Proofs.YtiodgjgngfklkaaGreatDoor
