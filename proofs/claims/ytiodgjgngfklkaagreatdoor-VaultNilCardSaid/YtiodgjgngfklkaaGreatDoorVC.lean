/- An executor of the model over symbolic values,and the proof that what it shows of a function holds of every call: no condition. -/
import Derived.Test.YtiodgjgngfklkaaGreatDoorVB
import Derived.DeepKeys
set_option linter.all false
namespace Go.VA
open Go Go.RowKit
section
variable {P:Program} {tb:TB} {gl:Gl} {ops:Array Oper} {Q:Exit→Act→World→Prop}
theorem count_set:∀ (l:List Bool) (i:Nat),l[i]? =some false→(l.set i true).count true=l.count true+1
 | [],_,h=>by simp at h
 | x::r,0,h=>by simp at h; subst h; simp
 | x::r,i+1,h=>by
  have:=count_set r i (by simpa using h)
  simp only [List.set_cons_succ,List.count_cons,this]
  omega
theorem count_all:∀ (l:List Bool),l.count true=l.length→∀ i,i<l.length→l[i]? =some true
 | [],_,i,hi=>by simp at hi
 | x::r,h,i,hi=>by
  have hle:=List.count_le_length (l:=r) (a:=true)
  cases x with
  | false=>simp at h; omega
  | true =>
   cases i with
   | zero=>rfl
   | succ i=>simpa using count_all r (by simpa using h) i (by simpa using hi)
theorem wpAny_inv {I:Array Bool→Act→World→Prop}
  (hstep:∀ listed a w,listed.size=ops.size→I listed a w→∀ i ∈ Region.ready .any ops listed,wpOp P ops Q i (I (listed.setIfInBounds i true)) a w)
  (hdone:∀ listed a w,listed.size=ops.size→I listed a w→Region.ready .any ops listed=[]→Q .normal a w) :
  ∀ (fuel:Nat) (listed:Array Bool) (a:Act) (w:World),listed.size=ops.size→listed.toList.count true+fuel=ops.size→I listed a w→wpAny P .any ops Q fuel listed a w
 | 0,listed,a,w,hs,hc,hI=>by
  have hr:Region.ready .any ops listed=[]:=by
   cases hq:Region.ready .any ops listed with
   | nil=>rfl
   | cons x xs =>
    exfalso
    have hx:x ∈ Region.ready .any ops listed:=by rw [hq]; simp
    obtain ⟨h0,o,ho,_⟩:=mem_ready.1 hx
    have hlt:=(Array.getElem?_eq_some_iff.1 ho).1
    have:=count_all listed.toList (by rw [Array.length_toList]; omega) x (by rw [Array.length_toList]; omega)
    have h1:listed[x]? =some true:=by simpa using this
    rw [Array.getD_eq_getD_getElem?,h1] at h0
    simp at h0
  exact ⟨hr,hdone listed a w hs hI hr⟩
 | fuel+1,listed,a,w,hs,hc,hI=>by
  refine ⟨hdone listed a w hs hI,fun i hi=>wpOp_mono (fun a' w' h=> ?_) (hstep listed a w hs hI i hi)⟩
  obtain ⟨h0,o,ho,_⟩:=mem_ready.1 hi
  have hlt:=(Array.getElem?_eq_some_iff.1 ho).1
  refine wpAny_inv hstep hdone fuel _ a' w' (by simp [hs]) ?_ h
  have h1:listed.toList[i]? =some false:=by
   have h2:i<listed.size:=by omega
   simp [h2] at h0
   simp [h2,h0]
  rw [Array.toList_setIfInBounds,count_set _ _ h1]
  omega
def DownC (ops:Array Oper) (listed:Array Bool):Prop :=
 ∀ j,listed.getD j false=true→∀ o,ops[j]? =some o→∀ e ∈ o.after,Region.binds .any e=true→listed.getD e.on false=true
theorem DownC.anc {listed:Array Bool}(h:DownC ops listed){j i:Nat}(ha:Anc ops j i):listed.getD j false=true→listed.getD i false=true:=by
 induction ha with
 | base a b c d=>intro hj; rw [← d]; exact h _ hj _ a _ b c
 | step a b c _ ih=>intro hj; exact ih (h _ hj _ a _ b c)
theorem ready_anc {listed:Array Bool}(h:DownC ops listed){j i:Nat}(hr:j ∈ Region.ready .any ops listed)(ha:Anc ops j i):listed.getD i false=true:=by
 obtain ⟨_,o,ho,hall⟩:=mem_ready.1 hr
 cases ha with
 | base a b c d=>rw [a] at ho; simp only [Option.some.injEq] at ho; subst ho; rw [← d]; exact hall _ b c
 | step a b c d=>rw [a] at ho; simp only [Option.some.injEq] at ho; subst ho; exact h.anc d (hall _ b c)
theorem DownC.set {listed:Array Bool}(h:DownC ops listed){i:Nat}(hr:i ∈ Region.ready .any ops listed):DownC ops (listed.setIfInBounds i true):=by
 intro j hj o ho e he hb
 by_cases hij:j=i
 ·subst hij
  obtain ⟨_,o',ho',hall⟩:=mem_ready.1 hr
  rw [ho] at ho'; simp only [Option.some.injEq] at ho'; subst ho'
  exact getD_set_true (hall e he hb)
 ·rw [getD_set_ne false (Ne.symm hij)] at hj
  exact getD_set_true (h j hj o ho e he hb)
theorem unready {listed:Array Bool}(hs:listed.size=ops.size){j:Nat}(hr:j ∈ Region.ready .any ops listed):listed.getD j false=false:=by
 obtain ⟨h0,o,ho,_⟩:=mem_ready.1 hr
 have hlt:=(Array.getElem?_eq_some_iff.1 ho).1
 have h2:j<listed.size:=by omega
 simp [h2] at h0 ⊢
 exact h0
theorem ready_first (hd:DrawOk ops){listed:Array Bool}(hs:listed.size=ops.size){j:Nat}(hj:j<ops.size)(hun:listed.getD j false=false)(hall:∀ i,i<j→listed.getD i false=true) :
  j ∈ Region.ready .any ops listed:=by
 have h2:j<listed.size:=by omega
 refine mem_ready.2 ⟨?_,ops[j],by simp [hj],fun e he hb=>hall _ (hd.back j _ (by simp [hj]) e he hb)⟩
 simp [h2] at hun ⊢
 exact hun
theorem exists_first {listed:Array Bool}:∀ (n:Nat),(∀ i,i<n→listed.getD i false=true)∨∃ j,j<n∧listed.getD j false=false∧∀ i,i<j→listed.getD i false=true
 | 0=> .inl (by simp)
 | n+1=>by
  rcases exists_first (listed:=listed) n with h|⟨j,hj,h1,h2⟩
  ·cases hq:listed.getD n false with
   | true =>
    refine .inl fun i hi=> ?_
    rcases Nat.lt_or_ge i n with h1|h1
    ·exact h i h1
    ·obtain rfl:i=n:=by omega
     exact hq
   | false=>exact .inr ⟨n,by omega,hq,h⟩
  ·exact .inr ⟨j,by omega,h1,h2⟩
theorem none_ready (hd:DrawOk ops){listed:Array Bool}(hs:listed.size=ops.size)(hr:Region.ready .any ops listed=[]):∀ i,i<ops.size→listed.getD i false=true:=by
 rcases exists_first (listed:=listed) ops.size with h|⟨j,hj,h1,h2⟩
 ·exact h
 ·have:=ready_first hd hs hj h1 h2
  rw [hr] at this
  simp at this
structure SlotI (X:Fx) (ops:Array Oper) (B:List (Option BI)) (L:List AO) (env:Env) (V:Nat→AV) (listed:Array Bool) (a:Act) (w:World):Prop where
 st:St X B [] L a w
 done:∀ j,listed.getD j false=true→∀ t,Wr ops j t→RelSl B (Sr X.M B L w) a (V j) (a.tmps.getD t undef)
 old:∀ t,(∀ j,listed.getD j false=true→¬ Wr ops j t)→RelSl B (Sr X.M B L w) a (get env t) (a.tmps.getD t undef)
theorem SlotI.rel {X:Fx}{B:List (Option BI)}{L:List AO}{env:Env}{V:Nat→AV}{listed:Array Bool}{a:Act}{w:World}(h:SlotI X ops B L env V listed a w)(hs:listed.size=ops.size)(hdc:DownC ops listed)
  {i k:Nat} (hik:i<k) (hu:Uniq ops k) (hr:i ∈ Region.ready .any ops listed) :
  RelE B (Sr X.M B L w) (restrict (Lk ops i) (envAt env ops.toList V i)) a:=by
 have hun:=unready hs hr
 intro t
 by_cases hl:Lk ops i t
 ·rw [(get_restrict _ _ t).1 hl]
  by_cases hw:∃ j,j<i∧Wr ops j t
  ·obtain ⟨j,hj,hwj⟩:=hw
   rw [envAt_some hj hwj fun j' hj' hw'=>hu j' j t (by omega) (by omega) hw' hwj]
   rcases hl with ⟨j',hj',hw',ha⟩|⟨hno,_⟩
   ·obtain rfl:=hu j j' t (by omega) (by omega) hwj hw'
    exact h.done j (ready_anc hdc hr ha) t hwj
   ·exact absurd hwj (hno j hj)
  ·rw [envAt_none fun j hj hwj=>hw ⟨j,hj,hwj⟩]
   refine h.old t fun j hj hwj=> ?_
   rcases Nat.lt_trichotomy j i with h1|h1|h1
   ·exact hw ⟨j,h1,hwj⟩
   ·subst h1; rw [hun] at hj; simp at hj
   ·have ha:Anc ops j i:=by
     rcases hl with ⟨j',hj',hw',_⟩|⟨_,hall⟩
     ·exact absurd ⟨j',hj',hw'⟩ hw
     ·exact hall j h1 hwj
    rw [hdc.anc ha hj] at hun
    simp at hun
 ·rw [(get_restrict _ _ t).2 hl]
  simp [RelSl,RelV]
theorem RelSl.put {B:List (Option BI)}{S:Rd}{a:Act}{x:AV}{v:Value}{dst:Option Nat}{u:Value}(h:RelSl B S a x v)(hs:∀ s w y,x= .gd s w y→dst≠some s):RelSl B S (a.put dst u) x v:=by
 cases x with
 | gd s w y =>
  simp only [RelSl] at h ⊢
  rw [getD_put (hs s w y rfl)]
  exact h
 | _=>exact h
theorem listed_set {listed:Array Bool}{i j:Nat}(h:(listed.setIfInBounds i true).getD j false=true):j=i∨listed.getD j false=true:=by
 by_cases hij:j=i
 ·exact .inl hij
 ·rw [getD_set_ne false (Ne.symm hij)] at h; exact .inr h
theorem SlotI.next {X:Fx}{B:List (Option BI)}{L:List AO}{env:Env}(hn:NoGd env){V:Nat→AV}{listed:Array Bool}{a:Act}{w w':World}(h:SlotI X ops B L env V listed a w)(hs:listed.size=ops.size)
  (hd:DrawOk ops) (hdc:DownC ops listed) {i k:Nat} (hik:i<k) (hu:Uniq ops k) (hg:GdOf ops V k) (hr:i ∈ Region.ready .any ops listed) (hk:∀ j,listed.getD j false=true→j<k)
  {o:Oper} (ho:ops[i]? =some o) (hlt:∀ d,o.dst=some d→d<X.nt) (hext:Below w.heap.size w w') {u:Value} (hx:∀ d,o.dst=some d→RelSl B (Sr X.M B L w') (a.put o.dst u) (V i) u) :
  SlotI X ops B L env V (listed.setIfInBounds i true) (a.put o.dst u) w':=by
 have hun:=unready hs hr
 refine ⟨?_,fun j hj t hw=> ?_,fun t ht=> ?_⟩
 ·have:=(h.st.ext hext).put (seen:=[]) (fun s hs=>by simp [keysE] at hs) (dst:=o.dst) (by cases o.dst<;>rfl) hlt (x:= .any) (u:=u) (by simp [RelSl,RelV])
  exact ⟨this.relL,this.glob,fun t=>by simp [get,RelSl,RelV],this.below,this.fresh,this.old,this.rol,this.l0,this.knd,this.dfr,this.sz⟩
 ·rcases listed_set hj with rfl|hj
  ·obtain ⟨o',e1,e2⟩:=hw
   rw [ho] at e1; simp only [Option.some.injEq] at e1; subst e1
   have:=hx t e2
   rw [e2] at this ⊢
   rw [getD_put_same (by rw [h.st.sz]; exact hlt t e2)]
   exact this
  ·have hjk:=hk j hj
   have hne:o.dst≠some t:=fun e=>by
    obtain rfl:=hu i j t hik hjk ⟨o,ho,e⟩ hw
    rw [hun] at hj; simp at hj
   rw [getD_put hne]
   refine RelSl.put (RelSl.mono (Ble.refl B) (Sr_ext hext) _ _ (h.done j hj t hw)) fun s wt y hv hds=> ?_
   obtain ⟨oj,g,h1,h2,h3⟩:=hg j hjk s wt y hv
   have hgj:=hd.guard j oj g wt h1 h2
   cases hog:ops[g]? with
   | none=>simp [hog] at h3
   | some og =>
    simp only [hog,Option.bind_some] at h3
    obtain rfl:=hu i g s hik (by omega) ⟨o,ho,hds⟩ ⟨og,hog,h3⟩
    rw [ho] at hog; simp only [Option.some.injEq] at hog; subst hog
    rcases hd.conf i j o oj hgj ho h1 with h4|h4
    ·exact absurd (by simp [Oper.looksAt,h2,ho,h3]) ((Oper.apart_spec h4).1 s h3)
    ·rw [hdc.anc h4 hj] at hun; simp at hun
 ·have hne:o.dst≠some t:=fun e=>by
   have hlt':i<listed.size:=by rw [hs]; exact (Array.getElem?_eq_some_iff.1 ho).1
   exact ht i (by simp [hlt']) ⟨o,ho,e⟩
  rw [getD_put hne]
  refine RelSl.put (RelSl.mono (Ble.refl B) (Sr_ext hext) _ _ (h.old t fun j hj hw=>ht j (getD_set_true hj) hw)) fun s wt y hv=> ?_
  have:=hn _ (get_key hv)
  simp at this
theorem SlotI.step {X:Fx}(hgl:X.gl=gl){B:List (Option BI)}{L:List AO}{env:Env}(hn:NoGd env){V:Nat→AV}{listed:Array Bool}{a:Act}{w:World}(h:SlotI X ops B L env V listed a w)(hs:listed.size=ops.size)
  (hd:DrawOk ops) (hdc:DownC ops listed) {i k:Nat} (hik:i<k) (hu:Uniq ops k) (hg:GdOf ops V k) (hr:i ∈ Region.ready .any ops listed) (hk:∀ j,listed.getD j false=true→j<k)
  (hpf:PF P gl ops L env V i) (hlt:∀ o,ops[i]? =some o→∀ d,o.dst=some d→d<X.nt) {K:Act→World→Prop}
  (hK:∀ a' w',SlotI X ops B L env V (listed.setIfInBounds i true) a' w'→K a' w'):wpOp P ops Q i K a w:=by
 obtain ⟨o,ho,hpf⟩:=hpf
 have hrel:=h.rel hs hdc hik hu hr
 have hlt:=hlt o ho
 subst hgl
 unfold wpOp
 simp only [ho]
 rcases hpf with ⟨h1,h2,h3⟩|⟨g,wt,s,x,h1,h2,h3,h4⟩
 ·rw [if_pos (by simp [Region.wanted,h1])]
  refine .inl (h3 X.M B a w h.st.relL h.st.glob hrel trivial K Q fun u w' ⟨k1,k2⟩=>hK _ _ ?_)
  exact h.next hn hs hd hdc hik hu hg hr hk ho hlt k1 fun d _=>RelV.notGd h2 k2
 ·have hs':dstOf ops.toList g=some s:=by rw [dstOf_eq,← h2]; simp
  have hds:o.dst≠some s:=fun e=>by
   have hgi:=hd.guard i o g wt ho h1
   cases hog:ops[g]? with
   | none=>simp [hog] at h2
   | some og =>
    simp only [hog,Option.bind_some] at h2
    have:=hu i g s hik (by omega) ⟨o,ho,e⟩ ⟨og,hog,h2⟩
    omega
  split
  ·rename_i hw
   have hkey:=(wanted_iff h1 hs').1 hw
   refine .inl (h4 X.M B a w h.st.relL h.st.glob hrel hkey K Q fun u w' ⟨k1,k2⟩=>hK _ _ ?_)
   refine h.next hn hs hd hdc hik hu hg hr hk ho hlt k1 fun d _=> ?_
   rw [h3]
   simp only [RelSl]
   rw [getD_put hds]
   exact ⟨fun _=>k2,fun hne=>absurd hkey hne⟩
  ·rename_i hw
   refine hK _ _ (h.next hn hs hd hdc hik hu hg hr hk ho hlt (Below.refl _ _) fun d _=> ?_)
   rw [h3]
   simp only [RelSl]
   rw [getD_put hds]
   exact ⟨fun e=>absurd ((wanted_iff h1 hs').2 e) hw,by simp⟩
theorem SlotI.full {X:Fx}{B:List (Option BI)}{L:List AO}{env:Env}{V:Nat→AV}{listed:Array Bool}{a:Act}{w:World}(h:SlotI X ops B L env V listed a w){k:Nat}(hu:Uniq ops k)
  (hall:∀ j,j<k→listed.getD j false=true) (hk:∀ j,listed.getD j false=true→j<k):St X B (envAt env ops.toList V k) L a w:=by
 refine { h.st with relE:=fun t=> ?_ }
 by_cases hw:∃ j,j<k∧Wr ops j t
 ·obtain ⟨j,hj,hwj⟩:=hw
  rw [envAt_some hj hwj fun j' hj' hw'=>hu j' j t (by omega) (by omega) hw' hwj]
  exact h.done j (hall j hj) t hwj
 ·rw [envAt_none fun j hj hwj=>hw ⟨j,hj,hwj⟩]
  exact h.old t fun j hj hwj=>hw ⟨j,hk j hj,hwj⟩
theorem frontOps_sound (htb:TbOk P tb){X:Fx}(hgl:X.gl=gl){ro:Nat}(hro:X.M.ro=ro)(hd:DrawOk ops)(hlt:∀ o ∈ ops.toList,∀ d,o.dst=some d→d<X.nt){env:Env}(hn:NoGd env){L:List AO}{B:List (Option BI)}{a:Act}{w:World}
  {K:Env→List AO→Prop} (hS:St X B env L a w) (h:frontOps P tb gl ro ops.toList ops.toList [] env L K)
  (hQ:∀ env' L' B' a' w',K env' L'→Top (cntD ops.toList) env'→St X B' env' L' a' w'→Q .normal a' w'):wpAny P .any ops Q ops.size (Array.replicate ops.size false) a w:=by
 obtain ⟨V,k,hF⟩:=front_split htb hd hn ops.toList 0 [] (fun _=> .any) 0 (by simp) (by simp) (by simp) (fun j j' t hj=>by omega) (fun j hj=>by omega) (by simp) hn.gdIn hn.top (by simpa [envAt] using h)
 obtain ⟨seen,hgd,htail⟩:=hF.tail
 obtain ⟨m,htop,hm⟩:=hF.top
 have hlt':∀ (i:Nat) (o:Oper),ops[i]? =some o→∀ d,o.dst=some d→d<X.nt:=fun i o ho=>hlt o (by
  have:ops.toList[i]? =some o:=by simpa using ho
  exact List.mem_of_getElem? this)
 have hfull:∀ (listed:Array Bool) (a:Act) (w:World),SlotI X ops B L env V listed a w→(∀ j,j<k→listed.getD j false=true)→(∀ j,listed.getD j false=true→j<k)→wpList P ops Q (ops.toList.drop k) a w:=by
  intro listed a w hI h1 h2
  refine seqOps_sound htb hgl hro (ops.toList.drop k) seen _ L B a w m (fun o ho=>hlt o (List.mem_of_mem_drop ho)) hgd htop (hI.full hF.uniq h1 h2) htail fun env' L' B' a' w' k1 k2 k3=> ?_
  rw [hm] at k2
  exact hQ _ _ _ _ _ k1 (by simpa using k2) k3
 let I:Array Bool→Act→World→Prop:=fun listed a w=>DownC ops listed ∧
  ((SlotI X ops B L env V listed a w∧∀ j,listed.getD j false=true→j<k) ∨
   ∃ j,k≤j∧(∀ i,i<j→listed.getD i false=true)∧(∀ i,listed.getD i false=true→i<j)∧wpList P ops Q (ops.toList.drop j) a w)
 have late:∀ (listed:Array Bool) (j:Nat),listed.size=ops.size→DownC ops listed→k≤j→(∀ i,i<j→listed.getD i false=true)→(∀ i,listed.getD i false=true→i<j)→∀ i ∈ Region.ready .any ops listed,i=j:=by
  intro listed j hs hdc hkj h1 h2 i hi
  have hun:=unready hs hi
  rcases Nat.lt_trichotomy i j with h3|h3|h3
  ·rw [h1 i h3] at hun; simp at hun
  ·exact h3
  ·exfalso
   obtain ⟨_,oi,hoi,_⟩:=mem_ready.1 hi
   have hklt:k<ops.size:=by have:=(Array.getElem?_eq_some_iff.1 hoi).1; omega
   have ha:=hd.tail k i ops[k] oi (by omega) (by simp [hklt]) hoi (hF.imp _ (by simp [hklt])) j h3
   have:=h2 j (ready_anc hdc hi ha)
   omega
 have hstepB:∀ (listed:Array Bool) (a:Act) (w:World) (j:Nat),listed.size=ops.size→DownC ops listed→k≤j→(∀ i,i<j→listed.getD i false=true)→(∀ i,listed.getD i false=true→i<j)→wpList P ops Q (ops.toList.drop j) a w →
   ∀ i ∈ Region.ready .any ops listed,wpOp P ops Q i (I (listed.setIfInBounds i true)) a w:=by
  intro listed a w j hs hdc hkj h1 h2 h3 i hi
  obtain rfl:=late listed j hs hdc hkj h1 h2 i hi
  obtain ⟨_,o,ho,_⟩:=mem_ready.1 hi
  have hol:ops.toList[i]? =some o:=by simpa using ho
  have hil:i<ops.toList.length:=(List.getElem?_eq_some_iff.1 hol).1
  have hdrop:ops.toList.drop i=o::ops.toList.drop (i+1):=by
   rw [List.drop_eq_getElem_cons hil]
   rw [List.getElem?_eq_getElem hil] at hol
   simp only [Option.some.injEq] at hol
   rw [hol]
  have hnext:∀ a' w',wpList P ops Q (ops.toList.drop (i+1)) a' w'→I (listed.setIfInBounds i true) a' w':=fun a' w' hw=>by
   refine ⟨hdc.set hi,.inr ⟨i+1,by omega,fun l hl=> ?_,fun l hl=> ?_,hw⟩⟩
   ·rcases Nat.lt_or_ge l i with h4|h4
    ·exact getD_set_true (h1 l h4)
    ·obtain rfl:l=i:=by omega
     have:l<listed.size:=by rw [hs]; simpa using hil
     simp [this]
   ·rcases listed_set hl with rfl|hl
    ·omega
    ·have:=h2 l hl; omega
  rw [hdrop] at h3
  refine wpOp_mono hnext ?_
  unfold wpOp
  simp only [ho]
  exact h3
 refine wpAny_inv (I:=I) (fun listed a w hs hI i hi=> ?_) (fun listed a w hs hI hr=> ?_) ops.size _ a w (by simp) (by simp [List.count_replicate]) ⟨fun j hj=> ?_,.inl ⟨?_,fun j hj=> ?_⟩⟩
 ·obtain ⟨hdc,hI⟩:=hI
  rcases hI with ⟨hI,hk⟩|⟨j,hkj,h1,h2,h3⟩
  ·rcases Nat.lt_or_ge i k with hik|hik
   ·refine hI.step hgl hn hs hd hdc hik hF.uniq hF.gdOf hi hk (hF.pf i hik) (fun o ho=>hlt' i o ho) fun a' w' hI'=>⟨hdc.set hi,.inl ⟨hI',fun j hj=> ?_⟩⟩
    rcases listed_set hj with rfl|hj
    ·exact hik
    ·exact hk j hj
   ·obtain ⟨_,oi,hoi,_⟩:=mem_ready.1 hi
    have hklt:k<ops.size:=by have:=(Array.getElem?_eq_some_iff.1 hoi).1; omega
    have hall:∀ j,j<k→listed.getD j false=true:=fun j hj =>
     ready_anc hdc hi (hd.tail k i ops[k] oi hik (by simp [hklt]) hoi (hF.imp _ (by simp [hklt])) j (by omega))
    exact hstepB listed a w k hs hdc (Nat.le_refl _) hall hk (hfull listed a w hI hall hk) i hi
  ·exact hstepB listed a w j hs hdc hkj h1 h2 h3 i hi
 ·obtain ⟨hdc,hI⟩:=hI
  have hall:=none_ready hd hs hr
  rcases hI with ⟨hI,hk⟩|⟨j,hkj,h1,h2,h3⟩
  ·have hk':k=ops.size:=by
    have:=hF.le
    rcases Nat.lt_or_ge k ops.size with h1|h1
    ·have:=hk k (hall k h1); omega
    ·omega
   have:=hfull listed a w hI (fun j hj=>hall j (by omega)) hk
   rw [hk',List.drop_eq_nil_of_le (by simp)] at this
   exact this
  ·have hj:ops.size≤j:=by
    rcases Nat.lt_or_ge j ops.size with h4|h4
    ·have:=h2 j (hall j h4); omega
    ·exact h4
   rw [List.drop_eq_nil_of_le (by simpa using hj)] at h3
   exact h3
 ·exfalso
  by_cases hlt:j<ops.size<;>simp [hlt] at hj
 ·refine ⟨⟨hS.relL,hS.glob,fun t=>by simp [get,RelSl,RelV],hS.below,hS.fresh,hS.old,hS.rol,hS.l0,hS.knd,hS.dfr,hS.sz⟩,fun j hj=> ?_,fun t _=>hS.relE t⟩
  exfalso
  by_cases hlt:j<ops.size<;>simp [hlt] at hj
 ·exfalso
  by_cases hlt:j<ops.size<;>simp [hlt] at hj
end
end Go.VA
namespace Go.VA
open Go Go.RowKit
theorem getN_eq:∀ (l:List Oper) (i:Nat),getN l i=l[i]?
 | [],i=>by simp [getN]
 | o::r,0=>rfl
 | o::r,i+1=>by simp only [getN,List.getElem?_cons_succ]; exact getN_eq r i
theorem edgesIn_spec {done:List Nat}:∀ {l:List Edge},edgesIn done l=true ↔ ∀ e ∈ l,Region.binds .any e=true→e.on ∈ done
 | []=>by simp [edgesIn]
 | e::es=>by
  have ih:=edgesIn_spec (done:=done) (l:=es)
  simp only [edgesIn]
  split
  ·rename_i hb
   split
   ·rename_i hm
    rw [ih]
    constructor
    ·intro h e' he' hb'
     rcases List.mem_cons.1 he' with rfl|he'
     ·exact memN_spec.1 hm
     ·exact h e' he' hb'
    ·intro h e' he' hb'; exact h e' (by simp [he']) hb'
   ·rename_i hm
    simp only [Bool.false_eq_true,false_iff]
    intro h
    have:=memN_spec.2 (h e (by simp) hb)
    rw [this] at hm; simp at hm
  ·rename_i hb
   rw [ih]
   constructor
   ·intro h e' he' hb'
    rcases List.mem_cons.1 he' with rfl|he'
    ·rw [hb] at hb'; simp at hb'
    ·exact h e' he' hb'
   ·intro h e' he' hb'; exact h e' (by simp [he']) hb'
theorem readyL_spec {done:List Nat}:∀ {l:List Oper} {k i:Nat},i ∈ readyL done l k ↔ ∃ o,k≤i∧l[i-k]? =some o∧i ∉ done∧∀ e ∈ o.after,Region.binds .any e=true→e.on ∈ done
 | [],k,i=>by simp [readyL]
 | o::r,k,i=>by
  have ih:=readyL_spec (done:=done) (l:=r) (k:=k+1) (i:=i)
  have step:(∃ o',k+1≤i∧r[i-(k+1)]? =some o'∧i ∉ done∧∀ e ∈ o'.after,Region.binds .any e=true→e.on ∈ done) ↔
    ∃ o',k<i∧(o::r)[i-k]? =some o'∧i ∉ done∧∀ e ∈ o'.after,Region.binds .any e=true→e.on ∈ done:=by
   constructor
   ·rintro ⟨o',h1,h2,h3⟩
    exact ⟨o',h1,by rw [show i-k=(i-(k+1))+1 from by omega]; simpa using h2,h3⟩
   ·rintro ⟨o',h1,h2,h3⟩
    rw [show i-k=(i-(k+1))+1 from by omega] at h2
    exact ⟨o',h1,by simpa using h2,h3⟩
  rw [step] at ih
  have split_:(∃ o',k≤i∧(o::r)[i-k]? =some o'∧i ∉ done∧∀ e ∈ o'.after,Region.binds .any e=true→e.on ∈ done) ↔
    (i=k∧k ∉ done∧∀ e ∈ o.after,Region.binds .any e=true→e.on ∈ done)∨i ∈ readyL done r (k+1):=by
   rw [ih]
   constructor
   ·rintro ⟨o',h1,h2,h3,h4⟩
    rcases Nat.lt_or_ge k i with h|h
    ·exact .inr ⟨o',h,h2,h3,h4⟩
    ·obtain rfl:i=k:=by omega
     simp at h2; subst h2
     exact .inl ⟨rfl,h3,h4⟩
   ·rintro (⟨rfl,h3,h4⟩|⟨o',h1,h2,h3⟩)
    ·exact ⟨o,Nat.le_refl _,by simp,h3,h4⟩
    ·exact ⟨o',by omega,h2,h3⟩
  rw [split_]
  simp only [readyL]
  split
  ·rename_i hm
   have:=memN_spec.1 hm
   constructor
   ·exact .inr
   ·rintro (⟨_,h,_⟩|h)
    ·exact absurd this h
    ·exact h
  ·rename_i hm
   have hk:k ∉ done:=fun h=>by rw [memN_spec.2 h] at hm; simp at hm
   split
   ·rename_i he
    have he:=edgesIn_spec.1 he
    simp only [List.mem_cons]
    constructor
    ·rintro (rfl|h)
     ·exact .inl ⟨rfl,hk,fun e h=>he e (by simpa using h)⟩
     ·exact .inr h
    ·rintro (⟨rfl,_⟩|h)
     ·exact .inl rfl
     ·exact .inr h
   ·rename_i he
    constructor
    ·exact .inr
    ·rintro (⟨_,_,h⟩|h)
     ·have:=(edgesIn_spec (done:=done) (l:=o.after.toList)).2 fun e hh=>h e (by simpa using hh)
      rw [this] at he; simp at he
     ·exact h
theorem hasEdge_spec {i:Nat}:∀ {l:List Edge},hasEdge i l=true→∃ e ∈ l,Region.binds .any e=true∧e.on=i
 | [],h=>by simp [hasEdge] at h
 | e::es,h=>by
  simp only [hasEdge] at h
  split at h
  ·rename_i hc
   split at hc
   ·rename_i hb
    exact ⟨e,by simp,hb,Nat.beq_spec hc⟩
   ·simp at hc
  ·obtain ⟨e',h1,h2⟩:=hasEdge_spec h
   exact ⟨e',by simp [h1],h2⟩
theorem slotsOf_eq:∀ l:List Operand,slotsOf l=l.filterMap fun| .tmp t=>some t|_=>none
 | []=>rfl
 | x::r=>by cases x<;>simp [slotsOf,slotsOf_eq r]
theorem looks_eq {ops:Array Oper}{x:Oper}(hx:x.guard=none):x.looksAt ops=slotsOf x.op.operands.toList:=by
 unfold Oper.looksAt
 rw [hx,slotsOf_eq]
 simp only [List.append_nil]
 congr 1
theorem looks_not {ops:Array Oper}{y:Oper}{d:Nat}(h1:d ∉ slotsOf y.op.operands.toList)(h2:gdSlot ops.toList d y.guard=false):d ∉ y.looksAt ops:=by
 unfold Oper.looksAt
 rw [slotsOf_eq] at h1
 rw [List.mem_append,not_or]
 refine ⟨h1,?_⟩
 cases hg:y.guard with
 | none=>simp
 | some gw =>
  obtain ⟨g,w⟩:=gw
  rw [hg] at h2
  simp only [gdSlot,dstOf_eq,Array.getElem?_toList] at h2
  cases hq:(ops[g]?).bind (·.dst) with
  | none=>simp [hq]
  | some s =>
   rw [hq] at h2
   simp only at h2
   simp only [hq,Option.toList_some,List.mem_singleton]
   intro e
   subst e
   simp at h2
theorem apartF_spec {ops:Array Oper}{x y:Oper}(hx:x.guard=none)(h:apartF ops.toList x y=true):x.apart ops y=true:=by
 have nm:∀ (d:Nat) (l:List Nat),memN d l=false→d ∉ l:=fun d l hm e=>by rw [memN_spec.2 e] at hm; simp at hm
 unfold apartF at h
 unfold Oper.apart
 have hlx:=looks_eq (ops:=ops) hx
 have hly:=fun d=>looks_not (ops:=ops) (y:=y) (d:=d)
 generalize x.looksAt ops=ax at hlx ⊢
 generalize y.looksAt ops=ay at hly ⊢
 subst hlx
 generalize slotsOf x.op.operands.toList=lx at h
 generalize slotsOf y.op.operands.toList=ly at h hly
 generalize gdSlot ops.toList=gy at h hly
 obtain ⟨dx,_,_,_,_,_⟩:=x
 obtain ⟨dy,_,_,_,_,gd⟩:=y
 simp only at h hly ⊢
 have ysd:∀ z:Option Nat,(match z with|none=>true|some d=>match memN d lx with|true=>false|false=>true)=true→(∀ e,z=some e→e ∉ lx):=by
  intro z hq e he
  subst he
  simp only at hq
  split at hq
  ·simp at hq
  ·rename_i hm; exact nm e lx hm
 cases dx with
 | none =>
  simp only at h
  have:=ysd _ h
  cases dy with
  | none=>rfl
  | some e=>simpa using this e rfl
 | some d =>
  simp only at h
  cases hm:memN d ly with
  | true=>rw [hm] at h; simp at h
  | false =>
   rw [hm] at h
   simp only at h
   cases hgd:gy d gd with
   | true=>rw [hgd] at h; simp at h
   | false =>
    rw [hgd] at h
    have h1:=hly d (nm d ly hm) hgd
    cases dy with
    | none=>simpa using h1
    | some e =>
     simp only [beqO] at h
     cases hb:Nat.beq d e with
     | true=>rw [hb] at h; simp at h
     | false =>
      rw [hb] at h
      simp only at h
      have hne:d≠e:=fun e'=>by subst e'; simp at hb
      have h2:=ysd (some e) h e rfl
      have h3:(some e != some d)=true:=by simpa using hne.symm
      simp only [h3,Bool.and_true,Bool.and_eq_true,Bool.not_eq_true']
      exact ⟨by simpa using h1,by simpa using h2⟩
theorem freeRow_spec {l0:List Oper}{o:Oper}{i:Nat}{done:List Nat}:∀ {l:List Oper} {k:Nat},freeRow l0 o i done l k=true→∀ (j:Nat) (y:Oper),l[j]? =some y→k+j≠i→k+j ∉ done →
  (∀ e ∈ y.after,Region.binds .any e=true→e.on≠i)→apartF l0 o y=true
 | [],_,_,j,y,h,_,_,_=>by simp at h
 | z::r,k,h,j,y,hj,h1,h2,h3=>by
  simp only [freeRow] at h
  cases j with
  | zero =>
   simp at hj h1 h2
   subst hj
   split at h
   ·rename_i hb; exact absurd (Nat.beq_spec hb) h1
   ·split at h
    ·rename_i hm; exact absurd (memN_spec.1 hm) h2
    ·split at h
     ·rename_i he
      obtain ⟨e,g1,g2,g3⟩:=hasEdge_spec he
      exact absurd g3 (h3 e (by simpa using g1) g2)
     ·split at h
      ·rename_i ha; exact ha
      ·simp at h
  | succ j =>
   have rest:freeRow l0 o i done r (k+1)=true:=by
    repeat' (split at h<;>first|exact h|skip)
    simp at h
   exact freeRow_spec rest j y (by simpa using hj) (by omega) (by rwa [show k+1+j=k+(j+1) from by omega]) h3
theorem firstFree_spec {l:List Oper}{done:List Nat}:∀ {rs:List Nat} {i:Nat} {o:Oper},firstFree l done rs=some (i,o)→i ∈ rs∧l[i]? =some o∧isMove o.op=true∧o.guard=none∧freeRow l o i done l 0=true
 | [],i,o,h=>by simp [firstFree] at h
 | k::r,i,o,h=>by
  simp only [firstFree,getN_eq] at h
  split at h
  ·simp at h
  ·rename_i o' ho'
   have rest:firstFree l done r=some (i,o)→i ∈ k::r∧l[i]? =some o∧isMove o.op=true∧o.guard=none∧freeRow l o i done l 0=true:=fun h=>by
    obtain ⟨g1,g2⟩:=firstFree_spec h
    exact ⟨by simp [g1],g2⟩
   split at h
   ·exact rest h
   ·rename_i hm
    split at h
    ·exact rest h
    ·rename_i hg
     split at h
     ·rename_i hf
      simp only [Option.some.injEq,Prod.mk.injEq] at h
      obtain ⟨rfl,rfl⟩:=h
      exact ⟨by simp,ho',hm,hg,hf⟩
     ·exact rest h
theorem firstLd_spec {tb:TB}{env:Env}{L:List AO}{l:List Oper}{done ss:List Nat}:∀ {rs:List Nat} {i:Nat} {o:Oper} {q:Nat×Nat×AV×AO},firstLd tb env L l done ss rs=some (i,o,q) →
  i ∈ rs∧l[i]? =some o∧ldAt tb env L o.op=some q∧o.guard=none∧dstOk o.dst (q.1::ss)=true∧freeRow l o i done l 0=true
 | [],i,o,q,h=>by simp [firstLd] at h
 | k::r,i,o,q,h=>by
  simp only [firstLd,getN_eq] at h
  split at h
  ·simp at h
  ·rename_i o' ho'
   have rest:firstLd tb env L l done ss r=some (i,o,q)→i ∈ k::r∧l[i]? =some o∧ldAt tb env L o.op=some q∧o.guard=none∧dstOk o.dst (q.1::ss)=true∧freeRow l o i done l 0=true:=fun h=>by
    obtain ⟨g1,g2⟩:=firstLd_spec h
    exact ⟨by simp [g1],g2⟩
   split at h
   ·exact rest h
   ·rename_i hg
    split at h
    ·exact rest h
    ·rename_i q' hq
     split at h
     ·exact rest h
     ·rename_i hd
      split at h
      ·rename_i hf
       simp only [Option.some.injEq,Prod.mk.injEq] at h
       obtain ⟨rfl,rfl,rfl⟩:=h
       exact ⟨by simp,ho',hq,hg,hd,hf⟩
      ·exact rest h
theorem gdMet_spec {l:List Oper}{env:Env}{g:Option (Nat×Bool)}{q:Nat×Bool}(h:gdMet l env g=some q):∃ i,g=some (i,q.2)∧dstOf l i=some q.1∧get env q.1= .c (.v (.bool q.2)):=by
 unfold gdMet at h
 split at h
 ·simp at h
 ·rename_i i w
  split at h
  ·simp at h
  ·rename_i s hs
   split at h
   ·rename_i b hb
    cases b<;>cases w<;>simp only [Option.some.injEq,reduceCtorEq] at h
    ·subst h; exact ⟨i,rfl,hs,hb⟩
    ·subst h; exact ⟨i,rfl,hs,hb⟩
   ·simp at h
theorem firstGd_spec {env:Env}{l:List Oper}{done ss:List Nat}:∀ {rs:List Nat} {i:Nat} {o:Oper} {q:Nat×Bool},firstGd env l done ss rs=some (i,o,q) →
  i ∈ rs∧l[i]? =some o∧isMove o.op=true∧gdMet l env o.guard=some q∧dstOk o.dst (q.1::ss)=true∧freeRow l { o with guard:=none } i done l 0=true
 | [],i,o,q,h=>by simp [firstGd] at h
 | k::r,i,o,q,h=>by
  simp only [firstGd,getN_eq] at h
  split at h
  ·simp at h
  ·rename_i o' ho'
   have rest:firstGd env l done ss r=some (i,o,q)→i ∈ k::r∧l[i]? =some o∧isMove o.op=true∧gdMet l env o.guard=some q∧dstOk o.dst (q.1::ss)=true∧freeRow l { o with guard:=none } i done l 0=true:=fun h=>by
    obtain ⟨g1,g2⟩:=firstGd_spec h
    exact ⟨by simp [g1],g2⟩
   split at h
   ·exact rest h
   ·rename_i hm
    split at h
    ·exact rest h
    ·rename_i q' hq
     split at h
     ·exact rest h
     ·rename_i hd
      split at h
      ·rename_i hf
       simp only [Option.some.injEq,Prod.mk.injEq] at h
       obtain ⟨rfl,rfl,rfl⟩:=h
       exact ⟨by simp,ho',hm,hq,hd,hf⟩
      ·exact rest h
theorem eachK_spec {l:List Oper}{F:Nat→Oper→Prop}:∀ {rs:List Nat},eachK l F rs→∀ i ∈ rs,∃ o,l[i]? =some o∧F i o
 | [],_,i,hi=>by simp at hi
 | k::r,h,i,hi=>by
  simp only [eachK,getN_eq] at h
  split at h
  ·exact h.elim
  ·rename_i o ho
   cases r with
   | nil =>
    simp at hi; subst hi
    exact ⟨o,ho,h⟩
   | cons k' r' =>
    simp only at h
    rcases List.mem_cons.1 hi with rfl|hi
    ·exact ⟨o,ho,h.fst⟩
    ·exact eachK_spec h.snd i hi
theorem noSel_spec:∀ {l:List Oper},noSel l=true→∀ o ∈ l,∀ cs b,o.op≠ .select cs b
 | [],_,o,h,_,_=>by simp at h
 | x::r,h,o,ho,cs,b=>by
  simp only [noSel] at h
  split at h
  ·simp at h
  ·rename_i hs
   rcases List.mem_cons.1 ho with rfl|ho
   ·exact hs cs b
   ·exact noSel_spec h o ho cs b
section
variable {P:Program} {tb:TB} {gl:Gl} {ops:Array Oper} {Q:Exit→Act→World→Prop}
structure DoneIs (ops:Array Oper) (listed:Array Bool) (done:List Nat):Prop where
 size:listed.size=ops.size
 iff:∀ i,listed.getD i false=true ↔ i ∈ done
theorem DoneIs.next {listed:Array Bool}{done:List Nat}(h:DoneIs ops listed done){i:Nat}(hi:i<ops.size):DoneIs ops (listed.setIfInBounds i true) (i::done):=by
 refine ⟨by simp [h.size],fun j=> ?_⟩
 by_cases hj:j=i
 ·subst hj
  have:j<listed.size:=by rw [h.size]; exact hi
  simp [this]
 ·rw [getD_set_ne false (Ne.symm hj),h.iff]
  simp [hj]
theorem DoneIs.ready {listed:Array Bool}{done:List Nat}(h:DoneIs ops listed done)(i:Nat):i ∈ Region.ready .any ops listed ↔ i ∈ readyL done ops.toList 0:=by
 rw [mem_ready,readyL_spec]
 constructor
 ·rintro ⟨h0,o,ho,hall⟩
  have hlt:=(Array.getElem?_eq_some_iff.1 ho).1
  refine ⟨o,Nat.zero_le _,by simpa using ho,fun hd=> ?_,fun e he hb=>(h.iff _).1 (hall e he hb)⟩
  have:=(h.iff i).2 hd
  have h2:i<listed.size:=by rw [h.size]; exact hlt
  simp [h2] at h0 this
  rw [this] at h0; simp at h0
 ·rintro ⟨o,_,ho,hd,hall⟩
  have ho:ops[i]? =some o:=by simpa using ho
  have hlt:=(Array.getElem?_eq_some_iff.1 ho).1
  refine ⟨?_,o,ho,fun e he hb=>(h.iff _).2 (hall e he hb)⟩
  have h2:i<listed.size:=by rw [h.size]; exact hlt
  have h3:¬ listed.getD i false=true:=fun e=>hd ((h.iff i).1 e)
  simp [h2] at h3 ⊢
  exact h3
theorem DoneIs.un {listed:Array Bool}{done:List Nat}(h:DoneIs ops listed done){i:Nat}(hi:i ∈ readyL done ops.toList 0)(hl:i<ops.size):listed.toList[i]? =some false:=by
 obtain ⟨o,_,_,hd,_⟩:=readyL_spec.1 hi
 have h2:i<listed.size:=by rw [h.size]; exact hl
 have h3:¬ listed.getD i false=true:=fun e=>hd ((h.iff i).1 e)
 simp [h2] at h3
 simp [h2,h3]
theorem calc_sound (htb:TbOk P tb){env:Env}{L:List AO}{o:Oper}{K:AV→Prop}(hm:isMove o.op=true)(h:opPure P tb gl env .no L o.op K){M:Mz}{B:List (Option BI)}{a:Act}{w:World}
  (hG:GlOk gl (Sr M B L w)) (hE:RelE B (Sr M B L w) env a):∃ y v,K y∧(∀ w',(execOp a.eval o).run P w'= .ok (.value v) w')∧RelV B (Sr M B L w) y v:=by
 obtain ⟨dst,op,ty,pos,after,g⟩:=o
 simp only at h hm
 have hev:∀ x,RelV B (Sr M B L w) (evO gl env .no .no x) (a.eval x):=fun x=>evO_sound (key:= .no) (key2:= .no) hG hE trivial trivial x
 have hch:∀ p,chain env 20 .no p→p:=fun p hp=>chain_sound hE 20 .no p trivial hp
 cases op<;>simp only [isMove,Bool.false_eq_true] at hm<;>simp only [opPure] at h
 case move x=>exact ⟨_,_,h,fun w'=>by simp [execOp],hev x⟩
 case assign x=>exact ⟨_,_,h,fun w'=>by simp [execOp],hev x⟩
 case nilCheck x =>
  obtain ⟨y,hy,hh⟩:=opNil_sound (P:=P) h
  exact ⟨y,_,hy,fun w'=>(hh B _ a x dst ty pos after g w' (hev x)).1,(hh B _ a x dst ty pos after g w (hev x)).2⟩
 case binOp op t x y t2 =>
  obtain ⟨z,hz,hh⟩:=opBin_sound htb h
  obtain ⟨r,h1,h2⟩:=hh B _ _ _ hch (hev x) (hev y)
  exact ⟨z,r,hz,fun w'=>by have:=h1 x y w'; simp only [execOp]; rw [Sem.run_bind,this]; rfl,h2⟩
 case unOp op t x =>
  obtain ⟨z,hz,hh⟩:=opUn_sound (P:=P) h
  obtain ⟨r,h1,h2⟩:=hh B _ _ (hev x)
  exact ⟨z,r,hz,fun w'=>by simp [execOp,h1],h2⟩
 case fieldAddr t x i =>
  obtain ⟨z,hz,hh⟩:=opFieldAddr_sound htb h
  obtain ⟨r,h1,h2⟩:=hh B _ _ (hev x)
  exact ⟨z,r,hz,fun w'=>by simp [execOp,h1],h2⟩
 case indexAddr t x i =>
  obtain ⟨z,hz,hh⟩:=opIndexAddr_sound htb h
  obtain ⟨r,h1,h2⟩:=hh B _ _ _ hch (hev x) (hev i)
  exact ⟨z,r,hz,fun w'=>by simp [execOp,h1],h2⟩
 case extract x i =>
  obtain ⟨z,hz,hh⟩:=opExtract_sound (P:=P) h
  obtain ⟨r,h1,h2⟩:=hh B _ _ (hev x)
  exact ⟨z,r,hz,fun w'=>by simp [execOp,h1],h2⟩
 case call c =>
  split at hm
  ·rename_i bt hb
   split at hm
   ·rw [hb] at h
    simp only at h
    split at h
    ·rename_i x hx
     split at h
     ·rename_i t ht
      obtain ⟨z,hz,hh⟩:=opLen_sound htb h
      obtain ⟨r,h1,h2⟩:=hh B _ ty _ (hev x)
      have e1:c.args.map a.eval= #[a.eval x]:=by apply Array.ext'; simp [hx]
      have e2:c.argTypes= #[t]:=by apply Array.ext'; simp [ht]
      refine ⟨z,r,hz,fun w'=> ?_,h2⟩
      have hrun:(execOp a.eval { dst:=dst,op:= .call c,type:=ty,pos:=pos,after:=after,guard:=g }).run P w' =
        (builtin .len c.argTypes ty (c.args.map fun| .const _=>true|_=>false) (c.args.map a.eval)).run P w':=by
       simp [execOp,resolve,hb,invoke]
       rfl
      rw [hrun,e1,e2]; simp [builtin,h1]
     ·exact h.elim
    ·exact h.elim
   ·simp at hm
  ·simp at hm
def wpAnyI (P:Program) (ops:Array Oper) (Q:Exit→Act→World→Prop) (J:Act→World→Prop):Nat→Array Bool→Act→World→Prop
 | 0,listed,a,w=>J a w∧Region.ready .any ops listed=[]∧Q .normal a w
 | fuel+1,listed,a,w=>J a w∧(Region.ready .any ops listed=[]→Q .normal a w) ∧
  ∀ i ∈ Region.ready .any ops listed,wpOp P ops Q i (wpAnyI P ops Q J fuel (listed.setIfInBounds i true)) a w
theorem wpAnyI.to {J:Act→World→Prop}:∀ {fuel:Nat} {listed:Array Bool} {a:Act} {w:World},wpAnyI P ops Q J fuel listed a w→wpAny P .any ops Q fuel listed a w
 | 0,_,_,_,h=>h.2
 | _+1,_,_,_,h=>⟨h.2.1,fun i hi=>wpOp_mono (fun _ _=>wpAnyI.to) (h.2.2 i hi)⟩
theorem wpAnyI.mono {I J:Act→World→Prop}(hIJ:∀ a w,I a w→J a w):∀ {fuel:Nat} {listed:Array Bool} {a:Act} {w:World},wpAnyI P ops Q I fuel listed a w→wpAnyI P ops Q J fuel listed a w
 | 0,_,_,_,h=>⟨hIJ _ _ h.1,h.2⟩
 | _+1,_,_,_,h=>⟨hIJ _ _ h.1,h.2.1,fun i hi=>wpOp_mono (fun _ _=>wpAnyI.mono hIJ) (h.2.2 i hi)⟩
theorem wpAnyI_first {I J:Act→World→Prop}{i:Nat}{o':Oper}{v:Value}(hsel:∀ (j:Nat) (o:Oper) cs b,ops[j]? =some o→o.op≠ .select cs b)(hsel':∀ cs b,o'.op≠ .select cs b)
  (hQ:∀ c a w,¬ Q (.panic c) a w) (hIJ:∀ a w,I a w→J a w) (hI:∀ a w,Yields P ops o' v a→I (a.put o'.dst v) w→J a w∧∀ K:Act→World→Prop,K (a.put o'.dst v) w→wpOp P ops Q i K a w) :
  ∀ (fuel:Nat) (listed:Array Bool) (a:Act) (w:World),
   (∀ j oj,ops[j]? =some oj→j≠i→listed.getD j true=false→(∀ e ∈ oj.after,Region.binds .any e=true→e.on≠i)→o'.apart ops oj=true) →
   i ∈ Region.ready .any ops listed→Yields P ops o' v a→wpAnyI P ops Q I fuel (listed.setIfInBounds i true) (a.put o'.dst v) w→wpAnyI P ops Q J (fuel+1) listed a w
 | 0,listed,a,w,_,hr,hy,H=>by
  refine ⟨(hI a w hy H.1).1,fun h=>(by rw [h] at hr; cases hr),fun j hj=> ?_⟩
  by_cases hji:j=i
  ·subst hji
   exact (hI a w hy H.1).2 _ (H.mono hIJ)
  ·have:=ready_mono hj hji
   rw [H.2.1] at this
   cases this
 | fuel+1,listed,a,w,hfree,hr,hy,H=>by
  refine ⟨(hI a w hy H.1).1,fun h=>(by rw [h] at hr; cases hr),fun j hj=> ?_⟩
  by_cases hji:j=i
  ·subst hji
   exact (hI a w hy H.1).2 _ (H.mono hIJ)
  ·have h1:=H.2.2 j (ready_mono hj hji)
   obtain ⟨hjun,oj,hoj,hall⟩:=mem_ready.1 hj
   have h0:=(mem_ready.1 hr).1
   have hnot:∀ e ∈ oj.after,Region.binds .any e=true→e.on≠i:=by
    rintro e he hb rfl
    have h2:=hall e he hb
    rcases Nat.lt_or_ge e.on listed.size with h'|h'
    ·simp [h'] at h0 h2; rw [h0] at h2; cases h2
    ·simp [Array.getElem?_eq_none h'] at h2
   have h2:=wpOp_put hoj (hfree j oj hoj hji hjun hnot) hsel' (fun cs b=>hsel j oj cs b hoj) (fun c a w h=>absurd h (hQ c _ w)) hy h1
   refine wpOp_mono (fun a' w' h3=>wpAnyI_first hsel hsel' hQ hIJ hI fuel (listed.setIfInBounds j true) a' w' (fun k ok hk hki hun hno=> ?_) (ready_mono hr (Ne.symm hji)) h3.1 ?_) h2
   ·refine hfree k ok hk hki ?_ hno
    by_cases hjk:j=k
    ·subst hjk; exact hjun
    ·rwa [getD_set_ne true hjk] at hun
   ·rw [Array.setIfInBounds_comm _ _ hji]
    exact h3.2
def AV.told:AV→Prop
 | .c (.v _)=>True
 | .ag xs=>∀ x ∈ xs,∃ v,x= .v v
 | _=>False
theorem told_one {S S':Rd}:∀ (xs:List C) (us us':List Value),(∀ x ∈ xs,∃ v,x=C.v v)→RepVs S xs us→RepVs S' xs us'→us=us'
 | [],us,us',_,h,h'=>by simp only [RepVs] at h h'; rw [h,h']
 | x::xs,us,us',hx,h,h'=>by
  simp only [RepVs] at h h'
  obtain ⟨u,r,rfl,h1,h2⟩:=h
  obtain ⟨u',r',rfl,h1',h2'⟩:=h'
  obtain ⟨v,rfl⟩:=hx x (by simp)
  simp only [RepC] at h1 h1'
  rw [h1.1,h1'.1,told_one xs r r' (fun y hy=>hx y (by simp [hy])) h2 h2']
theorem told_eq {B B':List (Option BI)}{S S':Rd}{x:AV}{u u':Value}(hx:x.told)(h:RelV B S x u)(h':RelV B' S' x u'):u=u':=by
 match x,hx with
 | .c (.v y),_=>simp only [RelV,RepC] at h h'; rw [h.1,h'.1]
 | .ag xs,hx =>
  simp only [RelV] at h h'
  obtain ⟨a,rfl,h1⟩:=h
  obtain ⟨a',rfl,h2⟩:=h'
  congr 1
  exact Array.toList_inj.1 (told_one xs _ _ hx h1 h2)
theorem allSc_toCs:∀ {zs:List AV},allSc zs=true→∃ xs,toCs zs=some xs∧∀ x ∈ xs,∃ v,x=C.v v
 | [],_=>⟨[],rfl,by simp⟩
 | z::r,h=>by
  cases z<;>simp only [allSc,Bool.false_eq_true] at h
  rename_i y
  cases y<;>simp only [Bool.false_eq_true] at h
  rename_i v
  obtain ⟨xs,h1,h2⟩:=allSc_toCs h
  refine ⟨.v v::xs,by simp [toCs,h1],fun x hx=> ?_⟩
  rcases List.mem_cons.1 hx with rfl|hx
  ·exact ⟨v,rfl⟩
  ·exact h2 x hx
theorem mkA_told {b:Bool}{zs:List AV}(h:(match b with|true=>allSc zs|false=>oneSc zs)=true):(mkA b zs).told:=by
 cases b with
 | true =>
  simp only at h
  obtain ⟨xs,h1,h2⟩:=allSc_toCs h
  simp only [mkA,h1]
  exact h2
 | false =>
  simp only at h
  match zs,h with
  | [z],h =>
   simp only [oneSc] at h
   cases z<;>simp only [allSc,Bool.false_eq_true] at h
   rename_i y
   cases y<;>simp only [Bool.false_eq_true] at h
   trivial
theorem ldAt_spec {tb:TB}{env:Env}{L:List AO}{o:Op}{q:Nat×Nat×AV×AO}(h:ldAt tb env L o=some q) :
  ∃ t y,o= .load t (.tmp q.1)∧(∃ id off,q.2.2.1= .ptr id off)∧(get env q.1,getO L q.2.1)=q.2.2∧y.told∧∀ (env':Env) (L':List AO) (K:AV→Prop),(get env' q.1,getO L' q.2.1)=q.2.2→(opLoad tb L' t (get env' q.1) K ↔ K y):=by
 unfold ldAt at h
 split at h
 ·rename_i t x
  split at h
  ·rename_i s
   split at h
   ·simp at h
   rename_i ho
   split at h
   ·rename_i id off hs
    split at h
    ·rename_i ys hO
     split at h
     ·rename_i zs hz
      split at h
      ·rename_i hsc
       simp only [Option.some.injEq] at h
       subst h
       refine ⟨t,mkA (tb t).k.agg zs,rfl,⟨id,off,rfl⟩,by rw [hs,hO],mkA_told hsc,fun env' L' K he=> ?_⟩
       simp only [Prod.mk.injEq] at he
       rw [he.1]
       unfold opLoad
       cases hk:(tb t).k<;>rw [hk] at ho<;>simp only [TK.isOther,Bool.true_eq_false] at ho<;>simp only [he.2,cutA,hz,hk,TK.agg]
      ·simp at h
     ·simp at h
    ·simp at h
   ·simp at h
  ·simp at h
 ·simp at h
theorem rdK_iff:∀ {rd:RdL} {env:Env} {L:List AO} {K:Prop},rdK rd env L K ↔ (∀ q ∈ rd,(get env q.1,getO L q.2.1)=q.2.2)∧K
 | [],_,_,_=>by simp [rdK]
 | q::r,env,L,K=>by
  simp only [rdK,rdK_iff (rd:=r),List.mem_cons,forall_eq_or_imp,and_assoc]
theorem gdRdK_eq {s:Nat}{b:Bool}{rd:RdL}{K:RdL→Prop}:gdRdK s b rd K=K (gdRd s b rd):=by
 unfold gdRdK gdRd
 split<;>rfl
theorem rdS_of:∀ {rd:RdL} {s:Nat},s ∈ rdS rd→∃ q ∈ rd,q.1=s
 | [],s,h=>by simp [rdS] at h
 | x::r,s,h=>by
  simp only [rdS,List.mem_cons] at h
  rcases h with rfl|h
  ·exact ⟨x,by simp,rfl⟩
  ·obtain ⟨q,h1,h2⟩:=rdS_of h
   exact ⟨q,by simp [h1],h2⟩
theorem dstOk_not {d:Nat}{l:List Nat}(h:dstOk (some d) l=true):d ∉ l:=by
 simp only [dstOk] at h
 split at h
 ·simp at h
 ·rename_i hm
  intro e
  rw [memN_spec.2 e] at hm
  simp at hm
theorem guardK_spec {env:Env}{S:Rd}{B:List (Option BI)}{a:Act}(hE:RelE B S env a){o:Oper}{Y N:Prop}(h:guardK ops.toList env o.guard Y N):(Region.wanted o (yielded ops a.tmps)=true∧Y)∨(Region.wanted o (yielded ops a.tmps)=false∧N):=by
 unfold guardK at h
 split at h
 ·rename_i hg
  exact .inl ⟨by simp [Region.wanted,hg],h⟩
 ·rename_i i w hg
  split at h
  ·exact h.elim
  ·rename_i s hs
   have hw:=wanted_iff (a:=a) hg hs
   split at h
   ·rename_i b hb
    have hv:a.tmps.getD s undef= .bool b:=by
     have:=hE s
     rw [hb] at this
     simp only [RelSl,RelV,RepC] at this
     exact this.1
    rw [hv] at hw
    have key:∀ b w:Bool,(Region.wanted o (yielded ops a.tmps)=true ↔ Value.bool b= .bool w)→(b=w→Y)→(b≠w→N)→(Region.wanted o (yielded ops a.tmps)=true∧Y)∨(Region.wanted o (yielded ops a.tmps)=false∧N):=by
     intro b w hbw hY hN
     by_cases e:b=w
     ·exact .inl ⟨hbw.2 (by rw [e]),hY e⟩
     ·exact .inr ⟨by rw [Bool.eq_false_iff]; intro q; exact e (by simpa using hbw.1 q),hN e⟩
    refine key b w hw (fun e=> ?_) (fun e=> ?_)
    ·subst e; cases b<;>exact h
    ·cases b<;>cases w<;>first|exact absurd rfl e|exact h
   ·exact h.elim
theorem allOps_sound (htb:TbOk P tb){X:Fx}(hgl:X.gl=gl){ro:Nat}(hro:X.M.ro=ro)(hs:noSel ops.toList=true)(hlt:∀ o ∈ ops.toList,∀ d,o.dst=some d→d<X.nt)
  (hp:∀ c a w,¬ Q (.panic c) a w) {K:Env→List AO→Prop}
  (hQ:∀ env' L' B' a' w',K env' L'→NoGd env'→St X B' env' L' a' w'→Q .normal a' w') :
  ∀ (n fuel:Nat) (listed:Array Bool) (rd:RdL) (J:Act→World→Prop) (done seen:List Nat) (env:Env) (L:List AO) (B:List (Option BI)) (a:Act) (w:World),
   (∀ env' L' B' a' w',St X B' env' L' a' w'→(∀ q ∈ rd,(get env' q.1,getO L' q.2.1)=q.2.2)→J a' w')→(∀ a w (d:Option Nat) v,(∀ x,d=some x→x ∉ rdS rd)→J (a.put d v) w→J a w) →
   DoneIs ops listed done→listed.toList.count true+fuel=ops.size→NoGd env→St X B env L a w →
   allOps P tb gl ro ops n rd done seen env L K→wpAnyI P ops Q J fuel listed a w
 | 0,_,_,_,_,_,_,_,_,_,_,_,_,_,_,_,_,_,h=>by simp [allOps] at h
 | n+1,fuel,listed,rd,J,done,seen,env,L,B,a,w,hJ,hJp,hdn,hcnt,hn,hS,h=>by
  have hmem:∀ (i:Nat) (o:Oper),ops[i]? =some o→o ∈ ops.toList:=fun i o ho=>by
   have:ops.toList[i]? =some o:=by simpa using ho
   exact List.mem_of_getElem? this
  simp only [allOps,stripK_eq,gdRdK_eq] at h
  rw [rdK_iff] at h
  obtain ⟨hrd,h⟩:=h
  have hJ0:=hJ _ _ _ _ _ hS hrd
  split at h
  ·rename_i hr
   have hr0:Region.ready .any ops listed=[]:=by
    cases hq:Region.ready .any ops listed with
    | nil=>rfl
    | cons x xs =>
     have:x ∈ readyL done ops.toList 0:=(hdn.ready x).1 (by rw [hq]; simp)
     rw [hr] at this; simp at this
   cases fuel with
   | zero=>exact ⟨hJ0,hr0,hQ _ _ _ _ _ h hn hS⟩
   | succ f=>exact ⟨hJ0,fun _=>hQ _ _ _ _ _ h hn hS,fun i hi=>by rw [hr0] at hi; simp at hi⟩
  ·rename_i i0 r hr
   have hi0:i0 ∈ readyL done ops.toList 0:=by rw [hr]; simp
   have hlt0:∀ i,i ∈ readyL done ops.toList 0→∃ o,ops[i]? =some o∧i<ops.size:=by
    intro i hi
    obtain ⟨o,_,ho,_⟩:=readyL_spec.1 hi
    have ho:ops[i]? =some o:=by simpa using ho
    exact ⟨o,ho,(Array.getElem?_eq_some_iff.1 ho).1⟩
   have hfuel:∃ f,fuel=f+1:=by
    cases fuel with
    | succ f=>exact ⟨f,rfl⟩
    | zero =>
     exfalso
     obtain ⟨o,ho,hl⟩:=hlt0 i0 hi0
     have:=count_all listed.toList (by rw [Array.length_toList,hdn.size]; omega) i0 (by rw [Array.length_toList,hdn.size]; omega)
     rw [hdn.un hi0 hl] at this
     simp at this
   obtain ⟨f,rfl⟩:=hfuel
   have hcn:∀ i,i ∈ readyL done ops.toList 0→(listed.setIfInBounds i true).toList.count true+f=ops.size:=by
    intro i hi
    obtain ⟨o,_,hl⟩:=hlt0 i hi
    rw [Array.toList_setIfInBounds,count_set _ _ (hdn.un hi hl)]
    omega
   have next:∀ (rd':RdL) (J':Act→World→Prop),(∀ env' L' B' a' w',St X B' env' L' a' w'→(∀ q ∈ rd',(get env' q.1,getO L' q.2.1)=q.2.2)→J' a' w')→(∀ a w (d:Option Nat) v,(∀ x,d=some x→x ∉ rdS rd')→J' (a.put d v) w→J' a w) →
     ∀ (i:Nat) (o:Oper),i ∈ readyL done ops.toList 0→ops[i]? =some o→∀ (x:AV) (env':Env) (L':List AO) (B':List (Option BI)) (u:Value) (w':World),dstOk o.dst seen=true→keysE env'=keysE env→St X B' env' L' a w'→RelV B' (Sr X.M B' L' w') x u →
     allOps P tb gl ro ops n rd' (i::done) (addD o.dst seen) (putE o.dst (strip x) env') L' K→wpAnyI P ops Q J' f (listed.setIfInBounds i true) (a.put o.dst u) w':=by
    intro rd' J' hJ' hJp' i o hi ho x env' L' B' u w' hd hk hS' hu hK
    obtain ⟨_,_,hl⟩:=hlt0 i hi
    have hn':NoGd env':=fun k hk'=>hn k (by rw [← hk]; exact hk')
    have hgd:GdIn seen env':=fun s hs=>by have:=hn' _ hs; simp at this
    refine allOps_sound htb hgl hro hs hlt hp hQ n f _ rd' J' (i::done) _ _ L' B' _ w' hJ' hJp' (hdn.next hl) (hcn i hi) ?_ (hS'.put hgd hd (hlt o (hmem i o ho)) (RelV.notGd (strip_key x) (strip_rel hu))) hK
    intro k hk'
    cases hdst:o.dst with
    | none=>rw [hdst] at hk'; exact hn' k hk'
    | some d =>
     rw [hdst] at hk'
     simp only [putE,keysE,List.map_cons,List.mem_cons] at hk'
     rcases hk' with hk'|hk'
     ·rw [hk']; exact strip_key x
     ·exact hn' k hk'
   have free:∀ (j:Nat) (o:Oper),o.guard=none→freeRow ops.toList o j done ops.toList 0=true→∀ k ok,ops[k]? =some ok→k≠j→listed.getD k true=false→(∀ e ∈ ok.after,Region.binds .any e=true→e.on≠j)→apartF ops.toList o ok=true:=by
    intro j o hog hfr k ok hk hne hun hno
    refine freeRow_spec hfr k ok (by simpa using hk) (by simpa using hne) ?_ hno
    rw [Nat.zero_add]
    intro hkd
    have h1:=(hdn.iff k).2 hkd
    have hkl:k<listed.size:=by rw [hdn.size]; exact (Array.getElem?_eq_some_iff.1 hk).1
    simp [hkl] at h1 hun
    rw [h1] at hun; simp at hun
   split at h
   ·rename_i j o hff
    obtain ⟨hj,hoj,hmv,hog,hfr⟩:=firstFree_spec hff
    rw [← hr] at hj
    have hoj':ops[j]? =some o:=by simpa using hoj
    split at h
    ·exact h.elim
    rename_i hd0
    split at hd0
    ·simp at hd0
    rename_i hd
    subst hgl
    obtain ⟨y,v,hK,hx,hev⟩:=calc_sound htb hmv h (w:=w) hS.glob hS.relE
    refine wpAnyI_first (i:=j) (o':=o) (I:=J) (v:=v) (fun k ok cs b hk=>noSel_spec hs ok (hmem k ok hk) cs b) (fun cs b=>noSel_spec hs o (hmem j o hoj') cs b) hp (fun _ _ h=>h) (fun a' w' hy hI=>⟨hJp a' w' o.dst v (fun x hx=>by rw [hx] at hd0; exact dstOk_not hd0) hI,fun K hK=>hy.wpOp hoj' hK⟩)
     f listed a w (fun k ok hk hne hun hno=>apartF_spec hog (free j o hog hfr k ok hk hne hun hno)) ((hdn.ready j).2 hj) (.inl ⟨by simp [Region.wanted,hog],fun w=>hx w⟩) ?_
    exact next rd J hJ hJp j o hj hoj' _ _ _ _ _ _ hd rfl hS hev hK
   ·split at h
    ·rename_i j o q hfg
     obtain ⟨hj,hoj,hmv,hgm,hdq,hfr⟩:=firstGd_spec hfg
     obtain ⟨gi,hog,hgs,hgv⟩:=gdMet_spec hgm
     rw [← hr] at hj
     have hoj':ops[j]? =some o:=by simpa using hoj
     split at h
     ·exact h.elim
     rename_i hd
     have hdq1:∀ x,o.dst=some x→x≠q.1∧x ∉ rdS rd:=fun x hx=>by
      rw [hx] at hdq
      have:=dstOk_not hdq
      simp only [List.mem_cons,not_or] at this
      exact this
     have slot:∀ env' L' B' a' w',St X B' env' L' a' w'→get env' q.1= .c (.v (.bool q.2))→a'.tmps.getD q.1 undef= .bool q.2:=by
      intro env' L' B' a' w' hS' he
      have:=hS'.relE q.1
      rw [he] at this
      simp only [RelSl,RelV,RepC] at this
      exact this.1
     subst hgl
     obtain ⟨y,v,hK,hx,hev⟩:=calc_sound htb hmv h (w:=w) hS.glob hS.relE
     have hrun:∀ w',(execOp a.eval { o with guard:=none }).run P w'= .ok (.value v) w':=fun w'=>by
      have:=hx w'
      obtain ⟨dst,op,ty,pos,after,g⟩:=o
      exact this
     have hop:∀ a':Act,execOp a'.eval { o with guard:=none }=execOp a'.eval o:=fun a'=>by
      obtain ⟨dst,op,ty,pos,after,g⟩:=o
      rfl
     refine wpAnyI_first (i:=j) (o':={ o with guard:=none }) (I:=fun a w=>J a w∧a.tmps.getD q.1 undef= .bool q.2) (v:=v) (fun k ok cs b hk=>noSel_spec hs ok (hmem k ok hk) cs b) (fun cs b=>noSel_spec hs o (hmem j o hoj') cs b) hp (fun _ _ h=>h.1)
      (fun a' w' hy hI=>⟨hJp a' w' o.dst v (fun x hx=>(hdq1 x hx).2) hI.1,fun K hK=> ?_⟩) f listed a w (fun k ok hk hne hun hno=> ?_) ((hdn.ready j).2 hj) (.inl ⟨by simp [Region.wanted],hrun⟩) ?_
     ·have hsl:a'.tmps.getD q.1 undef= .bool q.2:=by
       rw [← hI.2]
       cases hdst:o.dst with
       | none=>simp [Act.put,hdst]
       | some d =>
        have:=(hdq1 d hdst).1
        simp only [Act.put,hdst]
        simp only [Array.getD_eq_getD_getElem?,Array.getElem?_setIfInBounds_ne this]
      have hw:Region.wanted o (yielded ops a'.tmps)=true:=(wanted_iff hog hgs).2 hsl
      refine Yields.wpOp (o:=o) hoj' (.inl ⟨hw,fun w2=> ?_⟩) hK
      rcases hy with ⟨_,hy⟩|⟨hy,_⟩
      ·rw [← hop]; exact hy w2
      ·simp [Region.wanted] at hy
     ·refine apartF_spec (x:={ o with guard:=none }) rfl (freeRow_spec hfr k ok (by simpa using hk) (by simpa using hne) ?_ hno)
      rw [Nat.zero_add]
      intro hkd
      have h1:=(hdn.iff k).2 hkd
      have hkl:k<listed.size:=by rw [hdn.size]; exact (Array.getElem?_eq_some_iff.1 hk).1
      simp [hkl] at h1 hun
      rw [h1] at hun; simp at hun
     ·refine next (gdRd q.1 q.2 rd) _ (fun env' L' B' a' w' hS' hqs=> ?_) (fun a w d v hd hI=> ?_) j o hj hoj' _ _ _ _ _ _ hd rfl hS hev hK
      ·unfold gdRd at hqs
       split at hqs
       ·rename_i hm
        refine ⟨hJ _ _ _ _ _ hS' hqs,?_⟩
        obtain ⟨q',hq',e⟩:∃ q' ∈ rd,q'.1=q.1:=rdS_of (memN_spec.1 hm)
        have h1:=hqs q' hq'
        have h2:=hrd q' hq'
        rw [← h2,e] at h1
        simp only [Prod.mk.injEq] at h1
        exact slot _ _ _ _ _ hS' (h1.1.trans hgv)
       ·refine ⟨hJ _ _ _ _ _ hS' fun q' hq'=>hqs q' (by simp [hq']),?_⟩
        have h1:=hqs _ (List.mem_cons_self ..)
        simp only [Prod.mk.injEq] at h1
        exact slot _ _ _ _ _ hS' h1.1
      ·unfold gdRd at hd
       have hd1:∀ x,d=some x→x ∉ rdS rd∧x≠q.1:=by
        intro x hx
        have:=hd x hx
        split at this
        ·rename_i hm
         exact ⟨this,fun e=>this (e ▸ memN_spec.1 hm)⟩
        ·simp only [rdS,List.mem_cons,not_or] at this
         exact ⟨this.2,this.1⟩
       refine ⟨hJp a w d v (fun x hx=>(hd1 x hx).1) hI.1,?_⟩
       rw [← hI.2]
       cases d with
       | none=>simp [Act.put]
       | some d =>
        simp only [Act.put]
        simp only [Array.getD_eq_getD_getElem?,Array.getElem?_setIfInBounds_ne (hd1 d rfl).2]
    split at h
    ·rename_i j o q hfl
     obtain ⟨hj,hoj,hld,hog,hdq,hfr⟩:=firstLd_spec hfl
     rw [← hr] at hj
     have hoj':ops[j]? =some o:=by simpa using hoj
     split at h
     ·exact h.elim
     rename_i hd
     obtain ⟨t,y,hop,⟨pid,poff,hptr⟩,hq,hty,hval⟩:=ldAt_spec hld
     have hget:∀ (env':Env) (L':List AO),(get env' q.1,getO L' q.2.1)=q.2.2→get env' q.1= .ptr pid poff:=fun env' L' he=>by
      rw [← hptr,← he]
     have hk0:allOps P tb gl ro ops n (q::rd) (j::done) (addD o.dst seen) (putE o.dst (strip y) env) L K:=by
      rw [hop] at h
      simp only [opPure,evO,hget env L hq,useK] at h
      rw [← hget env L hq] at h
      exact (hval env L _ hq).1 h
     have ldrun:∀ env' L' B' a' w',St X B' env' L' a' w'→(get env' q.1,getO L' q.2.1)=q.2.2→∃ v,(execOp a'.eval o).run P w'= .ok (.value v) w'∧RelV B' (Sr X.M B' L' w') y v:=by
      intro env' L' B' a' w' hS' he
      obtain ⟨y',rfl,hh⟩:=opLoad_sound htb ((hval env' L' (· =y) he).2 rfl)
      have hrel:=hS'.relE q.1
      have hrel2:RelV B' (Sr X.M B' L' w') (get env' q.1) (a'.tmps.getD q.1 undef):=by
       rw [hget env' L' he] at hrel ⊢
       exact hrel
      obtain ⟨v,h1,h2⟩:=hh X.M B' w' _ hS'.relL hrel2
      refine ⟨v,?_,h2⟩
      obtain ⟨dst,op,ty,pos,after,g⟩:=o
      simp only at hop
      subst hop
      have e:a'.eval (.tmp q.1)=a'.tmps.getD q.1 undef:=by simp [Act.eval]
      simp only [execOp]
      rw [Sem.run_bind,e,h1]
      rfl
     obtain ⟨v0,hrun0,hrel0⟩:=ldrun _ _ _ _ _ hS hq
     have hlooks:o.looksAt ops=[q.1]:=by rw [looks_eq hog,hop]; rfl
     have hput:∀ (a:Act) (d:Option Nat) v,(∀ x,d=some x→x≠q.1)→execOp (a.put d v).eval o=execOp a.eval o:=fun a d v hd=>execOp_put (ops:=ops) o (fun cs b=>noSel_spec hs o (hmem j o hoj') cs b) a d v fun x hx=>by rw [hlooks]; simpa using hd x hx
     have hdq1:∀ x,o.dst=some x→x≠q.1∧x ∉ rdS rd:=fun x hx=>by
      rw [hx] at hdq
      have:=dstOk_not hdq
      simp only [List.mem_cons,not_or] at this
      exact this
     have hwant:Region.wanted o (yielded ops a.tmps)=true:=by simp [Region.wanted,hog]
     refine wpAnyI_first (i:=j) (o':={ o with op:= .move (.const v0) }) (I:=fun a w=>J a w∧(execOp a.eval o).run P w= .ok (.value v0) w) (v:=v0) (fun k ok cs b hk=>noSel_spec hs ok (hmem k ok hk) cs b) (fun cs b=>by simp) hp (fun _ _ h=>h.1)
      (fun a' w' _ hI=>⟨hJp a' w' o.dst v0 (fun x hx=>(hdq1 x hx).2) hI.1,fun K hK=> ?_⟩) f listed a w (fun k ok hk hne hun hno=> ?_) ((hdn.ready j).2 hj) (.inl ⟨by simp [Region.wanted,hog],fun w=>by simp [execOp,Act.eval]⟩) ?_
     ·have h2:=hI.2
      rw [hput a' o.dst v0 fun x hx=>(hdq1 x hx).1] at h2
      unfold wpOp
      simp only [hoj']
      rw [if_pos (by simp [Region.wanted,hog])]
      refine .inl ?_
      unfold Oper.wp
      rw [h2,Oper.upon_value]
      exact hK
     ·refine apartF_spec (x:={ o with op:= .move (.const v0) }) hog ?_
      have:=free j o hog hfr k ok hk hne hun hno
      unfold apartF at this ⊢
      simp only at this ⊢
      split at this
      ·simp at this
      ·cases ok.dst<;>rfl
     ·refine next (q::rd) _ (fun env' L' B' a' w' hS' hqs=>⟨hJ _ _ _ _ _ hS' fun q' hq'=>hqs q' (by simp [hq']),?_⟩) (fun a w d v hd hI=>⟨hJp a w d v (fun x hx hm=>hd x hx (by simp [rdS,hm])) hI.1,?_⟩) j o hj hoj' y env L B v0 w hd rfl hS hrel0 hk0
      ·obtain ⟨v',hr',hrel'⟩:=ldrun _ _ _ _ _ hS' (hqs q (by simp))
       rw [hr',told_eq hty hrel' hrel0]
      ·have h2:=hI.2
       rwa [hput a d v fun x hx e=>hd x hx (by simp [rdS,e])] at h2
    ·have hall:∀ i ∈ readyL done ops.toList 0,∃ o,ops.toList[i]? =some o∧_:=fun i hi=>eachK_spec h i (by rw [← hr]; exact hi)
     refine ⟨hJ0,fun e=>by
      have:=(hdn.ready i0).2 hi0
      rw [e] at this; simp at this,fun i hi=> ?_⟩
     have hi:=(hdn.ready i).1 hi
     obtain ⟨o,ho,hF⟩:=hall i hi
     have ho':ops[i]? =some o:=by simpa using ho
     split at hF
     ·exact hF.elim
     rename_i hd
     unfold wpOp
     simp only [ho']
     rcases guardK_spec hS.relE hF with ⟨hw,hF⟩|⟨hw,hF⟩
     ·have hstep:=stepE_sound htb hgl hro hS hF
      rw [if_pos hw]
      exact .inl (hstep _ _ fun x env' L' B' u w' hK' hk hS' hu=>next rd J hJ hJp i o hi ho' x env' L' B' u w' hd hk hS' hu hK')
     ·rw [if_neg (by rw [hw]; simp)]
      exact next rd J hJ hJp i o hi ho' .any env L B undef w hd rfl hS trivial hF
end
end Go.VA
namespace Go.VA
open Go Go.RowKit
mutual
theorem RelV.cut {B:List (Option BI)}{S:Rd}{n:Nat}:∀ (x:AV) (u:Value),x.lt n=true→RelV B S x u→RelV (B.take n) S x u
 | .any,_,_,_=>by simp [RelV]
 | .c x,u,_,h=>by simpa only [RelV] using h
 | .ag xs,u,_,h=>by simpa only [RelV] using h
 | .agx xs,u,hl,h=>by
  simp only [AV.lt] at hl
  simp only [RelV] at h ⊢
  obtain ⟨arr,h1,h2,h3⟩:=h
  exact ⟨arr,h1,h2,RelVs.cut xs _ hl h3⟩
 | .ptr id off,u,hl,h=>by
  have hl:=bltN (by simpa only [AV.lt] using hl)
  simp only [RelV] at h ⊢
  obtain ⟨bi,h1,h2⟩:=h
  exact ⟨bi,by rw [List.getElem?_take_of_lt hl]; exact h1,h2⟩
 | .pe id esz i k,u,hl,h=>by
  have hl:=bltN (by simpa only [AV.lt] using hl)
  simp only [RelV] at h ⊢
  obtain ⟨bi,h1,h2⟩:=h
  exact ⟨bi,by rw [List.getElem?_take_of_lt hl]; exact h1,h2⟩
 | .sp t xs k,u,_,h=>by simpa only [RelV] using h
 | .own id esz off len,u,hl,h=>by
  have hl:=bltN (by simpa only [AV.lt] using hl)
  simp only [RelV] at h ⊢
  rcases h with ⟨bi,cap,h1,h2⟩|⟨h1,h2,bo,h3⟩
  ·exact .inl ⟨bi,cap,by rw [List.getElem?_take_of_lt hl]; exact h1,h2⟩
  ·exact .inr ⟨h1,h2,bo,by rw [List.getElem?_take_of_lt hl]; exact h3.1,h3.2⟩
 | .tup xs,u,hl,h=>by
  simp only [AV.lt] at hl
  simp only [RelV] at h ⊢
  obtain ⟨arr,h1,h3⟩:=h
  exact ⟨arr,h1,RelVs.cut xs _ hl h3⟩
 | .fn f xs ys,u,hl,h=>by
  simp only [AV.lt] at hl
  split at hl
  ·rename_i h0
   simp only [RelV] at h ⊢
   obtain ⟨a1,a2,h1,h2,h3⟩:=h
   exact ⟨a1,a2,h1,RelVs.cut xs _ h0 h2,RelVs.cut ys _ hl h3⟩
  ·simp at hl
 | .gd ..,_,_,_=>by simp [RelV]
 | .mpv id,u,hl,h=>by
  have hl:=bltN (by simpa only [AV.lt] using hl)
  simp only [RelV] at h ⊢
  obtain ⟨bi,h1,h2⟩:=h
  exact ⟨bi,by rw [List.getElem?_take_of_lt hl]; exact h1,h2⟩
 | .ub p,u,_,h=>by simpa only [RelV] using h
theorem RelVs.cut {B:List (Option BI)}{S:Rd}{n:Nat}:∀ (xs:List AV) (us:List Value),AV.lts n xs=true→RelVs B S xs us→RelVs (B.take n) S xs us
 | [],us,_,h=>by simpa [RelVs] using h
 | x::xs,us,hl,h=>by
  simp only [AV.lts] at hl
  split at hl
  ·rename_i h0
   simp only [RelVs] at h ⊢
   obtain ⟨u,r,h1,h2,h3⟩:=h
   exact ⟨u,r,h1,RelV.cut x u h0 h2,RelVs.cut xs r hl h3⟩
  ·simp at hl
end
theorem RefE.get {env':Env}{k n:Nat}:∀ {env:Env} (t:Nat),RefE env' k n env→get env t= .any∨(LeE k n (get env' t) (get env t)∧(get env t).lt n=true)
 | [],_,_=> .inl rfl
 | (s,x)::r,t,h=>by
  simp only [RefE] at h
  simp only [Go.VA.get]
  split
  ·rename_i e
   rw [← Nat.beq_spec e]
   exact .inr h.1
  ·exact RefE.get t h.2
theorem NoGdE.spec:∀ {env:Env},NoGdE env=true→NoGd env
 | [],_=>fun k hk=>by simp [keysE] at hk
 | (s,x)::r,h=>by
  simp only [NoGdE] at h
  intro k hk
  simp only [keysE,List.map_cons,List.mem_cons] at hk
  cases x<;>simp only [Bool.false_eq_true] at h <;>
  (rcases hk with hk|hk
   ·rw [hk]; rfl
   ·exact NoGdE.spec h k hk)
theorem RefL.nth {q n:Nat}:∀ {L' L:List AO} (id:Nat),RefL q n L' L→id<L.length→(id<L'.length∧LeO q n (getO L' id) (getO L id))∨(L'.length≤id∧padO (getO L id))
 | _,[],_,_,h=>by simp at h
 | [],x::r,0,h,_=>by simp only [RefL] at h; exact .inr ⟨by simp,h.1⟩
 | [],x::r,id+1,h,hl=>by
  simp only [RefL] at h
  rcases RefL.nth (L':=[]) id h.2 (by simpa using hl) with h1|h1
  ·simp at h1
  ·exact .inr ⟨by simp,h1.2⟩
 | x'::r',x::r,0,h,_=>by simp only [RefL] at h; exact .inl ⟨by simp,h.1⟩
 | x'::r',x::r,id+1,h,hl=>by
  simp only [RefL] at h
  rcases RefL.nth id h.2 (by simpa using hl) with h1|h1
  ·exact .inl ⟨by simpa using h1.1,h1.2⟩
  ·exact .inr ⟨by simpa using h1.1,h1.2⟩
theorem RefR.nth:∀ {k:Nat} {L' L:List AO} (id:Nat),RefR k L' L→id<k→(getO L' id).live=(getO L id).live
 | 0,_,_,_,_,h=>by omega
 | k+1,x'::r',x::r,0,h,_=>h.1
 | k+1,x'::r',x::r,id+1,h,hl=>RefR.nth id h.2 (by omega)
 | k+1,[],_,_,h,_=>by simp [RefR] at h
 | k+1,_::_,[],_,h,_=>by simp [RefR] at h
theorem RefR.len:∀ {k:Nat} {L' L:List AO},RefR k L' L→k≤L.length
 | 0,_,_,_=>Nat.zero_le _
 | k+1,x'::r',x::r,h=>by have:=RefR.len h.2; simp; omega
 | k+1,[],_,h=>by simp [RefR] at h
 | k+1,_::_,[],h=>by simp [RefR] at h
theorem LeO.live {q n:Nat}{x' x:AO}(h:LeO q n x' x)(hx:x.live=true):x'.live=true:=by
 cases x<;>simp [AO.live] at hx<;>cases x'<;>simp [LeO] at h<;>rfl
theorem RelVs.cutLe {B:List (Option BI)}{S S':Rd}(hS:S.le S'){q n:Nat}(hn:n≤B.length)(hB:∀ id,q≤id→id<n→B[id]? =some none):∀ {xs ys:List AV} {us:List Value},LeAs q n xs ys→RelVs B S xs us→RelVs (B.take n) S' ys us
 | [],[],us,_,h=>by simpa [RelVs] using h
 | x::xs,y::ys,us,hl,h=>by
  simp only [LeAs] at hl
  simp only [RelVs] at h ⊢
  obtain ⟨u,r,h1,h2,h3⟩:=h
  exact ⟨u,r,h1,RelV.cut _ _ hl.1.2 (hl.1.1.rel hn hB (RelV.mono (Ble.refl _) hS _ _ h2)),RelVs.cutLe hS hn hB hl.2 h3⟩
 | [],_::_,_,hl,_=>by simp [LeAs] at hl
 | _::_,[],_,hl,_=>by simp [LeAs] at hl
theorem LeMs.rel {S S':Rd}(hS:S.le S'):∀ {m' m:List (Value×AV)} {es:List MapEntry},LeMs m' m→RelM S m' es→RelM S' m es
 | [],[],es,_,h=>by simpa [RelM] using h
 | x::xs,y::ys,es,hl,h=>by
  simp only [LeMs] at hl
  simp only [RelM] at h ⊢
  obtain ⟨e,r,h1,h2,h3,h4⟩:=h
  exact ⟨e,r,h1,h2.trans hl.1.1,hl.1.2.h _ _ _ (Nat.zero_le _) (RelV.mono (Ble.refl _) hS _ _ h3),LeMs.rel hS hl.2 h4⟩
 | [],_::_,_,hl,_=>by simp [LeMs] at hl
 | _::_,[],_,hl,_=>by simp [LeMs] at hl
theorem RelO.cut {B:List (Option BI)}{S S':Rd}(hS:S.le S'){q n:Nat}(hn:n≤B.length)(hB:∀ id,q≤id→id<n→B[id]? =some none){w:World}{x' x:AO}{bo:Option BI}(hl:LeO q n x' x)(h:RelO B S w x' bo):RelO (B.take n) S' w x bo:=by
 cases x with
 | dead=>cases bo<;>simp [RelO]
 | box ys =>
  cases x'<;>simp only [LeO] at hl
  simp only [RelO] at h ⊢
  obtain ⟨bi,cs,ty,h1,h2,h3,h4,h5,h6⟩:=h
  exact ⟨bi,cs,ty,h1,h2,h3,h4,h5,RelVs.cutLe hS hn hB hl h6⟩
 | row e k g =>
  cases x'<;>simp only [LeO] at hl
  obtain ⟨rfl,rfl,hl⟩:=hl
  cases bo with
  | none=>simpa only [RelO] using h
  | some bi =>
   simp only [RelO] at h ⊢
   obtain ⟨h1,cs,ty,h2,h3,h4,h5⟩:=h
   refine ⟨h1,cs,ty,h2,h3,h4,fun i hi=> ?_⟩
   exact ⟨(hl i hi).1.trans (h5 i hi).1,RepCs.mono hS (fun _ _ h=>h) _ _ ((hl i hi).2 _ _ _ (h5 i hi).2)⟩
 | frz e k g =>
  cases x'<;>simp only [LeO] at hl
  obtain ⟨rfl,rfl,hl⟩:=hl
  cases bo with
  | none=>simpa only [RelO] using h
  | some bi =>
   simp only [RelO] at h ⊢
   obtain ⟨h1,h5⟩:=h
   refine ⟨h1,fun i hi=> ?_⟩
   exact ⟨(hl i hi).1.trans (h5 i hi).1,RepCs.mono hS (fun o u h=>hS _ _ _ _ h) _ _ ((hl i hi).2 _ _ _ (h5 i hi).2)⟩
 | mp m =>
  cases x'<;>simp only [LeO] at hl
  simp only [RelO] at h ⊢
  obtain ⟨bi,es,clock,h1,h2,h3,h4⟩:=h
  exact ⟨bi,es,clock,h1,h2,LeMs.rel hS hl h3,h4⟩
 | amb vs ys =>
  cases x'<;>simp only [LeO] at hl
  obtain ⟨rfl,hl⟩:=hl
  simp only [RelO] at h ⊢
  exact RelVs.cutLe hS hn hB hl h
def padB (n:Nat) (B:List (Option BI)):List (Option BI):=B++List.replicate (n-B.length) none
theorem padB_len (n:Nat)(B:List (Option BI)):n≤(padB n B).length:=by simp [padB]; omega
theorem padB_get {n:Nat}{B:List (Option BI)}{id:Nat}{bo:Option BI}(h:((padB n B).take n)[id]? =some bo):id<n∧(B[id]? =some bo∨(B.length≤id∧bo=none)):=by
 have hid:id<n:=by
  rcases Nat.lt_or_ge id n with h3|h3
  ·exact h3
  ·rw [List.getElem?_eq_none (by simp; omega)] at h; simp at h
 refine ⟨hid,?_⟩
 rw [List.getElem?_take_of_lt hid] at h
 unfold padB at h
 rcases Nat.lt_or_ge id B.length with h3|h3
 ·rw [List.getElem?_append_left h3] at h; exact .inl h
 ·rw [List.getElem?_append_right h3,List.getElem?_replicate] at h
  split at h
  ·simp at h; exact .inr ⟨h3,h.symm⟩
  ·simp at h
theorem padB_ble (n:Nat)(B:List (Option BI)):Ble B (padB n B):=fun id y h=>by
 unfold padB
 rw [List.getElem?_append_left (List.getElem?_eq_some_iff.1 h).1]; exact h
theorem RelO.padB {B:List (Option BI)}{S:Rd}{w:World}{x:AO}{bo:Option BI}(n:Nat)(h:RelO B S w x bo):RelO (padB n B) S w x bo:=by
 cases x with
 | box xs =>
  obtain ⟨bi,cs,ty,e,h1,h2,h3,h4,h5⟩:=h
  exact ⟨bi,cs,ty,e,h1,h2,h3,h4,RelVs.mono (padB_ble n B) (Rd.le_refl _) _ _ h5⟩
 | row e n f=>cases bo<;>exact h
 | frz e n f=>cases bo<;>exact h
 | mp m=>exact h
 | amb vs xs=>exact RelVs.mono (padB_ble n B) (Rd.le_refl _) _ _ h
 | dead=>trivial
theorem MU_cut {M:Mz}{B:List (Option BI)}{q n:Nat}{L L':List AO}(hlen:B.length=L'.length)(hL:RefL q n L' L)(hn:n=L.length)(t:Bool)(b:Nat)(h:MU M ((padB n B).take n) L t b):MU M B L' t b:=by
 have key:∀ (id:Nat) (bi:BI),((padB n B).take n)[id]? =some (some bi)→(getO L id).live=true→B[id]? =some (some bi)∧(getO L' id).live=true:=by
  intro id bi h1 h2
  obtain ⟨hid,h3⟩:=padB_get h1
  rcases h3 with h3|⟨_,h3⟩
  ·rcases hL.nth id (by omega) with h4|h4
   ·exact ⟨h3,h4.2.live h2⟩
   ·have:=(List.getElem?_eq_some_iff.1 h3).1; omega
  ·simp at h3
 cases t with
 | false =>
  rcases h with h|⟨id,bi,h1,h2,h3⟩
  ·exact .inl h
  ·have:=key id bi h1 h3; exact .inr ⟨id,bi,this.1,h2,this.2⟩
 | true =>
  rcases h with h|⟨id,bi,h0,h1,h2,h3⟩
  ·exact .inl h
  ·have:=key id bi h1 h3; exact .inr ⟨id,bi,h0,this.1,h2,this.2⟩
theorem LeO.kd {q n:Nat}{x' x:AO}(h:LeO q n x' x):x.kd=0∨x.kd=x'.kd:=by
 cases x<;>cases x'<;>simp_all [LeO,AO.kd]
theorem St.refine {X:Fx}{B:List (Option BI)}{env:Env}{L:List AO}{a:Act}{w:World}(h:St X B env L a w)(hn:NoGd env){s:Env×List AO}(hr:Ref X.M.ro X.L0.length env L s)(hg:NoGdE s.1=true) :
  St X ((padB s.2.length B).take s.2.length) s.1 s.2 a w:=by
 obtain ⟨env1,L1⟩:=s
 obtain ⟨h1,h2,h3,hl0⟩:=hr
 have hl0:=Nat.le_of_ble_eq_true hl0
 simp only at h1 h2 h3 hg hl0 ⊢
 have hlenB:=h.relL.len
 have hle:(Sr X.M B L w).le (Sr X.M ((padB L1.length B).take L1.length) L1 w):=fun t b o u hh=>⟨fun hm=>hh.1 (MU_cut hlenB h2 rfl t b hm),hh.2⟩
 have hB:∀ (id:Nat) (bi:BI),((padB L1.length B).take L1.length)[id]? =some (some bi)→id<L1.length∧B[id]? =some (some bi):=by
  intro id bi hb
  obtain ⟨k1,k2⟩:=padB_get hb
  refine ⟨k1,?_⟩
  rcases k2 with k2|⟨_,k2⟩
  ·exact k2
  ·simp at k2
 have hpad:∀ id,L.length≤id→id<L1.length→(padB L1.length B)[id]? =some none:=fun id h1 h2=>by
  unfold padB
  rw [List.getElem?_append_right (by omega),List.getElem?_replicate,if_pos (by omega)]
 have hlive:∀ (id:Nat) (bi:BI),B[id]? =some (some bi)→id<L1.length→(getO L1 id).live=true→(getO L id).live=true:=fun id bi hb hid hl=>by
  rcases h2.nth id hid with h4|h4
  ·exact h4.2.live hl
  ·have:=(List.getElem?_eq_some_iff.1 hb).1; omega
 refine ⟨⟨by have:=padB_len L1.length B; simp; omega,fun id bi hb=>h.relL.bnd id bi (hB id _ hb).2,h.relL.mbnd,fun id bi hb hl=>h.relL.notM id bi (hB id _ hb).2 (hlive id bi (hB id _ hb).2 (hB id _ hb).1 hl),
  fun i j bi bj hij hi hj hli hlj=>h.relL.dist i j bi bj hij (hB i _ hi).2 (hB j _ hj).2 (hlive i bi (hB i _ hi).2 (hB i _ hi).1 hli) (hlive j bj (hB j _ hj).2 (hB j _ hj).1 hlj),
  fun id bo hb=> ?_⟩,h.glob.mono hle,fun t=> ?_,h.below,
  fun id bi h0 hb hl=>h.fresh id bi h0 (hB id _ hb).2 (hlive id bi (hB id _ hb).2 (hB id _ hb).1 hl),fun id hid=> ?_,h3.len,hl0,fun id i0 i1=> ?_,h.dfr,h.sz⟩
 ·obtain ⟨k1,k2⟩:=padB_get hb
  rcases h2.nth id k1 with h4|h4
  ·rcases k2 with k2|⟨k2,_⟩
   ·have:=RelO.cut hle (n:=L1.length) (padB_len _ B) hpad h4.2 (RelO.padB L1.length (h.relL.obj id bo k2))
    exact this
   ·omega
  ·rcases k2 with k2|⟨_,rfl⟩
   ·have:=(List.getElem?_eq_some_iff.1 k2).1; omega
   ·have h5:=h4.2
    cases hx:getO L1 id<;>rw [hx] at h5<;>simp only [padO] at h5
    ·simp only [RelO]; exact h5
    ·simp [RelO]
 ·have ht:=h.relE t
  rcases h1.get t with h4|⟨h4,h5⟩
  ·rw [h4]; simp [RelSl,RelV]
  ·have hk:gkey (get env1 t)=none:=by
    cases hq:get env1 t<;>try rfl
    rename_i s w' x
    have:=NoGdE.spec hg _ (get_key hq)
    simp at this
   have hk':gkey (get env t)=none:=by
    cases hq:get env t<;>try rfl
    rename_i s w' x
    have:=hn _ (get_key hq)
    simp at this
   rw [relSl_iff hk'] at ht
   refine RelV.notGd hk (RelV.cut _ _ h5 (h4.rel (padB_len _ B) hpad (RelV.mono (padB_ble _ B) hle _ _ ht)))
 ·have:=h.old id hid
  have hid':id<L1.length:=by have:=h3.len; omega
  have hidB:id<B.length:=by have:=h.rol; omega
  rw [List.getElem?_take_of_lt hid',padB,List.getElem?_append_left hidB]
  exact ⟨this.1,(h3.nth id hid).symm.trans this.2⟩
 ·rcases h2.nth id i1 with h4|h4
  ·rcases h4.2.kd with h5|h5
   ·exact .inl h5
   ·rcases h.knd id i0 h4.1 with h6|⟨h6,h7⟩
    ·exact .inl (h5.trans h6)
    ·refine .inr ⟨h5.trans h6,fun h8=> ?_⟩
     have hidB:id<B.length:=by omega
     rw [List.getElem?_take_of_lt i1,padB,List.getElem?_append_left hidB]
     exact h7 (h5 ▸ h8)
  ·have:=h.l0; omega
def opsLt (nt:Nat):List Oper→Bool
 | []=>true
 | o::r=>match o.dst with
  | none=>opsLt nt r
  | some d=>match Nat.blt d nt with|true=>opsLt nt r|false=>false
theorem opsLt_spec {nt:Nat}:∀ {l:List Oper},opsLt nt l=true→∀ o ∈ l,∀ d,o.dst=some d→d<nt
 | [],_,o,ho,_,_=>by simp at ho
 | x::r,h,o,ho,d,hd=>by
  simp only [opsLt] at h
  split at h
  ·rename_i hx
   rcases List.mem_cons.1 ho with rfl|ho
   ·rw [hx] at hd; simp at hd
   ·exact opsLt_spec h o ho d hd
  ·rename_i d' hx
   split at h
   ·rename_i hlt
    rcases List.mem_cons.1 ho with rfl|ho
    ·rw [hx] at hd; simp only [Option.some.injEq] at hd; subst hd; exact bltN hlt
    ·exact opsLt_spec h o ho d hd
   ·simp at h
def codeOk (nt:Nat):Code→Bool
 | .region _ ops draw=>match opsLt nt ops.toList with
  | true=>match draw with
   | true=>match hintGo ops.toList with
    | true=>drawOk ops
    | false=>noSel ops.toList
   | false=>true
  | false=>false
 | .seq x y=>match codeOk nt x with|true=>codeOk nt y|false=>false
 | .cond _ x y=>match codeOk nt x with|true=>codeOk nt y|false=>false
 | .block _ b=>codeOk nt b
 | .loop b=>codeOk nt b
 | .scope b=>codeOk nt b
 | _=>true
def exOf:Ex→Exit
 | .normal=> .normal
 | .exit i=> .exit i
 | .ret=> .ret
theorem condA_sound {x:AV}{X Y:Prop}(h:condA x X Y){B:List (Option BI)}{S:Rd}{u:Value}(hu:RelV B S x u):∃ b,u= .bool b∧(b=true→X)∧(b=false→Y):=by
 unfold condA at h
 split at h
 ·simp only [RelV,RepC] at hu
  exact ⟨_,hu.1,h⟩
 ·simp only [RelV] at hu
  obtain ⟨b,rfl,hp⟩:=hu
  refine ⟨b,rfl,fun e=> ?_,fun e=> ?_⟩
  ·subst e; exact h.1 hp
  ·subst e; exact h.2 hp
 ·exact h.elim
theorem St.drawn {X:Fx}{B:List (Option BI)}{env:Env}{L:List AO}{a:Act}{w:World}(h:St X B env L a w):St X B env L a { w with drawn:=w.drawn+1 } :=
 h.ext ⟨rfl,rfl,rfl,Nat.le_refl _,fun _ _=>rfl⟩
theorem least_of {p:Nat→Prop}:(∃ n,p n)→∃ n,p n∧∀ k,p k→n≤k:=by
 intro ⟨n,hn⟩
 induction n using Nat.strongRecOn with
 | _ n ih =>
  by_cases h:∃ k,k<n∧p k
  ·obtain ⟨k,hk,hp⟩:=h; exact ih k hk hp
  ·exact ⟨n,hn,fun k hk=>Nat.le_of_not_lt fun hlt=>h ⟨k,hlt,hk⟩⟩
theorem wp_loop_ghost {P:Program}{Q:Exit→Act→World→Prop}{a:Act}{w:World}{c:Code}{σ:Type}(I:σ→Act→World→Prop)(m:σ→Nat)(h₀ :∃ s,I s a w)
  (round:∀ s a w,I s a w→c.wp P (Exit.then (fun a' w'=>∃ s',I s' a' w'∧m s'<m s) Q) a w):(Code.loop c).wp P Q a w:=by
 classical
 let μ :Act→World→Nat:=fun a w=>if h:∃ n,∃ s,m s=n∧I s a w then (least_of h).choose else 0
 have hμ :∀ s a w,I s a w→(∃ s',m s'= μ a w∧I s' a w)∧ μ a w≤m s:=by
  intro s a w hI
  have h:∃ n,∃ s,m s=n∧I s a w:=⟨_,s,rfl,hI⟩
  have hs:=(least_of h).choose_spec
  have e: μ a w=(least_of h).choose:=by simp only [μ]; rw [dif_pos h]
  rw [e]
  exact ⟨hs.1,hs.2 _ ⟨s,rfl,hI⟩⟩
 refine wp_loop (fun a w=>∃ s,I s a w) μ h₀ fun a w ⟨s,hI⟩=> ?_
 obtain ⟨⟨s',hs',hI'⟩,_⟩:=hμ s a w hI
 refine wp_mono (round s' a w hI') fun e a2 w2 hq=> ?_
 cases e with
 | normal =>
  obtain ⟨s2,hI2,hlt⟩:=hq
  refine ⟨⟨s2,hI2⟩,?_⟩
  have:=(hμ s2 a2 w2 hI2).2
  omega
 | _=>exact hq
theorem get_keepE {U:List Nat}:∀ (env:Env) (ws:List Nat) (t:Nat),get (keepE U ws env) t= .any∨(get (keepE U ws env) t=get env t∧gkey (get env t)=none∧t ∉ ws)
 | [],ws,t=> .inl (by simp [keepE,get])
 | (s,x)::r,ws,t=>by
  have hne:s≠t→get ((s,x)::r) t=get r t:=fun h=>by
   simp only [get]
   split
   ·rename_i e; exact absurd (Nat.beq_spec e) h
   ·rfl
  have heq:get ((s,x)::r) s=x:=by simp [get]
  have low:∀ ws',(∀ y ∈ ws,y ∈ ws')→s ∈ ws'→get (keepE U ws' r) t= .any∨(get (keepE U ws' r) t=get ((s,x)::r) t∧gkey (get ((s,x)::r) t)=none∧t ∉ ws):=by
   intro ws' hw hs
   rcases get_keepE r ws' t with h|⟨h1,h2,h3⟩
   ·exact .inl h
   ·have:s≠t:=fun e=>h3 (e ▸ hs)
    rw [hne this]
    exact .inr ⟨h1,h2,fun hm=>h3 (hw t hm)⟩
  simp only [keepE]
  split
  ·rename_i hm
   by_cases hst:s=t
   ·
    subst hst
    left
    have:∀ (env:Env) (ws:List Nat),get (keepE U ws env) s= .any:=by
     intro env
     induction env with
     | nil=>intro ws; simp [keepE,get]
     | cons p r ih =>
      intro ws
      obtain ⟨s',y⟩:=p
      simp only [keepE]
      split
      ·exact ih ws
      ·rename_i hu
       have hne':s'≠s:=fun e=>by subst e; rw [hm] at hu; simp at hu
       split
       ·exact ih ws
       ·have h2:=ih (s'::ws)
        cases y<;>simp only<;>first
         | exact h2
         | (simp only [get]
            split
            ·rename_i e; exact absurd (Nat.beq_spec e) hne'
            ·exact h2)
    exact this r ws
   ·rw [hne hst]; exact get_keepE r ws t
  ·split
   ·rename_i hm
    exact low ws (fun _ h=>h) (memN_spec.1 hm)
   ·rename_i hm
    have hs:s ∉ ws:=fun e=>by rw [memN_spec.2 e] at hm; simp at hm
    have hl:=low (s::ws) (fun y hy=>by simp [hy]) (by simp)
    have top:gkey x=none→get ((s,x)::keepE U (s::ws) r) t= .any∨(get ((s,x)::keepE U (s::ws) r) t=get ((s,x)::r) t∧gkey (get ((s,x)::r) t)=none∧t ∉ ws):=by
     intro hg
     by_cases hst:s=t
     ·subst hst
      exact .inr ⟨by simp [get],by rw [heq]; exact hg,hs⟩
     ·have e1:get ((s,x)::keepE U (s::ws) r) t=get (keepE U (s::ws) r) t:=by
       simp only [get]
       split
       ·rename_i e; exact absurd (Nat.beq_spec e) hst
       ·rfl
      rw [e1]; exact hl
    cases x<;>simp only<;>first|exact hl|exact top rfl
theorem keepE_noGd {U:List Nat}:∀ (env:Env) (ws:List Nat),NoGd (keepE U ws env)
 | [],ws=>by simp [keepE,NoGd,keysE]
 | (s,x)::r,ws=>by
  simp only [keepE]
  split
  ·exact keepE_noGd r ws
  ·split
   ·exact keepE_noGd r ws
   ·have ih:=keepE_noGd (U:=U) r (s::ws)
    cases x<;>simp only<;>first
     | exact ih
     | (intro k hk
        simp only [keysE,List.map_cons,List.mem_cons] at hk
        rcases hk with hk|hk
        ·rw [hk]; rfl
        ·exact ih k hk)
theorem St.keep {X:Fx}{B:List (Option BI)}{env:Env}{L:List AO}{a:Act}{w:World}(h:St X B env L a w)(U:List Nat):St X B (keepE U [] env) L a w where
 relL:=h.relL
 glob:=h.glob
 relE:=fun t=>by
  rcases get_keepE (U:=U) env [] t with e|⟨e,_,_⟩
  ·rw [e]; simp [RelSl,RelV]
  ·rw [e]; exact h.relE t
 below:=h.below
 fresh:=h.fresh
 old:=h.old
 rol:=h.rol
 l0:=h.l0
 knd:=h.knd
 dfr:=h.dfr
 sz:=h.sz
section
variable {P:Program} {tb:TB} {gl:Gl}
theorem vc_sound (htb:TbOk P tb)(hmix:P.follows .mixedOrders=true){X:Fx}(hgl:X.gl=gl){ro n0:Nat}{U:List Nat}(hro:X.M.ro=ro)(hn0:X.L0.length=n0) :
  ∀ (c:Code) (env:Env) (L:List AO) (B:List (Option BI)) (a:Act) (w:World) (K:Ex→Env→List AO→Prop) (Q:Exit→Act→World→Prop),codeOk X.nt c=true→NoGd env→St X B env L a w →
   vc P tb gl ro n0 U c env L K→(∀ e env' L' B' a' w',K e env' L'→NoGd env'→St X B' env' L' a' w'→Q (exOf e) a' w')→c.wp P Q a w:=by
 intro c
 induction c with
 | skip =>
  intro env L B a w K Q _ hn hS h hQ
  exact wp_skip (hQ .normal _ _ _ _ _ h hn hS)
 | region id ops draw =>
  intro env L B a w K Q hok hn hS h hQ
  simp only [codeOk] at hok
  split at hok
  ·rename_i hlt
   have hlt:=opsLt_spec hlt
   cases draw with
   | false =>
    simp only [vc,keepK_eq,forceL_eq] at h
    refine wp_region_list (seqOps_sound htb hgl hro ops.toList [] env L B a w 0 hlt hn.gdIn hn.top hS h fun env' L' B' a' w' k1 k2 k3=> ?_)
    exact hQ .normal _ _ _ _ _ k1 (keepE_noGd _ _) (k3.keep _)
   | true =>
    simp only [vc,keepK_eq,forceL_eq] at h
    have hany:noSel ops.toList=true→Drawn (fun K'=>allOps P tb gl ro ops (ops.toList.length+1) [] [] [] env L fun env L=>keepK U [] env fun env=>forceL L fun L=>K' env L) ro n0 (fun env L=>K .normal env L)→(Code.region id ops true).wp P Q a w:=by
     intro hok h
     simp only [keepK_eq,forceL_eq] at h
     have hcount:DoneIs ops (Array.replicate ops.size false) []:=⟨by simp,fun i=>by by_cases hi:i<ops.size<;>simp [hi]⟩
     rcases h.h with h|⟨s,h,hk⟩
     ·simp only [keepK_eq,forceL_eq] at h
      exact Code.wp_mono (Q:=fun e a w=>e= .normal∧Q .normal a w) (fun e a w hq=>by obtain ⟨rfl,hq⟩:=hq; exact hq) (wp_region_any hmix
       (wpAnyI.to (allOps_sound htb hgl hro hok hlt (fun c a w hq=>by cases hq.1) (fun env' L' B' a' w' k1 k2 k3=>⟨rfl,hQ .normal _ _ _ _ _ k1 (keepE_noGd _ _) (k3.keep _)⟩) _ _ _ [] (fun _ _=>True) [] [] env L B a _ (fun _ _ _ _ _ _ _=>trivial) (fun _ _ _ _ _ _=>trivial) hcount (by simp [List.count_replicate]) hn hS.drawn h)))
     ·simp only [keepK_eq,forceL_eq] at h
      exact Code.wp_mono (Q:=fun e a w=>e= .normal∧Q .normal a w) (fun e a w hq=>by obtain ⟨rfl,hq⟩:=hq; exact hq) (wp_region_any hmix
       (wpAnyI.to (allOps_sound htb hgl hro hok hlt (fun c a w hq=>by cases hq.1) (fun env' L' B' a' w' k1 k2 k3=>⟨rfl,hQ .normal _ _ _ _ _ hk (NoGdE.spec k1.g) ((k3.keep _).refine (keepE_noGd _ _) (by rw [hro,hn0]; exact k1.h) k1.g)⟩) _ _ _ [] (fun _ _=>True) [] [] env L B a _ (fun _ _ _ _ _ _ _=>trivial) (fun _ _ _ _ _ _=>trivial) hcount (by simp [List.count_replicate]) hn hS.drawn h)))
    cases hh:hintGo ops.toList with
    | false =>
     rw [hh] at hok h
     simp only at hok h
     exact hany hok (by simpa only [keepK_eq,forceL_eq] using h)
    | true =>
    rw [hh] at hok h
    simp only at hok h
    have hfront:(frontOps P tb gl ro ops.toList ops.toList [] env L fun env L=>K .normal (keepE U [] env) L)→(Code.region id ops true).wp P Q a w:=by
     intro h
     refine wp_region_any hmix (frontOps_sound htb hgl hro (drawOk_spec hok) hlt hn hS.drawn h fun env' L' B' a' w' k1 k2 k3=> ?_)
     exact hQ .normal _ _ _ _ _ k1 (keepE_noGd _ _) (k3.keep _)
    cases ha:anyOk ops.toList with
    | false =>
     rw [ha] at h
     simp only at h
     cases hg:anyGd ops.toList with
     | false =>
      rw [hg] at h
      exact hfront h
     | true =>
      rw [hg] at h
      unfold anyGd at hg
      split at hg
      ·simp at hg
      ·rcases h with h|h
       ·exact hfront h
       ·exact hany hg (by simpa only [keepK_eq,forceL_eq] using h)
    | true =>
     rw [ha] at h
     unfold anyOk at ha
     split at ha
     ·simp at ha
     ·split at ha
      ·simp at ha
      ·rename_i hgn
       rcases h with h|h
       ·exact hfront h
       ·exact hany ha (by simpa only [keepK_eq,forceL_eq] using h)
  ·simp at hok
 | seq x y ihx ihy =>
  intro env L B a w K Q hok hn hS h hQ
  simp only [codeOk] at hok
  split at hok
  ·rename_i hx
   simp only [vc] at h
   refine wp_seq (ihx env L B a w _ _ hx hn hS h fun e env' L' B' a' w' k1 k2 k3=> ?_)
   cases e with
   | normal=>exact ihy env' L' B' a' w' K Q hok k2 k3 k1 hQ
   | exit i=>exact hQ (.exit i) _ _ _ _ _ k1 k2 k3
   | ret=>exact hQ .ret _ _ _ _ _ k1 k2 k3
  ·simp at hok
 | cond c x y ihx ihy =>
  intro env L B a w K Q hok hn hS h hQ
  simp only [codeOk] at hok
  split at hok
  ·rename_i hx
   simp only [vc] at h
   obtain ⟨b,hb,h1,h2⟩:=condA_sound h (evO_sound (gl:=gl) (key:= .no) (key2:= .no) (by rw [← hgl]; exact hS.glob) hS.relE trivial trivial c)
   exact wp_cond_split hb (fun e=>ihx env L B a w K Q hx hn hS (h1 e) hQ) (fun e=>ihy env L B a w K Q hok hn hS (h2 e) hQ)
  ·simp at hok
 | block id b ih =>
  intro env L B a w K Q hok hn hS h hQ
  simp only [codeOk] at hok
  simp only [vc] at h
  refine wp_block (ih env L B a w _ _ hok hn hS h fun e env' L' B' a' w' k1 k2 k3=> ?_)
  cases e with
  | normal=>exact hQ .normal _ _ _ _ _ k1 k2 k3
  | ret=>exact hQ .ret _ _ _ _ _ k1 k2 k3
  | exit i =>
   simp only [exOf,Exit.inBlock]
   simp only at k1
   split at k1
   ·rename_i hi
    rw [if_pos (Nat.beq_spec hi)]
    exact hQ .normal _ _ _ _ _ k1 k2 k3
   ·rename_i hi
    rw [if_neg fun e=>by subst e; simp at hi]
    exact hQ (.exit i) _ _ _ _ _ k1 k2 k3
 | loop b ih =>
  intro env L B a w K Q hok hn hS h hQ
  simp only [codeOk] at hok
  simp only [vc,dropK_eq] at h
  obtain ⟨σ,J,inv,m,⟨s0,hJ,h0⟩,hround⟩:=h.h
  refine wp_loop_ghost (fun s a w=>J s∧∃ B,St X B (inv s).1 (inv s).2 a w) m ⟨s0,hJ,_,hS.refine hn (by rw [hro,hn0]; exact h0) (hround s0 hJ).1⟩ fun s a w ⟨hJ,B,hI⟩=> ?_
  refine ih _ _ B a w _ _ hok (NoGdE.spec (hround s hJ).1) hI (hround s hJ).2 fun e env' L' B' a' w' k1 k2 k3=> ?_
  cases e with
  | normal =>
   obtain ⟨s',hJ',hs',hlt⟩:=k1
   exact ⟨s',⟨hJ',_,k3.refine k2 (by rw [hro,hn0]; exact hs') (hround s' hJ').1⟩,hlt⟩
  | ret=>exact hQ .ret _ _ _ _ _ k1 k2 k3
  | exit i=>exact hQ (.exit i) _ _ _ _ _ k1 k2 k3
 | exit id =>
  intro env L B a w K Q _ hn hS h hQ
  exact wp_exit (hQ (.exit id) _ _ _ _ _ h hn hS)
 | ret =>
  intro env L B a w K Q _ hn hS h hQ
  exact wp_ret (hQ .ret _ _ _ _ _ h hn hS)
 | scope b ih =>
  intro env L B a w K Q hok hn hS h hQ
  simp only [codeOk] at hok
  simp only [vc] at h
  refine wp_scope_straight (ih env L B a w K _ hok hn hS h fun e env' L' B' a' w' k1 k2 k3=> ?_)
  have:=hQ e env' L' B' a' w' k1 k2 k3
  cases e<;>exact this
 | label l =>
  intro env L B a w K Q _ hn hS h hQ
  exact wp_label (hQ .normal _ _ _ _ _ h hn hS)
 | _ =>
  intro env L B a w K Q _ hn hS h hQ
  exact absurd h (by simp [vc])
end
end Go.VA
namespace Go.VA
open Go Go.RowKit
section
variable {P:Program} {tb:TB} {gl:Gl}
theorem not_MU0 {X:Fx}{B:List (Option BI)}{env:Env}{L:List AO}{a:Act}{w:World}(h:St X B env L a w)(h0:X.B0.length=X.M.ro)(hl0:X.L0.length=X.M.ro)(t:Bool)(b:Nat)
  (hm:¬ MU X.M B L t b):¬ MU X.M X.B0 X.L0 t b:=by
 intro hh
 apply hm
 cases t with
 | false =>
  rcases hh with hh|⟨id,bi,h1,h2,h3⟩
  ·exact .inl hh
  ·have hid:id<X.M.ro:=by rw [← h0]; exact (List.getElem?_eq_some_iff.1 h1).1
   have:=h.old id hid
   exact .inr ⟨id,bi,by rw [this.1]; exact h1,h2,by rw [this.2]; exact h3⟩
 | true =>
  rcases hh with hh|⟨id,bi,h4,h1,h2,h3⟩
  ·exact .inl hh
  ·have hid:id<X.M.ro:=by rw [← h0]; exact (List.getElem?_eq_some_iff.1 h1).1
   omega
theorem viewR_sound {X:Fx}{B:List (Option BI)}{env:Env}{L:List AO}{a:Act}{w:World}(h:St X B env L a w)(h0:X.B0.length=X.M.ro)(hl0:X.L0.length=X.M.ro){id esz off len:Nat}{y:C}
  (hv:viewR X.M.ro L id esz off len=some y) {u:Value} (hu:RelV B (Sr X.M B L w) (.own id esz off len) u):RepC (Sr X.M X.B0 X.L0 w) y u:=by
 have hle:(Sr X.M B L w).le (Sr X.M X.B0 X.L0 w):=fun t b o u hh=>⟨not_MU0 h h0 hl0 t b hh.1,hh.2⟩
 have hL:=h.relL
 unfold viewR at hv
 have fin:∀ (t:Bool) (f:Nat→List C),y= .sl t esz len (fun i=>f (off+i)) →
   (∀ bi,B[id]? =some (some bi)→∀ i,i<bi.n→(f i).length=esz∧RepCs (Sr X.M X.B0 X.L0 w) (Sr X.M X.B0 X.L0 w t bi.b) (bi.o+i*esz) (f i))→RepC (Sr X.M X.B0 X.L0 w) y u:=by
  intro t f hy hf
  subst hy
  simp only [RelV] at hu
  simp only [RepC]
  rcases hu with ⟨bi,cap,hb,rfl,h1,h2,h3⟩|⟨rfl,⟨a,rfl⟩,_⟩
  ·refine ⟨_,cap,rfl,h1,?_⟩
   by_cases h0:len=0
   ·exact .inl h0
   ·refine .inr ⟨bi.b,_,rfl,fun i hi=> ?_⟩
    have:=hf bi hb (off+i) (by omega)
    refine ⟨this.1,?_⟩
    rw [show bi.o+off*esz+i*esz=bi.o+(off+i)*esz from by rw [Nat.add_mul]; omega]
    exact this.2
  ·exact ⟨a,0,rfl,⟨Nat.le_refl _,Nat.zero_le _⟩,.inl rfl⟩
 have own:∀ (n:Nat) (f:Nat→List C) (t:Bool),getO L id= .row esz n f→(t=false→X.M.ro≤id)→∀ bi,B[id]? =some (some bi)→∀ i,i<bi.n →
   (f i).length=esz∧RepCs (Sr X.M X.B0 X.L0 w) (Sr X.M X.B0 X.L0 w t bi.b) (bi.o+i*esz) (f i):=by
  intro n f t hO ht bi hb i hi
  have:=hL.obj id _ hb
  rw [hO] at this
  obtain ⟨hn,cs,ty,h1,h2,h3,h4⟩:=this
  have:=h4 i (by omega)
  have hlive:(getO L id).live=true:=by rw [hO]; rfl
  refine ⟨this.1,RepCs.mono hle (fun o u hh=>⟨?_,by simpa [h1.cell] using hh⟩) _ _ this.2⟩
  cases t with
  | true =>
   rintro (hm|⟨id',bi',h5,h6,_⟩)
   ·exact hL.notM id bi hb hlive (X.M.le _ hm)
   ·have:=(List.getElem?_eq_some_iff.1 h6).1; omega
  | false =>
   have hid:=ht rfl
   rintro (hm|⟨id',bi',h6,h7,h8⟩)
   ·exact hL.notM id bi hb hlive hm
   ·have hid':id'<X.M.ro:=by rw [← h0]; exact (List.getElem?_eq_some_iff.1 h6).1
    have hold:=h.old id' hid'
    exact hL.dist id' id bi' bi (by omega) (by rw [hold.1]; exact h6) hb (by rw [hold.2]; exact h8) hlive h7
 split at hv
 ·rename_i e n f hO
  split at hv
  ·rename_i he
   obtain rfl:=Nat.beq_spec he
   split at hv
   ·rename_i hr
    simp only [Option.some.injEq] at hv
    exact fin false f hv.symm (own n f false hO fun _=>Nat.le_of_ble_eq_true hr)
   ·simp only [Option.some.injEq] at hv
    exact fin true f hv.symm (own n f true hO (by simp))
  ·simp at hv
 ·rename_i e n f hO
  split at hv
  ·rename_i he
   obtain rfl:=Nat.beq_spec he
   simp only [Option.some.injEq] at hv
   refine fin false f hv.symm fun bi hb i hi=> ?_
   have:=hL.obj id _ hb
   rw [hO] at this
   obtain ⟨hn,h4⟩:=this
   exact ⟨(h4 i (by omega)).1,RepCs.mono hle (fun o u hh=>hle _ _ _ _ hh) _ _ (h4 i (by omega)).2⟩
  ·simp at hv
 ·simp at hv
theorem viewRs_sound {X:Fx}{B:List (Option BI)}{env:Env}{L:List AO}{a:Act}{w:World}(h:St X B env L a w)(h0:X.B0.length=X.M.ro)(hl0:X.L0.length=X.M.ro):∀ (ys:List AV) (xs:List C) (us:List Value),
  viewRs X.M.ro L ys=some xs→RelVs B (Sr X.M B L w) ys us→RepVs (Sr X.M X.B0 X.L0 w) xs us
 | [],xs,us,hv,hu=>by
  simp only [viewRs,Option.some.injEq] at hv; subst hv
  simpa [RelVs,RepVs] using hu
 | y::ys,xs,us,hv,hu=>by
  have hle:(Sr X.M B L w).le (Sr X.M X.B0 X.L0 w):=fun t b o u hh=>⟨not_MU0 h h0 hl0 t b hh.1,hh.2⟩
  simp only [viewRs] at hv
  simp only [RelVs] at hu
  obtain ⟨u,r,rfl,h1,h2⟩:=hu
  split at hv
  ·simp at hv
  ·rename_i zs hz
   have ih:=viewRs_sound h h0 hl0 ys zs r hz h2
   split at hv
   ·simp only [Option.some.injEq] at hv; subst hv
    simp only [RelV] at h1
    simp only [RepVs]
    exact ⟨u,r,rfl,RepC.mono hle _ _ h1,ih⟩
   ·split at hv
    ·rename_i y' hy
     simp only [Option.some.injEq] at hv; subst hv
     simp only [RepVs]
     exact ⟨u,r,rfl,viewR_sound h h0 hl0 hy h1,ih⟩
    ·simp at hv
   ·simp at hv
theorem resV_sound {X:Fx}{B:List (Option BI)}{env:Env}{L:List AO}{a:Act}{w:World}(h:St X B env L a w)(h0:X.B0.length=X.M.ro)(hl0:X.L0.length=X.M.ro){x y:AV}
  (hv:resV X.M.ro L x=some y) {u:Value} (hu:RelV B (Sr X.M B L w) x u):RelV X.B0 (Sr X.M X.B0 X.L0 w) y u:=by
 have hle:(Sr X.M B L w).le (Sr X.M X.B0 X.L0 w):=fun t b o u hh=>⟨not_MU0 h h0 hl0 t b hh.1,hh.2⟩
 unfold resV at hv
 split at hv
 ·simp only [Option.some.injEq] at hv; subst hv
  simp only [RelV] at hu ⊢
  exact RepC.mono hle _ _ hu
 ·simp only [Option.some.injEq] at hv; subst hv
  simp only [RelV] at hu ⊢
  obtain ⟨arr,e,hu⟩:=hu
  exact ⟨arr,e,RepVs.mono hle _ _ hu⟩
 ·simp only [Option.some.injEq] at hv; subst hv
  simp only [RelV] at hu ⊢
  obtain ⟨b,o,e,hu⟩:=hu
  exact ⟨b,o,e,RepCs.mono hle (fun o u hh=>hle _ _ _ _ hh) _ _ hu⟩
 ·split at hv
  ·rename_i z hz
   simp only [Option.some.injEq] at hv; subst hv
   simp only [RelV]
   exact viewR_sound h h0 hl0 hz hu
  ·simp at hv
 ·split at hv
  ·rename_i z hz
   simp only [Option.some.injEq] at hv; subst hv
   simp only [RelV] at hu ⊢
   obtain ⟨arr,e,_,hu⟩:=hu
   exact ⟨arr,e,viewRs_sound h h0 hl0 _ _ _ hz hu⟩
  ·simp at hv
 ·rename_i id off
  split at hv
  ·rename_i ys hO
   split at hv
   ·rename_i hr
    have hr:=Nat.le_of_ble_eq_true hr
    split at hv
    ·rename_i z hz
     simp only [Option.some.injEq] at hv; subst hv
     simp only [RelV] at hu ⊢
     obtain ⟨bi,hb,rfl⟩:=hu
     have hob:=h.relL.obj id _ hb
     rw [hO] at hob
     obtain ⟨bi',cs,ty,e,h1,h2,h3,h4,h5⟩:=hob
     simp only [Option.some.injEq] at e
     subst e
     refine ⟨bi.b,0,by rw [h2],?_⟩
     refine RepVs.toRepCs _ _ 0 (viewRs_sound h h0 hl0 _ _ _ hz h5) fun j v hv=>⟨?_,?_⟩
     ·have hlive:(getO L id).live=true:=by rw [hO]; rfl
      rintro (hm|⟨id',bi',h6,h7,h8⟩)
      ·exact h.relL.notM id bi hb hlive hm
      ·have hid':id'<X.M.ro:=by rw [← h0]; exact (List.getElem?_eq_some_iff.1 h6).1
       have hold:=h.old id' hid'
       exact h.relL.dist id' id bi' bi (by omega) (by rw [hold.1]; exact h6) hb (by rw [hold.2]; exact h8) hlive h7
     ·simp only [World.cell?,h1,Nat.zero_add]
      simpa using hv
    ·simp at hv
   ·simp at hv
  ·simp at hv
 ·simp at hv
theorem run_mapM_vs {α:Type}(g:α→Sem Value)(w:World):∀ (l:List α) (vs:List Value),l.length=vs.length→(∀ (i:Nat) r v,l[i]? =some r→vs[i]? =some v→(g r).run P w= .ok v w) →
  (l.mapM g).run P w= .ok vs w
 | [],[],_,_=>by simp [List.mapM_nil]
 | [],_::_,h,_=>by simp at h
 | _::_,[],h,_=>by simp at h
 | r::l,v::vs,h,hh=>by
  have ih:=run_mapM_vs g w l vs (by simpa using h) fun i r v h1 h2=>hh (i+1) r v (by simpa using h1) (by simpa using h2)
  simp [List.mapM_cons,hh 0 r v rfl rfl,ih]
def rvOne (tmps:Array Value):ResultVar→Sem Value
 | .tmp t=>pure (tmps.getD t undef)
 | .cell a t=>do loadVar t (← asAddr (tmps.getD a undef))
theorem run_results (fn:Func)(tmps:Array Value)(w:World)(vs:List Value)(hl:fn.results.toList.length=vs.length)
  (hh:∀ (i:Nat) r v,fn.results.toList[i]? =some r→vs[i]? =some v→(rvOne tmps r).run P w= .ok v w) :
  (results fn tmps).run P w= .ok (if h:vs.toArray.size=1 then vs.toArray[0] else .tuple vs.toArray) w:=by
 have h1:=run_mapM_vs (P:=P) (rvOne tmps) w fn.results.toList vs hl hh
 have h2:fn.results.mapM (rvOne tmps)=(do let x←fn.results.toList.mapM (rvOne tmps); pure x.toArray:Sem (Array Value)):=by
  rw [Array.mapM_eq_mapM_toList]
  simp
 have h3:results fn tmps=(do let vs←fn.results.mapM (rvOne tmps); pure (if h:vs.size=1 then vs[0] else .tuple vs)):=by
  unfold results
  congr 1
 rw [h3,h2]
 simp [h1]
theorem resK_sound (htb:TbOk P tb){X:Fx}{B:List (Option BI)}{env:Env}{L:List AO}{a:Act}{w:World}(h:St X B env L a w)(hn:NoGd env)(h0:X.B0.length=X.M.ro)(hl0:X.L0.length=X.M.ro) :
  ∀ (rs:List ResultVar) (K:List AV→Prop),resK X.M.ro env tb L rs K→∃ xs vs,K xs∧rs.length=vs.length∧(∀ (i:Nat) r v,rs[i]? =some r→vs[i]? =some v→(rvOne a.tmps r).run P w= .ok v w) ∧
   RelVs X.B0 (Sr X.M X.B0 X.L0 w) xs vs
 | [],K,hK=>⟨[],[],hK,rfl,by simp,by simp [RelVs]⟩
 | r::rs,K,hK=>by
  have hsl:∀ t,RelV B (Sr X.M B L w) (get env t) (a.tmps.getD t undef):=by
   intro t
   have:=h.relE t
   rwa [relSl_iff] at this
   cases hq:get env t<;>try rfl
   have:=hn _ (get_key hq)
   simp at this
  have fin:∀ (x:AV) (v:Value),(rvOne a.tmps r).run P w= .ok v w→RelV X.B0 (Sr X.M X.B0 X.L0 w) x v→resK X.M.ro env tb L rs (fun xs=>K (x::xs)) →
    ∃ xs vs,K xs∧(r::rs).length=vs.length∧(∀ (i:Nat) r' v,(r::rs)[i]? =some r'→vs[i]? =some v→(rvOne a.tmps r').run P w= .ok v w)∧RelVs X.B0 (Sr X.M X.B0 X.L0 w) xs vs:=by
   intro x v h1 h2 h3
   obtain ⟨xs,vs,k1,k2,k3,k4⟩:=resK_sound htb h hn h0 hl0 rs _ h3
   refine ⟨x::xs,v::vs,k1,by simp [k2],fun i r' v' e1 e2=> ?_,?_⟩
   ·cases i with
    | zero=>simp at e1 e2; subst e1; subst e2; exact h1
    | succ i=>exact k3 i r' v' (by simpa using e1) (by simpa using e2)
   ·simp only [RelVs]; exact ⟨v,vs,rfl,h2,k4⟩
  simp only [resK] at hK
  split at hK
  ·rename_i t
   split at hK
   ·rename_i x hx
    exact fin x _ rfl (resV_sound h h0 hl0 hx (hsl t)) hK
   ·exact hK.elim
  ·rename_i ad t
   obtain ⟨y,hy,hh⟩:=opLoad_sound htb hK
   split at hy
   ·rename_i x hx
    obtain ⟨v,h1,h2⟩:=hh X.M B w _ h.relL (hsl ad)
    refine fin x v ?_ (resV_sound h h0 hl0 hx h2) hy
    simp only [rvOne]
    generalize a.tmps.getD ad undef=p at h1
    cases p with
    | pointer q =>
     cases q with
     | some q=>simpa [Instr.loadAt,Instr.sureAddr,asAddr] using h1
     | none=>simp [Instr.loadAt,Instr.sureAddr] at h1
    | _=>simp [Instr.loadAt,Instr.sureAddr] at h1
   ·exact hy.elim
theorem retA_sound {B:List (Option BI)}{S:Rd}{xs:List AV}{vs:List Value}(h:RelVs B S xs vs):RelV B S (retA xs) (if h:vs.toArray.size=1 then vs.toArray[0] else .tuple vs.toArray):=by
 have hl:=RelVs.length _ _ h
 unfold retA
 split
 ·rename_i x
  simp only [RelVs] at h
  obtain ⟨u,r,rfl,h1,rfl⟩:=h
  simpa using h1
 ·rename_i hne
  have:¬ vs.toArray.size=1:=by
   intro e
   simp at e
   rw [e] at hl
   match xs,hl with
   | [x],_=>exact hne x rfl
  rw [dif_neg this]
  simp only [RelV]
  exact ⟨_,rfl,by simpa using h⟩
def envOf:Nat→List AV→Env
 | _,[]=>[]
 | i,x::xs=>(i,strip x)::envOf (i+1) xs
theorem envOf_noGd:∀ (i:Nat) (xs:List AV),NoGd (envOf i xs)
 | _,[]=>fun k hk=>by simp [envOf,keysE] at hk
 | i,x::xs=>fun k hk=>by
  simp only [envOf,keysE,List.map_cons,List.mem_cons] at hk
  rcases hk with hk|hk
  ·rw [hk]; exact strip_key x
  ·exact envOf_noGd (i+1) xs k hk
theorem envOf_get:∀ (i:Nat) (xs:List AV) (t:Nat),get (envOf i xs) t= .any∨∃ j x,xs[j]? =some x∧t=i+j∧get (envOf i xs) t=strip x
 | _,[],_=> .inl rfl
 | i,x::xs,t=>by
  simp only [envOf,get]
  split
  ·rename_i e
   exact .inr ⟨0,x,rfl,by rw [Nat.beq_spec e]; rfl,rfl⟩
  ·rcases envOf_get (i+1) xs t with h|⟨j,y,h1,h2,h3⟩
   ·exact .inl h
   ·exact .inr ⟨j+1,y,by simpa using h1,by omega,h3⟩
theorem acall_of_vc (htb:TbOk P tb)(hmix:P.follows .mixedOrders=true){f:Nat}{fn:Func}{c:Code}(hf:P.funcs[f]? =some fn)(hb:fn.body=some c)
  (hname:(fn.name== "runtime.NumGoroutine")=false) (hok:codeOk fn.ntmps c=true) {args:List AV} {L:List AO} {r:AV} (hr:r.closed=true) (hargs':Nat.ble args.length fn.ntmps=true)
  (h:crossK fn.results.toList c fun U=>vc P tb gl L.length L.length U c (envOf 0 args) L (EndK L.length tb fn.results.toList r)):ACall P gl f args L r:=by
 rw [crossK_eq] at h
 have hargs:=Nat.le_of_ble_eq_true hargs'
 refine ⟨⟨fn,hf,hname,by rw [hb]; rfl⟩,hr,fun w M B vals hro hL hG hv=> ?_⟩
 have hlv:=RelVs.length _ _ hv
 rw [Array.length_toList] at hlv
 let X:Fx:=⟨gl,w,M,B,L,fn.ntmps,fun _=>False⟩
 have hS:St X B (envOf 0 args) L { tmps:=vals++Array.replicate (fn.ntmps-vals.size) undef,defers:=[] } w:=by
  refine ⟨hL,hG,fun t=> ?_,Frm.refl _ _,fun id bi h1 h2 h3=> ?_,fun id _=>⟨rfl,rfl⟩,by simp only [X]; omega,Nat.le_refl _,fun id _ _=> .inr ⟨rfl,fun _=>rfl⟩,rfl,?_⟩
  ·rcases envOf_get 0 args t with h1|⟨j,x,h1,h2,h3⟩
   ·rw [h1]; simp [RelSl,RelV]
   ·rw [h3]
    refine RelV.notGd (strip_key x) (strip_rel ?_)
    obtain ⟨u,k1,k2⟩:=RelVs.nth _ _ j x hv h1
    obtain rfl:t=j:=by omega
    have hlt:t<vals.size:=by
     have:=(List.getElem?_eq_some_iff.1 k1).1
     simpa using this
    have:(vals++Array.replicate (fn.ntmps-vals.size) undef).getD t undef=u:=by
     rw [Array.getD_eq_getD_getElem?,Array.getElem?_append_left hlt]
     rw [Array.getElem?_toList] at k1
     rw [k1]
     rfl
    simp only
    rw [this]
    exact k2
  ·exfalso
   have:=(List.getElem?_eq_some_iff.1 h2).1
   rw [hL.len] at this
   simp only [X] at h1
   omega
  ·simp only [Array.size_append,Array.size_replicate,X]
   omega
 refine calls_of_wp hf hb (vc_sound htb hmix (X:=X) rfl hro rfl c _ L B _ w _ _ hok (envOf_noGd 0 args) hS h ?_)
 intro e env' L' B' a' w' hK hn' hS'
 have key:∀ (K:Prop),resK L.length env' tb L' fn.results.toList (fun xs=>Le 0 (retA xs) r) →
   (a'.defers=[]∧∃ v,(results fn a'.tmps).run P w'= .ok v w'∧(∃ u,Ending.returned v= .returned u∧Below w.heap.size w w'∧RelV B (Sr M B L w') r u)):=by
  intro _ hres
  rw [← hro] at hres
  obtain ⟨xs,vs,k1,k2,k3,k4⟩:=resK_sound htb hS' hn' (by rw [hL.len]; exact hro.symm) hro.symm _ _ hres
  exact ⟨hS'.dfr,_,run_results fn a'.tmps w' vs k2 k3,_,rfl,hS'.below.below,k1.h _ _ _ (Nat.zero_le _) (retA_sound k4)⟩
 cases e with
 | normal=>exact key True hK
 | ret=>exact key True hK
 | exit i=>exact hK.elim
end
end Go.VA
namespace Go.VA
open Go Go.RowKit
def look:List (Nat×TI)→Nat→TI
 | [],_=>⟨.other,0,0,[]⟩
 | (s,x)::r,t=>match Nat.beq s t with|true=>x|false=>look r t
def isEmp (s:ByteArray):Bool:=match s.data.toList with|[]=>true|_=>false
def eqZ1:Value→Value→Bool
 | .int k a,.int k' b=>match Nat.beq (kindNo k) (kindNo k') with|true=>decide (a=b)|false=>false
 | .bool a,.bool b=>beqB a b
 | .string a,.string b=>match isEmp a with|true=>isEmp b|false=>false
 | .slice none a b,.slice none c d=>match Nat.beq a c with|true=>Nat.beq b d|false=>false
 | .pointer none,.pointer none=>true
 | .map none,.map none=>true
 | .nilFunc,.nilFunc=>true
 | .nilIface,.nilIface=>true
 | _,_=>false
def eqZ:List Value→List Value→Bool
 | [],[]=>true
 | x::xs,y::ys=>match eqZ1 x y with|true=>eqZ xs ys|false=>false
 | _,_=>false
theorem isEmp_spec {a:ByteArray}(h:isEmp a=true):a=ByteArray.empty:=by
 obtain ⟨⟨l⟩⟩:=a
 cases l with
 | nil=>rfl
 | cons x r=>simp [isEmp] at h
theorem eqZ1_spec {x y:Value}(h:eqZ1 x y=true):x=y:=by
 unfold eqZ1 at h
 split at h<;>try rfl
 ·split at h
  ·rename_i hk; rw [beqK hk,of_decide_eq_true h]
  ·simp at h
 ·rw [beqB_spec h]
 ·split at h
  ·rename_i ha; rw [isEmp_spec ha,isEmp_spec h]
  ·simp at h
 ·split at h
  ·rename_i ha; rw [Nat.beq_spec ha,Nat.beq_spec h]
  ·simp at h
 ·simp at h
theorem eqZ_spec:∀ {xs ys:List Value},eqZ xs ys=true→xs=ys
 | [],[],_=>rfl
 | x::xs,y::ys,h=>by
  simp only [eqZ] at h
  split at h
  ·rename_i hx; rw [eqZ1_spec hx,eqZ_spec h]
  ·simp at h
 | [],_::_,h=>by simp [eqZ] at h
 | _::_,[],h=>by simp [eqZ] at h
def fldsOk (P:Program):List Field→List (Nat×Nat)→Bool
 | [],[]=>true
 | f::r,(o,t)::s=>match Nat.beq f.offset o with
  | true=>match Nat.beq f.type t with
   | true=>match P.info? f.type with
    | some _=>fldsOk P r s
    | none=>false
   | false=>false
  | false=>false
 | _,_=>false
theorem fldsOk_spec {P:Program}:∀ {fs:List Field} {xs:List (Nat×Nat)},fldsOk P fs xs=true→fs.map (fun f=>(f.offset,f.type))=xs∧∀ f ∈ fs,∃ i,P.info? f.type=some i
 | [],[],_=>by simp
 | f::r,(o,t)::s,h=>by
  simp only [fldsOk] at h
  split at h
  ·rename_i h1
   split at h
   ·rename_i h2
    split at h
    ·rename_i i h3
     have:=fldsOk_spec h
     refine ⟨by simp [this.1,Nat.beq_spec h1,Nat.beq_spec h2],fun g hg=> ?_⟩
     rcases List.mem_cons.1 hg with rfl|hg
     ·exact ⟨i,h3⟩
     ·exact this.2 g hg
    ·simp at h
   ·simp at h
  ·simp at h
 | [],_::_,h=>by simp [fldsOk] at h
 | _::_,[],h=>by simp [fldsOk] at h
def tkChk (P:Program) (k:TK) (d:TypeDesc):Bool:=match k with
 | .other=>true
 | .int k=>match d with| .int k'=>Nat.beq (kindNo k) (kindNo k')|_=>false
 | .bool=>match d with| .bool=>true|_=>false
 | .str=>match d with| .string=>true|_=>false
 | .ptr e=>match d with| .pointer e'=>Nat.beq e e'|_=>false
 | .func=>match d with| .func .. =>true|_=>false
 | .slice e=>match d with| .slice e'=>Nat.beq e e'|_=>false
 | .struct fs=>match d with| .struct g=>fldsOk P g.toList fs|_=>false
 | .array n e=>match d with| .array n' e'=>(match Nat.beq n n' with|true=>Nat.beq e e'|false=>false)|_=>false
 | .map k e=>match d with| .map k' e'=>(match Nat.beq k k' with|true=>Nat.beq e e'|false=>false)|_=>false
theorem tkChk_spec {P:Program}{k:TK}{d:TypeDesc}(h:tkChk P k d=true):TKok P k d:=by
 unfold tkChk at h
 cases k<;>simp only at h<;>simp only [TKok]
 case int k =>
  split at h
  ·rw [beqK h]
  ·simp at h
 case bool=>split at h<;>first|rfl|simp at h
 case str=>split at h<;>first|rfl|simp at h
 case ptr e =>
  split at h
  ·rw [Nat.beq_spec h]
  ·simp at h
 case func =>
  split at h
  ·exact ⟨_,_,_,rfl⟩
  ·simp at h
 case slice e =>
  split at h
  ·rw [Nat.beq_spec h]
  ·simp at h
 case struct fs =>
  split at h
  ·rename_i g
   have:=fldsOk_spec h
   exact ⟨g,rfl,this.1,this.2⟩
  ·simp at h
 case array n e =>
  split at h
  ·split at h
   ·rename_i h1; rw [Nat.beq_spec h1,Nat.beq_spec h]
   ·simp at h
  ·simp at h
 case map k e =>
  split at h
  ·split at h
   ·rename_i h1; rw [Nat.beq_spec h1,Nat.beq_spec h]
   ·simp at h
  ·simp at h
def tiChk (P:Program) (t:Nat) (x:TI):Bool :=
 match P.info? t with
 | none=>false
 | some i=>match P.underlying t with
  | none=>false
  | some d=>match tkChk P x.k d with
   | false=>false
   | true=>match Nat.beq i.size x.sz with
    | false=>false
    | true=>match Nat.beq i.bytes x.bytes with
     | false=>false
     | true=>match i.zero with
      | none=>false
      | some z=>match eqZ z.cells.toList x.zero with
       | false=>false
       | true=>match Nat.beq x.zero.length x.sz with
        | false=>false
        | true=>match allOne x.zero with
         | false=>false
         | true=>match x.k.agg with
          | true=>match z with| .agg _=>true|_=>false
          | false=>Nat.beq x.sz 1
theorem allOne_mem:∀ {l:List Value},allOne l=true→∀ v ∈ l,v.oneCell'=true
 | [],_,v,hv=>by simp at hv
 | x::r,h,v,hv=>by
  simp only [allOne] at h
  split at h
  ·rename_i hx
   rcases List.mem_cons.1 hv with rfl|hv
   ·exact hx
   ·exact allOne_mem h v hv
  ·simp at h
theorem tiChk_spec {P:Program}{t:Nat}{x:TI}(h:tiChk P t x=true):TIok P t x:=by
 refine ⟨fun _=> ?_⟩
 unfold tiChk at h
 split at h; · simp at h
 rename_i i h1
 split at h; · simp at h
 rename_i d h2
 split at h; · simp at h
 rename_i h3
 split at h; · simp at h
 rename_i h4
 split at h; · simp at h
 rename_i h5
 split at h; · simp at h
 rename_i z h6
 split at h; · simp at h
 rename_i h7
 split at h; · simp at h
 rename_i h8
 split at h; · simp at h
 rename_i h9
 have e7:=eqZ_spec h7
 refine ⟨i,d,z,h1,h2,tkChk_spec h3,Nat.beq_spec h4,Nat.beq_spec h5,h6,e7,Nat.beq_spec h8,allOne_mem h9,fun ha=> ?_,fun ha=> ?_⟩
 ·rw [ha] at h
  simp only at h
  split at h
  ·rename_i cs
   rw [← e7]
   rfl
  ·simp at h
 ·rw [ha] at h
  exact Nat.beq_spec h
def tbChk (P:Program):List (Nat×TI)→Bool
 | []=>true
 | (t,x)::r=>match tiChk P t x with|true=>tbChk P r|false=>false
theorem tbOk_of_chk {P:Program}:∀ {l:List (Nat×TI)},tbChk P l=true→TbOk P (look l)
 | [],_,t=>⟨fun h=>by simp [look,TK.isOther] at h⟩
 | (s,x)::r,h,t=>by
  simp only [tbChk] at h
  split at h
  ·rename_i hx
   simp only [look]
   split
   ·rename_i e; rw [← Nat.beq_spec e]; exact tiChk_spec hx
   ·exact tbOk_of_chk h t
  ·simp at h
def seFs (P:Program) (g:TypeId→Option (List Nat)):List Field→Nat→Option (List Nat)
 | [],_=>some []
 | f::r,off=>match f.name != "_" with
  | false=>none
  | true=>match Nat.beq f.offset off with
   | false=>none
   | true=>match g f.type with
    | none=>none
    | some s=>match Nat.beq (P.cellsOf f.type) s.length with
     | false=>none
     | true=>match seFs P g r (off+s.length) with
      | none=>none
      | some s'=>some (s++s')
def repN (s:List Nat):Nat→List Nat
 | 0=>[]
 | n+1=>s++repN s n
def seAt (P:Program):Nat→TypeId→Option (List Nat)
 | 0,_=>none
 | d+1,t=>match P.underlying t with
  | some .bool=>some [9]
  | some (.int k)=>some [kindNo k]
  | some .string=>some [8]
  | some (.struct _)=>match P.stoodInHeld t with
   | true=>none
   | false=>seFs P (seAt P d) (P.fieldsOf t).toList 0
  | some (.array n e)=>match seAt P d e with
   | none=>none
   | some s=>match Nat.beq (P.cellsOf e) s.length with
    | false=>none
    | true=>match Nat.blt 0 s.length with
     | false=>none
     | true=>some (repN s n)
  | _=>none
def Fm (P:Program) (t:TypeId) (u:Value):Prop:=match P.underlying t with
 | some (.struct _)=>∃ cs,u= .agg cs
 | some (.array _ _)=>∃ cs,u= .agg cs
 | _=>u.cells= #[u]
def SeAt (P:Program) (dd:Nat) (t:TypeId) (S:List Nat):Prop :=
 ∀ (w:World) (u v:Value),Fm P t u→Fm P t v→u.cells.toList.map shV=S→v.cells.toList.map shV=S →
  ∃ q,eqVs u.cells.toList v.cells.toList=some q∧(Op.equalIn dd t u v).run P w= .ok q w
theorem eqVs_append:∀ {a b c d:List Value} {q q':Bool},eqVs a c=some q→eqVs b d=some q'→eqVs (a++b) (c++d)=some (q&&q')
 | [],b,[],d,q,q',h,h'=>by
  simp only [eqVs,Option.some.injEq] at h
  subst h
  simpa using h'
 | x::a,b,y::c,d,q,q',h,h'=>by
  simp only [eqVs] at h
  split at h
  ·rename_i p r h1 h2
   simp only [Option.some.injEq] at h
   subst h
   have:=eqVs_append h2 h'
   simp [eqVs,h1,this,Bool.and_assoc]
  ·simp at h
 | [],_,_::_,_,_,_,h,_=>by simp [eqVs] at h
 | _::_,_,[],_,_,_,h,_=>by simp [eqVs] at h
section
variable {P:Program}
theorem kindNo_inj {k k':IntKind}(h:kindNo k=kindNo k'):k=k':=beqK (by rw [h]; exact Nat.beq_refl _)
theorem kindNo_lt (k:IntKind):kindNo k<8:=by cases k<;>decide
theorem shV_int {u:Value}{k:IntKind}(h:shV u=kindNo k):∃ n,u= .int k n:=by
 have:=kindNo_lt k
 cases u<;>simp only [shV] at h<;>first|omega|skip
 exact ⟨_,by rw [kindNo_inj h]⟩
theorem shV_str {u:Value}(h:shV u=8):∃ s,u= .string s:=by
 cases u<;>simp only [shV] at h<;>first|exact ⟨_,rfl⟩|omega|skip
 rename_i k n
 have:=kindNo_lt k
 omega
theorem shV_bool {u:Value}(h:shV u=9):∃ s,u= .bool s:=by
 cases u<;>simp only [shV] at h<;>first|exact ⟨_,rfl⟩|omega|skip
 rename_i k n
 have:=kindNo_lt k
 omega
theorem one_of {u:Value}{c:Nat}(hf:u.cells= #[u])(h:u.cells.toList.map shV=[c]):shV u=c:=by
 rw [hf] at h
 simpa using h
theorem run_partS {e:TypeId}{i:TypeInfo}(hi:P.info? e=some i){xs:Array Value}{off:Nat}{S:List Nat}(hc:P.cellsOf e=S.length)(hone:(match P.underlying e with|some (.struct _)=>True|some (.array _ _)=>True|_=>S.length=1))
  (hu:∃ d,P.underlying e=some d) (hlen:off+S.length≤xs.size) (hcell:∀ x ∈ xs.toList,x.cells= #[x]) (w:World) :
  ∃ u,(part e xs off).run P w= .ok u w∧Fm P e u∧u.cells.toList=(xs.toList.drop off).take S.length:=by
 obtain ⟨d,hd⟩:=hu
 have agg:(isAgg e).run P w= .ok true w→(match P.underlying e with|some (.struct _)=>True|some (.array _ _)=>True|_=>False)→∃ u,(part e xs off).run P w= .ok u w∧Fm P e u∧u.cells.toList=(xs.toList.drop off).take S.length:=by
  intro ha hm
  refine ⟨.agg (xs.extract off (off+S.length)),?_,?_,?_⟩
  ·simp [part,ha,run_sizeOf w hi,hc]
  ·unfold Fm
   split at hm
   ·exact ⟨_,rfl⟩
   ·exact ⟨_,rfl⟩
   ·exact hm.elim
  ·simp [Value.cells]
 have one:(isAgg e).run P w= .ok false w→S.length=1→(∀ u,u.cells= #[u]→Fm P e u)→∃ u,(part e xs off).run P w= .ok u w∧Fm P e u∧u.cells.toList=(xs.toList.drop off).take S.length:=by
  intro ha h1 hf
  have hlt:off<xs.size:=by omega
  have hx:xs[off].cells= #[xs[off]]:=hcell _ (by simp)
  refine ⟨xs[off],?_,hf _ hx,?_⟩
  ·simp [part,ha,hlt]
  ·rw [hx,h1]
   have hlt':off<xs.toList.length:=by simpa using hlt
   rw [List.drop_eq_getElem_cons hlt']
   simp
 cases d with
 | struct fs=>exact agg (by simp [isAgg,run_underlying hd]) (by rw [hd]; trivial)
 | array n e'=>exact agg (by simp [isAgg,run_underlying hd]) (by rw [hd]; trivial)
 | _=>exact one (by simp [isAgg,run_underlying hd]) (by rw [hd] at hone; exact hone) (fun u hu=>by unfold Fm; rw [hd]; exact hu)
theorem seAt_info {d:Nat}{t:TypeId}{S:List Nat}(h:seAt P d t=some S):(∃ k,P.underlying t=some k)∧(match P.underlying t with|some (.struct _)=>True|some (.array _ _)=>True|_=>S.length=1):=by
 cases d with
 | zero=>simp [seAt] at h
 | succ d =>
  simp only [seAt] at h
  split at h
  ·rename_i hu; rw [hu]; simp only [Option.some.injEq] at h; subst h; exact ⟨⟨_,rfl⟩,rfl⟩
  ·rename_i hu; rw [hu]; simp only [Option.some.injEq] at h; subst h; exact ⟨⟨_,rfl⟩,rfl⟩
  ·rename_i hu; rw [hu]; simp only [Option.some.injEq] at h; subst h; exact ⟨⟨_,rfl⟩,rfl⟩
  ·rename_i hu; rw [hu]; exact ⟨⟨_,rfl⟩,trivial⟩
  ·rename_i hu; rw [hu]; exact ⟨⟨_,rfl⟩,trivial⟩
  ·simp at h
theorem seFs_sound {g:TypeId→Option (List Nat)}{dd:Nat}(hg:∀ t S,g t=some S→SeAt P dd t S∧(∃ k,P.underlying t=some k)∧(match P.underlying t with|some (.struct _)=>True|some (.array _ _)=>True|_=>S.length=1))
  (w:World) (xs ys:Array Value) (hx:∀ x ∈ xs.toList,x.cells= #[x]) (hy:∀ x ∈ ys.toList,x.cells= #[x]):∀ (fs:List Field) (off:Nat) (S:List Nat),seFs P g fs off=some S →
  (xs.toList.drop off).map shV=S→(ys.toList.drop off).map shV=S→∃ q,eqVs (xs.toList.drop off) (ys.toList.drop off)=some q∧(Op.eqFields dd xs ys fs).run P w= .ok q w
 | [],off,S,h,h1,h2=>by
  simp only [seFs,Option.some.injEq] at h
  subst h
  simp only [List.map_eq_nil_iff] at h1 h2
  refine ⟨true,by rw [h1,h2]; rfl,by simp [Op.eqFields]⟩
 | f::r,off,S,h,h1,h2=>by
  simp only [seFs] at h
  split at h; · simp at h
  rename_i hn
  split at h; · simp at h
  rename_i ho
  obtain rfl:=Nat.eq_of_beq_eq_true ho
  split at h; · simp at h
  rename_i s hs
  split at h; · simp at h
  rename_i hc
  have hc:=Nat.eq_of_beq_eq_true hc
  split at h; · simp at h
  rename_i s' hs'
  simp only [Option.some.injEq] at h
  subst h
  obtain ⟨hse,hu,hone⟩:=hg _ _ hs
  have hi:∃ i,P.info? f.type=some i:=by obtain ⟨k,hk⟩:=hu; exact info_of_underlying hk
  obtain ⟨i,hi⟩:=hi
  have l1:=congrArg List.length h1
  have l2:=congrArg List.length h2
  simp only [List.length_map,List.length_drop,List.length_append,Array.length_toList] at l1 l2
  rcases Nat.lt_or_ge 0 s.length with h0|h0
  ·obtain ⟨u,p1,f1,c1⟩:=run_partS hi hc hone hu (xs:=xs) (off:=f.offset) (by omega) hx w
   obtain ⟨v,p2,f2,c2⟩:=run_partS hi hc hone hu (xs:=ys) (off:=f.offset) (by omega) hy w
   have e1:u.cells.toList.map shV=s:=by rw [c1,List.map_take,h1]; simp
   have e2:v.cells.toList.map shV=s:=by rw [c2,List.map_take,h2]; simp
   obtain ⟨q,hq,hr⟩:=hse w u v f1 f2 e1 e2
   have d1:(xs.toList.drop (f.offset+s.length)).map shV=s':=by rw [← List.drop_drop,List.map_drop,h1]; simp
   have d2:(ys.toList.drop (f.offset+s.length)).map shV=s':=by rw [← List.drop_drop,List.map_drop,h2]; simp
   obtain ⟨q',hq',hr'⟩:=seFs_sound hg w xs ys hx hy r (f.offset+s.length) s' hs' d1 d2
   have hn':¬ f.name= "_" :=by simpa using hn
   refine ⟨q&&q',?_,?_⟩
   ·rw [c1,c2] at hq
    have:=eqVs_append hq hq'
    rwa [← List.drop_drop,← List.drop_drop,List.take_append_drop,List.take_append_drop] at this
   ·simp only [Op.eqFields,hn',ne_eq,not_false_eq_true,if_true,Sem.run_bind,p1,p2,hr,Result.andThen_ok]
    cases q
    ·simp
    ·simpa using hr'
  ·
   obtain ⟨u,p1,f1,c1⟩:∃ u,(part f.type xs f.offset).run P w= .ok u w∧Fm P f.type u∧u.cells.toList=[]:=by
    obtain ⟨k,hk⟩:=hu
    rw [hk] at hone
    have hs0:s.length=0:=by omega
    cases k with
    | struct fs=>exact ⟨.agg (xs.extract f.offset (f.offset+P.cellsOf f.type)),by simp [part,isAgg,run_underlying hk,run_sizeOf w hi],by unfold Fm; rw [hk]; exact ⟨_,rfl⟩,by simp [Value.cells,hc,hs0]⟩
    | array n e=>exact ⟨.agg (xs.extract f.offset (f.offset+P.cellsOf f.type)),by simp [part,isAgg,run_underlying hk,run_sizeOf w hi],by unfold Fm; rw [hk]; exact ⟨_,rfl⟩,by simp [Value.cells,hc,hs0]⟩
    | _=>simp only at hone; omega
   obtain ⟨v,p2,f2,c2⟩:∃ u,(part f.type ys f.offset).run P w= .ok u w∧Fm P f.type u∧u.cells.toList=[]:=by
    obtain ⟨k,hk⟩:=hu
    rw [hk] at hone
    have hs0:s.length=0:=by omega
    cases k with
    | struct fs=>exact ⟨.agg (ys.extract f.offset (f.offset+P.cellsOf f.type)),by simp [part,isAgg,run_underlying hk,run_sizeOf w hi],by unfold Fm; rw [hk]; exact ⟨_,rfl⟩,by simp [Value.cells,hc,hs0]⟩
    | array n e=>exact ⟨.agg (ys.extract f.offset (f.offset+P.cellsOf f.type)),by simp [part,isAgg,run_underlying hk,run_sizeOf w hi],by unfold Fm; rw [hk]; exact ⟨_,rfl⟩,by simp [Value.cells,hc,hs0]⟩
    | _=>simp only at hone; omega
   have hs0:s=[]:=List.length_eq_zero_iff.1 (by omega)
   subst hs0
   obtain ⟨q,hq,hr⟩:=hse w u v f1 f2 (by rw [c1]; rfl) (by rw [c2]; rfl)
   rw [c1,c2] at hq
   simp only [eqVs,Option.some.injEq] at hq
   subst hq
   obtain ⟨q',hq',hr'⟩:=seFs_sound hg w xs ys hx hy r (f.offset+0) s' hs' (by simpa using h1) (by simpa using h2)
   have hn':¬ f.name= "_" :=by simpa using hn
   refine ⟨q',by simpa using hq',?_⟩
   simp only [Op.eqFields,hn',ne_eq,not_false_eq_true,if_true,Sem.run_bind,p1,p2,hr,Result.andThen_ok]
   simpa using hr'
theorem seItems_sound {e:TypeId}{S:List Nat}{dd:Nat}(hse:SeAt P dd e S)(hu:∃ k,P.underlying e=some k)(hone:(match P.underlying e with|some (.struct _)=>True|some (.array _ _)=>True|_=>S.length=1))(hc:P.cellsOf e=S.length)(h0:0<S.length)
  (w:World) (xs ys:Array Value) (hx:∀ x ∈ xs.toList,x.cells= #[x]) (hy:∀ x ∈ ys.toList,x.cells= #[x]):∀ (n i:Nat),
  (xs.toList.drop (i*S.length)).map shV=repN S n→(ys.toList.drop (i*S.length)).map shV=repN S n →
   ∃ q,eqVs (xs.toList.drop (i*S.length)) (ys.toList.drop (i*S.length))=some q∧(Op.eqItems dd e (P.cellsOf e) xs ys (List.range' i n)).run P w= .ok q w
 | 0,i,h1,h2=>by
  simp only [repN,List.map_eq_nil_iff] at h1 h2
  exact ⟨true,by rw [h1,h2]; rfl,by simp [Op.eqItems]⟩
 | n+1,i,h1,h2=>by
  obtain ⟨ti,hi⟩:∃ i,P.info? e=some i:=by obtain ⟨k,hk⟩:=hu; exact info_of_underlying hk
  simp only [repN] at h1 h2
  have l1:=congrArg List.length h1
  have l2:=congrArg List.length h2
  simp only [List.length_map,List.length_drop,List.length_append,Array.length_toList] at l1 l2
  obtain ⟨u,p1,f1,c1⟩:=run_partS hi hc hone hu (xs:=xs) (off:=i*S.length) (by omega) hx w
  obtain ⟨v,p2,f2,c2⟩:=run_partS hi hc hone hu (xs:=ys) (off:=i*S.length) (by omega) hy w
  have e1:u.cells.toList.map shV=S:=by rw [c1,List.map_take,h1]; simp
  have e2:v.cells.toList.map shV=S:=by rw [c2,List.map_take,h2]; simp
  obtain ⟨q,hq,hr⟩:=hse w u v f1 f2 e1 e2
  have hmul:(i+1)*S.length=i*S.length+S.length:=by rw [Nat.add_mul]; omega
  have d1:(xs.toList.drop ((i+1)*S.length)).map shV=repN S n:=by rw [hmul,← List.drop_drop,List.map_drop,h1]; simp
  have d2:(ys.toList.drop ((i+1)*S.length)).map shV=repN S n:=by rw [hmul,← List.drop_drop,List.map_drop,h2]; simp
  obtain ⟨q',hq',hr'⟩:=seItems_sound hse hu hone hc h0 w xs ys hx hy n (i+1) d1 d2
  refine ⟨q&&q',?_,?_⟩
  ·rw [c1,c2] at hq
   rw [hmul] at hq'
   have:=eqVs_append hq hq'
   rwa [← List.drop_drop,← List.drop_drop,List.take_append_drop,List.take_append_drop] at this
  ·rw [← hc] at p1 p2
   simp only [List.range'_succ,Op.eqItems,Sem.run_bind,p1,p2,hr,Result.andThen_ok]
   cases q
   ·simp
   ·simpa using hr'
theorem cells_of_sh {xs:List Value}(h:∀ c ∈ xs.map shV,c≠10):∀ x ∈ xs,x.cells= #[x]:=by
 intro x hx
 have:=h (shV x) (List.mem_map.2 ⟨x,hx,rfl⟩)
 cases x<;>first|rfl|simp [shV] at this
theorem seFs_ne {g:TypeId→Option (List Nat)}(hg:∀ t S,g t=some S→∀ c ∈ S,c≠10):∀ (fs:List Field) (off:Nat) (S:List Nat),seFs P g fs off=some S→∀ c ∈ S,c≠10
 | [],off,S,h=>by simp only [seFs,Option.some.injEq] at h; subst h; simp
 | f::r,off,S,h=>by
  simp only [seFs] at h
  split at h; · simp at h
  split at h; · simp at h
  split at h; · simp at h
  rename_i s hs
  split at h; · simp at h
  split at h; · simp at h
  rename_i s' hs'
  simp only [Option.some.injEq] at h
  subst h
  intro c hc
  rcases List.mem_append.1 hc with hc|hc
  ·exact hg _ _ hs c hc
  ·exact seFs_ne hg r _ _ hs' c hc
theorem repN_ne {s:List Nat}(h:∀ c ∈ s,c≠10):∀ n,∀ c ∈ repN s n,c≠10
 | 0,c,hc=>by simp [repN] at hc
 | n+1,c,hc=>by
  simp only [repN,List.mem_append] at hc
  rcases hc with hc|hc
  ·exact h c hc
  ·exact repN_ne h n c hc
theorem seAt_ne:∀ (d:Nat) (t:TypeId) (S:List Nat),seAt P d t=some S→∀ c ∈ S,c≠10
 | 0,t,S,h=>by simp [seAt] at h
 | d+1,t,S,h=>by
  simp only [seAt] at h
  split at h
  ·simp only [Option.some.injEq] at h; subst h; simp
  ·rename_i k _
   have:=kindNo_lt k
   simp only [Option.some.injEq] at h; subst h; simp; omega
  ·simp only [Option.some.injEq] at h; subst h; simp
  ·split at h
   ·simp at h
   ·exact seFs_ne (seAt_ne d) _ _ _ h
  ·split at h; · simp at h
   rename_i s hs
   split at h; · simp at h
   split at h; · simp at h
   simp only [Option.some.injEq] at h
   subst h
   exact repN_ne (seAt_ne d _ _ hs) _
  ·simp at h
theorem seAt_sound (dd:Nat):∀ (d:Nat) (t:TypeId) (S:List Nat),seAt P d t=some S→SeAt P (dd+d) t S
 | 0,t,S,h=>by simp [seAt] at h
 | d+1,t,S,h=>by
  intro w u v fu fv hu hv
  have hne:=seAt_ne (d+1) t S h
  simp only [seAt] at h
  split at h
  ·rename_i hd
   simp only [Option.some.injEq] at h
   subst h
   simp only [Fm,hd] at fu fv
   obtain ⟨a,rfl⟩:=shV_bool (one_of fu hu)
   obtain ⟨b,rfl⟩:=shV_bool (one_of fv hv)
   exact ⟨a==b,by simp [Value.cells,eqVs,eqV],equalIn_bool hd (dd+d) a b w⟩
  ·rename_i k hd
   simp only [Option.some.injEq] at h
   subst h
   simp only [Fm,hd] at fu fv
   obtain ⟨a,rfl⟩:=shV_int (one_of fu hu)
   obtain ⟨b,rfl⟩:=shV_int (one_of fv hv)
   exact ⟨a==b,by simp [Value.cells,eqVs,eqV],by rw [show dd+(d+1)=(dd+d)+1 from rfl]; simp [Op.equalIn,run_underlying hd]⟩
  ·rename_i hd
   simp only [Option.some.injEq] at h
   subst h
   simp only [Fm,hd] at fu fv
   obtain ⟨a,rfl⟩:=shV_str (one_of fu hu)
   obtain ⟨b,rfl⟩:=shV_str (one_of fv hv)
   exact ⟨a==b,by simp [Value.cells,eqVs,eqV],by rw [show dd+(d+1)=(dd+d)+1 from rfl]; simp [Op.equalIn,run_underlying hd]⟩
  ·rename_i fs hd
   split at h; · simp at h
   rename_i hst
   simp only [Fm,hd] at fu fv
   obtain ⟨xs,rfl⟩:=fu
   obtain ⟨ys,rfl⟩:=fv
   simp only [Value.cells] at hu hv ⊢
   have hfs:P.fieldsOf t=fs:=by simp [Program.fieldsOf,hd]
   obtain ⟨q,hq,hr⟩:=seFs_sound (P:=P) (g:=seAt P d) (dd:=dd+d) (fun t S ht=>⟨seAt_sound dd d t S ht,seAt_info ht⟩) w xs ys (cells_of_sh (by rw [hu]; exact hne)) (cells_of_sh (by rw [hv]; exact hne)) _ 0 S h (by simpa using hu) (by simpa using hv)
   refine ⟨q,by simpa using hq,?_⟩
   rw [show dd+(d+1)=(dd+d)+1 from rfl,run_equalIn_struct w (dd+d) t xs ys (by rw [hfs]; exact hd) hst]
   exact hr
  ·rename_i n e hd
   split at h; · simp at h
   rename_i s hs
   split at h; · simp at h
   rename_i hc
   have hc:=Nat.eq_of_beq_eq_true hc
   split at h; · simp at h
   rename_i h0
   have h0:=bltN h0
   simp only [Option.some.injEq] at h
   simp only [Fm,hd] at fu fv
   obtain ⟨xs,rfl⟩:=fu
   obtain ⟨ys,rfl⟩:=fv
   simp only [Value.cells] at hu hv ⊢
   obtain ⟨hk,hone⟩:=seAt_info hs
   obtain ⟨ti,hi⟩:∃ i,P.info? e=some i:=by obtain ⟨k,hk⟩:=hk; exact info_of_underlying hk
   rw [show dd+(d+1)=(dd+d)+1 from rfl,run_equalIn_array w (dd+d) xs ys hd hi,List.range_eq_range']
   obtain ⟨q,hq,hr⟩:=seItems_sound (seAt_sound dd d e s hs) hk hone hc h0 w xs ys (cells_of_sh (by rw [hu]; exact hne)) (cells_of_sh (by rw [hv]; exact hne)) n 0 (by simpa [h] using hu) (by simpa [h] using hv)
   exact ⟨q,by simpa using hq,hr⟩
  ·simp at h
def seChk (P:Program) (d:Nat) (t:TypeId) (S:List Nat):Bool :=
 match P.underlying t with
 | some (.struct _)=>go
 | some (.array _ _)=>go
 | _=>false
where go:Bool:=match seAt P d t with
 | none=>false
 | some s=>match beqNs s S with
  | false=>false
  | true=>match P.eqGuardType P.depth t with
   | true=>false
   | false=>Nat.ble d 10000
theorem structEq_of {d:Nat}{t:TypeId}{S:List Nat}(h:seChk P d t S=true):StructEq P t S:=by
 have hfm:∀ cs,Fm P t (.agg cs):=by
  intro cs
  unfold seChk at h
  unfold Fm
  split at h
  ·exact ⟨_,rfl⟩
  ·exact ⟨_,rfl⟩
  ·simp at h
 have hgo:seChk.go P d t S=true:=by
  unfold seChk at h
  split at h
  ·exact h
  ·exact h
  ·simp at h
 unfold seChk.go at hgo
 split at hgo; · simp at hgo
 rename_i s hs
 split at hgo; · simp at hgo
 rename_i hS
 have hS:=beqNs_spec hS
 subst hS
 split at hgo; · simp at hgo
 rename_i hg
 have hd:d≤10000:=Nat.le_of_ble_eq_true hgo
 have hse:=seAt_sound (10000-d) d t s hs
 rw [show 10000-d+d=10000 from by omega] at hse
 intro x y xs ys q hx hy hq w
 obtain ⟨q',hq',hr⟩:=hse w (.agg xs) (.agg ys) (hfm xs) (hfm ys) hx hy
 simp only [Value.cells] at hq'
 rw [hq] at hq'
 simp only [Option.some.injEq] at hq'
 subst hq'
 have hr':(Op.equal t (.agg xs) (.agg ys)).run P w= .ok q w:=hr
 constructor
 ·simp [eqGuard,binOp,hg,hr']
 ·simp [eqGuard,binOp,hg,hr']
end
end Go.VA
namespace Go.VA
open Go Go.RowKit
def rowE {α:Type} (enc:α→List C) (d:α) (l:List α) (i:Nat):List C:=enc (l.getD i d)
section
variable {α:Type} {enc:α→List C} {d:α}
theorem rowE_snoc (l:List α)(x:α)(n:Nat)(hn:n=l.length)(i:Nat)(hi:i<n+1):catF 0 n (rowE enc d l) (nthC [enc x]) i=rowE enc d (l++[x]) i:=by
 subst hn
 unfold catF rowE
 by_cases h:i<l.length
 ·rw [if_pos h,Nat.zero_add]; simp [List.getD_eq_getElem?_getD,List.getElem?_append_left h]
 ·rw [if_neg h]
  obtain rfl:i=l.length:=by omega
  simp [nthC]
end
theorem LeCs.row {f g:Nat→List C}(h:∀ i,f i=g i)(i:Nat):LeCs (f i) (g i):=LeCs.of_eq (h i)
theorem wrap64 {n:Int}(h1: -9223372036854775808≤n)(h2:n≤9223372036854775807):IntKind.i64.wrap n=n:=by
 rw [IntKind.wrap_i64]; omega
theorem C.eqI {k:IntKind}{a b:Int}(h:a=b):C.v (.int k a)=C.v (.int k b):=h ▸ rfl
theorem leI {m:Nat}{k:IntKind}{a b:Int}(h:a=b):Le m (.c (.v (.int k a))) (.c (.v (.int k b))):=Le.of_eq (h ▸ rfl)
theorem leB {m:Nat}{a b:Bool}(h:a=b):Le m (.c (.v (.bool a))) (.c (.v (.bool b))):=Le.of_eq (h ▸ rfl)
theorem leOwn {m:Nat}{id esz off n n':Nat}(h:n=n'):Le m (.own id esz off n) (.own id esz off n'):=Le.of_eq (h ▸ rfl)
theorem leSl {m:Nat}{t:Bool}{e n n':Nat}{f g:Nat→List C}(h:n=n')(hf:∀ i,i<n'→f i=g i):Le m (.c (.sl t e n f)) (.c (.sl t e n' g)):=by
 subst h
 refine ⟨fun B S u _ hu=> ?_⟩
 simp only [RelV,RepC] at hu ⊢
 obtain ⟨a,cap,h1,h2,h3⟩:=hu
 refine ⟨a,cap,h1,h2,?_⟩
 rcases h3 with h3|⟨b,o,h3,h4⟩
 ·exact .inl h3
 ·exact .inr ⟨b,o,h3,fun i hi=>by rw [← hf i hi]; exact h4 i hi⟩
end Go.VA
namespace Go.VA
theorem chainI {env:Env}{n:Nat}{key:Key}{p:Prop}(h:p):chain env n key p:=by
 induction n generalizing key p with
 | zero=>exact h
 | succ n ih =>
  cases key with
  | no=>exact h
  | _ s w =>
   simp only [chain]
   split
   ·exact fun _=>h
   ·exact ih fun _=>h
   ·exact h
open Go Go.RowKit
def ambA:List Nat→Env→List AV
 | _,[]=>[]
 | seen,(s,x)::r=>(match memN s seen with|true=> .any|false=>strip x)::ambA (s::seen) r
def ambK:List Nat→Env→(List AV→Prop)→Prop
 | _,[],K=>K []
 | seen,(s,x)::r,K=>match memN s seen with
  | true=>ambK (s::seen) r fun xs=>K (.any::xs)
  | false=>stripK x fun x=>ambK (s::seen) r fun xs=>K (x::xs)
theorem ambK_eq:∀ (seen:List Nat) (env:Env) (K:List AV→Prop),ambK seen env K=K (ambA seen env)
 | _,[],_=>rfl
 | seen,(s,x)::r,K=>by
  simp only [ambK,ambA]
  split
  ·rw [ambK_eq (s::seen) r]
  ·rw [stripK_eq,ambK_eq (s::seen) r]
def closedOr (y:AV):AV:=match y.closed with|true=>y|false=> .any
def joinE:Env→List AV→Env
 | [],_=>[]
 | (s,x)::r,xs=>(s,match x with
  | .gd s' w y=> .gd s' w (closedOr y)
  | _=>match xs with|[]=> .any|y::_=>strip y)::joinE r xs.tail
def joinK:Env→List AV→(Env→Prop)→Prop
 | [],_,K=>K []
 | (s,x)::r,xs,K=>match x with
  | .gd s' w y=>joinK r xs.tail fun e=>K ((s,.gd s' w (closedOr y))::e)
  | _=>match xs with
   | []=>joinK r [] fun e=>K ((s,.any)::e)
   | y::ys=>stripK y fun y=>joinK r ys fun e=>K ((s,y)::e)
theorem joinK_eq:∀ (env:Env) (xs:List AV) (K:Env→Prop),joinK env xs K=K (joinE env xs)
 | [],_,_=>rfl
 | (s,x)::r,xs,K=>by
  have h1:=joinK_eq r xs.tail
  have h2:=joinK_eq r []
  cases x<;>simp only [joinK,joinE]<;>first
   | (rw [h1]; done)
   | (cases xs with
      | nil=>simp only [List.tail_nil]; rw [h2]
      | cons y ys=>simp only [List.tail_cons] at h1 ⊢; rw [stripK_eq,h1])
theorem joinE_keys:∀ (env:Env) (xs:List AV),keysE (joinE env xs)=keysE env
 | [],_=>rfl
 | (s,x)::r,xs=>by
  have ih:=joinE_keys r xs.tail
  unfold keysE at ih ⊢
  simp only [joinE,List.map_cons,ih]
  congr 1
  cases x<;>simp only [gkey]<;>(cases xs<;>simp only [gkey]<;>exact strip_key _)
def resI (env:Env) (tb:TB) (L:List AO):List ResultVar→(List AV→Prop)→Prop
 | [],K=>K []
 | r::rs,K=>match r with
  | .tmp t=>stripK (get env t) fun x=>resI env tb L rs fun xs=>K (x::xs)
  | .cell a t=>opLoad tb L t (get env a) fun y=>stripK y fun y=>resI env tb L rs fun xs=>K (y::xs)
def EndI (tb:TB) (rs:List ResultVar) (vs:List Value) (n:Nat) (env0:Env) (K:AV→Env→List AO→Prop) (x:Ex) (env:Env) (L:List AO):Prop:=match x with
 | .exit _=>False
 | _=>resI env tb L rs fun xs=>match getO L n with
  | .amb vs' ys=>vs'=vs∧joinK env0 ys fun env1=>forceL (setO L n .dead) fun L=>K (retA xs) env1 L
  | _=>False
section
variable {P:Program} {tb:TB} {gl:Gl}
theorem ambA_rel {B:List (Option BI)}{S:Rd}{a:Act}:∀ (env:Env) (seen:List Nat),(∀ t,t ∉ seen→RelSl B S a (get env t) (a.tmps.getD t undef))→RelVs B S (ambA seen env) (env.map fun p=>a.tmps.getD p.1 undef)
 | [],_,_=>by simp [ambA,RelVs]
 | (s,x)::r,seen,h=>by
  simp only [ambA,List.map_cons,RelVs]
  refine ⟨_,_,rfl,?_,ambA_rel r (s::seen) fun t ht=> ?_⟩
  ·split
   ·simp [RelV]
   ·rename_i hm
    have hm:s ∉ seen:=fun e=>by rw [memN_spec.2 e] at hm; simp at hm
    have:=h s hm
    have e:get ((s,x)::r) s=x:=by simp [get]
    rw [e] at this
    cases x<;>first|exact this|simp [strip,RelV]
  ·have hts:t≠s:=fun e=>ht (by simp [e])
   have:=h t (fun e=>ht (by simp [e]))
   have e:get ((s,x)::r) t=get r t:=by
    simp only [get]
    split
    ·rename_i e; exact absurd (Nat.beq_spec e).symm hts
    ·rfl
   rwa [e] at this
theorem joinE_rel {B B':List (Option BI)}{S S':Rd}(hS:S.le S'){a:Act}:∀ (env:Env) (ys:List AV) (t:Nat),RelSl B S a (get env t) (a.tmps.getD t undef)→RelVs B' S' ys (env.map fun p=>a.tmps.getD p.1 undef) →
  RelSl B' S' a (get (joinE env ys) t) (a.tmps.getD t undef)
 | [],ys,t,_,_=>by simp [joinE,get,RelSl,RelV]
 | (s,x)::r,ys,t,h,hy=>by
  simp only [List.map_cons] at hy
  have hy0:∃ y zs,ys=y::zs∧RelV B' S' y (a.tmps.getD s undef)∧RelVs B' S' zs (r.map fun p=>a.tmps.getD p.1 undef):=by
   cases ys with
   | nil=>simp [RelVs] at hy
   | cons y zs =>
    simp only [RelVs] at hy
    obtain ⟨u,r',e,h1,h2⟩:=hy
    simp only [List.cons.injEq] at e
    obtain ⟨rfl,rfl⟩:=e
    exact ⟨y,zs,rfl,h1,h2⟩
  obtain ⟨y,zs,rfl,h1,h2⟩:=hy0
  simp only [joinE,List.tail_cons,get] at h ⊢
  split
  ·rename_i e
   obtain rfl:=Nat.beq_spec e
   simp only [Nat.beq_refl,e] at h
   have key:RelSl B' S' a (strip y) (a.tmps.getD s undef):=RelV.notGd (strip_key y) (strip_rel h1)
   cases x
   case gd s' w z =>
    simp only [RelSl] at h ⊢
    refine ⟨fun e=> ?_,h.2⟩
    unfold closedOr
    split
    ·rename_i hc; exact closed_rel hS _ _ hc (h.1 e)
    ·simp [RelV]
   all_goals exact key
  ·rename_i e
   simp only [e] at h
   exact joinE_rel hS r zs t h h2
def Fx.into (X:Fx) (B:List (Option BI)) (L:List AO) (w:World) (nt:Nat):Fx :=
 { gl:=X.gl,w0:=w,M:=X.M,B0:=B,L0:=L,nt:=nt,mt:=fun b=>∃ (id:Nat) (bi:BI),X.M.ro≤id∧B[id]? =some (some bi)∧(getO L id).live=true∧bi.b=b }
theorem RelE.envOf {B:List (Option BI)}{S:Rd}{args:List AV}{vals:Array Value}(hv:RelVs B S args vals.toList)(nt:Nat) :
  RelE B S (envOf 0 args) { tmps:=vals++Array.replicate (nt-vals.size) undef,defers:=[] }:=by
 intro t
 rcases envOf_get 0 args t with h1|⟨j,x,h1,h2,h3⟩
 ·rw [h1]; simp [RelSl,RelV]
 ·rw [h3]
  refine RelV.notGd (strip_key x) (strip_rel ?_)
  obtain ⟨u,k1,k2⟩:=RelVs.nth _ _ j x hv h1
  obtain rfl:t=j:=by omega
  have hlt:t<vals.size:=by
   have:=(List.getElem?_eq_some_iff.1 k1).1
   simpa using this
  have:(vals++Array.replicate (nt-vals.size) undef).getD t undef=u:=by
   rw [Array.getD_eq_getD_getElem?,Array.getElem?_append_left hlt]
   rw [Array.getElem?_toList] at k1
   rw [k1]
   rfl
  simp only
  rw [this]
  exact k2
theorem St.enter {X:Fx}{B:List (Option BI)}{env:Env}{L:List AO}{a:Act}{w:World}(h:St X B env L a w){args:List AV}{vals:Array Value}(hv:RelVs B (Sr X.M B L w) args vals.toList){nt:Nat}(hn:vals.size≤nt) :
  St (X.into B L w nt) B (envOf 0 args) L { tmps:=vals++Array.replicate (nt-vals.size) undef,defers:=[] } w where
 relL:=h.relL
 glob:=h.glob
 relE:=RelE.envOf hv nt
 below:=Frm.refl _ _
 fresh id bi h1 h2 h3:= .inr ⟨id,bi,h1,h2,h3,rfl⟩
 old id _:=⟨rfl,rfl⟩
 rol:=h.rol
 l0:=Nat.le_refl _
 knd id _ _:= .inr ⟨rfl,fun _=>rfl⟩
 dfr:=rfl
 sz:=by simp only [Fx.into,Array.size_append,Array.size_replicate]; omega
theorem St.leave {X:Fx}{B B':List (Option BI)}{env env1 env':Env}{L L':List AO}{a a':Act}{w w':World}{nt:Nat}(h:St X B env L a w)(h':St (X.into B L w nt) B' env' L' a' w')
  (hE:RelE B' (Sr X.M B' L' w') env1 a):St X B' env1 L' a w' where
 relL:=h'.relL
 glob:=h'.glob
 relE:=hE
 below:=by
  refine ⟨h'.below.os.trans h.below.os,h'.below.tape.trans h.below.tape,h'.below.output.trans h.below.output,Nat.le_trans h.below.size h'.below.size,fun k hk hm=> ?_⟩
  rw [← h.below.block k hk hm]
  refine h'.below.block k (Nat.lt_of_lt_of_le hk h.below.size) ?_
  rintro ⟨id,bi,h1,h2,h3,rfl⟩
  rcases h.fresh id bi h1 h2 h3 with h4|h4
  ·omega
  ·exact hm h4
 fresh id bi h1 h2 h3:=by
  rcases h'.fresh id bi h1 h2 h3 with h4|⟨id',bi',k1,k2,k3,k4⟩
  ·exact .inl (Nat.le_trans h.below.size h4)
  ·rw [← k4]; exact h.fresh id' bi' k1 k2 k3
 old id hid:=by
  have h1:=h'.old id hid
  have h2:=h.old id hid
  exact ⟨h1.1.trans h2.1,h1.2.trans h2.2⟩
 rol:=h'.rol
 l0:=Nat.le_trans h.l0 h'.l0
 knd id h0 h1:=by
  have hl:id<L.length:=Nat.lt_of_lt_of_le h0 h.l0
  rcases h'.knd id hl h1 with h2|⟨h2,h3⟩
  ·exact .inl h2
  ·simp only [Fx.into] at h2 h3
   rcases h.knd id h0 hl with h4|⟨h4,h5⟩
   ·exact .inl (h2.trans h4)
   ·exact .inr ⟨h2.trans h4,fun h6=>(h3 h6).trans (h5 (h2 ▸ h6))⟩
 dfr:=h.dfr
 sz:=h.sz
theorem resI_sound (htb:TbOk P tb){X:Fx}{B:List (Option BI)}{env:Env}{L:List AO}{a:Act}{w:World}(h:St X B env L a w)(hn:NoGd env) :
  ∀ (rs:List ResultVar) (K:List AV→Prop),resI env tb L rs K→∃ xs vs,K xs∧rs.length=vs.length∧(∀ (i:Nat) r v,rs[i]? =some r→vs[i]? =some v→(rvOne a.tmps r).run P w= .ok v w) ∧
   RelVs B (Sr X.M B L w) xs vs
 | [],K,hK=>⟨[],[],hK,rfl,by simp,by simp [RelVs]⟩
 | r::rs,K,hK=>by
  have hsl:∀ t,RelV B (Sr X.M B L w) (get env t) (a.tmps.getD t undef):=by
   intro t
   have:=h.relE t
   rwa [relSl_iff] at this
   cases hq:get env t<;>try rfl
   have:=hn _ (get_key hq)
   simp at this
  have fin:∀ (x:AV) (v:Value),(rvOne a.tmps r).run P w= .ok v w→RelV B (Sr X.M B L w) x v→resI env tb L rs (fun xs=>K (x::xs)) →
    ∃ xs vs,K xs∧(r::rs).length=vs.length∧(∀ (i:Nat) r' v,(r::rs)[i]? =some r'→vs[i]? =some v→(rvOne a.tmps r').run P w= .ok v w)∧RelVs B (Sr X.M B L w) xs vs:=by
   intro x v h1 h2 h3
   obtain ⟨xs,vs,k1,k2,k3,k4⟩:=resI_sound htb h hn rs _ h3
   refine ⟨x::xs,v::vs,k1,by simp [k2],fun i r' v' e1 e2=> ?_,?_⟩
   ·cases i with
    | zero=>simp at e1 e2; subst e1; subst e2; exact h1
    | succ i=>exact k3 i r' v' (by simpa using e1) (by simpa using e2)
   ·simp only [RelVs]; exact ⟨v,vs,rfl,h2,k4⟩
  simp only [resI] at hK
  split at hK
  ·rename_i t
   rw [stripK_eq] at hK
   exact fin _ _ rfl (strip_rel (hsl t)) hK
  ·rename_i ad t
   obtain ⟨y,hy,hh⟩:=opLoad_sound htb hK
   rw [stripK_eq] at hy
   obtain ⟨v,h1,h2⟩:=hh X.M B w _ h.relL (hsl ad)
   refine fin _ v ?_ (strip_rel h2) hy
   simp only [rvOne]
   generalize a.tmps.getD ad undef=p at h1
   cases p with
   | pointer q =>
    cases q with
    | some q=>simpa [Instr.loadAt,Instr.sureAddr,asAddr] using h1
    | none=>simp [Instr.loadAt,Instr.sureAddr] at h1
   | _=>simp [Instr.loadAt,Instr.sureAddr] at h1
theorem run_enter {o:Oper}{c:Call}{fo:Operand}{a:Act}{w:World}{f:Nat}{a1 a2:Array Value}(ho:o.op= .call c)(hc:c.callee= .value fo)(hfv:a.eval fo= .func (.func f) a1 a2)(hC:Callable P f) :
  (execOp a.eval o).run P w= .ok (.enter f (a1++c.args.map a.eval++a2)) w:=by
 obtain ⟨fn,g1,g2,g3⟩:=hC
 have g2':¬ fn.name= "runtime.NumGoroutine" :=by simpa using g2
 have g3':¬ fn.body=none:=fun e=>by simp [e] at g3
 simp [execOp,ho,resolve,hc,hfv,Deferred.ofValue,invoke,callFunc,program,Sem.run,g1,g2',g3']
theorem xc_pure {ro:Nat}{f:AV}{args:List AV}{env:Env}{L:List AO}{K:AV→Env→List AO→Prop}(h:opCall P gl (fun p=>p) L f args fun x=>K x env L):XCall P gl ro f args env L K:=by
 refine ⟨fun X B a w o c fo hgl hro hS ho hc hf hargs=> ?_⟩
 obtain ⟨y,hy,hh⟩:=opCall_sound h
 intro next Q hn
 subst hgl
 refine hh X.M B o c fo a w (fun _ h=>h) hS.relL hS.glob ho hc hf hargs next Q fun u w' ⟨h1,h2⟩=> ?_
 exact hn _ _ _ _ _ _ hy rfl (hS.ext h1) h2
theorem xc_in (htb:TbOk P tb)(hmix:P.follows .mixedOrders=true){f:Nat}{fn:Func}{cd:Code}(hf:P.funcs[f]? =some fn)(hb:fn.body=some cd)
  (hname:(fn.name== "runtime.NumGoroutine")=false) (hok:codeOk fn.ntmps cd=true) {ro:Nat} {first cap args:List AV} {env:Env} {L:List AO} {K:AV→Env→List AO→Prop}
  (hlen:Nat.ble (first++args++cap).length fn.ntmps=true)
  (h:∀ vs,ambK [] env fun xs=>appK L (.amb vs xs) 0 fun n L'=>crossK fn.results.toList cd fun U=>vc P tb gl ro (n+1) U cd (envOf 0 (first++args++cap)) L' (EndI tb fn.results.toList vs n env K)) :
  XCall P gl ro (.fn f first cap) args env L K:=by
 refine ⟨fun X B a w o c fo hgl hro hS ho hc hfr hargs=> ?_⟩
 have hC:Callable P f:=⟨fn,hf,hname,by rw [hb]; rfl⟩
 simp only [RelV] at hfr
 obtain ⟨a1,a2,hfv,h1,h2⟩:=hfr
 have h:=h (env.map fun p=>a.tmps.getD p.1 undef)
 rw [ambK_eq,appK0,crossK_eq] at h
 have hamb:=ambA_rel (B:=B) (S:=Sr X.M B L w) (a:=a) env [] fun t _=>hS.relE t
 generalize hvq:(env.map fun p=>a.tmps.getD p.1 undef)=vs at h hamb
 obtain ⟨hS1,hle1⟩:=hS.push (Below.refl _ w) none (.amb vs (ambA [] env)) (fun bi e=>by simp at e) (fun hle=>RelVs.mono (Ble.app B none) hle _ _ hamb)
 have hv:RelVs (B++[none]) (Sr X.M (B++[none]) (L++[.amb vs (ambA [] env)]) w) (first++args++cap) (a1++c.args.map a.eval++a2).toList:=by
  have:=RelVs.append _ _ _ _ (RelVs.append _ _ _ _ h1 hargs) h2
  exact RelVs.mono (Ble.app B none) hle1 _ _ (by simpa using this)
 have hlv:=RelVs.length _ _ hv
 rw [Array.length_toList] at hlv
 have hlen:=Nat.le_of_ble_eq_true hlen
 have hent:=hS1.enter hv (nt:=fn.ntmps) (by omega)
 intro next Q hn
 unfold Oper.wp
 rw [run_enter ho hc hfv hC,Oper.upon_enter]
 refine (calls_of_wp (R:=fun e w'=>∃ u,e= .returned u∧next (a.put o.dst u) w') hf hb (vc_sound htb hmix (X:=X.into (B++[none]) (L++[AO.amb vs (ambA [] env)]) w fn.ntmps) hgl hro (by simp [Fx.into]) cd _ _ _ _ w _ _ hok (envOf_noGd 0 _) hent h ?_)).mono ?_
 ·intro e env' L' B' a' w' hK hn' hS'
  have key:∀ (K':Prop),resI env' tb L' fn.results.toList (fun xs=>match getO L' L.length with
    | .amb vs' ys=>vs'=vs∧joinK env ys fun env1=>forceL (setO L' L.length .dead) fun L=>K (retA xs) env1 L
    | _=>False)→(a'.defers=[]∧∃ v,(results fn a'.tmps).run P w'= .ok v w'∧∃ u,Ending.returned v= .returned u∧next (a.put o.dst u) w'):=by
   intro _ hres
   obtain ⟨xs,ws,k1,k2,k3,k4⟩:=resI_sound htb hS' hn' _ _ hres
   refine ⟨hS'.dfr,_,run_results fn a'.tmps w' ws k2 k3,_,rfl,?_⟩
   split at k1
   ·rename_i vs' ys hO
    obtain ⟨rfl,k1⟩:=k1
    rw [joinK_eq,forceL_eq] at k1
    have hlt:L.length<L'.length:=by have:=hS'.l0; simp [Fx.into] at this; omega
    have hids:∃ bo,B'[L.length]? =some bo:=by
     have:L.length<B'.length:=by rw [hS'.relL.len]; exact hlt
     exact ⟨_,List.getElem?_eq_getElem this⟩
    obtain ⟨bo,hbo⟩:=hids
    have hob:=hS'.relL.obj _ _ hbo
    rw [hO] at hob
    simp only [RelO] at hob
    have hSl:(Sr X.M B L w).le (Sr X.M B' L' w'):=by
     intro t b q u hh
     have hlt:=block_lt hh.2
     have hnm:¬ (X.into (B++[none]) (L++[.amb vs' (ambA [] env)]) w fn.ntmps).mt b:=by
      rintro ⟨id,bi,g1,g2,g3,rfl⟩
      have hid:id<B.length∨id=B.length:=by have:=(List.getElem?_eq_some_iff.1 g2).1; simp at this; omega
      have hBL:=hS.relL.len
      rcases hid with hid|hid
      ·rw [List.getElem?_append_left hid] at g2
       rw [getO_append,if_neg (by omega)] at g3
       refine hh.1 ?_
       cases t with
       | false=>exact .inr ⟨id,bi,g2,rfl,g3⟩
       | true=>exact .inr ⟨id,bi,g1,g2,rfl,g3⟩
      ·subst hid
       simp at g2
     refine ⟨fun hm=> ?_,by rw [World.cell?_of_block (w:=w) (hS'.below.block b hlt hnm)]; exact hh.2⟩
     have fin:∀ (id:Nat) (bi:BI),(t=true→X.M.ro≤id)→B'[id]? =some (some bi)→bi.b=b→(getO L' id).live=true→False:=by
      intro id bi g0 g1 g2 g3
      by_cases hid:id<X.M.ro
      ·have:=hS'.old id hid
       simp only [Fx.into] at this
       have hBL:=hS.relL.len
       have hrol:=hS.rol
       rw [List.getElem?_append_left (by omega)] at this
       have g4:=this.2
       rw [getO_append,if_neg (by omega)] at g4
       refine hh.1 ?_
       cases t with
       | false=>exact .inr ⟨id,bi,by rw [← this.1]; exact g1,g2,by rw [← g4]; exact g3⟩
       | true=>have:=g0 rfl; omega
      ·rcases hS'.fresh id bi (by simp only [Fx.into]; omega) g1 g3 with g4|g4
       ·simp only [Fx.into] at g4; omega
       ·exact hnm (g2 ▸ g4)
     cases t with
     | false =>
      rcases hm with hm|⟨id,bi,g1,g2,g3⟩
      ·exact hh.1 (.inl hm)
      ·exact fin id bi (by simp) g1 g2 g3
     | true =>
      rcases hm with hm|⟨id,bi,g0,g1,g2,g3⟩
      ·exact hh.1 (.inl hm)
      ·exact fin id bi (fun _=>g0) g1 g2 g3
    have hl1:X.M.ro≤L.length:=hS.rol
    have hE:RelE B' (Sr X.M B' L' w') (joinE env ys) a:=fun t=>joinE_rel hSl env ys t (hS.relE t) (by rw [hvq]; exact hob)
    have hS2:=(hS1.leave hS' hE).unlive (id:=L.length) (x:= .dead) hl1 hlt rfl (.inl rfl) (fun _ _=>by simp [RelO])
    refine hn _ _ _ _ _ _ k1 (joinE_keys env ys) hS2 (RelV.mono (Ble.refl _) (Sr_unlive rfl) _ _ (retA_sound k4))
   ·exact k1.elim
  cases e with
  | normal=>exact key True hK
  | ret=>exact key True hK
  | exit i=>exact hK.elim
 ·rintro e w' ⟨u,rfl,hu⟩; exact hu
end
end Go.VA
namespace Go.VA
open Go Go.RowKit
theorem loopI {base:Env}{ro n0:Nat}{V:Env→List AO→(Ex→Env→List AO→Prop)→Prop}{env:Env}{L:List AO}{K:Ex→Env→List AO→Prop}
  (σ:Type) (I:σ→Prop) (ce:σ→Env) (cl:σ→List AO) (m:σ→Nat) (s0:σ) (h0:I s0) (hr:Ref ro n0 env L (ce s0++base,cl s0))
  (hg:∀ s,NoGdE (ce s++base)=true)
  (hround:∀ s,I s→V (ce s++base) (cl s) (loopK (fun env' L'=>∃ s',I s'∧Ref ro n0 env' L' (ce s'++base,cl s')∧m s'<m s) K)):LoopEv base ro n0 V env L K :=
 ⟨⟨σ,I,fun s=>(ce s++base,cl s),m,⟨s0,h0,hr⟩,fun s hs=>⟨hg s,hround s hs⟩⟩⟩
def putL:List (Nat×AO)→List AO→List AO
 | [],L=>L
 | (i,x)::r,L=>putL r (setO L i x)
theorem loopN {base:Env}{ro n0:Nat}{V:Env→List AO→(Ex→Env→List AO→Prop)→Prop}{env:Env}{L:List AO}{K:Ex→Env→List AO→Prop}
  (I:Nat→Prop) (ce:Nat→Env) (co:Nat→List (Nat×AO)) (top:Nat) (htop:∀ s,I s→s≤top) (s0:Nat) (h0:I s0) (hr:Ref ro n0 env L (ce s0++base,putL (co s0) L))
  (hg:∀ s,NoGdE (ce s++base)=true)
  (hround:∀ s,I s→V (ce s++base) (putL (co s) L) (loopK (fun env' L'=>∃ s',(I s'∧s<s')∧Ref ro n0 env' L' (ce s'++base,putL (co s') L)) K)):LoopEv base ro n0 V env L K:=by
 refine loopI Nat I ce (fun s=>putL (co s) L) (fun s=>top-s) s0 h0 hr hg fun s hs=> ?_
 have:=hround s hs
 have e:(fun (env':Env) (L':List AO)=>∃ s',(I s'∧s<s')∧Ref ro n0 env' L' (ce s'++base,putL (co s') L))=(fun env' L'=>∃ s',I s'∧Ref ro n0 env' L' (ce s'++base,putL (co s') L)∧top-s'<top-s):=by
  funext env' L'
  simp only [eq_iff_iff]
  constructor
  ·rintro ⟨s',⟨h1,h2⟩,h3⟩
   exact ⟨s',h1,h3,by have:=htop s' h1; omega⟩
  ·rintro ⟨s',h1,h3,h4⟩
   exact ⟨s',⟨h1,by omega⟩,h3⟩
 rw [e] at this
 exact this
theorem leSl0 {m:Nat}{t t':Bool}{e n n':Nat}{f g:Nat→List C}(h:n=0)(h':n'=0):Le m (.c (.sl t e n f)) (.c (.sl t' e n' g)):=by
 subst h; subst h'
 refine ⟨fun B S u _ hu=> ?_⟩
 simp only [RelV,RepC] at hu ⊢
 obtain ⟨a,cap,h1,h2,_⟩:=hu
 exact ⟨a,cap,h1,h2,.inl trivial⟩
theorem leNil {m:Nat}{t:Bool}{e n:Nat}{g:Nat→List C}(h:n=0):Le m (.c (.v (.slice none 0 0))) (.c (.sl t e n g)):=by
 subst h
 refine ⟨fun B S u _ hu=> ?_⟩
 simp only [RelV,RepC] at hu ⊢
 exact ⟨none,0,hu.1,⟨Nat.le_refl _,Nat.zero_le _⟩,.inl trivial⟩
theorem leEmp {m:Nat}{t:Bool}{e n:Nat}{g:Nat→List C}(h:n=0):Le m (.c .emp) (.c (.sl t e n g)):=by
 subst h
 refine ⟨fun B S u _ hu=> ?_⟩
 simp only [RelV,RepC] at hu ⊢
 obtain ⟨a,rfl⟩:=hu
 exact ⟨a,0,rfl,⟨Nat.le_refl _,Nat.zero_le _⟩,.inl trivial⟩
def LeC (x y:C):Prop:=∀ S u,RepC S x u→RepC S y u
theorem LeC.refl (x:C):LeC x x:=fun _ _ h=>h
theorem LeC.of_eq {x y:C}(h:x=y):LeC x y:=h ▸ LeC.refl x
theorem Le.toC {m:Nat}{x y:C}(h:LeC x y):Le m (.c x) (.c y):=⟨fun B S u _ hu=>by simp only [RelV] at hu ⊢; exact h S u hu⟩
theorem LeC.sl {t:Bool}{e n n':Nat}{f g:Nat→List C}(h:n=n')(hf:∀ i,i<n'→f i=g i):LeC (.sl t e n f) (.sl t e n' g):=fun S u hu=>by
 have:=(leSl (m:=0) (t:=t) (e:=e) h hf).h [] S u (Nat.zero_le _) (by simpa only [RelV] using hu)
 simpa only [RelV] using this
theorem LeC.nil {t:Bool}{e n:Nat}{g:Nat→List C}(h:n=0):LeC (.v (.slice none 0 0)) (.sl t e n g):=fun S u hu=>by
 have:=(leNil (m:=0) (t:=t) (e:=e) (g:=g) h).h [] S u (Nat.zero_le _) (by simpa only [RelV] using hu)
 simpa only [RelV] using this
theorem LeC.emp {t:Bool}{e n:Nat}{g:Nat→List C}(h:n=0):LeC .emp (.sl t e n g):=fun S u hu=>by
 have:=(leEmp (m:=0) (t:=t) (e:=e) (g:=g) h).h [] S u (Nat.zero_le _) (by simpa only [RelV] using hu)
 simpa only [RelV] using this
def LeCl:List C→List C→Prop
 | [],[]=>True
 | x::xs,y::ys=>LeC x y∧LeCl xs ys
 | _,_=>False
theorem LeCl.vs:∀ {xs ys:List C},LeCl xs ys→∀ S us,RepVs S xs us→RepVs S ys us
 | [],[],_,S,us,h=>by simpa [RepVs] using h
 | x::xs,y::ys,h,S,us,hu=>by
  simp only [LeCl] at h
  simp only [RepVs] at hu ⊢
  obtain ⟨u,r,e,h1,h2⟩:=hu
  exact ⟨u,r,e,h.1 S u h1,LeCl.vs h.2 S r h2⟩
 | [],_::_,h,_,_,_=>by simp [LeCl] at h
 | _::_,[],h,_,_,_=>by simp [LeCl] at h
theorem LeCl.cs:∀ {xs ys:List C},LeCl xs ys→LeCs xs ys
 | [],[],_=>LeCs.refl _
 | x::xs,y::ys,h=>by
  simp only [LeCl] at h
  have ih:=LeCl.cs h.2
  refine ⟨by simp [ih.1],fun S R o hu=> ?_⟩
  simp only [RepCs] at hu ⊢
  obtain ⟨⟨u,h1,h2⟩,h3⟩:=hu
  exact ⟨⟨u,h1,h.1 S u h2⟩,ih.2 S R _ h3⟩
 | [],_::_,h=>by simp [LeCl] at h
 | _::_,[],h=>by simp [LeCl] at h
theorem leAg {m:Nat}{xs ys:List C}(h:LeCl xs ys):Le m (.ag xs) (.ag ys):=⟨fun B S u _ hu=>by
 simp only [RelV] at hu ⊢
 obtain ⟨arr,e,hu⟩:=hu
 exact ⟨arr,e,LeCl.vs h S _ hu⟩⟩
theorem leTup {m:Nat}:∀ {xs ys:List AV},xs.length=ys.length→(∀ (i:Nat) x y,xs[i]? =some x→ys[i]? =some y→Le m x y)→Le m (.tup xs) (.tup ys):=by
 intro xs ys hl h
 refine ⟨fun B S u hm hu=> ?_⟩
 simp only [RelV] at hu ⊢
 obtain ⟨arr,e,hu⟩:=hu
 refine ⟨arr,e,RelVs.mk _ _ (by rw [RelVs.length _ _ hu,hl]) fun j y hy=> ?_⟩
 have hj:j<xs.length:=by rw [hl]; exact (List.getElem?_eq_some_iff.1 hy).1
 obtain ⟨u,k1,k2⟩:=RelVs.nth _ _ j _ hu (List.getElem?_eq_getElem hj)
 exact ⟨u,k1,(h j _ y (List.getElem?_eq_getElem hj) hy).h B S u hm k2⟩
theorem leTup2 {m:Nat}{a b a' b':AV}(h:Le m a a')(h':Le m b b'):Le m (.tup [a,b]) (.tup [a',b']):=leTup rfl fun i x y hx hy=>by
 match i with
 | 0=>simp at hx hy; subst hx; subst hy; exact h
 | 1=>simp at hx hy; subst hx; subst hy; exact h'
 | n+2=>simp at hx
theorem leTup3 {m:Nat}{a b c a' b' c':AV}(h:Le m a a')(h':Le m b b')(h'':Le m c c'):Le m (.tup [a,b,c]) (.tup [a',b',c']):=leTup rfl fun i x y hx hy=>by
 match i with
 | 0=>simp at hx hy; subst hx; subst hy; exact h
 | 1=>simp at hx hy; subst hx; subst hy; exact h'
 | 2=>simp at hx hy; subst hx; subst hy; exact h''
 | n+3=>simp at hx
theorem NoTag.int {k:IntKind}{n:Int}:NoTag (intA k n):=NoTag.of_scalar rfl
theorem NoTag.bool {b:Bool}:NoTag (boolA b):=NoTag.of_scalar rfl
theorem NoTag.str {s:ByteArray}:NoTag (.c (.v (.string s))):=NoTag.of_scalar rfl
mutual
def C.bnd:C→Prop
 | .v _=>True
 | .emp=>True
 | .sl _ _ n f=>n≤140737488355328∧∀ i,i<n→bnds (f i)
def bnds:List C→Prop
 | []=>True
 | x::r=>x.bnd∧bnds r
end
def AV.bnd:AV→Prop
 | .c x=>x.bnd
 | .ag xs=>bnds xs
 | .sp _ xs _=>bnds xs
 | _=>True
def bndAll:List AV→Prop
 | []=>True
 | x::r=>x.bnd∧bndAll r
mutual
theorem RepC.bnd {S:Rd}:∀ (x:C) (u:Value),RepC S x u→x.bnd
 | .v _,_,_=>by simp [C.bnd]
 | .emp,_,_=>by simp [C.bnd]
 | .sl t esz n f,u,h=>by
  simp only [RepC] at h
  obtain ⟨a,cap,hu,hc,h1⟩:=h
  simp only [C.bnd]
  refine ⟨hc.2,fun i hi=> ?_⟩
  rcases h1 with h1|⟨b,o,ha,h1⟩
  ·omega
  ·exact RepCs.bnd (f i) _ (h1 i hi).2
theorem RepCs.bnd {S:Rd}{R:Nat→Value→Prop}:∀ (xs:List C) (o:Nat),RepCs S R o xs→bnds xs
 | [],_,_=>by simp [bnds]
 | x::xs,o,h=>by
  simp only [RepCs] at h
  obtain ⟨⟨u,h1,h2⟩,h3⟩:=h
  simp only [bnds]
  exact ⟨RepC.bnd x u h2,RepCs.bnd xs _ h3⟩
end
theorem RepVs.bnd {S:Rd}:∀ (xs:List C) (us:List Value),RepVs S xs us→bnds xs
 | [],_,_=>by simp [bnds]
 | x::xs,us,h=>by
  simp only [RepVs] at h
  obtain ⟨u,r,_,h1,h2⟩:=h
  simp only [bnds]
  exact ⟨RepC.bnd x u h1,RepVs.bnd xs r h2⟩
theorem RelV.bnd {B:List (Option BI)}{S:Rd}(x:AV)(u:Value)(h:RelV B S x u):x.bnd:=by
 cases x<;>simp only [AV.bnd]
 case c x=>simp only [RelV] at h; exact RepC.bnd x u h
 case ag xs=>simp only [RelV] at h; obtain ⟨arr,_,h⟩:=h; exact RepVs.bnd xs _ h
 case sp t xs k=>simp only [RelV] at h; obtain ⟨b,o,_,h⟩:=h; exact RepCs.bnd xs _ h
theorem RelVs.bnd {B:List (Option BI)}{S:Rd}:∀ (xs:List AV) (us:List Value),RelVs B S xs us→bndAll xs
 | [],_,_=>by simp [bndAll]
 | x::xs,us,h=>by
  simp only [RelVs] at h
  obtain ⟨u,r,_,h1,h2⟩:=h
  simp only [bndAll]
  exact ⟨RelV.bnd x u h1,RelVs.bnd xs r h2⟩
section
variable {P:Program} {tb:TB} {gl:Gl}
theorem acall_of_vcb (htb:TbOk P tb)(hmix:P.follows .mixedOrders=true){f:Nat}{fn:Func}{c:Code}(hf:P.funcs[f]? =some fn)(hb:fn.body=some c)
  (hname:(fn.name== "runtime.NumGoroutine")=false) (hok:codeOk fn.ntmps c=true) {args:List AV} {L:List AO} {r:AV} (hr:r.closed=true) (hargs':Nat.ble args.length fn.ntmps=true)
  (h:bndAll args→crossK fn.results.toList c fun U=>vc P tb gl L.length L.length U c (envOf 0 args) L (EndK L.length tb fn.results.toList r)):ACall P gl f args L r :=
 ⟨⟨fn,hf,hname,by rw [hb]; rfl⟩,hr,fun w M B vals hro hL hG hv=>(acall_of_vc htb hmix hf hb hname hok hr hargs' (h (RelVs.bnd _ _ hv))).run w M B vals hro hL hG hv⟩
end
end Go.VA
namespace Go.VA
theorem xc_guard {P:Program}{gl:Gl}{ro:Nat}{f:AV}{args:List AV}{env:Env}{L:List AO}{K:AV→Env→List AO→Prop}(h:XCall P gl ro f args env L K):XCall P gl ro f args env L K:=h
open Go Go.RowKit
def LeAll (n:Nat):List AV→List AV→Prop
 | [],[]=>True
 | x::xs,y::ys=>Le n x y∧LeAll n xs ys
 | _,_=>False
theorem RelVs.leAll {B:List (Option BI)}{S:Rd}{n:Nat}(hn:n≤B.length):∀ {xs ys:List AV} {us:List Value},LeAll n xs ys→RelVs B S xs us→RelVs B S ys us
 | [],[],us,_,h=>h
 | x::xs,y::ys,us,hl,h=>by
  simp only [LeAll] at hl
  simp only [RelVs] at h ⊢
  obtain ⟨u,r,e,h1,h2⟩:=h
  exact ⟨u,r,e,hl.1.h _ _ _ hn h1,RelVs.leAll hn hl.2 h2⟩
 | [],_::_,_,hl,_=>by simp [LeAll] at hl
 | _::_,[],_,hl,_=>by simp [LeAll] at hl
theorem ACall.le {P:Program}{gl:Gl}{f:Nat}{args args':List AV}{L:List AO}{r:AV}(h:ACall P gl f args' L r)(hl:LeAll L.length args args'):ACall P gl f args L r :=
 ⟨h.callable,h.closed,fun w M B vals hro hL hG hv=>h.run w M B vals hro hL hG (RelVs.leAll (by rw [hL.len]; exact Nat.le_refl _) hl hv)⟩
theorem ACall.res {P:Program}{gl:Gl}{f:Nat}{args:List AV}{L:List AO}{r r':AV}(h:ACall P gl f args L r)(hr:r'.closed=true)(hl:Le 0 r r'):ACall P gl f args L r' :=
 ⟨h.callable,hr,fun w M B vals hro hL hG hv=>(h.run w M B vals hro hL hG hv).mono fun e w' ⟨u,h1,h2,h3⟩=>⟨u,h1,h2,hl.h _ _ _ (Nat.zero_le _) h3⟩⟩
def boxes (l:List (List C)):List AO:=l.map fun cs=> .box (cs.map .c)
def Bl (B:List (Option BI)) (b:Nat):Prop:=∃ (id:Nat) (bi:BI),B[id]? =some (some bi)∧bi.b=b
structure MCall (P:Program) (gl:Gl) (f:Nat) (pre:List (List C)) (args:List AV) (post:List (List C)) (r:AV):Prop where
 callable:Callable P f
 closed:r.closed=true
 run:∀ (w:World) (M:Mz) (B:List (Option BI)) (vals:Array Value),M.ro=0 →
  RelL M B (boxes pre) w→GlOk gl (Sr M B (boxes pre) w)→RelVs B (Sr M B (boxes pre) w) args vals.toList →
  Calls P f vals w fun e w'=>∃ u,e= .returned u∧Frm (Bl B) w w'∧RelL M B (boxes post) w'∧RelV B (Sr M B (boxes post) w') r u
def viewN (n:Nat) (L:List AO) (id esz off len:Nat):Option C:=match getO L id with
 | .row e _ f=>match Nat.beq e esz with
  | true=>match Nat.ble n id with
   | true=>some (.sl false esz len fun i=>f (off+i))
   | false=>none
  | false=>none
 | .frz e _ f=>match Nat.beq e esz with
  | true=>some (.sl false esz len fun i=>f (off+i))
  | false=>none
 | _=>none
def viewNs (n:Nat) (L:List AO):List AV→Option (List C)
 | []=>some []
 | y::ys=>match viewNs n L ys with
  | none=>none
  | some zs=>match y with
   | .c x=>some (x::zs)
   | .own id esz off len=>match viewN n L id esz off len with
    | some x=>some (x::zs)
    | none=>none
   | _=>none
def resN (n:Nat) (L:List AO):AV→Option AV
 | .c x=>some (.c x)
 | .ag xs=>some (.ag xs)
 | .own id esz off len=>match viewN n L id esz off len with
  | some y=>some (.c y)
  | none=>none
 | .agx ys=>match viewNs n L ys with
  | some xs=>some (.ag xs)
  | none=>none
 | _=>none
def resM (n:Nat) (env:Env) (tb:TB) (L:List AO):List ResultVar→(List AV→Prop)→Prop
 | [],K=>K []
 | r::rs,K=>match r with
  | .tmp t=>match resN n L (get env t) with
   | some x=>resM n env tb L rs fun xs=>K (x::xs)
   | none=>False
  | .cell a t=>opLoad tb L t (get env a) fun y=>match resN n L y with
   | some x=>resM n env tb L rs fun xs=>K (x::xs)
   | none=>False
def endB (n:Nat) (L:List AO):Nat→List (List C)→Prop
 | _,[]=>True
 | i,cs::r=>(match getO L i with
  | .box ys=>match viewNs n L ys with
   | some zs=>LeCl zs cs
   | none=>False
  | _=>False)∧endB n L (i+1) r
def EndM (tb:TB) (rs:List ResultVar) (post:List (List C)) (r:AV) (x:Ex) (env:Env) (L:List AO):Prop:=match x with
 | .exit _=>False
 | _=>resM post.length env tb L rs fun xs=>Le 0 (retA xs) r∧endB post.length L 0 post
theorem getO_boxes:∀ (l:List (List C)) (i:Nat),getO (boxes l) i=match l[i]? with|some cs=> .box (cs.map .c)|none=> .dead
 | [],i=>by simp [boxes,getO]
 | x::r,0=>by simp [boxes,getO]
 | x::r,i+1=>by
  have:=getO_boxes r i
  simp only [boxes,List.map_cons,getO,List.getElem?_cons_succ] at this ⊢
  exact this
theorem boxes_len (l:List (List C)):(boxes l).length=l.length:=by simp [boxes]
theorem boxes_live {l:List (List C)}{i:Nat}:(getO (boxes l) i).live=true ↔ i<l.length:=by
 rw [getO_boxes]
 by_cases h:i<l.length
 ·rw [List.getElem?_eq_getElem h]; simp [h,AO.live]
 ·rw [List.getElem?_eq_none (by omega)]; simp [h,AO.live]
theorem repVs_map {B:List (Option BI)}{S:Rd}:∀ (xs:List C) (us:List Value),RelVs B S (xs.map .c) us ↔ RepVs S xs us
 | [],us=>by simp [RelVs,RepVs]
 | x::xs,us=>by
  simp only [List.map_cons,RelVs,RepVs,RelV]
  constructor
  ·rintro ⟨u,r,e,h1,h2⟩; exact ⟨u,r,e,h1,(repVs_map xs r).1 h2⟩
  ·rintro ⟨u,r,e,h1,h2⟩; exact ⟨u,r,e,h1,(repVs_map xs r).2 h2⟩
section
variable {P:Program} {tb:TB} {gl:Gl}
structure Fgt (M:Mz) (B:List (Option BI)) (L:List AO) (w:World) (n:Nat) (S':Rd):Prop where
 rel:RelL M B L w
 le:(Sr M B L w).le S'
 own:∀ (id:Nat) (bi:BI),n≤id→B[id]? =some (some bi)→(getO L id).live=true→∀ o u,w.cell? ⟨bi.b,o,none⟩=some u→S' false bi.b o u
theorem viewN_sound {M:Mz}{B:List (Option BI)}{L:List AO}{w:World}{n:Nat}{S':Rd}(h:Fgt M B L w n S'){id esz off len:Nat}{y:C}
  (hv:viewN n L id esz off len=some y) {u:Value} (hu:RelV B (Sr M B L w) (.own id esz off len) u):RepC S' y u:=by
 unfold viewN at hv
 have fin:∀ (f:Nat→List C),y= .sl false esz len (fun i=>f (off+i)) →
   (∀ bi,B[id]? =some (some bi)→∀ i,i<bi.n→(f i).length=esz∧RepCs S' (S' false bi.b) (bi.o+i*esz) (f i))→RepC S' y u:=by
  intro f hy hf
  subst hy
  simp only [RelV] at hu
  simp only [RepC]
  rcases hu with ⟨bi,cap,hb,rfl,h1,h2,h3⟩|⟨rfl,⟨a,rfl⟩,_⟩
  ·refine ⟨_,cap,rfl,h1,?_⟩
   by_cases h0:len=0
   ·exact .inl h0
   ·refine .inr ⟨bi.b,_,rfl,fun i hi=> ?_⟩
    have:=hf bi hb (off+i) (by omega)
    refine ⟨this.1,?_⟩
    rw [show bi.o+off*esz+i*esz=bi.o+(off+i)*esz from by rw [Nat.add_mul]; omega]
    exact this.2
  ·exact ⟨a,0,rfl,⟨Nat.le_refl _,Nat.zero_le _⟩,.inl rfl⟩
 split at hv
 ·rename_i e m f hO
  split at hv
  ·rename_i he
   obtain rfl:=Nat.beq_spec he
   split at hv
   ·rename_i hr
    simp only [Option.some.injEq] at hv
    refine fin f hv.symm fun bi hb i hi=> ?_
    have:=h.rel.obj id _ hb
    rw [hO] at this
    obtain ⟨hn,cs,ty,h1,h2,h3,h4⟩:=this
    have:=h4 i (by omega)
    refine ⟨this.1,RepCs.mono h.le (fun o u hh=>h.own id bi (Nat.le_of_ble_eq_true hr) hb (by rw [hO]; rfl) o u (by simpa [h1.cell] using hh)) _ _ this.2⟩
   ·simp at hv
  ·simp at hv
 ·rename_i e m f hO
  split at hv
  ·rename_i he
   obtain rfl:=Nat.beq_spec he
   simp only [Option.some.injEq] at hv
   refine fin f hv.symm fun bi hb i hi=> ?_
   have:=h.rel.obj id _ hb
   rw [hO] at this
   obtain ⟨hn,h4⟩:=this
   exact ⟨(h4 i (by omega)).1,RepCs.mono h.le (fun o u hh=>h.le _ _ _ _ hh) _ _ (h4 i (by omega)).2⟩
  ·simp at hv
 ·simp at hv
theorem viewNs_sound {M:Mz}{B:List (Option BI)}{L:List AO}{w:World}{n:Nat}{S':Rd}(h:Fgt M B L w n S'):∀ (ys:List AV) (xs:List C) (us:List Value),
  viewNs n L ys=some xs→RelVs B (Sr M B L w) ys us→RepVs S' xs us
 | [],xs,us,hv,hu=>by
  simp only [viewNs,Option.some.injEq] at hv; subst hv
  simpa [RelVs,RepVs] using hu
 | y::ys,xs,us,hv,hu=>by
  simp only [viewNs] at hv
  simp only [RelVs] at hu
  obtain ⟨u,r,rfl,h1,h2⟩:=hu
  split at hv
  ·simp at hv
  ·rename_i zs hz
   have ih:=viewNs_sound h ys zs r hz h2
   split at hv
   ·simp only [Option.some.injEq] at hv; subst hv
    simp only [RelV] at h1
    simp only [RepVs]
    exact ⟨u,r,rfl,RepC.mono h.le _ _ h1,ih⟩
   ·split at hv
    ·rename_i y' hy
     simp only [Option.some.injEq] at hv; subst hv
     simp only [RepVs]
     exact ⟨u,r,rfl,viewN_sound h hy h1,ih⟩
    ·simp at hv
   ·simp at hv
theorem resN_sound {M:Mz}{B B2:List (Option BI)}{L:List AO}{w:World}{n:Nat}{S':Rd}(h:Fgt M B L w n S'){x y:AV}(hv:resN n L x=some y){u:Value}(hu:RelV B (Sr M B L w) x u):RelV B2 S' y u:=by
 unfold resN at hv
 split at hv
 ·simp only [Option.some.injEq] at hv; subst hv
  simp only [RelV] at hu ⊢
  exact RepC.mono h.le _ _ hu
 ·simp only [Option.some.injEq] at hv; subst hv
  simp only [RelV] at hu ⊢
  obtain ⟨arr,e,hu⟩:=hu
  exact ⟨arr,e,RepVs.mono h.le _ _ hu⟩
 ·split at hv
  ·rename_i z hz
   simp only [Option.some.injEq] at hv; subst hv
   simp only [RelV]
   exact viewN_sound h hz hu
  ·simp at hv
 ·split at hv
  ·rename_i z hz
   simp only [Option.some.injEq] at hv; subst hv
   simp only [RelV] at hu ⊢
   obtain ⟨arr,e,_,hu⟩:=hu
   exact ⟨arr,e,viewNs_sound h _ _ _ hz hu⟩
  ·simp at hv
 ·simp at hv
theorem resM_sound (htb:TbOk P tb){X:Fx}{B B2:List (Option BI)}{env:Env}{L:List AO}{a:Act}{w:World}(h:St X B env L a w)(hn:NoGd env){n:Nat}{S':Rd}(hf:Fgt X.M B L w n S') :
  ∀ (rs:List ResultVar) (K:List AV→Prop),resM n env tb L rs K→∃ xs vs,K xs∧rs.length=vs.length∧(∀ (i:Nat) r v,rs[i]? =some r→vs[i]? =some v→(rvOne a.tmps r).run P w= .ok v w) ∧
   RelVs B2 S' xs vs
 | [],K,hK=>⟨[],[],hK,rfl,by simp,by simp [RelVs]⟩
 | r::rs,K,hK=>by
  have hsl:∀ t,RelV B (Sr X.M B L w) (get env t) (a.tmps.getD t undef):=by
   intro t
   have:=h.relE t
   rwa [relSl_iff] at this
   cases hq:get env t<;>try rfl
   have:=hn _ (get_key hq)
   simp at this
  have fin:∀ (x:AV) (v:Value),(rvOne a.tmps r).run P w= .ok v w→RelV B2 S' x v→resM n env tb L rs (fun xs=>K (x::xs)) →
    ∃ xs vs,K xs∧(r::rs).length=vs.length∧(∀ (i:Nat) r' v,(r::rs)[i]? =some r'→vs[i]? =some v→(rvOne a.tmps r').run P w= .ok v w)∧RelVs B2 S' xs vs:=by
   intro x v h1 h2 h3
   obtain ⟨xs,vs,k1,k2,k3,k4⟩:=resM_sound htb h hn hf rs _ h3
   refine ⟨x::xs,v::vs,k1,by simp [k2],fun i r' v' e1 e2=> ?_,?_⟩
   ·cases i with
    | zero=>simp at e1 e2; subst e1; subst e2; exact h1
    | succ i=>exact k3 i r' v' (by simpa using e1) (by simpa using e2)
   ·simp only [RelVs]; exact ⟨v,vs,rfl,h2,k4⟩
  simp only [resM] at hK
  split at hK
  ·rename_i t
   split at hK
   ·rename_i x hx
    exact fin x _ rfl (resN_sound hf hx (hsl t)) hK
   ·exact hK.elim
  ·rename_i ad t
   obtain ⟨y,hy,hh⟩:=opLoad_sound htb hK
   split at hy
   ·rename_i x hx
    obtain ⟨v,h1,h2⟩:=hh X.M B w _ h.relL (hsl ad)
    refine fin x v ?_ (resN_sound hf hx h2) hy
    simp only [rvOne]
    generalize a.tmps.getD ad undef=p at h1
    cases p with
    | pointer q =>
     cases q with
     | some q=>simpa [Instr.loadAt,Instr.sureAddr,asAddr] using h1
     | none=>simp [Instr.loadAt,Instr.sureAddr] at h1
    | _=>simp [Instr.loadAt,Instr.sureAddr] at h1
   ·exact hy.elim
theorem endB_get {n:Nat}{L:List AO}:∀ {l:List (List C)} {i:Nat},endB n L i l→∀ (j:Nat) cs,l[j]? =some cs→∃ ys zs,getO L (i+j)= .box ys∧viewNs n L ys=some zs∧LeCl zs cs
 | [],i,_,j,cs,h=>by simp at h
 | x::r,i,h,j,cs,hj=>by
  simp only [endB] at h
  cases j with
  | zero =>
   simp only [List.getElem?_cons_zero,Option.some.injEq] at hj
   subst hj
   have h1:=h.1
   split at h1
   ·rename_i ys hO
    split at h1
    ·rename_i zs hz
     exact ⟨ys,zs,hO,hz,h1⟩
    ·exact h1.elim
   ·exact h1.elim
  | succ j =>
   obtain ⟨ys,zs,k1,k2⟩:=endB_get h.2 j cs (by simpa using hj)
   exact ⟨ys,zs,by rw [← k1]; congr 1; omega,k2⟩
theorem mcall_of_vc (htb:TbOk P tb)(hmix:P.follows .mixedOrders=true){f:Nat}{fn:Func}{c:Code}(hf:P.funcs[f]? =some fn)(hb:fn.body=some c)
  (hname:(fn.name== "runtime.NumGoroutine")=false) (hok:codeOk fn.ntmps c=true) {pre post:List (List C)} {args:List AV} {r:AV} (hr:r.closed=true) (hargs':Nat.ble args.length fn.ntmps=true) (hpp:post.length=pre.length)
  (h:crossK fn.results.toList c fun U=>vc P tb gl 0 pre.length U c (envOf 0 args) (boxes pre) (EndM tb fn.results.toList post r)):MCall P gl f pre args post r:=by
 rw [crossK_eq] at h
 have hargs:=Nat.le_of_ble_eq_true hargs'
 refine ⟨⟨fn,hf,hname,by rw [hb]; rfl⟩,hr,fun w M B vals hro hL hG hv=> ?_⟩
 have hlv:=RelVs.length _ _ hv
 rw [Array.length_toList] at hlv
 let X:Fx:=⟨gl,w,M,B,boxes pre,fn.ntmps,Bl B⟩
 have hS:St X B (envOf 0 args) (boxes pre) { tmps:=vals++Array.replicate (fn.ntmps-vals.size) undef,defers:=[] } w :=
  ⟨hL,hG,RelE.envOf hv fn.ntmps,Frm.refl _ _,fun id bi h1 h2 h3=> .inr ⟨id,bi,h2,rfl⟩,fun id h=>by simp only [X,hro] at h; omega,by simp only [X,hro]; omega,Nat.le_refl _,fun id _ _=> .inr ⟨rfl,fun _=>rfl⟩,rfl,by
   simp only [Array.size_append,Array.size_replicate,X]; omega⟩
 refine calls_of_wp hf hb (vc_sound htb hmix (X:=X) rfl hro (by simp [X,boxes_len]) c _ (boxes pre) B _ w _ _ hok (envOf_noGd 0 args) hS h ?_)
 intro e env' L' B' a' w' hK hn' hS'
 have key:∀ (K:Prop),(resM post.length env' tb L' fn.results.toList fun xs=>Le 0 (retA xs) r∧endB post.length L' 0 post) →
   (a'.defers=[]∧∃ v,(results fn a'.tmps).run P w'= .ok v w'∧(∃ u,Ending.returned v= .returned u∧Frm (Bl B) w w'∧RelL M B (boxes post) w'∧RelV B (Sr M B (boxes post) w') r u)):=by
  intro _ hres
  have hBL:B.length=pre.length:=by have:=hL.len; rwa [boxes_len] at this
  have hend:endB post.length L' 0 post:=by
   have:∀ (rs:List ResultVar) (K:List AV→Prop),resM post.length env' tb L' rs K→∃ xs,K xs:=by
    intro rs
    induction rs with
    | nil=>intro K h; exact ⟨_,h⟩
    | cons q rs ih =>
     intro K h
     simp only [resM] at h
     split at h
     ·split at h
      ·obtain ⟨xs,h⟩:=ih _ h; exact ⟨_,h⟩
      ·exact h.elim
     ·obtain ⟨y,hy,_⟩:=opLoad_sound htb h
      split at hy
      ·obtain ⟨xs,h⟩:=ih _ hy; exact ⟨_,h⟩
      ·exact hy.elim
   obtain ⟨_,h⟩:=this _ _ hres
   exact h.2
  have hl0:pre.length≤L'.length:=by have:=hS'.l0; simpa [X,boxes_len] using this
  have hbox:∀ (id:Nat),id<post.length→∃ ys zs cs,post[id]? =some cs∧getO L' id= .box ys∧viewNs post.length L' ys=some zs∧LeCl zs cs∧B'[id]? =B[id]? :=by
   intro id hid
   obtain ⟨ys,zs,k1,k2,k3⟩:=endB_get hend id post[id] (List.getElem?_eq_getElem hid)
   rw [Nat.zero_add] at k1
   refine ⟨ys,zs,_,List.getElem?_eq_getElem hid,k1,k2,k3,?_⟩
   have:=hS'.knd id (by simp only [X,boxes_len]; omega) (by omega)
   rw [k1] at this
   rcases this with h0|⟨_,h0⟩
   ·simp [AO.kd] at h0
   ·exact h0 (by simp [AO.kd])
  have hle:(Sr M B' L' w').le (Sr M B (boxes post) w'):=by
   intro t b o u hh
   refine ⟨fun hm=>hh.1 ?_,hh.2⟩
   have mem:∀ (id:Nat) (bi:BI),B[id]? =some (some bi)→(getO (boxes post) id).live=true→B'[id]? =some (some bi)∧(getO L' id).live=true:=by
    intro id bi h1 h2
    obtain ⟨ys,_,_,_,k1,_,_,k4⟩:=hbox id (boxes_live.1 h2)
    exact ⟨k4.trans h1,by rw [k1]; rfl⟩
   cases t with
   | false =>
    rcases hm with hm|⟨id,bi,h1,h2,h3⟩
    ·exact .inl hm
    ·obtain ⟨k1,k2⟩:=mem id bi h1 h3
     exact .inr ⟨id,bi,k1,h2,k2⟩
   | true =>
    rcases hm with hm|⟨id,bi,h0,h1,h2,h3⟩
    ·exact .inl hm
    ·obtain ⟨k1,k2⟩:=mem id bi h1 h3
     exact .inr ⟨id,bi,h0,k1,h2,k2⟩
  have hf:Fgt M B' L' w' post.length (Sr M B (boxes post) w'):=by
   refine ⟨hS'.relL,hle,fun id bi hid hb hl o u hc=>⟨?_,hc⟩⟩
   rintro (hm|⟨id',bi',h1,h2,h3⟩)
   ·exact hS'.relL.notM id bi hb hl hm
   ·have hid':=boxes_live.1 h3
    obtain ⟨ys,_,_,_,k1,_,_,k4⟩:=hbox id' hid'
    exact hS'.relL.dist id' id bi' bi (by omega) (k4.trans h1) hb (by rw [k1]; rfl) hl h2
  obtain ⟨xs,vs,⟨k1,_⟩,k2,k3,k4⟩:=resM_sound (B2:=B) htb hS' hn' hf _ _ hres
  refine ⟨hS'.dfr,_,run_results fn a'.tmps w' vs k2 k3,_,rfl,hS'.below,?_,k1.h _ _ _ (Nat.zero_le _) (retA_sound k4)⟩
  have hsz:=hS'.below.size
  exact {
   len:=by rw [boxes_len,hpp]; exact hBL
   bnd:=fun id bi h=>Nat.lt_of_lt_of_le (hL.bnd id bi h) hsz
   mbnd:=fun b h=>Nat.lt_of_lt_of_le (hL.mbnd b h) hsz
   notM:=fun id bi h hl=>hL.notM id bi h (by rw [boxes_live] at hl ⊢; omega)
   dist:=fun i j bi bj hij hi hj hli hlj=>hL.dist i j bi bj hij hi hj (by rw [boxes_live] at hli ⊢; omega) (by rw [boxes_live] at hlj ⊢; omega)
   obj:=fun id bo h=>by
    have hid:id<post.length:=by have:=(List.getElem?_eq_some_iff.1 h).1; omega
    obtain ⟨ys,zs,cs,q1,q2,q3,q4,q5⟩:=hbox id hid
    have:=hS'.relL.obj id bo (q5.trans h)
    rw [q2] at this
    obtain ⟨bi,cells,ty,rfl,g1,g2,g3,g4,g5⟩:=this
    rw [getO_boxes,q1]
    exact ⟨bi,cells,ty,rfl,g1,g2,g3,g4,(repVs_map _ _).2 (LeCl.vs q4 _ _ (viewNs_sound hf _ _ _ q3 g5))⟩ }
 cases e with
 | normal=>exact key True hK
 | ret=>exact key True hK
 | exit i=>exact hK.elim
end
end Go.VA
namespace Go.VA
open Go Go.RowKit
def renA (sel:List Nat):AV→AV
 | .ptr i off=> .ptr (sel.getD i 0) off
 | x=>x
def argOk (n:Nat):AV→Bool
 | .ptr i _=>Nat.blt i n
 | x=>x.closed
def argsOk (n:Nat):List AV→Bool
 | []=>true
 | x::r=>match argOk n x with|true=>argsOk n r|false=>false
def renAs (sel:List Nat):List AV→List AV
 | []=>[]
 | x::r=>renA sel x::renAs sel r
def boxCs:AO→Option (List C)
 | .box ys=>toCs ys
 | _=>none
def selOk (ro:Nat) (L:List AO):List Nat→List (List C)→Prop
 | [],[]=>True
 | s::r,cs::pr=>(Nat.ble ro s=true∧match boxCs (getO L s) with|some zs=>LeCl zs cs|none=>False)∧selOk ro L r pr
 | _,_=>False
def distN:List Nat→Bool
 | []=>true
 | x::r=>match memN x r with|true=>false|false=>distN r
def putS:List Nat→List (List C)→List AO→List AO
 | s::r,cs::pr,L=>putS r pr (setO L s (.box (cs.map .c)))
 | _,_,L=>L
theorem toCs_map:∀ {ys:List AV} {zs:List C},toCs ys=some zs→ys=zs.map .c
 | [],zs,h=>by simp [toCs] at h; subst h; rfl
 | y::ys,zs,h=>by
  cases y<;>simp only [toCs,reduceCtorEq] at h
  split at h
  ·rename_i xs hx
   simp only [Option.some.injEq] at h
   subst h
   rw [toCs_map hx]; rfl
  ·simp at h
theorem selOk_get {ro:Nat}{L:List AO}:∀ {sel:List Nat} {pre:List (List C)},selOk ro L sel pre→sel.length=pre.length ∧
  ∀ (i s:Nat) cs,sel[i]? =some s→pre[i]? =some cs→ro≤s∧∃ zs,getO L s= .box (zs.map .c)∧LeCl zs cs
 | [],[],_=>⟨rfl,by simp⟩
 | s::r,cs::pr,h=>by
  simp only [selOk] at h
  obtain ⟨⟨h1,h2⟩,h3⟩:=h
  obtain ⟨k1,k2⟩:=selOk_get h3
  refine ⟨by simp [k1],fun i s' cs' hs hc=> ?_⟩
  cases i with
  | zero =>
   simp at hs hc
   subst hs; subst hc
   refine ⟨Nat.le_of_ble_eq_true h1,?_⟩
   split at h2
   ·rename_i zs hz
    refine ⟨zs,?_,h2⟩
    unfold boxCs at hz
    split at hz
    ·rename_i ys hO; rw [hO,toCs_map hz]
    ·simp at hz
   ·exact h2.elim
  | succ i=>exact k2 i s' cs' (by simpa using hs) (by simpa using hc)
 | [],_::_,h=>h.elim
 | _::_,[],h=>h.elim
theorem distN_spec:∀ {l:List Nat},distN l=true→∀ (i j:Nat) x,i≠j→l[i]? =some x→l[j]? =some x→False
 | [],_,i,j,x,_,h,_=>by simp at h
 | y::r,h,i,j,x,hij,hi,hj=>by
  simp only [distN] at h
  split at h
  ·simp at h
  ·rename_i hm
   have hn:y ∉ r:=fun e=>by rw [memN_spec.2 e] at hm; simp at hm
   cases i with
   | zero =>
    cases j with
    | zero=>exact hij rfl
    | succ j=>simp at hi hj; subst hi; exact hn (List.mem_of_getElem? hj)
   | succ i =>
    cases j with
    | zero=>simp at hi hj; subst hj; exact hn (List.mem_of_getElem? hi)
    | succ j=>exact distN_spec h i j x (by omega) (by simpa using hi) (by simpa using hj)
theorem putS_length:∀ (sel:List Nat) (post:List (List C)) (L:List AO),(putS sel post L).length=L.length
 | [],_,_=>by simp [putS]
 | _::_,[],_=>by simp [putS]
 | s::r,cs::pr,L=>by simp only [putS]; rw [putS_length,setO_length]
theorem getO_putS:∀ (sel:List Nat) (post:List (List C)) (L:List AO) (j:Nat),(∀ s ∈ sel,s<L.length)→distN sel=true→sel.length=post.length →
  (j ∉ sel→getO (putS sel post L) j=getO L j)∧∀ (i:Nat) cs,sel[i]? =some j→post[i]? =some cs→getO (putS sel post L) j= .box (cs.map .c)
 | [],[],L,j,_,_,_=>⟨fun _=>rfl,by simp⟩
 | [],_::_,_,_,_,_,h=>by simp at h
 | _::_,[],_,_,_,_,h=>by simp at h
 | s::r,cs::pr,L,j,hlt,hd,hl=>by
  have hd':memN s r=false∧distN r=true:=by
   simp only [distN] at hd
   split at hd
   ·simp at hd
   ·rename_i h; exact ⟨h,hd⟩
  have hs:s ∉ r:=fun e=>by have:=hd'.1; rw [memN_spec.2 e] at this; simp at this
  have hsl:=hlt s (by simp)
  obtain ⟨k1,k2⟩:=getO_putS r pr (setO L s (.box (cs.map .c))) j (fun x hx=>by rw [setO_length]; exact hlt x (by simp [hx])) hd'.2 (by simpa using hl)
  simp only [putS]
  refine ⟨fun hj=> ?_,fun i cs' hi hc=> ?_⟩
  ·simp only [List.mem_cons,not_or] at hj
   rw [k1 hj.2,getO_setO L s j _ hsl,if_neg hj.1]
  ·cases i with
   | zero =>
    simp at hi hc
    subst hi; subst hc
    rw [k1 hs,getO_setO L s s _ hsl,if_pos rfl]
   | succ i=>exact k2 i cs' (by simpa using hi) (by simpa using hc)
section
variable {P:Program} {gl:Gl}
theorem RelO_keep {B:List (Option BI)}{S S':Rd}{w w':World}(hS:S.le S'):∀ (o:AO) (bo:Option BI),(o.live=true→∀ b,bo=some b→w'.heap[b.b]? =w.heap[b.b]?)→RelO B S w o bo→RelO B S' w' o bo
 | .box xs,bo,hk,hr=>by
  obtain ⟨b,cs,ty,rfl,k1,k2,k3,k4,k5⟩:=hr
  exact ⟨b,cs,ty,rfl,by rw [hk rfl b rfl]; exact k1,k2,k3,k4,RelVs.mono (Ble.refl _) hS _ _ k5⟩
 | .row e n f,none,hk,hr=>hr
 | .row e n f,some b,hk,hr=>by
  obtain ⟨h0,cs,ty,k1,k2,k3,k4⟩:=hr
  exact ⟨h0,cs,ty,by unfold RowAt; rw [hk rfl b rfl]; exact k1,k2,k3,fun i hi=>⟨(k4 i hi).1,RepCs.mono hS (fun _ _ x=>x) _ _ (k4 i hi).2⟩⟩
 | .frz e n f,none,hk,hr=>hr
 | .frz e n f,some b,hk,hr=>by
  obtain ⟨h0,k4⟩:=hr
  exact ⟨h0,fun i hi=>⟨(k4 i hi).1,RepCs.mono hS (hS false b.b) _ _ (k4 i hi).2⟩⟩
 | .mp m,bo,hk,hr=>by
  obtain ⟨b,es,clock,rfl,k1,k2,k3⟩:=hr
  exact ⟨b,es,clock,rfl,by rw [hk rfl b rfl]; exact k1,RelM.mono hS _ _ k2,k3⟩
 | .amb vs xs,bo,hk,hr=>RelVs.mono (Ble.refl _) hS _ _ hr
 | .dead,_,_,_=>trivial
theorem args_ren {B B':List (Option BI)}{S S':Rd}{sel:List Nat}(hS:S.le S')(hB:∀ (i s:Nat),sel[i]? =some s→B'[i]? =B[s]?):∀ (xs:List AV) (us:List Value),argsOk sel.length xs=true→RelVs B S (renAs sel xs) us→RelVs B' S' xs us
 | [],us,_,h=>by simpa [renAs,RelVs] using h
 | x::r,us,hc,h=>by
  simp only [argsOk] at hc
  split at hc
  ·rename_i h0
   simp only [renAs,RelVs] at h ⊢
   obtain ⟨u,q,e,h1,h2⟩:=h
   refine ⟨u,q,e,?_,args_ren hS hB r q hc h2⟩
   cases x with
   | ptr i off =>
    simp only [argOk] at h0
    have hi:=bltN h0
    simp only [renA,RelV] at h1 ⊢
    obtain ⟨bi,g1,g2⟩:=h1
    have hs:sel[i]? =some (sel.getD i 0):=by rw [List.getD_eq_getElem?_getD,List.getElem?_eq_getElem hi]; rfl
    exact ⟨bi,by rw [hB i _ hs]; exact g1,g2⟩
   | _=>exact closed_rel hS _ _ h0 h1
  ·simp at hc
theorem xc_m {f:Nat}{pre post:List (List C)}{args':List AV}{r:AV}(h:MCall P gl f pre args' post r)(sel:List Nat){ro:Nat}{args:List AV}{env:Env}{L:List AO}{K:AV→Env→List AO→Prop}
  (hargs:renAs sel args'=args) (hao:argsOk sel.length args'=true) (hd:distN sel=true) (hpp:post.length=pre.length) (hsel:selOk ro L sel pre)
  (hK:forceL (putS sel post L) fun L'=>K r env L'):XCall P gl ro (.fn f [] []) args env L K:=by
 refine ⟨fun X B a w o c fo hgl hro hS ho hc hfr hav=> ?_⟩
 rw [forceL_eq] at hK
 subst hargs
 subst hro
 obtain ⟨hsl,hsg⟩:=selOk_get hsel
 simp only [RelV,RelVs] at hfr
 obtain ⟨a1,a2,hfv,h1,h2⟩:=hfr
 have ha1:a1= #[]:=by simpa using h1
 have ha2:a2= #[]:=by simpa using h2
 subst ha1; subst ha2
 have hL:=hS.relL
 have sg:∀ (s:Nat),s ∈ sel→X.M.ro≤s∧s<L.length∧(getO L s).live=true∧(getO L s).kd=1:=by
  intro s hs
  obtain ⟨i,hi,rfl⟩:=List.mem_iff_getElem.1 hs
  obtain ⟨k1,zs,k2,_⟩:=hsg i sel[i] (pre[i]'(by omega)) (List.getElem?_eq_getElem hi) (List.getElem?_eq_getElem (by omega))
  have hl:(getO L sel[i]).live=true:=by rw [k2]; rfl
  exact ⟨k1,live_lt hl,hl,by rw [k2]; rfl⟩
 let rest:Bool→Nat→Prop:=fun t b=>match t with
  | false=>X.M.f b∨∃ (id:Nat) (bi:BI),id ∉ sel∧B[id]? =some (some bi)∧bi.b=b∧(getO L id).live=true
  | true=>X.M.t b∨∃ (id:Nat) (bi:BI),id ∉ sel∧X.M.ro≤id∧B[id]? =some (some bi)∧bi.b=b∧(getO L id).live=true
 let M':Mz:=⟨0,rest false,rest true,fun b hb=>by
  rcases hb with hb|⟨id,bi,h0,_,h1⟩
  ·exact .inl (X.M.le b hb)
  ·exact .inr ⟨id,bi,h0,h1⟩⟩
 let B':List (Option BI):=sel.map fun s=>(B[s]?).getD none
 have hB':∀ (i s:Nat),sel[i]? =some s→B'[i]? =B[s]? :=by
  intro i s hs
  have hlt:s<B.length:=by rw [hL.len]; exact (sg s (List.mem_of_getElem? hs)).2.1
  simp only [B',List.getElem?_map,hs,Option.map_some,List.getElem?_eq_getElem hlt,Option.getD_some]
 have hB'i:∀ (i:Nat) (bo:Option BI),B'[i]? =some bo→∃ s,sel[i]? =some s∧B[s]? =some bo:=by
  intro i bo hi
  have hlt:i<sel.length:=by have:=(List.getElem?_eq_some_iff.1 hi).1; simpa [B'] using this
  exact ⟨sel[i],List.getElem?_eq_getElem hlt,by rw [← hB' i _ (List.getElem?_eq_getElem hlt)]; exact hi⟩
 have hmu:∀ (Ls Lb:List AO),Ls.length=sel.length→(∀ i,i<sel.length→(getO Ls i).live=true)→(∀ j,(getO Lb j).live=(getO L j).live)→∀ t b,MU M' B' Ls t b ↔ MU X.M B Lb t b:=by
  intro Ls Lb hlen hlv hlb t b
  cases t with
  | false =>
   constructor
   ·rintro (hm|⟨i,bi,h1,h2,_⟩)
    ·rcases hm with hm|⟨id,bi,_,k1,k2,k3⟩
     ·exact .inl hm
     ·exact .inr ⟨id,bi,k1,k2,by rw [hlb]; exact k3⟩
    ·obtain ⟨s,k1,k2⟩:=hB'i i _ h1
     exact .inr ⟨s,bi,k2,h2,by rw [hlb]; exact (sg s (List.mem_of_getElem? k1)).2.2.1⟩
   ·rintro (hm|⟨id,bi,h1,h2,h3⟩)
    ·exact .inl (.inl hm)
    ·rw [hlb] at h3
     by_cases hid:id ∈ sel
     ·obtain ⟨i,hi,rfl⟩:=List.mem_iff_getElem.1 hid
      exact .inr ⟨i,bi,by rw [hB' i _ (List.getElem?_eq_getElem hi)]; exact h1,h2,hlv i hi⟩
     ·exact .inl (.inr ⟨id,bi,hid,h1,h2,h3⟩)
  | true =>
   constructor
   ·rintro (hm|⟨i,bi,_,h1,h2,_⟩)
    ·rcases hm with hm|⟨id,bi,_,k0,k1,k2,k3⟩
     ·exact .inl hm
     ·exact .inr ⟨id,bi,k0,k1,k2,by rw [hlb]; exact k3⟩
    ·obtain ⟨s,k1,k2⟩:=hB'i i _ h1
     have:=sg s (List.mem_of_getElem? k1)
     exact .inr ⟨s,bi,this.1,k2,h2,by rw [hlb]; exact this.2.2.1⟩
   ·rintro (hm|⟨id,bi,h0,h1,h2,h3⟩)
    ·exact .inl (.inl hm)
    ·rw [hlb] at h3
     by_cases hid:id ∈ sel
     ·obtain ⟨i,hi,rfl⟩:=List.mem_iff_getElem.1 hid
      exact .inr ⟨i,bi,Nat.zero_le _,by rw [hB' i _ (List.getElem?_eq_getElem hi)]; exact h1,h2,hlv i hi⟩
     ·exact .inl (.inr ⟨id,bi,hid,h0,h1,h2,h3⟩)
 have hpl:(boxes pre).length=sel.length:=by rw [boxes_len]; exact hsl.symm
 have hmu0:=hmu (boxes pre) L hpl (fun i hi=>boxes_live.2 (by omega)) (fun _=>rfl)
 have hSr:∀ w0,(Sr X.M B L w0).le (Sr M' B' (boxes pre) w0):=fun w0 t b q u hh=>⟨fun hm=>hh.1 ((hmu0 t b).1 hm),hh.2⟩
 have hnM:∀ (i:Nat) (bi:BI),B'[i]? =some (some bi)→¬ rest false bi.b:=by
  intro i bi hi
  obtain ⟨s,k1,k2⟩:=hB'i i _ hi
  have hs:=sg s (List.mem_of_getElem? k1)
  rintro (hm|⟨id,bi',q0,q1,q2,q3⟩)
  ·exact hL.notM s bi k2 hs.2.2.1 hm
  ·exact hL.dist id s bi' bi (fun e=>q0 (e ▸ List.mem_of_getElem? k1)) q1 k2 q3 hs.2.2.1 q2
 have hdst:∀ (i j:Nat) (bi bj:BI),i≠j→B'[i]? =some (some bi)→B'[j]? =some (some bj)→bi.b≠bj.b:=by
  intro i j bi bj hij hi hj
  obtain ⟨s,k1,k2⟩:=hB'i i _ hi
  obtain ⟨s',k3,k4⟩:=hB'i j _ hj
  have e1:=sg s (List.mem_of_getElem? k1)
  have e2:=sg s' (List.mem_of_getElem? k3)
  exact hL.dist s s' bi bj (fun e=>distN_spec hd i j s hij k1 (e ▸ k3)) k2 k4 e1.2.2.1 e2.2.2.1
 have hRel:RelL M' B' (boxes pre) w:={
  len:=by rw [hpl]; simp [B']
  bnd:=fun i bi hi=>by obtain ⟨s,_,k2⟩:=hB'i i _ hi; exact hL.bnd s bi k2
  mbnd:=fun b hb=>by
   rcases hb with hb|⟨id,bi,_,k1,k2,_⟩
   ·exact hL.mbnd b hb
   ·rw [← k2]; exact hL.bnd id bi k1
  notM:=fun i bi hi _=>hnM i bi hi
  dist:=fun i j bi bj hij hi hj _ _=>hdst i j bi bj hij hi hj
  obj:=fun i bo hi=>by
   obtain ⟨s,k1,k2⟩:=hB'i i _ hi
   have hlt:i<pre.length:=by have:=(List.getElem?_eq_some_iff.1 k1).1; omega
   obtain ⟨_,zs,g1,g2⟩:=hsg i s pre[i] k1 (List.getElem?_eq_getElem hlt)
   have:=hL.obj s bo k2
   rw [g1] at this
   obtain ⟨bi,cells,ty,rfl,q1,q2,q3,q4,q5⟩:=this
   rw [getO_boxes,List.getElem?_eq_getElem hlt]
   exact ⟨bi,cells,ty,rfl,q1,q2,q3,q4,(repVs_map _ _).2 (LeCl.vs g2 _ _ (RepVs.mono (hSr w) _ _ ((repVs_map _ _).1 q5)))⟩ }
 have hG:GlOk gl (Sr M' B' (boxes pre) w):=by rw [← hgl]; exact hS.glob.mono (hSr w)
 have hav':RelVs B' (Sr M' B' (boxes pre) w) args' (c.args.map a.eval).toList:=args_ren (hSr w) hB' _ _ hao hav
 have hrun:=h.run w M' B' (c.args.map a.eval) rfl hRel hG hav'
 intro next Q hn
 unfold Oper.wp
 rw [run_enter ho hc hfv h.callable,Oper.upon_enter]
 have he:(#[]++c.args.map a.eval++ #[]:Array Value)=c.args.map a.eval:=by simp
 rw [he]
 refine hrun.mono ?_
 rintro e w' ⟨u,rfl,hfrm,hRel',hu⟩
 have hlts:∀ s ∈ sel,s<L.length:=fun s hs=>(sg s hs).2.1
 have hps:sel.length=post.length:=by omega
 have hput:=fun j=>getO_putS sel post L j hlts hd hps
 have hkind:∀ j,(getO (putS sel post L) j).kd=(getO L j).kd∧(getO (putS sel post L) j).live=(getO L j).live:=by
  intro j
  by_cases hj:j ∈ sel
  ·obtain ⟨i,hi,rfl⟩:=List.mem_iff_getElem.1 hj
   rw [(hput sel[i]).2 i (post[i]'(by omega)) (List.getElem?_eq_getElem hi) (List.getElem?_eq_getElem (by omega))]
   have:=sg sel[i] hj
   exact ⟨this.2.2.2.symm,this.2.2.1.symm⟩
  ·rw [(hput j).1 hj]; exact ⟨rfl,rfl⟩
 have hmu1:=hmu (boxes post) (putS sel post L) (by rw [boxes_len]; omega) (fun i hi=>boxes_live.2 (by omega)) (fun j=>(hkind j).2)
 have hmu2:=hmu (boxes pre) (putS sel post L) hpl (fun i hi=>boxes_live.2 (by omega)) (fun j=>(hkind j).2)
 have hback:(Sr M' B' (boxes post) w').le (Sr X.M B (putS sel post L) w'):=fun t b q v hh=>⟨fun hm=>hh.1 ((hmu1 t b).2 hm),hh.2⟩
 have hblk:∀ b,¬ MU X.M B L false b→¬ Bl B' b:=by
  rintro b hb ⟨i,bi,h1,h2⟩
  obtain ⟨s,k1,k2⟩:=hB'i i _ h1
  exact hb (.inr ⟨s,bi,k2,h2,(sg s (List.mem_of_getElem? k1)).2.2.1⟩)
 have hle:(Sr X.M B L w).le (Sr X.M B (putS sel post L) w'):=by
  intro t b q v hh
  refine ⟨fun hm=>hh.1 ((hmu0 t b).1 ((hmu2 t b).2 hm)),?_⟩
  by_cases hbl:Bl B' b
  ·exfalso
   obtain ⟨i,bi,h1,h2⟩:=hbl
   obtain ⟨s,k1,k2⟩:=hB'i i _ h1
   have:=sg s (List.mem_of_getElem? k1)
   refine hh.1 ?_
   cases t with
   | false=>exact .inr ⟨s,bi,k2,h2,this.2.2.1⟩
   | true=>exact .inr ⟨s,bi,this.1,k2,h2,this.2.2.1⟩
  ·rw [World.cell?_of_block (w:=w) (hfrm.block b (block_lt hh.2) hbl)]
   exact hh.2
 have hS2:St X B env (putS sel post L) a w':={
  relL:={
   len:=by rw [putS_length]; exact hL.len
   bnd:=fun id bi h=>Nat.lt_of_lt_of_le (hL.bnd id bi h) hfrm.size
   mbnd:=fun b h=>Nat.lt_of_lt_of_le (hL.mbnd b h) hfrm.size
   notM:=fun id bi h hl=>hL.notM id bi h ((hkind id).2 ▸ hl)
   dist:=fun i j bi bj hij hi hj hli hlj=>hL.dist i j bi bj hij hi hj ((hkind i).2 ▸ hli) ((hkind j).2 ▸ hlj)
   obj:=fun id bo hb=>by
    by_cases hid:id ∈ sel
    ·obtain ⟨i,hi,rfl⟩:=List.mem_iff_getElem.1 hid
     have hlt:i<post.length:=by omega
     rw [(hput sel[i]).2 i post[i] (List.getElem?_eq_getElem hi) (List.getElem?_eq_getElem hlt)]
     have:=hRel'.obj i bo (by rw [hB' i _ (List.getElem?_eq_getElem hi)]; exact hb)
     rw [getO_boxes,List.getElem?_eq_getElem hlt] at this
     obtain ⟨bi,cells,ty,rfl,q1,q2,q3,q4,q5⟩:=this
     exact ⟨bi,cells,ty,rfl,q1,q2,q3,q4,(repVs_map _ _).2 (RepVs.mono hback _ _ ((repVs_map _ _).1 q5))⟩
    ·rw [(hput id).1 hid]
     refine RelO_keep hle _ _ (fun hl b e=> ?_) (hL.obj id bo hb)
     subst e
     refine hfrm.block b.b (hL.bnd id b hb) ?_
     rintro ⟨i,bi,h1,h2⟩
     obtain ⟨s,k1,k2⟩:=hB'i i _ h1
     exact hL.dist s id bi b (fun e=>hid (e ▸ List.mem_of_getElem? k1)) k2 hb (sg s (List.mem_of_getElem? k1)).2.2.1 hl h2 }
  glob:=hS.glob.mono hle
  relE:=hS.relE.mono (Ble.refl B) hle
  below:=by
   refine ⟨hfrm.os.trans hS.below.os,hfrm.tape.trans hS.below.tape,hfrm.output.trans hS.below.output,Nat.le_trans hS.below.size hfrm.size,fun k hk hm=> ?_⟩
   rw [← hS.below.block k hk hm]
   refine hfrm.block k (Nat.lt_of_lt_of_le hk hS.below.size) ?_
   rintro ⟨i,bi,h1,h2⟩
   obtain ⟨s,k1,k2⟩:=hB'i i _ h1
   have:=sg s (List.mem_of_getElem? k1)
   rcases hS.fresh s bi this.1 k2 this.2.2.1 with h4|h4
   ·omega
   ·exact hm (h2 ▸ h4)
  fresh:=fun id bi h1 h2 h3=>hS.fresh id bi h1 h2 ((hkind id).2 ▸ h3)
  old:=fun id hid=>by rw [(hkind id).2]; exact hS.old id hid
  rol:=by rw [putS_length]; exact hS.rol
  l0:=by rw [putS_length]; exact hS.l0
  knd:=fun id h0 h1=>by rw [putS_length] at h1; rw [(hkind id).1]; exact hS.knd id h0 h1
  dfr:=hS.dfr
  sz:=hS.sz }
 exact hn _ _ _ _ _ _ hK rfl hS2 (closed_rel hback _ _ h.closed hu)
end
end Go.VA
namespace Go.VA
open Go Go.RowKit
def selOf:List AV→List Nat
 | []=>[]
 | .ptr i _::r=>match memN i (selOf r) with|true=>selOf r|false=>i::selOf r
 | _::r=>selOf r
section
variable {P:Program} {tb:TB} {gl:Gl}
def bndPre:List (List C)→Prop
 | []=>True
 | cs::r=>bnds cs∧bndPre r
theorem bndPre_of:∀ {l:List (List C)},(∀ (i:Nat) cs,l[i]? =some cs→bnds cs)→bndPre l
 | [],_=>trivial
 | cs::r,h=>⟨h 0 cs rfl,bndPre_of fun i x hx=>h (i+1) x (by simpa using hx)⟩
theorem mcall_of_bnd {f:Nat}{pre post:List (List C)}{args:List AV}{r:AV}(hc:Callable P f)(hr:r.closed=true)(h:bndPre pre→bndAll args→MCall P gl f pre args post r):MCall P gl f pre args post r:=by
 refine ⟨hc,hr,fun w M B vals hro hL hG hv=> ?_⟩
 refine (h (bndPre_of fun i cs hi=> ?_) (RelVs.bnd _ _ hv)).run w M B vals hro hL hG hv
 have hlt:i<B.length:=by rw [hL.len,boxes_len]; exact (List.getElem?_eq_some_iff.1 hi).1
 have:=hL.obj i _ (List.getElem?_eq_getElem hlt)
 rw [getO_boxes,hi] at this
 obtain ⟨bi,cells,ty,_,_,_,_,_,q⟩:=this
 exact RepVs.bnd _ _ ((repVs_map _ _).1 q)
theorem mcall_of_vcb (htb:TbOk P tb)(hmix:P.follows .mixedOrders=true){f:Nat}{fn:Func}{c:Code}(hf:P.funcs[f]? =some fn)(hb:fn.body=some c)
  (hname:(fn.name== "runtime.NumGoroutine")=false) (hok:codeOk fn.ntmps c=true) {pre post:List (List C)} {args:List AV} {r:AV} (hr:r.closed=true) (hargs':Nat.ble args.length fn.ntmps=true) (hpp:post.length=pre.length)
  (h:bndPre pre→bndAll args→crossK fn.results.toList c fun U=>vc P tb gl 0 pre.length U c (envOf 0 args) (boxes pre) (EndM tb fn.results.toList post r)):MCall P gl f pre args post r :=
 mcall_of_bnd ⟨fn,hf,hname,by rw [hb]; rfl⟩ hr fun h1 h2=>mcall_of_vc htb hmix hf hb hname hok hr hargs' hpp (h h1 h2)
theorem xc_mb {f:Nat}{pre post:List (List C)}{args':List AV}{r:AV}{ro:Nat}{args:List AV}{env:Env}{L:List AO}{K:AV→Env→List AO→Prop}(hsel:selOk ro L (selOf args) pre)
  (h:MCall P gl f pre args' post r) (hargs:renAs (selOf args) args'=args) (hao:argsOk (selOf args).length args'=true) (hd:distN (selOf args)=true) (hpp:post.length=pre.length)
  (hK:forceL (putS (selOf args) post L) fun L'=>K r env L'):XCall P gl ro (.fn f [] []) args env L K:=xc_m h (selOf args) hargs hao hd hpp hsel hK
end
end Go.VA
namespace Go.VA
open Go Go.RowKit
def forceN (n:Nat) (K:Nat→Prop):Prop :=
 match Nat.beq n (nat_lit 0) with|true=>K (nat_lit 0)|false=>(
 match Nat.beq n (nat_lit 1) with|true=>K (nat_lit 1)|false=>(
 match Nat.beq n (nat_lit 2) with|true=>K (nat_lit 2)|false=>(
 match Nat.beq n (nat_lit 3) with|true=>K (nat_lit 3)|false=>(
 match Nat.beq n (nat_lit 4) with|true=>K (nat_lit 4)|false=>(
 match Nat.beq n (nat_lit 5) with|true=>K (nat_lit 5)|false=>(
 match Nat.beq n (nat_lit 6) with|true=>K (nat_lit 6)|false=>(
 match Nat.beq n (nat_lit 7) with|true=>K (nat_lit 7)|false=>(
 match Nat.beq n (nat_lit 8) with|true=>K (nat_lit 8)|false=>(
 match Nat.beq n (nat_lit 9) with|true=>K (nat_lit 9)|false=>(
 match Nat.beq n (nat_lit 10) with|true=>K (nat_lit 10)|false=>(
 match Nat.beq n (nat_lit 11) with|true=>K (nat_lit 11)|false=>(
 match Nat.beq n (nat_lit 12) with|true=>K (nat_lit 12)|false=>(
 match Nat.beq n (nat_lit 13) with|true=>K (nat_lit 13)|false=>(
 match Nat.beq n (nat_lit 14) with|true=>K (nat_lit 14)|false=>(
 match Nat.beq n (nat_lit 15) with|true=>K (nat_lit 15)|false=>(
 match Nat.beq n (nat_lit 16) with|true=>K (nat_lit 16)|false=>(
 match Nat.beq n (nat_lit 17) with|true=>K (nat_lit 17)|false=>(
 match Nat.beq n (nat_lit 18) with|true=>K (nat_lit 18)|false=>(
 match Nat.beq n (nat_lit 19) with|true=>K (nat_lit 19)|false=>(
 match Nat.beq n (nat_lit 20) with|true=>K (nat_lit 20)|false=>(
 match Nat.beq n (nat_lit 21) with|true=>K (nat_lit 21)|false=>(
 match Nat.beq n (nat_lit 22) with|true=>K (nat_lit 22)|false=>(
 match Nat.beq n (nat_lit 23) with|true=>K (nat_lit 23)|false=>(
 match Nat.beq n (nat_lit 24) with|true=>K (nat_lit 24)|false=>(
 match Nat.beq n (nat_lit 25) with|true=>K (nat_lit 25)|false=>(
 match Nat.beq n (nat_lit 26) with|true=>K (nat_lit 26)|false=>(
 match Nat.beq n (nat_lit 27) with|true=>K (nat_lit 27)|false=>(
 match Nat.beq n (nat_lit 28) with|true=>K (nat_lit 28)|false=>(
 match Nat.beq n (nat_lit 29) with|true=>K (nat_lit 29)|false=>(
 match Nat.beq n (nat_lit 30) with|true=>K (nat_lit 30)|false=>(
 match Nat.beq n (nat_lit 31) with|true=>K (nat_lit 31)|false=>(
 match Nat.beq n (nat_lit 32) with|true=>K (nat_lit 32)|false=>(
 match Nat.beq n (nat_lit 33) with|true=>K (nat_lit 33)|false=>(
 match Nat.beq n (nat_lit 34) with|true=>K (nat_lit 34)|false=>(
 match Nat.beq n (nat_lit 35) with|true=>K (nat_lit 35)|false=>(
 match Nat.beq n (nat_lit 36) with|true=>K (nat_lit 36)|false=>(
 match Nat.beq n (nat_lit 37) with|true=>K (nat_lit 37)|false=>(
 match Nat.beq n (nat_lit 38) with|true=>K (nat_lit 38)|false=>(
 match Nat.beq n (nat_lit 39) with|true=>K (nat_lit 39)|false=>(
 match Nat.beq n (nat_lit 40) with|true=>K (nat_lit 40)|false=>(
 match Nat.beq n (nat_lit 41) with|true=>K (nat_lit 41)|false=>(
 match Nat.beq n (nat_lit 42) with|true=>K (nat_lit 42)|false=>(
 match Nat.beq n (nat_lit 43) with|true=>K (nat_lit 43)|false=>(
 match Nat.beq n (nat_lit 44) with|true=>K (nat_lit 44)|false=>(
 match Nat.beq n (nat_lit 45) with|true=>K (nat_lit 45)|false=>(
 match Nat.beq n (nat_lit 46) with|true=>K (nat_lit 46)|false=>(
 match Nat.beq n (nat_lit 47) with|true=>K (nat_lit 47)|false=>(
 K n))))))))))))))))))))))))))))))))))))))))))))))))
theorem forceN_eq (n:Nat)(K:Nat→Prop):forceN n K=K n:=by
 unfold forceN
 repeat' (split; first|(rename_i h; rw [Nat.beq_eq] at h; subst h; rfl)|skip)
 rfl
def forceNs:List Nat→(List Nat→Prop)→Prop
 | [],K=>K []
 | x::r,K=>forceN x fun x=>forceNs r fun r=>K (x::r)
theorem forceNs_eq:∀ (l:List Nat) (K:List Nat→Prop),forceNs l K=K l
 | [],_=>rfl
 | x::r,K=>by simp only [forceNs]; rw [forceN_eq,forceNs_eq r]
def nthG:List Nat→Nat→Option Nat
 | [],_=>none
 | x::_,0=>some x
 | _::r,n+1=>nthG r n
theorem nthG_eq:∀ (l:List Nat) (i:Nat),nthG l i=l[i]?
 | [],i=>by simp [nthG]
 | x::r,0=>by simp [nthG]
 | x::r,i+1=>by simp [nthG,nthG_eq r i]
def nthD (l:List Nat) (i:Nat):Nat:=match nthG l i with|some s=>s|none=>0
theorem nthD_eq {l:List Nat}{i s:Nat}(h:l[i]? =some s):nthD l i=s:=by unfold nthD; rw [nthG_eq,h]
abbrev Vw:=Nat→Nat→Nat→Nat→Option C
mutual
def GLe (v:Vw) (sel:List Nat):AV→AV→Prop
 | .any,_=>True
 | .c y,x=>match x with
  | .c x=>LeC x y
  | .own i e o l=>match v i e o l with|some z=>LeC z y|none=>False
  | _=>False
 | .ag ys,x=>match x with
  | .ag xs=>LeCl xs ys
  | .agx xs=>GLcs v xs ys
  | _=>False
 | .agx ys,x=>match x with
  | .agx xs=>GLes v sel ys xs
  | .ag xs=>GLes v sel ys (xs.map .c)
  | _=>False
 | .ptr j o,x=>match x with| .ptr i o'=>nthG sel j=some i∧o'=o|_=>False
 | .own j e o l,x=>match x with
  | .own i e' o' l'=>nthG sel j=some i∧e'=e∧o'=o∧l'=l
  | _=>False
 | .mpv j,x=>match x with| .mpv i=>nthG sel j=some i|_=>False
 | .sp t ys k,x=>match x with| .sp t' xs k'=>t'=t∧k'=k∧LeCl xs ys|_=>False
 | .fn f as bs,x=>match x with| .fn f' as' bs'=>f'=f∧GLes v sel as as'∧GLes v sel bs bs'|_=>False
 | .tup ys,x=>match x with| .tup xs=>GLes v sel ys xs|_=>False
 | _,_=>False
def GLes (v:Vw) (sel:List Nat):List AV→List AV→Prop
 | [],xs=>match xs with|[]=>True|_=>False
 | y::ys,xs=>match xs with|[]=>False|x::xs=>GLe v sel y x∧GLes v sel ys xs
def GLcs (v:Vw):List AV→List C→Prop
 | [],ys=>match ys with|[]=>True|_=>False
 | x::xs,ys=>match ys with
  | []=>False
  | y::ys=>(match x with
   | .c x=>LeC x y
   | .own i e o l=>match v i e o l with|some z=>LeC z y|none=>False
   | _=>False)∧GLcs v xs ys
end
theorem LeCl.reps {S:Rd}{R:Nat→Value→Prop}{xs ys:List C}(h:LeCl xs ys)(o:Nat)(hr:RepCs S R o xs):RepCs S R o ys:=(LeCl.cs h).2 S R o hr
section
variable {B B':List (Option BI)} {S S':Rd} {v:Vw} {sel:List Nat}
theorem GLcs_rel (hS:S.le S')(hv:∀ i e o l z u,v i e o l=some z→RelV B S (.own i e o l) u→RepC S' z u):∀ (xs:List AV) (ys:List C) (us:List Value),GLcs v xs ys→RelVs B S xs us→RepVs S' ys us
 | [],ys,us,h,hu=>by
  cases ys<;>simp only [GLcs] at h
  simpa [RelVs,RepVs] using hu
 | x::xs,[],us,h,_=>by simp [GLcs] at h
 | x::xs,y::ys,us,h,hu=>by
  simp only [GLcs] at h
  simp only [RelVs] at hu
  obtain ⟨u,r,rfl,h1,h2⟩:=hu
  simp only [RepVs]
  refine ⟨u,r,rfl,?_,GLcs_rel hS hv xs ys r h.2 h2⟩
  have h:=h.1
  split at h
  ·simp only [RelV] at h1; exact h S' u (RepC.mono hS _ _ h1)
  ·split at h
   ·rename_i z hz; exact h S' u (hv _ _ _ _ _ _ hz h1)
   ·exact h.elim
  ·exact h.elim
mutual
theorem GLe_rel (hS:S.le S')(hB:∀ (j i:Nat),sel[j]? =some i→B'[j]? =B[i]?)(hl:B'.length=sel.length)(hv:∀ i e o l z u,v i e o l=some z→RelV B S (.own i e o l) u→RepC S' z u) :
  ∀ (y x:AV) (u:Value),GLe v sel y x→RelV B S x u→RelV B' S' y u
 | .any,x,u,_,_=>by simp [RelV]
 | .c y,x,u,h,hu=>by
  simp only [GLe] at h
  simp only [RelV]
  split at h
  ·simp only [RelV] at hu; exact h S' u (RepC.mono hS _ _ hu)
  ·split at h
   ·rename_i z hz; exact h S' u (hv _ _ _ _ _ _ hz hu)
   ·exact h.elim
  ·exact h.elim
 | .ag ys,x,u,h,hu=>by
  simp only [GLe] at h
  simp only [RelV]
  split at h
  ·simp only [RelV] at hu
   obtain ⟨arr,e,hu⟩:=hu
   exact ⟨arr,e,LeCl.vs h _ _ (RepVs.mono hS _ _ hu)⟩
  ·simp only [RelV] at hu
   obtain ⟨arr,e,_,hu⟩:=hu
   exact ⟨arr,e,GLcs_rel hS hv _ _ _ h hu⟩
  ·exact h.elim
 | .agx ys,x,u,h,hu=>by
  simp only [GLe] at h
  simp only [RelV]
  split at h
  ·simp only [RelV] at hu
   obtain ⟨arr,e,h0,hu⟩:=hu
   exact ⟨arr,e,h0,GLes_rel hS hB hl hv ys _ _ h hu⟩
  ·rename_i xs
   simp only [RelV] at hu
   obtain ⟨arr,e,hu⟩:=hu
   refine ⟨arr,e,?_,GLes_rel hS hB hl hv ys _ _ h ((repVs_map (B:=B) xs _).2 hu)⟩
   have:∀ (xs:List C) (us:List Value),RepVs S xs us→∀ v ∈ us,v.oneCell'=true:=by
    intro xs
    induction xs with
    | nil=>intro us h; simp only [RepVs] at h; subst h; simp
    | cons x xs ih =>
     intro us h
     simp only [RepVs] at h
     obtain ⟨u,r,rfl,h1,h2⟩:=h
     intro v hv
     rcases List.mem_cons.1 hv with rfl|hv
     ·cases x<;>simp only [RepC] at h1
      ·exact h1.1 ▸ h1.2
      ·obtain ⟨a,cap,e,_⟩:=h1; subst e; rfl
      ·obtain ⟨a,e⟩:=h1; subst e; rfl
     ·exact ih r h2 v hv
   exact this xs _ hu
  ·exact h.elim
 | .ptr j o,x,u,h,hu=>by
  simp only [GLe] at h
  split at h
  ·rename_i i o'
   obtain ⟨h1,rfl⟩:=h
   rw [nthG_eq] at h1
   simp only [RelV] at hu ⊢
   rw [hB j i h1]
   exact hu
  ·exact h.elim
 | .own j e o l,x,u,h,hu=>by
  simp only [GLe] at h
  split at h
  ·obtain ⟨h1,rfl,rfl,rfl⟩:=h
   rw [nthG_eq] at h1
   simp only [RelV] at hu ⊢
   rw [hB j _ h1]
   exact hu
  ·exact h.elim
 | .mpv j,x,u,h,hu=>by
  simp only [GLe] at h
  split at h
  ·rw [nthG_eq] at h
   simp only [RelV] at hu ⊢
   rw [hB j _ h]
   exact hu
  ·exact h.elim
 | .sp t ys k,x,u,h,hu=>by
  simp only [GLe] at h
  split at h
  ·obtain ⟨rfl,rfl,h⟩:=h
   simp only [RelV] at hu ⊢
   obtain ⟨b,o,e,hu⟩:=hu
   exact ⟨b,o,e,LeCl.reps h _ (RepCs.mono hS (hS _ b) _ _ hu)⟩
  ·exact h.elim
 | .fn f as bs,x,u,h,hu=>by
  simp only [GLe] at h
  split at h
  ·obtain ⟨rfl,h1,h2⟩:=h
   simp only [RelV] at hu ⊢
   obtain ⟨a1,a2,e,k1,k2⟩:=hu
   exact ⟨a1,a2,e,GLes_rel hS hB hl hv as _ _ h1 k1,GLes_rel hS hB hl hv bs _ _ h2 k2⟩
  ·exact h.elim
 | .tup ys,x,u,h,hu=>by
  simp only [GLe] at h
  split at h
  ·simp only [RelV] at hu ⊢
   obtain ⟨arr,e,hu⟩:=hu
   exact ⟨arr,e,GLes_rel hS hB hl hv ys _ _ h hu⟩
  ·exact h.elim
 | .pe ..,_,_,h,_=>by simp [GLe] at h
 | .gd ..,_,_,h,_=>by simp [GLe] at h
 | .ub ..,_,_,h,_=>by simp [GLe] at h
theorem GLes_rel (hS:S.le S')(hB:∀ (j i:Nat),sel[j]? =some i→B'[j]? =B[i]?)(hl:B'.length=sel.length)(hv:∀ i e o l z u,v i e o l=some z→RelV B S (.own i e o l) u→RepC S' z u) :
  ∀ (ys xs:List AV) (us:List Value),GLes v sel ys xs→RelVs B S xs us→RelVs B' S' ys us
 | [],xs,us,h,hu=>by
  cases xs<;>simp only [GLes] at h
  simpa [RelVs] using hu
 | y::ys,[],us,h,_=>by simp [GLes] at h
 | y::ys,x::xs,us,h,hu=>by
  simp only [GLes] at h
  simp only [RelVs] at hu ⊢
  obtain ⟨u,r,e,h1,h2⟩:=hu
  exact ⟨u,r,e,GLe_rel hS hB hl hv y x u h.1 h1,GLes_rel hS hB hl hv ys xs r h.2 h2⟩
end
end
def GLeO (v:Vw) (sel:List Nat) (y x:AO):Prop:=match y with
 | .box ys=>match x with| .box xs=>GLes v sel ys xs|_=>False
 | .row e n g=>match x with| .row e' n' f=>e'=e∧n'=n∧∀ i,i<n→LeCs (f i) (g i)|_=>False
 | .mp m'=>match x with| .mp m=>LeMs m m'|_=>False
 | _=>False
def GLeL (v:Vw) (sel:List Nat) (L:List AO):Nat→List AO→Prop
 | _,[]=>True
 | i,y::r=>(match nthG sel i with|some s=>GLeO v sel y (getO L s)|none=>False)∧GLeL v sel L (i+1) r
theorem GLeL_get {v:Vw}{sel:List Nat}{L:List AO}:∀ {l:List AO} {i:Nat},GLeL v sel L i l→∀ (j:Nat) y,l[j]? =some y→∃ s,sel[i+j]? =some s∧GLeO v sel y (getO L s)
 | [],i,_,j,y,h=>by simp at h
 | x::r,i,h,j,y,hj=>by
  simp only [GLeL] at h
  cases j with
  | zero =>
   simp only [List.getElem?_cons_zero,Option.some.injEq] at hj
   subst hj
   have h1:=h.1
   rw [nthG_eq] at h1
   split at h1
   ·rename_i s hs; exact ⟨s,hs,h1⟩
   ·exact h1.elim
  | succ j =>
   obtain ⟨s,k1,k2⟩:=GLeL_get h.2 j y (by simpa using hj)
   exact ⟨s,by rw [← k1]; congr 1; omega,k2⟩
theorem GLeO_live {v:Vw}{sel:List Nat}{y x:AO}(h:GLeO v sel y x):x.live=true∧y.live=true∧x.kd=y.kd:=by
 cases y<;>cases x<;>simp only [GLeO] at h<;>exact ⟨rfl,rfl,rfl⟩
theorem GLeO_rel {B B':List (Option BI)}{S S':Rd}{v:Vw}{sel:List Nat}{w:World}(hS:S.le S')(hB:∀ (j i:Nat),sel[j]? =some i→B'[j]? =B[i]?)(hl:B'.length=sel.length)(hv:∀ i e o l z u,v i e o l=some z→RelV B S (.own i e o l) u→RepC S' z u)
  {y x:AO} {bo:Option BI} (h:GLeO v sel y x) (hr:RelO B S w x bo):RelO B' S' w y bo:=by
 cases y<;>cases x<;>simp only [GLeO] at h
 ·obtain ⟨bi,cs,ty,e,h1,h2,h3,h4,h5⟩:=hr
  exact ⟨bi,cs,ty,e,h1,h2,h3,h4,GLes_rel hS hB hl hv _ _ _ h h5⟩
 ·obtain ⟨rfl,rfl,h⟩:=h
  cases bo with
  | none=>exact hr
  | some bi =>
   obtain ⟨h0,cs,ty,h1,h2,h3,h4⟩:=hr
   refine ⟨h0,cs,ty,h1,h2,h3,fun i hi=> ?_⟩
   have:=h4 i hi
   have hc:=h i hi
   exact ⟨hc.1.trans this.1,hc.2 _ _ _ (RepCs.mono hS (fun _ _ x=>x) _ _ this.2)⟩
 ·obtain ⟨bi,es,clock,e,h1,h2,h3⟩:=hr
  exact ⟨bi,es,clock,e,h1,LeMs.rel hS h h2,h3⟩
end Go.VA
namespace Go.VA
open Go Go.RowKit
structure GCall (P:Program) (gl:Gl) (f:Nat) (pre:List AO) (args:List AV) (post:List AO) (res:List AV):Prop where
 callable:Callable P f
 len:pre.length≤post.length
 kinds:∀ i,i<pre.length→(getO post i).kd=(getO pre i).kd
 livep:∀ i,i<pre.length→(getO pre i).live=true
 liveq:∀ i,i<post.length→(getO post i).live=true
 run:∀ (w:World) (M:Mz) (B:List (Option BI)) (vals:Array Value),M.ro=0 →
  RelL M B pre w→GlOk gl (Sr M B pre w)→RelVs B (Sr M B pre w) args vals.toList →
  Calls P f vals w fun e w'=>∃ u B',e= .returned u∧Frm (Bl B) w w'∧RelL M B' post w'∧RelV B' (Sr M B' post w') (retA res) u ∧
   (∀ (id:Nat) (bi:BI),B'[id]? =some (some bi)→w.heap.size≤bi.b∨Bl B bi.b) ∧
   (∀ (id:Nat),id<pre.length→(getO post id).kd≠3→B'[id]? =B[id]?)
mutual
def pairA:AV→AV→List (Nat×Nat)→List (Nat×Nat)
 | .own j ..,x,acc=>match x with| .own i .. =>(j,i)::acc|_=>acc
 | .ptr j _,x,acc=>match x with| .ptr i _=>(j,i)::acc|_=>acc
 | .mpv j,x,acc=>match x with| .mpv i=>(j,i)::acc|_=>acc
 | .agx ys,x,acc=>match x with| .agx xs=>pairAs ys xs acc|_=>acc
 | .tup ys,x,acc=>match x with| .tup xs=>pairAs ys xs acc|_=>acc
 | .fn _ as bs,x,acc=>match x with| .fn _ as' bs'=>pairAs as as' (pairAs bs bs' acc)|_=>acc
 | _,_,acc=>acc
def pairAs:List AV→List AV→List (Nat×Nat)→List (Nat×Nat)
 | [],_,acc=>acc
 | y::ys,xs,acc=>match xs with|[]=>acc|x::xs=>pairA y x (pairAs ys xs acc)
end
def findP (k:Nat):List (Nat×Nat)→Nat
 | []=>nat_lit 9999
 | (j,i)::r=>match Nat.beq j k with|true=>i|false=>findP k r
def expP (Y X:List AO):List (Nat×Nat)→List (Nat×Nat)
 | []=>[]
 | (j,i)::r=>match getO Y j with
  | .box ys=>match getO X i with
   | .box xs=>(j,i)::pairAs ys xs (expP Y X r)
   | _=>(j,i)::expP Y X r
  | _=>(j,i)::expP Y X r
def selFrom (ps:List (Nat×Nat)):Nat→Nat→List Nat
 | 0,_=>[]
 | m+1,k=>findP k ps::selFrom ps m (k+1)
def upTo:Nat→Nat→List Nat
 | 0,_=>[]
 | m+1,k=>k::upTo m (k+1)
def zipP:List Nat→List (Nat×Nat)
 | []=>[]
 | i::r=>(i,i)::zipP r
def lenO:List AO→Nat
 | []=>0
 | _::r=>lenO r+1
theorem lenO_eq:∀ l:List AO,lenO l=l.length
 | []=>rfl
 | _::r=>by simp [lenO,lenO_eq r]
theorem selFrom_length (ps:List (Nat×Nat)):∀ m k,(selFrom ps m k).length=m
 | 0,_=>rfl
 | m+1,k=>by simp [selFrom,selFrom_length ps m]
theorem upTo_length:∀ m k,(upTo m k).length=m
 | 0,_=>rfl
 | m+1,k=>by simp [upTo,upTo_length m]
theorem upTo_get:∀ (m k i:Nat),i<m→(upTo m k)[i]? =some (k+i)
 | 0,_,_,h=>by omega
 | m+1,k,0,_=>by simp [upTo]
 | m+1,k,i+1,h=>by
  simp only [upTo,List.getElem?_cons_succ]
  rw [upTo_get m (k+1) i (by omega)]
  congr 1; omega
def appN:List Nat→List Nat→List Nat
 | [],r=>r
 | x::l,r=>x::appN l r
theorem appN_eq:∀ l r,appN l r=l++r
 | [],r=>rfl
 | x::l,r=>by simp [appN,appN_eq l r]
def selE (n:Nat) (L post:List AO) (res xs:List AV):List Nat :=
 selFrom (expP post L (expP post L (pairAs res xs (zipP (upTo n 0))))) (lenO post) 0
def idOk (n:Nat):Nat→List AO→List Nat→Bool
 | _,[],_=>true
 | i,y::r,sel=>match sel with
  | []=>true
  | s::t=>match Nat.blt i n with
   | false=>true
   | true=>match (match Nat.beq y.kd 3 with|true=>true|false=>Nat.beq s i) with
    | true=>idOk n (i+1) r t
    | false=>false
theorem idOk_spec {n:Nat}:∀ {l:List AO} {sel:List Nat} {i:Nat},idOk n i l sel=true→l.length=sel.length→∀ j,j<l.length→i+j<n→(getO l j).kd≠3→sel[j]? =some (i+j)
 | [],_,_,_,_,j,h,_,_=>by simp at h
 | _::_,[],_,_,h,_,_,_,_=>by simp at h
 | y::r,s::t,i,h,hl,j,hj,hn,hk=>by
  have hin:i<n:=by omega
  have hb:Nat.blt i n=true:=by simpa [Nat.blt_eq] using hin
  simp only [idOk,hb] at h
  split at h
  ·rename_i hc
   cases j with
   | zero =>
    have hk:y.kd≠3:=hk
    have hf:Nat.beq y.kd 3=false:=by
     cases hq:Nat.beq y.kd 3 with
     | false=>rfl
     | true=>exact absurd (Nat.beq_spec hq) hk
    rw [hf] at hc
    simp only at hc
    simp [Nat.beq_spec hc]
   | succ j =>
    have:=idOk_spec h (by simpa using hl) j (by simpa using hj) (by omega) hk
    simp only [List.getElem?_cons_succ]
    rw [this]; congr 1; omega
  ·simp at h
def viewE (sel:List Nat) (L:List AO):Vw:=fun id esz off len=>match getO L id with
 | .row e _ f=>match Nat.beq e esz with
  | true=>match memN id sel with
   | false=>some (.sl false esz len fun i=>f (off+i))
   | true=>none
  | false=>none
 | .frz e _ f=>match Nat.beq e esz with
  | true=>some (.sl false esz len fun i=>f (off+i))
  | false=>none
 | _=>none
def EndG (tb:TB) (rs:List ResultVar) (n:Nat) (post:List AO) (res:List AV) (x:Ex) (env:Env) (L:List AO):Prop:=match x with
 | .exit _=>False
 | _=>resI env tb L rs fun xs=>forceNs (selE n L post res xs) fun sel=>distN sel=true∧idOk n 0 post sel=true∧GLeL (viewE sel L) sel L 0 post∧GLes (viewE sel L) sel res xs
section
variable {P:Program} {tb:TB} {gl:Gl}
theorem viewE_sound {M:Mz}{B:List (Option BI)}{L:List AO}{w:World}{sel:List Nat}{S':Rd}(hrel:RelL M B L w)(hle:(Sr M B L w).le S')
  (hown:∀ (id:Nat) (bi:BI),id ∉ sel→B[id]? =some (some bi)→(getO L id).live=true→∀ o u,w.cell? ⟨bi.b,o,none⟩=some u→S' false bi.b o u)
  (id esz off len:Nat) (y:C) (u:Value) (hv:viewE sel L id esz off len=some y) (hu:RelV B (Sr M B L w) (.own id esz off len) u):RepC S' y u:=by
 unfold viewE at hv
 have fin:∀ (f:Nat→List C),y= .sl false esz len (fun i=>f (off+i)) →
   (∀ bi,B[id]? =some (some bi)→∀ i,i<bi.n→(f i).length=esz∧RepCs S' (S' false bi.b) (bi.o+i*esz) (f i))→RepC S' y u:=by
  intro f hy hf
  subst hy
  simp only [RelV] at hu
  simp only [RepC]
  rcases hu with ⟨bi,cap,hb,rfl,h1,h2,h3⟩|⟨rfl,⟨a,rfl⟩,_⟩
  ·refine ⟨_,cap,rfl,h1,?_⟩
   by_cases h0:len=0
   ·exact .inl h0
   ·refine .inr ⟨bi.b,_,rfl,fun i hi=> ?_⟩
    have:=hf bi hb (off+i) (by omega)
    refine ⟨this.1,?_⟩
    rw [show bi.o+off*esz+i*esz=bi.o+(off+i)*esz from by rw [Nat.add_mul]; omega]
    exact this.2
  ·exact ⟨a,0,rfl,⟨Nat.le_refl _,Nat.zero_le _⟩,.inl rfl⟩
 split at hv
 ·rename_i e m f hO
  split at hv
  ·rename_i he
   obtain rfl:=Nat.beq_spec he
   split at hv
   ·rename_i hr
    have hr:id ∉ sel:=fun e=>by rw [memN_spec.2 e] at hr; simp at hr
    simp only [Option.some.injEq] at hv
    refine fin f hv.symm fun bi hb i hi=> ?_
    have:=hrel.obj id _ hb
    rw [hO] at this
    obtain ⟨hn,cs,ty,h1,h2,h3,h4⟩:=this
    have:=h4 i (by omega)
    refine ⟨this.1,RepCs.mono hle (fun o u hh=>hown id bi hr hb (by rw [hO]; rfl) o u (by simpa [h1.cell] using hh)) _ _ this.2⟩
   ·simp at hv
  ·simp at hv
 ·rename_i e m f hO
  split at hv
  ·rename_i he
   obtain rfl:=Nat.beq_spec he
   simp only [Option.some.injEq] at hv
   refine fin f hv.symm fun bi hb i hi=> ?_
   have:=hrel.obj id _ hb
   rw [hO] at this
   obtain ⟨hn,h4⟩:=this
   exact ⟨(h4 i (by omega)).1,RepCs.mono hle (fun o u hh=>hle _ _ _ _ hh) _ _ (h4 i (by omega)).2⟩
  ·simp at hv
 ·simp at hv
def kdsOk:List AO→List AO→Bool
 | [],_=>true
 | x::xs,ys=>match ys with
  | []=>false
  | y::ys=>match x.live with
   | true=>match Nat.beq y.kd x.kd with|true=>kdsOk xs ys|false=>false
   | false=>false
theorem kdsOk_get:∀ {xs ys:List AO},kdsOk xs ys=true→xs.length≤ys.length∧∀ i,i<xs.length→(getO xs i).live=true∧(getO ys i).kd=(getO xs i).kd
 | [],ys,_=>⟨by simp,fun i h=>by simp at h⟩
 | x::xs,[],h=>by simp [kdsOk] at h
 | x::xs,y::ys,h=>by
  simp only [kdsOk] at h
  split at h
  ·rename_i h1
   split at h
   ·rename_i h2
    obtain ⟨k1,k2⟩:=kdsOk_get h
    refine ⟨by simp; exact k1,fun i hi=> ?_⟩
    cases i with
    | zero=>exact ⟨h1,Nat.beq_spec h2⟩
    | succ i=>exact k2 i (by simpa using hi)
   ·simp at h
  ·simp at h
mutual
def AV.gbnd:AV→Prop
 | .c x=>x.bnd
 | .ag xs=>bnds xs
 | .sp _ xs _=>bnds xs
 | .own _ _ _ len=>len≤140737488355328
 | .agx xs=>gbnds xs
 | .tup xs=>gbnds xs
 | _=>True
def gbnds:List AV→Prop
 | []=>True
 | x::r=>x.gbnd∧gbnds r
end
def bndO:AO→Prop
 | .box xs=>gbnds xs
 | .row _ n f=>∀ i,i<n→bnds (f i)
 | _=>True
def bndOs:List AO→Prop
 | []=>True
 | x::r=>bndO x∧bndOs r
mutual
theorem RelV.gbnd {B:List (Option BI)}{S:Rd}:∀ (x:AV) (u:Value),RelV B S x u→x.gbnd
 | .c x,u,h=>by simp only [RelV] at h; simp only [AV.gbnd]; exact RepC.bnd x u h
 | .ag xs,u,h=>by simp only [RelV] at h; simp only [AV.gbnd]; obtain ⟨arr,_,h⟩:=h; exact RepVs.bnd xs _ h
 | .sp t xs k,u,h=>by simp only [RelV] at h; simp only [AV.gbnd]; obtain ⟨b,o,_,h⟩:=h; exact RepCs.bnd xs _ h
 | .own _ _ _ len,u,h=>by
  simp only [RelV] at h; simp only [AV.gbnd]
  rcases h with ⟨bi,cap,_,_,h,_⟩|⟨h,_⟩
  ·exact h.2
  ·omega
 | .agx xs,u,h=>by simp only [RelV] at h; simp only [AV.gbnd]; obtain ⟨arr,_,_,h⟩:=h; exact RelVs.gbnds xs _ h
 | .tup xs,u,h=>by simp only [RelV] at h; simp only [AV.gbnd]; obtain ⟨arr,_,h⟩:=h; exact RelVs.gbnds xs _ h
 | .any,_,_=>by simp [AV.gbnd]
 | .ptr ..,_,_=>by simp [AV.gbnd]
 | .pe ..,_,_=>by simp [AV.gbnd]
 | .fn ..,_,_=>by simp [AV.gbnd]
 | .gd ..,_,_=>by simp [AV.gbnd]
 | .mpv ..,_,_=>by simp [AV.gbnd]
 | .ub ..,_,_=>by simp [AV.gbnd]
theorem RelVs.gbnds {B:List (Option BI)}{S:Rd}:∀ (xs:List AV) (us:List Value),RelVs B S xs us→gbnds xs
 | [],_,_=>by simp [VA.gbnds]
 | x::xs,us,h=>by
  simp only [RelVs] at h
  obtain ⟨u,r,_,h1,h2⟩:=h
  simp only [VA.gbnds]
  exact ⟨RelV.gbnd x u h1,RelVs.gbnds xs r h2⟩
end
theorem RelO.bndO {B:List (Option BI)}{S:Rd}{w:World}{x:AO}{bo:Option BI}(h:RelO B S w x bo):bndO x:=by
 cases x<;>simp only [VA.bndO]
 case box xs=>obtain ⟨_,cs,_,_,_,_,_,_,h⟩:=h; exact RelVs.gbnds xs _ h
 case row e n f =>
  intro i hi
  cases bo with
  | none=>simp only [RelO] at h; omega
  | some bi=>obtain ⟨_,cs,ty,_,_,_,h4⟩:=h; exact RepCs.bnd _ _ (h4 i hi).2
theorem bndOs_of:∀ {l:List AO},(∀ i,i<l.length→bndO (getO l i))→bndOs l
 | [],_=>trivial
 | x::r,h=>⟨h 0 (by simp),bndOs_of fun i hi=>h (i+1) (by simpa using hi)⟩
theorem gcall_of_vc (htb:TbOk P tb)(hmix:P.follows .mixedOrders=true){f:Nat}{fn:Func}{c:Code}(hf:P.funcs[f]? =some fn)(hb:fn.body=some c)
  (hname:(fn.name== "runtime.NumGoroutine")=false) (hok:codeOk fn.ntmps c=true) {pre post:List AO} {args res:List AV} (hargs':Nat.ble args.length fn.ntmps=true) (hkd:kdsOk pre post=true)
  (hlq:∀ i,i<post.length→(getO post i).live=true)
  (h:bndOs pre→gbnds args→crossK fn.results.toList c fun U=>vc P tb gl 0 pre.length U c (envOf 0 args) pre (EndG tb fn.results.toList pre.length post res)):GCall P gl f pre args post res:=by
 have hargs:=Nat.le_of_ble_eq_true hargs'
 obtain ⟨hlen,hkds⟩:=kdsOk_get hkd
 refine ⟨⟨fn,hf,hname,by rw [hb]; rfl⟩,hlen,fun i hi=>(hkds i hi).2,fun i hi=>(hkds i hi).1,hlq,fun w M B vals hro hL hG hv=> ?_⟩
 have h:=h (bndOs_of fun i hi=>by
  have hlt:i<B.length:=by rw [hL.len]; exact hi
  exact RelO.bndO (hL.obj i _ (List.getElem?_eq_getElem hlt))) (RelVs.gbnds _ _ hv)
 rw [crossK_eq] at h
 have hlv:=RelVs.length _ _ hv
 rw [Array.length_toList] at hlv
 let X:Fx:=⟨gl,w,M,B,pre,fn.ntmps,Bl B⟩
 have hS:St X B (envOf 0 args) pre { tmps:=vals++Array.replicate (fn.ntmps-vals.size) undef,defers:=[] } w :=
  ⟨hL,hG,RelE.envOf hv fn.ntmps,Frm.refl _ _,fun id bi h1 h2 h3=> .inr ⟨id,bi,h2,rfl⟩,fun id h=>by simp only [X,hro] at h; omega,by simp only [X,hro]; omega,Nat.le_refl _,fun id _ _=> .inr ⟨rfl,fun _=>rfl⟩,rfl,by
   simp only [Array.size_append,Array.size_replicate,X]; omega⟩
 refine calls_of_wp hf hb (vc_sound htb hmix (X:=X) rfl hro (by simp [X]) c _ pre B _ w _ _ hok (envOf_noGd 0 args) hS h ?_)
 intro e env' L' B' a' w' hK hn' hS'
 have key:∀ (_:Prop),(resI env' tb L' fn.results.toList fun xs=>forceNs (selE pre.length L' post res xs) fun sel=>distN sel=true∧idOk pre.length 0 post sel=true∧GLeL (viewE sel L') sel L' 0 post∧GLes (viewE sel L') sel res xs) →
   (a'.defers=[]∧∃ v,(results fn a'.tmps).run P w'= .ok v w'∧(∃ u B2,Ending.returned v= .returned u∧Frm (Bl B) w w'∧RelL M B2 post w'∧RelV B2 (Sr M B2 post w') (retA res) u ∧
    (∀ (id:Nat) (bi:BI),B2[id]? =some (some bi)→w.heap.size≤bi.b∨Bl B bi.b)∧(∀ (id:Nat),id<pre.length→(getO post id).kd≠3→B2[id]? =B[id]?))):=by
  intro _ hres
  obtain ⟨xs,vs,k1,k2,k3,k4⟩:=resI_sound htb hS' hn' _ _ hres
  rw [forceNs_eq] at k1
  generalize hselq:selE pre.length L' post res xs=sel at k1
  have hsl:sel.length=post.length:=by
   rw [← hselq]; unfold selE; rw [selFrom_length,lenO_eq]
  obtain ⟨hd,hid,hpost,hrs⟩:=k1
  have hL':=hS'.relL
  have hobj:∀ (j i:Nat),sel[j]? =some i→j<post.length∧(getO L' i).live=true∧(getO post j).live=true∧(getO L' i).kd=(getO post j).kd∧GLeO (viewE sel L') sel (getO post j) (getO L' i):=by
   intro j i hj
   have hlt:j<post.length:=by rw [← hsl]; exact (List.getElem?_eq_some_iff.1 hj).1
   have hgo:∀ (l:List AO) (j:Nat) (h:j<l.length),l[j]? =some (getO l j):=by
    intro l
    induction l with
    | nil=>intro j h; simp at h
    | cons x r ih =>
     intro j h
     cases j with
     | zero=>rfl
     | succ j=>simpa [getO] using ih j (by simpa using h)
   obtain ⟨s,g1,g2⟩:=GLeL_get hpost j _ (hgo post j hlt)
   rw [Nat.zero_add,hj] at g1
   simp only [Option.some.injEq] at g1
   subst g1
   have:=GLeO_live g2
   exact ⟨hlt,this.1,this.2.1,this.2.2,g2⟩
  have hlt':∀ (j i:Nat),sel[j]? =some i→i<B'.length:=fun j i hj=>by rw [hL'.len]; exact live_lt (hobj j i hj).2.1
  let B2:List (Option BI):=sel.map fun s=>(B'[s]?).getD none
  have hB2:∀ (j i:Nat),sel[j]? =some i→B2[j]? =B'[i]? :=by
   intro j i hj
   simp only [B2,List.getElem?_map,hj,Option.map_some,List.getElem?_eq_getElem (hlt' j i hj),Option.getD_some]
  have hB2i:∀ (j:Nat) (bo:Option BI),B2[j]? =some bo→∃ i,sel[j]? =some i∧B'[i]? =some bo:=by
   intro j bo hj
   have hlt:j<sel.length:=by have:=(List.getElem?_eq_some_iff.1 hj).1; simpa [B2] using this
   exact ⟨sel[j],List.getElem?_eq_getElem hlt,by rw [← hB2 j _ (List.getElem?_eq_getElem hlt)]; exact hj⟩
  have hB2l:B2.length=sel.length:=by simp [B2]
  have hle:(Sr X.M B' L' w').le (Sr M B2 post w'):=by
   intro t b o u hh
   refine ⟨fun hm=>hh.1 ?_,hh.2⟩
   cases t with
   | false =>
    rcases hm with hm|⟨j,bi,h1,h2,h3⟩
    ·exact .inl hm
    ·obtain ⟨i,q1,q2⟩:=hB2i j _ h1
     exact .inr ⟨i,bi,q2,h2,(hobj j i q1).2.1⟩
   | true =>
    rcases hm with hm|⟨j,bi,h0,h1,h2,h3⟩
    ·exact .inl hm
    ·obtain ⟨i,q1,q2⟩:=hB2i j _ h1
     exact .inr ⟨i,bi,by simp only [X,hro]; omega,q2,h2,(hobj j i q1).2.1⟩
  have hv2:=fun i e o l z u=>viewE_sound (sel:=sel) (S':=Sr M B2 post w') hL' hle (fun id bi hid hb hl o u hc=>⟨by
   rintro (hm|⟨j,bi',h1,h2,h3⟩)
   ·exact hL'.notM id bi hb hl hm
   ·obtain ⟨i,q1,q2⟩:=hB2i j _ h1
    exact hL'.dist i id bi' bi (fun e=>hid (e ▸ List.mem_of_getElem? q1)) q2 hb (hobj j i q1).2.1 hl h2,hc⟩) i e o l z u
  have hrv:=GLes_rel hle hB2 hB2l hv2 res xs vs hrs k4
  refine ⟨hS'.dfr,_,run_results fn a'.tmps w' vs k2 k3,_,B2,rfl,hS'.below,?_,retA_sound hrv,fun j bi hj=> ?_,fun j hj hk=> ?_⟩
  ·exact {
    len:=by rw [hB2l,hsl]
    bnd:=fun j bi hj=>by obtain ⟨i,q1,q2⟩:=hB2i j _ hj; exact hL'.bnd i bi q2
    mbnd:=hL'.mbnd
    notM:=fun j bi hj _=>by obtain ⟨i,q1,q2⟩:=hB2i j _ hj; exact hL'.notM i bi q2 (hobj j i q1).2.1
    dist:=fun i j bi bj hij hi hj _ _=>by
     obtain ⟨s,q1,q2⟩:=hB2i i _ hi
     obtain ⟨s',q3,q4⟩:=hB2i j _ hj
     exact hL'.dist s s' bi bj (fun e=>distN_spec hd i j s hij q1 (e ▸ q3)) q2 q4 (hobj i s q1).2.1 (hobj j s' q3).2.1
    obj:=fun j bo hj=>by
     obtain ⟨i,q1,q2⟩:=hB2i j _ hj
     exact GLeO_rel hle hB2 hB2l hv2 (hobj j i q1).2.2.2.2 (hL'.obj i bo q2) }
  ·obtain ⟨i,q1,q2⟩:=hB2i j _ hj
   exact hS'.fresh i bi (by simp only [X,hro]; omega) q2 (hobj j i q1).2.1
  ·have hs:sel[j]? =some j:=by
    have:=idOk_spec hid hsl.symm j (by omega) (by omega) hk
    rwa [Nat.zero_add] at this
   rw [hB2 j j hs]
   have ho:=hobj j j hs
   have:=hS'.knd j (by simp only [X]; exact hj) (by rw [← hL'.len]; exact hlt' j j hs)
   rcases this with h0|⟨_,h0⟩
   ·have hlv:=ho.2.1
    cases hq:getO L' j<;>rw [hq] at h0 hlv<;>simp [AO.kd,AO.live] at h0 hlv
   ·exact h0 (by rw [ho.2.2.2.1]; exact hk)
 cases e with
 | normal=>exact key True hK
 | ret=>exact key True hK
 | exit i=>exact hK.elim
end
end Go.VA
