/- An executor of the model over symbolic values,and the proof that what it shows of a function holds of every call: no condition. -/
import Derived.Test.YtiodgjgngfklkaaGreatDoorVC
import Derived.Laws.Strings
import Derived.ProofKit
import Derived.SizedLaws
import Derived.LaidMore
import Derived.OpenShut
import Derived.MakeChecks
import Derived.Stop.Joined
import Derived.Carry
import Derived.WideKeyRuns
set_option linter.all false
namespace Go.VA
open Go Go.RowKit
mutual
def renG (sel:List Nat):AV→AV
 | .ptr i o=> .ptr (nthD sel i) o
 | .pe i e k j=> .pe (nthD sel i) e k j
 | .own i e o l=> .own (nthD sel i) e o l
 | .mpv i=> .mpv (nthD sel i)
 | .agx xs=> .agx (renGs sel xs)
 | .tup xs=> .tup (renGs sel xs)
 | .fn f xs ys=> .fn f (renGs sel xs) (renGs sel ys)
 | .gd .. => .any
 | .any=> .any
 | .c x=> .c x
 | .ag xs=> .ag xs
 | .sp t xs k=> .sp t xs k
 | .ub p=> .ub p
def renGs (sel:List Nat):List AV→List AV
 | []=>[]
 | x::r=>renG sel x::renGs sel r
end
def renGO (sel:List Nat):AO→AO
 | .box xs=> .box (renGs sel xs)
 | x=>x
theorem renG_ret (sel:List Nat)(res:List AV):renG sel (retA res)=retA (renGs sel res):=by
 match res with
 | []=>rfl
 | [x]=>rfl
 | x::y::r=>simp [retA,renG,renGs]
mutual
def NtC:C→Prop
 | .v _=>True
 | .emp=>True
 | .sl t _ n f=>t=false∧∀ i,i<n→NtCs (f i)
def NtCs:List C→Prop
 | []=>True
 | x::r=>NtC x∧NtCs r
end
mutual
def ntA:AV→Prop
 | .c x=>NtC x
 | .ag xs=>NtCs xs
 | .agx xs=>ntAs xs
 | .tup xs=>ntAs xs
 | .own .. =>True
 | .ptr .. =>True
 | .pe .. =>True
 | .mpv .. =>True
 | .any=>True
 | .ub .. =>True
 | .gd .. =>True
 | .sp .. =>False
 | .fn .. =>False
def ntAs:List AV→Prop
 | []=>True
 | x::r=>ntA x∧ntAs r
end
def ntO:AO→Prop
 | .box xs=>ntAs xs
 | .row _ n f=>∀ i,i<n→NtCs (f i)
 | .mp m=>∀ p ∈ m,ntA p.2
 | _=>True
def ntL:List AO→Prop
 | []=>True
 | x::r=>ntO x∧ntL r
theorem ntL_get:∀ {l:List AO} (i:Nat),ntL l→ntO (getO l i)
 | [],i,_=>by simp [getO,ntO]
 | x::r,0,h=>h.1
 | x::r,i+1,h=>ntL_get (l:=r) i h.2
section
variable {S S':Rd} (hF:∀ b o v,S false b o v→S' false b o v)
include hF
mutual
theorem NtC.rep:∀ (x:C) (u:Value),NtC x→RepC S x u→RepC S' x u
 | .v _,_,_,h=>by simpa [RepC] using h
 | .emp,_,_,h=>by simpa [RepC] using h
 | .sl t esz n f,u,hn,h=>by
  simp only [NtC] at hn
  obtain ⟨rfl,hn⟩:=hn
  simp only [RepC] at h ⊢
  obtain ⟨a,cap,hu,hc,h1⟩:=h
  refine ⟨a,cap,hu,hc,?_⟩
  rcases h1 with h1|⟨b,o,ha,h1⟩
  ·exact .inl h1
  ·exact .inr ⟨b,o,ha,fun i hi=>⟨(h1 i hi).1,NtCs.reps (R:=S false b) (R':=S' false b) (hF b) (f i) _ (hn i hi) (h1 i hi).2⟩⟩
theorem NtCs.reps {R R':Nat→Value→Prop}(hR:∀ o u,R o u→R' o u):∀ (xs:List C) (o:Nat),NtCs xs→RepCs S R o xs→RepCs S' R' o xs
 | [],_,_,_=>by simp [RepCs]
 | x::xs,o,hn,h=>by
  simp only [NtCs] at hn
  simp only [RepCs] at h ⊢
  obtain ⟨⟨u,h1,h2⟩,h3⟩:=h
  exact ⟨⟨u,hR o u h1,NtC.rep x u hn.1 h2⟩,NtCs.reps hR xs _ hn.2 h3⟩
end
theorem NtCs.vs:∀ (xs:List C) (us:List Value),NtCs xs→RepVs S xs us→RepVs S' xs us
 | [],_,_,h=>by simpa [RepVs] using h
 | x::xs,us,hn,h=>by
  simp only [NtCs] at hn
  simp only [RepVs] at h ⊢
  obtain ⟨u,r,h1,h2,h3⟩:=h
  exact ⟨u,r,h1,NtC.rep hF x u hn.1 h2,NtCs.vs xs r hn.2 h3⟩
end
section
variable {B B':List (Option BI)} {S S':Rd} {sel:List Nat} (hF:∀ b o v,S false b o v→S' false b o v) (hB:∀ (i:Nat) (x:BI),B[i]? =some (some x)→B'[nthD sel i]? =some (some x)) (hB0:∀ (i:Nat) (x:Option BI),B[i]? =some x→B'[nthD sel i]? =some x)
include hF hB hB0
mutual
theorem renG_rel:∀ (x:AV) (u:Value),(S.le S'∨ntA x)→RelV B S x u→RelV B' S' (renG sel x) u
 | .any,u,_,_=>by simp [renG,RelV]
 | .c x,u,hc,h=>by
  simp only [renG,RelV] at h ⊢
  rcases hc with hc|hc
  ·exact RepC.mono hc _ _ h
  ·exact NtC.rep hF _ _ hc h
 | .ag xs,u,hc,h=>by
  simp only [renG,RelV] at h ⊢
  obtain ⟨arr,e,h⟩:=h
  rcases hc with hc|hc
  ·exact ⟨arr,e,RepVs.mono hc _ _ h⟩
  ·exact ⟨arr,e,NtCs.vs hF _ _ hc h⟩
 | .agx xs,u,hc,h=>by
  simp only [renG,RelV] at h ⊢
  obtain ⟨arr,e,h0,h⟩:=h
  exact ⟨arr,e,h0,renGs_rel xs _ (by simpa only [ntA] using hc) h⟩
 | .tup xs,u,hc,h=>by
  simp only [renG,RelV] at h ⊢
  obtain ⟨arr,e,h⟩:=h
  exact ⟨arr,e,renGs_rel xs _ (by simpa only [ntA] using hc) h⟩
 | .ptr i o,u,_,h=>by
  simp only [renG,RelV] at h ⊢
  obtain ⟨bi,h1,h2⟩:=h
  exact ⟨bi,hB i _ h1,h2⟩
 | .pe i e k j,u,_,h=>by
  simp only [renG,RelV] at h ⊢
  obtain ⟨bi,h1,h2⟩:=h
  exact ⟨bi,hB i _ h1,h2⟩
 | .mpv i,u,_,h=>by
  simp only [renG,RelV] at h ⊢
  obtain ⟨bi,h1,h2⟩:=h
  exact ⟨bi,hB i _ h1,h2⟩
 | .own i e o l,u,_,h=>by
  simp only [renG,RelV] at h ⊢
  rcases h with ⟨bi,cap,h1,h2⟩|⟨h1,h2,bo,h3⟩
  ·exact .inl ⟨bi,cap,hB i _ h1,h2⟩
  ·exact .inr ⟨h1,h2,bo,hB0 i _ h3.1,h3.2⟩
 | .sp t xs k,u,hc,h=>by
  rcases hc with hc|hc
  ·simp only [renG,RelV] at h ⊢
   obtain ⟨b,o,e,h⟩:=h
   exact ⟨b,o,e,RepCs.mono hc (hc t b) _ _ h⟩
  ·simp [ntA] at hc
 | .fn f xs ys,u,hc,h=>by
  rcases hc with hc|hc
  ·simp only [renG,RelV] at h ⊢
   obtain ⟨a1,a2,e,h1,h2⟩:=h
   exact ⟨a1,a2,e,renGs_rel xs _ (.inl hc) h1,renGs_rel ys _ (.inl hc) h2⟩
  ·simp [ntA] at hc
 | .gd ..,u,_,_=>by simp [renG,RelV]
 | .ub p,u,_,h=>by simpa only [renG,RelV] using h
theorem renGs_rel:∀ (xs:List AV) (us:List Value),(S.le S'∨ntAs xs)→RelVs B S xs us→RelVs B' S' (renGs sel xs) us
 | [],us,_,h=>by simpa [renGs,RelVs] using h
 | x::xs,us,hc,h=>by
  simp only [renGs,RelVs] at h ⊢
  obtain ⟨u,r,e,h1,h2⟩:=h
  have hc1:S.le S'∨ntA x:=hc.imp id fun h=>by simp only [ntAs] at h; exact h.1
  have hc2:S.le S'∨ntAs xs:=hc.imp id fun h=>by simp only [ntAs] at h; exact h.2
  exact ⟨u,r,e,renG_rel x u hc1 h1,renGs_rel xs r hc2 h2⟩
end
theorem RelM_nt:∀ {m:List (Value×AV)} {es:List MapEntry},(∀ p ∈ m,ntA p.2)→RelM S m es→RelM S' m es
 | [],es,_,h=>by simpa [RelM] using h
 | x::xs,es,hn,h=>by
  simp only [RelM] at h ⊢
  obtain ⟨e,r,h1,h2,h3,h4⟩:=h
  refine ⟨e,r,h1,h2,?_,RelM_nt (fun p hp=>hn p (by simp [hp])) h4⟩
  have key:∀ (x:AV) (u:Value),ntA x→RelV [] S x u→RelV [] S' x u:=by
   have all:(∀ (x:AV) (u:Value),ntA x→RelV [] S x u→RelV [] S' x u):=by
    intro x
    refine AV.rec (motive_1:=fun x=>∀ u,ntA x→RelV [] S x u→RelV [] S' x u) (motive_2:=fun xs=>∀ us,ntAs xs→RelVs [] S xs us→RelVs [] S' xs us) ?_ ?_ ?_ ?_ ?_ ?_ ?_ ?_ ?_ ?_ ?_ ?_ ?_ ?_ ?_ x
    ·intro u _ _; simp [RelV]
    ·intro x u hn h; simp only [RelV] at h ⊢; exact NtC.rep hF _ _ hn h
    ·intro xs u hn h; simp only [RelV] at h ⊢; obtain ⟨arr,e,h⟩:=h; exact ⟨arr,e,NtCs.vs hF _ _ hn h⟩
    ·intro xs ih u hn h; simp only [RelV] at h ⊢; obtain ⟨arr,e,h0,h⟩:=h; exact ⟨arr,e,h0,ih _ hn h⟩
    ·intro i o u _ h; simpa [RelV] using h
    ·intro i e k j u _ h; simpa [RelV] using h
    ·intro t xs k u hn _; simp [ntA] at hn
    ·intro i e o l u _ h; simpa [RelV] using h
    ·intro xs ih u hn h; simp only [RelV] at h ⊢; obtain ⟨arr,e,h⟩:=h; exact ⟨arr,e,ih _ hn h⟩
    ·intro f a b _ _ u hn _; simp [ntA] at hn
    ·intro s w x _ u _ _; simp [RelV]
    ·intro i u _ h; simpa [RelV] using h
    ·intro p u _ h; simpa only [RelV] using h
    ·intro us _ h; simpa [RelVs] using h
    ·intro x xs ih1 ih2 us hn h
     simp only [ntAs] at hn
     simp only [RelVs] at h ⊢
     obtain ⟨u,r,e,h1,h2⟩:=h
     exact ⟨u,r,e,ih1 u hn.1 h1,ih2 r hn.2 h2⟩
   exact all
  exact key _ _ (hn x (by simp)) h3
theorem renGO_rel {w:World}:∀ (x:AO) (bo:Option BI),x.live=true→(S.le S'∨ntO x)→RelO B S w x bo→RelO B' S' w (renGO sel x) bo
 | .box xs,bo,_,hc,h=>by
  obtain ⟨bi,cs,ty,e,h1,h2,h3,h4,h5⟩:=h
  exact ⟨bi,cs,ty,e,h1,h2,h3,h4,renGs_rel hF hB hB0 xs _ hc h5⟩
 | .row e n f,none,_,_,h=>h
 | .row e n f,some bi,_,hc,h=>by
  obtain ⟨h0,cs,ty,h1,h2,h3,h4⟩:=h
  refine ⟨h0,cs,ty,h1,h2,h3,fun i hi=>⟨(h4 i hi).1,?_⟩⟩
  rcases hc with hc|hc
  ·exact RepCs.mono hc (fun _ _ x=>x) _ _ (h4 i hi).2
  ·exact NtCs.reps hF (fun _ _ x=>x) _ _ (hc i hi) (h4 i hi).2
 | .mp m,bo,_,hc,h=>by
  obtain ⟨bi,es,clock,e,h1,h2,h3⟩:=h
  refine ⟨bi,es,clock,e,h1,?_,h3⟩
  rcases hc with hc|hc
  ·exact RelM.mono hc _ _ h2
  ·exact RelM_nt hF hB hB0 hc h2
 | .frz ..,_,hl,_,_=>by simp [AO.live] at hl
 | .amb ..,_,hl,_,_=>by simp [AO.live] at hl
 | .dead,_,hl,_,_=>by simp [AO.live] at hl
end
theorem renGO_live (sel:List Nat)(x:AO):(renGO sel x).live=x.live∧(renGO sel x).kd=x.kd:=by cases x<;>exact ⟨rfl,rfl⟩
def purgeEs:List Nat→List AO→Env→Env
 | s::r,y::pr,env=>match Nat.beq y.kd 3 with|true=>purgeEs r pr (purgeE s env)|false=>purgeEs r pr env
 | _,_,env=>env
def purgeLs:List Nat→List AO→List AO→List AO
 | s::r,y::pr,L=>match Nat.beq y.kd 3 with|true=>purgeLs r pr (purgeL s L)|false=>purgeLs r pr L
 | _,_,L=>L
def purgeOs:List Nat→List AO→AO→AO
 | s::r,y::pr,x=>match Nat.beq y.kd 3 with|true=>purgeOs r pr (purgeO s x)|false=>purgeOs r pr x
 | _,_,x=>x
def setB:List Nat→List AO→List (Option BI)→List (Option BI)→List (Option BI)
 | s::r,y::pr,b::bs,B=>match Nat.beq y.kd 3 with|true=>setB r pr bs (B.set s b)|false=>setB r pr bs B
 | _,_,_,B=>B
theorem purgeEs_keys:∀ (sel:List Nat) (pre:List AO) (env:Env),keysE (purgeEs sel pre env)=keysE env
 | [],_,_=>by simp [purgeEs]
 | _::_,[],_=>by simp [purgeEs]
 | s::r,y::pr,env=>by
  simp only [purgeEs]
  split
  ·rw [purgeEs_keys r pr,purgeE_keys]
  ·rw [purgeEs_keys r pr]
theorem purgeLs_length:∀ (sel:List Nat) (pre L:List AO),(purgeLs sel pre L).length=L.length
 | [],_,_=>by simp [purgeLs]
 | _::_,[],_=>by simp [purgeLs]
 | s::r,y::pr,L=>by
  simp only [purgeLs]
  split
  ·rw [purgeLs_length r pr,purgeL_length]
  ·rw [purgeLs_length r pr]
theorem purgeLs_get:∀ (sel:List Nat) (pre L:List AO) (j:Nat),getO (purgeLs sel pre L) j=purgeOs sel pre (getO L j)
 | [],_,_,_=>by simp [purgeLs,purgeOs]
 | _::_,[],_,_=>by simp [purgeLs,purgeOs]
 | s::r,y::pr,L,j=>by
  simp only [purgeLs,purgeOs]
  split
  ·rw [purgeLs_get r pr,purgeL_get]
  ·rw [purgeLs_get r pr]
theorem purgeOs_live:∀ (sel:List Nat) (pre:List AO) (x:AO),(purgeOs sel pre x).live=x.live∧(purgeOs sel pre x).kd=x.kd
 | [],_,_=>by simp [purgeOs]
 | _::_,[],_=>by simp [purgeOs]
 | s::r,y::pr,x=>by
  simp only [purgeOs]
  split
  ·have:=purgeOs_live r pr (purgeO s x)
   rw [this.1,this.2,purgeO_live,purgeO_kd]; exact ⟨rfl,rfl⟩
  ·exact purgeOs_live r pr x
theorem setB_length:∀ (sel:List Nat) (pre:List AO) (bs B:List (Option BI)),(setB sel pre bs B).length=B.length
 | [],_,_,_=>by simp [setB]
 | _::_,[],_,_=>by simp [setB]
 | _::_,_::_,[],_=>by simp [setB]
 | s::r,y::pr,b::bs,B=>by
  simp only [setB]
  split
  ·rw [setB_length r pr bs,List.length_set]
  ·rw [setB_length r pr bs]
theorem purgeEs_rel {S S':Rd}{a:Act}(hS:S.le S'):∀ (sel:List Nat) (pre:List AO) (bs B:List (Option BI)) (env:Env) (t:Nat),pre.length≤bs.length →
  RelSl B S a (get env t) (a.tmps.getD t undef)→RelSl (setB sel pre bs B) S' a (get (purgeEs sel pre env) t) (a.tmps.getD t undef):=by
 have base:∀ (B:List (Option BI)) (x:AV) (u:Value),RelSl B S a x u→RelSl B S' a x u:=by
  intro B x u h
  cases x<;>simp only [RelSl] at h ⊢ <;>first|exact RelV.mono (Ble.refl B) hS _ _ h|exact ⟨fun e=>RelV.mono (Ble.refl B) hS _ _ (h.1 e),h.2⟩
 intro sel
 induction sel with
 | nil=>intro pre bs B env t _ h; simp only [setB,purgeEs]; exact base _ _ _ h
 | cons s r ih =>
  intro pre bs B env t hl h
  cases pre with
  | nil=>simp only [setB,purgeEs]; exact base _ _ _ h
  | cons y pr =>
   cases bs with
   | nil=>simp at hl
   | cons b bs =>
    simp only [setB,purgeEs]
    split
    ·exact ih pr bs _ _ t (by simpa using hl) (purgeE_rel (Rd.le_refl S) env t h)
    ·exact ih pr bs _ _ t (by simpa using hl) h
theorem purgeOs_rel {S:Rd}{w:World}:∀ (sel:List Nat) (pre:List AO) (bs B:List (Option BI)) (x:AO) (bo:Option BI),pre.length≤bs.length →
  RelO B S w x bo→RelO (setB sel pre bs B) S w (purgeOs sel pre x) bo
 | [],_,_,_,_,_,_,h=>by simpa [setB,purgeOs] using h
 | _::_,[],_,_,_,_,_,h=>by simpa [setB,purgeOs] using h
 | _::_,_::_,[],_,_,_,hl,_=>by simp at hl
 | s::r,y::pr,b::bs,B,x,bo,hl,h=>by
  simp only [setB,purgeOs]
  split
  ·exact purgeOs_rel r pr bs _ _ bo (by simpa using hl) (purgeO_rel _ _ h)
  ·exact purgeOs_rel r pr bs _ _ bo (by simpa using hl) h
def DN (l:List Nat):Prop:=∀ (i j:Nat) x,i≠j→l[i]? =some x→l[j]? =some x→False
theorem DN.tail {s:Nat}{r:List Nat}(h:DN (s::r)):s ∉ r∧DN r :=
 ⟨fun hm=>by obtain ⟨i,hi,e⟩:=List.mem_iff_getElem.1 hm; exact h 0 (i+1) s (by omega) rfl (by simp [List.getElem?_eq_getElem hi,e]),fun i j x hij hi hj=>h (i+1) (j+1) x (by omega) (by simpa using hi) (by simpa using hj)⟩
theorem setB_get:∀ (sel:List Nat) (pre:List AO) (bs B:List (Option BI)),(∀ s ∈ sel,s<B.length)→DN sel→sel.length=pre.length→pre.length≤bs.length →
  (∀ j,j ∉ sel→(setB sel pre bs B)[j]? =B[j]?)∧∀ (i j:Nat),sel[i]? =some j→((getO pre i).kd=3→(setB sel pre bs B)[j]? =bs[i]?)∧((getO pre i).kd≠3→(setB sel pre bs B)[j]? =B[j]?)
 | [],pre,bs,B,_,_,_,_=>⟨fun j _=>by simp [setB],fun i j h=>by simp at h⟩
 | _::_,[],_,_,_,_,h,_=>by simp at h
 | _::_,_::_,[],_,_,_,_,h=>by simp at h
 | s::r,y::pr,b::bs,B,hlt,hd,hl,hl2=>by
  obtain ⟨hs,hd'⟩:=hd.tail
  have hsl:=hlt s (by simp)
  simp only [setB]
  split
  ·rename_i hk
   have hk:=Nat.beq_spec hk
   obtain ⟨k1,k2⟩:=setB_get r pr bs (B.set s b) (fun x hx=>by rw [List.length_set]; exact hlt x (by simp [hx])) hd' (by simpa using hl) (by simpa using hl2)
   refine ⟨fun j hj=> ?_,fun i j hi=> ?_⟩
   ·simp only [List.mem_cons,not_or] at hj
    rw [k1 j hj.2,List.getElem?_set_ne (fun e=>hj.1 e.symm)]
   ·cases i with
    | zero =>
     simp only [List.getElem?_cons_zero,Option.some.injEq] at hi
     subst hi
     refine ⟨fun _=>by rw [k1 s hs,List.getElem?_set_self hsl]; rfl,fun h=>absurd hk h⟩
    | succ i =>
     have hi':r[i]? =some j:=by simpa using hi
     have:=k2 i j hi'
     refine ⟨fun h=>by rw [this.1 h]; rfl,fun h=> ?_⟩
     rw [this.2 h,List.getElem?_set_ne (fun (e:s=j)=>hs (by rw [e]; exact List.mem_of_getElem? hi'))]
  ·rename_i hk
   have hk:y.kd≠3:=fun e=>by rw [e] at hk; simp at hk
   obtain ⟨k1,k2⟩:=setB_get r pr bs B (fun x hx=>hlt x (by simp [hx])) hd' (by simpa using hl) (by simpa using hl2)
   refine ⟨fun j hj=> ?_,fun i j hi=> ?_⟩
   ·simp only [List.mem_cons,not_or] at hj
    exact k1 j hj.2
   ·cases i with
    | zero =>
     simp only [List.getElem?_cons_zero,Option.some.injEq] at hi
     subst hi
     exact ⟨fun h=>absurd h hk,fun _=>k1 s hs⟩
    | succ i =>
     have hi':r[i]? =some j:=by simpa using hi
     exact k2 i j hi'
def putG (selF:List Nat):List Nat→List AO→List AO→List AO
 | s::r,y::pr,L=>putG selF r pr (setO L s (renGO selF y))
 | _,_,L=>L
theorem putG_length (selF:List Nat):∀ (sel:List Nat) (post L:List AO),(putG selF sel post L).length=L.length
 | [],_,_=>by simp [putG]
 | _::_,[],_=>by simp [putG]
 | s::r,y::pr,L=>by simp only [putG]; rw [putG_length selF r pr,setO_length]
theorem getO_putG (selF:List Nat):∀ (sel:List Nat) (post L:List AO),(∀ s ∈ sel,s<L.length)→DN sel→sel.length=post.length →
  (∀ j,j ∉ sel→getO (putG selF sel post L) j=getO L j)∧∀ (i j:Nat),sel[i]? =some j→getO (putG selF sel post L) j=renGO selF (getO post i)
 | [],post,L,_,_,_=>⟨fun j _=>by simp [putG],fun i j h=>by simp at h⟩
 | _::_,[],_,_,_,h=>by simp at h
 | s::r,y::pr,L,hlt,hd,hl=>by
  obtain ⟨hs,hd'⟩:=hd.tail
  have hsl:=hlt s (by simp)
  obtain ⟨k1,k2⟩:=getO_putG selF r pr (setO L s (renGO selF y)) (fun x hx=>by rw [setO_length]; exact hlt x (by simp [hx])) hd' (by simpa using hl)
  simp only [putG]
  refine ⟨fun j hj=> ?_,fun i j hi=> ?_⟩
  ·simp only [List.mem_cons,not_or] at hj
   rw [k1 j hj.2,getO_setO L s j _ hsl,if_neg hj.1]
  ·cases i with
   | zero =>
    simp only [List.getElem?_cons_zero,Option.some.injEq] at hi
    subst hi
    rw [k1 s hs,getO_setO L s s _ hsl,if_pos rfl]
    rfl
   | succ i=>exact k2 i j (by simpa using hi)
def viewU (ld:Bool) (sel:List Nat) (L:List AO):Vw:=fun id esz off len=>match getO L id with
 | .row e _ f=>match ld with
  | true=>match Nat.beq e esz with
   | true=>match memN id sel with
    | false=>some (.sl true esz len fun i=>f (off+i))
    | true=>none
   | false=>none
  | false=>none
 | .frz e _ f=>match Nat.beq e esz with
  | true=>some (.sl false esz len fun i=>f (off+i))
  | false=>none
 | _=>none
theorem viewU_sound {M:Mz}{B:List (Option BI)}{L:List AO}{w:World}{ld:Bool}{sel:List Nat}{S':Rd}(hrel:RelL M B L w)(hle:(Sr M B L w).le S')
  (hown:ld=true→∀ (id:Nat) (bi:BI),id ∉ sel→B[id]? =some (some bi)→(getO L id).live=true→∀ o u,w.cell? ⟨bi.b,o,none⟩=some u→S' true bi.b o u)
  (id esz off len:Nat) (y:C) (u:Value) (hv:viewU ld sel L id esz off len=some y) (hu:RelV B (Sr M B L w) (.own id esz off len) u):RepC S' y u:=by
 unfold viewU at hv
 have fin:∀ (t:Bool) (f:Nat→List C),y= .sl t esz len (fun i=>f (off+i)) →
   (∀ bi,B[id]? =some (some bi)→∀ i,i<bi.n→(f i).length=esz∧RepCs S' (S' t bi.b) (bi.o+i*esz) (f i))→RepC S' y u:=by
  intro t f hy hf
  subst hy
  simp only [RelV] at hu
  simp only [RepC]
  rcases hu with ⟨bi,cap,hb,rfl,h1,h2,h3⟩|⟨rfl,⟨a,rfl⟩,_⟩
  ·refine ⟨_,cap,rfl,h1,?_⟩
   by_cases h0:len=0
   ·exact .inl h0
   ·refine .inr ⟨bi.b,_,rfl,fun i hi=> ?_⟩
    have:=hf bi hb (off+i) (by omega)
    refine ⟨this.1,?_⟩
    rw [show bi.o+off*esz+i*esz=bi.o+(off+i)*esz from by rw [Nat.add_mul]; omega]
    exact this.2
  ·exact ⟨a,0,rfl,⟨Nat.le_refl _,Nat.zero_le _⟩,.inl rfl⟩
 split at hv
 ·rename_i e m f hO
  split at hv
  ·split at hv
   ·rename_i he
    obtain rfl:=Nat.beq_spec he
    split at hv
    ·rename_i hr
     have hr:id ∉ sel:=fun e=>by rw [memN_spec.2 e] at hr; simp at hr
     simp only [Option.some.injEq] at hv
     refine fin true f hv.symm fun bi hb i hi=> ?_
     have:=hrel.obj id _ hb
     rw [hO] at this
     obtain ⟨hn,cs,ty,h1,h2,h3,h4⟩:=this
     have:=h4 i (by omega)
     refine ⟨this.1,RepCs.mono hle (fun o u hh=>hown rfl id bi hr hb (by rw [hO]; rfl) o u (by simpa [h1.cell] using hh)) _ _ this.2⟩
    ·simp at hv
   ·simp at hv
  ·simp at hv
 ·rename_i e m f hO
  split at hv
  ·rename_i he
   obtain rfl:=Nat.beq_spec he
   simp only [Option.some.injEq] at hv
   refine fin false f hv.symm fun bi hb i hi=> ?_
   have:=hrel.obj id _ hb
   rw [hO] at this
   obtain ⟨hn,h4⟩:=this
   exact ⟨(h4 i (by omega)).1,RepCs.mono hle (fun o u hh=>hle _ _ _ _ hh) _ _ (h4 i (by omega)).2⟩
  ·simp at hv
 ·simp at hv
end Go.VA
namespace Go.VA
open Go Go.RowKit
theorem RelO.ble {B B':List (Option BI)}{S:Rd}{w:World}(hB:Ble B B'){x:AO}{bo:Option BI}(h:RelO B S w x bo):RelO B' S w x bo:=by
 cases x with
 | box xs =>
  obtain ⟨bi,cs,ty,e,h1,h2,h3,h4,h5⟩:=h
  exact ⟨bi,cs,ty,e,h1,h2,h3,h4,RelVs.mono hB (Rd.le_refl S) _ _ h5⟩
 | row e n f=>cases bo<;>exact h
 | frz e n f=>cases bo<;>exact h
 | mp m=>exact h
 | amb vs xs=>exact RelVs.mono hB (Rd.le_refl S) _ _ h
 | dead=>trivial
theorem RelSl.ble {B B':List (Option BI)}{S:Rd}{a:Act}(hB:Ble B B'){x:AV}{u:Value}(h:RelSl B S a x u):RelSl B' S a x u:=by
 cases x<;>simp only [RelSl] at h ⊢ <;>first|exact RelV.mono hB (Rd.le_refl S) _ _ h|exact ⟨fun e=>RelV.mono hB (Rd.le_refl S) _ _ (h.1 e),h.2⟩
theorem getO_get:∀ (l:List AO) (j:Nat) (h:j<l.length),l[j]? =some (getO l j)
 | [],j,h=>by simp at h
 | x::r,0,_=>rfl
 | x::r,j+1,h=>by simpa [getO] using getO_get r j (by simpa using h)
section
variable {P:Program} {gl:Gl}
theorem xc_g_core {f:Nat}{pre post:List AO}{args' res:List AV}(h:GCall P gl f pre args' post res)(ld:Bool)(sel:List Nat){ro:Nat}{first cap args:List AV}{env:Env}{L:List AO}{K:AV→Env→List AO→Prop}
  (hd:distN sel=true) (hro':∀ s ∈ sel,ro≤s) (hsl:sel.length=pre.length) (hpre:GLeL (viewU ld sel L) sel L 0 pre) (hargs:GLes (viewU ld sel L) sel args' (first++args++cap))
  (hnt:ld=true→ntL post∧ntAs res)
  (hK:K (retA (renGs (sel++upTo (post.length-pre.length) L.length) res)) (purgeEs sel pre env)
   (putG (sel++upTo (post.length-pre.length) L.length) (sel++upTo (post.length-pre.length) L.length) post (purgeLs sel pre L++List.replicate (post.length-pre.length) .dead))):XCall P gl ro (.fn f first cap) args env L K:=by
 refine ⟨fun X B a w o c fo hgl hro hS ho hc hfr hav=> ?_⟩
 subst hro
 simp only [RelV] at hfr
 obtain ⟨a1,a2,hfv,h1,h2⟩:=hfr
 have hL:=hS.relL
 have hlen:=h.len
 have hvals:RelVs B (Sr X.M B L w) (first++args++cap) (a1++c.args.map a.eval++a2).toList:=by
  have:=RelVs.append _ _ _ _ (RelVs.append _ _ _ _ h1 hav) h2
  simpa using this
 have sobj:∀ (i s:Nat),sel[i]? =some s→i<pre.length∧GLeO (viewU ld sel L) sel (getO pre i) (getO L s):=by
  intro i s hs
  have hlt:i<pre.length:=by rw [← hsl]; exact (List.getElem?_eq_some_iff.1 hs).1
  obtain ⟨s',g1,g2⟩:=GLeL_get hpre i _ (getO_get pre i hlt)
  rw [Nat.zero_add,hs] at g1
  simp only [Option.some.injEq] at g1
  subst g1
  exact ⟨hlt,g2⟩
 have sg:∀ (s:Nat),s ∈ sel→X.M.ro≤s∧s<L.length∧(getO L s).live=true:=by
  intro s hs
  obtain ⟨i,hi,rfl⟩:=List.mem_iff_getElem.1 hs
  have:=GLeO_live (sobj i _ (List.getElem?_eq_getElem hi)).2
  exact ⟨hro' _ hs,live_lt this.1,this.1⟩
 have hdn:DN sel:=fun i j x hij hi hj=>distN_spec hd i j x hij hi hj
 let rest:Bool→Nat→Prop:=fun t b=>match t with
  | false=>X.M.f b∨∃ (id:Nat) (bi:BI),id ∉ sel∧B[id]? =some (some bi)∧bi.b=b∧(getO L id).live=true
  | true=>X.M.t b∨∃ (id:Nat) (bi:BI),id ∉ sel∧X.M.ro≤id∧B[id]? =some (some bi)∧bi.b=b∧(getO L id).live=true
 have hrtf:∀ b,rest true b→rest false b:=by
  rintro b (hb|⟨id,bi,h0,_,h1⟩)
  ·exact .inl (X.M.le b hb)
  ·exact .inr ⟨id,bi,h0,h1⟩
 let T:Nat→Prop:=fun b=>match ld with|true=>X.M.t b|false=>rest true b
 have hT1:∀ b,X.M.t b→T b:=by intro b hb; cases ld; exact .inl hb; exact hb
 have hT2:∀ b,T b→rest true b:=by intro b hb; cases ld; exact hb; exact .inl hb
 let M':Mz:=⟨0,rest false,T,fun b hb=>hrtf b (hT2 b hb)⟩
 let B':List (Option BI):=sel.map fun s=>(B[s]?).getD none
 have hB':∀ (i s:Nat),sel[i]? =some s→B'[i]? =B[s]? :=by
  intro i s hs
  have hlt:s<B.length:=by rw [hL.len]; exact (sg s (List.mem_of_getElem? hs)).2.1
  simp only [B',List.getElem?_map,hs,Option.map_some,List.getElem?_eq_getElem hlt,Option.getD_some]
 have hB'l:B'.length=sel.length:=by simp [B']
 have hB'i:∀ (i:Nat) (bo:Option BI),B'[i]? =some bo→∃ s,sel[i]? =some s∧B[s]? =some bo:=by
  intro i bo hi
  have hlt:i<sel.length:=by have:=(List.getElem?_eq_some_iff.1 hi).1; simpa [B'] using this
  exact ⟨sel[i],List.getElem?_eq_getElem hlt,by rw [← hB' i _ (List.getElem?_eq_getElem hlt)]; exact hi⟩
 have hSr:(Sr X.M B L w).le (Sr M' B' pre w):=by
  intro t b q u hh
  refine ⟨fun hm=>hh.1 ?_,hh.2⟩
  cases t with
  | false =>
   rcases hm with hm|⟨i,bi,k1,k2,_⟩
   ·rcases hm with hm|⟨id,bi,_,k1,k2,k3⟩
    ·exact .inl hm
    ·exact .inr ⟨id,bi,k1,k2,k3⟩
   ·obtain ⟨s,q1,q2⟩:=hB'i i _ k1
    exact .inr ⟨s,bi,q2,k2,(sg s (List.mem_of_getElem? q1)).2.2⟩
  | true =>
   rcases hm with hm|⟨i,bi,_,k1,k2,_⟩
   ·rcases hT2 b hm with hm|⟨id,bi,_,k0,k1,k2,k3⟩
    ·exact .inl hm
    ·exact .inr ⟨id,bi,k0,k1,k2,k3⟩
   ·obtain ⟨s,q1,q2⟩:=hB'i i _ k1
    have:=sg s (List.mem_of_getElem? q1)
    exact .inr ⟨s,bi,this.1,q2,k2,this.2.2⟩
 have hnM:∀ (i:Nat) (bi:BI),B'[i]? =some (some bi)→¬ rest false bi.b:=by
  intro i bi hi
  obtain ⟨s,k1,k2⟩:=hB'i i _ hi
  have hs:=sg s (List.mem_of_getElem? k1)
  rintro (hm|⟨id,bi',q0,q1,q2,q3⟩)
  ·exact hL.notM s bi k2 hs.2.2 hm
  ·exact hL.dist id s bi' bi (fun e=>q0 (e ▸ List.mem_of_getElem? k1)) q1 k2 q3 hs.2.2 q2
 have hdst:∀ (i j:Nat) (bi bj:BI),i≠j→B'[i]? =some (some bi)→B'[j]? =some (some bj)→bi.b≠bj.b:=by
  intro i j bi bj hij hi hj
  obtain ⟨s,k1,k2⟩:=hB'i i _ hi
  obtain ⟨s',k3,k4⟩:=hB'i j _ hj
  exact hL.dist s s' bi bj (fun e=>hdn i j s hij k1 (e ▸ k3)) k2 k4 (sg s (List.mem_of_getElem? k1)).2.2 (sg s' (List.mem_of_getElem? k3)).2.2
 have hvw:=fun i e o l z u=>viewU_sound (ld:=ld) (sel:=sel) (S':=Sr M' B' pre w) hL hSr (fun hld id bi hid hb hl o u hc=>⟨by
  rintro (hm|⟨j,bi',_,q1,q2,q3⟩)
  ·have:X.M.t bi.b:=by subst hld; exact hm
   exact hL.notM id bi hb hl (X.M.le _ this)
  ·obtain ⟨s,g1,g2⟩:=hB'i j _ q1
   exact hL.dist s id bi' bi (fun e=>hid (e ▸ List.mem_of_getElem? g1)) g2 hb (sg s (List.mem_of_getElem? g1)).2.2 hl q2,hc⟩) i e o l z u
 have hRel:RelL M' B' pre w:={
  len:=by rw [hB'l,hsl]
  bnd:=fun i bi hi=>by obtain ⟨s,_,k2⟩:=hB'i i _ hi; exact hL.bnd s bi k2
  mbnd:=fun b hb=>by
   rcases hb with hb|⟨id,bi,_,k1,k2,_⟩
   ·exact hL.mbnd b hb
   ·rw [← k2]; exact hL.bnd id bi k1
  notM:=fun i bi hi _=>hnM i bi hi
  dist:=fun i j bi bj hij hi hj _ _=>hdst i j bi bj hij hi hj
  obj:=fun i bo hi=>by
   obtain ⟨s,k1,k2⟩:=hB'i i _ hi
   exact GLeO_rel hSr hB' hB'l hvw (sobj i s k1).2 (hL.obj s bo k2) }
 have hG:GlOk gl (Sr M' B' pre w):=by rw [← hgl]; exact hS.glob.mono hSr
 have hav':RelVs B' (Sr M' B' pre w) args' (a1++c.args.map a.eval++a2).toList:=GLes_rel hSr hB' hB'l hvw _ _ _ hargs hvals
 have hrun:=h.run w M' B' (a1++c.args.map a.eval++a2) rfl hRel hG hav'
 intro next Q hn
 unfold Oper.wp
 rw [run_enter ho hc hfv h.callable,Oper.upon_enter]
 refine hrun.mono ?_
 rintro e w' ⟨u,B2,rfl,hfrm,hRel',hu,hfresh,hsame⟩
 generalize hmd:post.length-pre.length=md at hK
 generalize hsf:sel++upTo md L.length=selF at hK
 have hsfl:selF.length=post.length:=by rw [← hsf,List.length_append,upTo_length]; omega
 have hB2l:B2.length=post.length:=hRel'.len
 have sf1:∀ (i s:Nat),selF[i]? =some s→(i<pre.length∧sel[i]? =some s)∨(pre.length≤i∧i<post.length∧s=L.length+(i-pre.length)):=by
  intro i s hs
  have hlt:=(List.getElem?_eq_some_iff.1 hs).1
  rw [← hsf] at hs
  by_cases hi:i<sel.length
  ·rw [List.getElem?_append_left hi] at hs
   exact .inl ⟨by omega,hs⟩
  ·rw [List.getElem?_append_right (by omega),upTo_get _ _ _ (by omega)] at hs
   simp only [Option.some.injEq] at hs
   exact .inr ⟨by omega,by omega,by omega⟩
 have sf0:∀ (i s:Nat),sel[i]? =some s→selF[i]? =some s:=by
  intro i s hs
  rw [← hsf,List.getElem?_append_left (List.getElem?_eq_some_iff.1 hs).1]
  exact hs
 have hdnF:DN selF:=by
  intro i j x hij hi hj
  rcases sf1 i x hi with ⟨k1,k2⟩|⟨k1,k2,k3⟩<;>rcases sf1 j x hj with ⟨q1,q2⟩|⟨q1,q2,q3⟩
  ·exact hdn i j x hij k2 q2
  ·have:=(sg x (List.mem_of_getElem? k2)).2.1; omega
  ·have:=(sg x (List.mem_of_getElem? q2)).2.1; omega
  ·omega
 generalize hL1:purgeLs sel pre L++List.replicate md AO.dead=L1 at hK
 have hL1l:L1.length=L.length+md:=by rw [← hL1,List.length_append,purgeLs_length,List.length_replicate]
 have hL1g:∀ j,j<L.length→getO L1 j=purgeOs sel pre (getO L j):=by
  intro j hj
  rw [← hL1,← purgeLs_get]
  have:∀ (l r:List AO) (j:Nat),j<l.length→getO (l++r) j=getO l j:=by
   intro l r
   induction l with
   | nil=>intro j h; simp at h
   | cons x l ih =>
    intro j h
    cases j with
    | zero=>rfl
    | succ j=>simpa [getO] using ih j (by simpa using h)
  exact this _ _ _ (by rw [purgeLs_length]; exact hj)
 have hltF:∀ s ∈ selF,s<L1.length:=by
  intro s hs
  obtain ⟨i,hi,e⟩:=List.mem_iff_getElem.1 hs
  rcases sf1 i s (by rw [List.getElem?_eq_getElem hi,e]) with ⟨_,k2⟩|⟨k1,k2,k3⟩
  ·have:=(sg s (List.mem_of_getElem? k2)).2.1; omega
  ·omega
 obtain ⟨hp1,hp2⟩:=getO_putG selF selF post L1 hltF hdnF hsfl
 generalize hL2:putG selF selF post L1=L2 at hK hp1 hp2
 have hL2l:L2.length=L.length+md:=by rw [← hL2,putG_length,hL1l]
 let B1:=setB sel pre B2 B
 have hB1l:B1.length=L.length:=by rw [setB_length,hL.len]
 let B3:=B1++B2.drop pre.length
 have hB3l:B3.length=L.length+md:=by simp only [B3,List.length_append,hB1l,List.length_drop]; omega
 obtain ⟨hb1,hb2⟩:=setB_get sel pre B2 B (fun s hs=>by rw [hL.len]; exact (sg s hs).2.1) hdn hsl (by omega)
 have hb3:∀ j,j<L.length→j ∉ sel→B3[j]? =B[j]? :=by
  intro j hj hjs
  simp only [B3]
  rw [List.getElem?_append_left (by omega)]
  exact hb1 j hjs
 have hb4:∀ (i s:Nat),selF[i]? =some s→B3[s]? =B2[i]? :=by
  intro i s hs
  rcases sf1 i s hs with ⟨k1,k2⟩|⟨k1,k2,k3⟩
  ·have:=(sg s (List.mem_of_getElem? k2)).2.1
   simp only [B3]
   rw [List.getElem?_append_left (by omega)]
   by_cases hk:(getO pre i).kd=3
   ·exact (hb2 i s k2).1 hk
   ·have e1:B1[s]? =B[s]? :=(hb2 i s k2).2 hk
    rw [e1,hsame i k1 (by rw [h.kinds i k1]; exact hk),hB' i s k2]
  ·simp only [B3]
   rw [k3,List.getElem?_append_right (by omega),hB1l,List.getElem?_drop]
   congr 1; omega
 have hcov:∀ id,id<L.length+md→(id<L.length∧id ∉ sel∧id ∉ selF)∨∃ i,i<post.length∧selF[i]? =some id:=by
  intro id hid
  by_cases hs:id ∈ selF
  ·obtain ⟨i,hi,e⟩:=List.mem_iff_getElem.1 hs
   exact .inr ⟨i,by omega,by rw [List.getElem?_eq_getElem hi,e]⟩
  ·have h1:id ∉ sel:=fun hm=>hs (by rw [← hsf]; exact List.mem_append_left _ hm)
   refine .inl ⟨?_,h1,hs⟩
   by_cases hlt:id<L.length
   ·exact hlt
   ·exfalso
    refine hs ?_
    have hi:pre.length+(id-L.length)<selF.length:=by omega
    rcases sf1 _ _ (List.getElem?_eq_getElem hi) with ⟨k1,_⟩|⟨_,_,k3⟩
    ·omega
    ·have:selF[pre.length+(id-L.length)]=id:=by omega
     exact this ▸ List.getElem_mem hi
 have hnsel:∀ id,id ∉ selF→id<L.length→getO L2 id=purgeOs sel pre (getO L id):=fun id hid hlt=>by rw [hp1 id hid,hL1g id hlt]
 have hoL:∀ (i s:Nat),selF[i]? =some s→(getO L2 s).live=true∧(getO L2 s).kd=(getO post i).kd:=by
  intro i s hs
  have hi:i<post.length:=by rw [← hsfl]; exact (List.getElem?_eq_some_iff.1 hs).1
  rw [hp2 i s hs,(renGO_live _ _).1,(renGO_live _ _).2]
  exact ⟨h.liveq i hi,rfl⟩
 have hidlt:∀ (id:Nat) (bo:Option BI),B3[id]? =some bo→id<L.length+md:=fun id bo e=>by rw [← hB3l]; exact (List.getElem?_eq_some_iff.1 e).1
 have hmuB:∀ t b,MU X.M B3 L2 t b→(∃ b0,b0=b∧b<w.heap.size→MU X.M B L t b)∧(b<w.heap.size→MU X.M B L t b):=by
  intro t b hm
  have key:b<w.heap.size→MU X.M B L t b:=by
   intro hlt
   have fin:∀ (id:Nat) (bi:BI),(t=true→X.M.ro≤id)→B3[id]? =some (some bi)→bi.b=b→(getO L2 id).live=true→MU X.M B L t b:=by
    intro id bi g0 g1 g2 g3
    rcases hcov id (hidlt id _ g1) with ⟨k1,k2,k3⟩|⟨i,k1,k2⟩
    ·rw [hb3 id k1 k2] at g1
     rw [hnsel id k3 k1,(purgeOs_live _ _ _).1] at g3
     cases t with
     | false=>exact .inr ⟨id,bi,g1,g2,g3⟩
     | true=>exact .inr ⟨id,bi,g0 rfl,g1,g2,g3⟩
    ·rw [hb4 i id k2] at g1
     rcases hfresh i bi g1 with q1|⟨j,bj,q1,q2⟩
     ·omega
     ·obtain ⟨s,r1,r2⟩:=hB'i j _ q1
      have:=sg s (List.mem_of_getElem? r1)
      cases t with
      | false=>exact .inr ⟨s,bj,r2,q2.trans g2,this.2.2⟩
      | true=>exact .inr ⟨s,bj,this.1,r2,q2.trans g2,this.2.2⟩
   cases t with
   | false =>
    rcases hm with hm|⟨id,bi,g1,g2,g3⟩
    ·exact .inl hm
    ·exact fin id bi (by simp) g1 g2 g3
   | true =>
    rcases hm with hm|⟨id,bi,g0,g1,g2,g3⟩
    ·exact .inl hm
    ·exact fin id bi (fun _=>g0) g1 g2 g3
  exact ⟨⟨b,fun hb=>key hb.2⟩,key⟩
 have hblk:∀ b,Bl B' b→MU X.M B L true b:=by
  rintro b ⟨i,bi,q1,q2⟩
  obtain ⟨s,k1,k2⟩:=hB'i i _ q1
  have:=sg s (List.mem_of_getElem? k1)
  exact .inr ⟨s,bi,this.1,k2,q2,this.2.2⟩
 have hle:(Sr X.M B L w).le (Sr X.M B3 L2 w'):=by
  intro t b q v hh
  have hlt:=block_lt hh.2
  refine ⟨fun hm=>hh.1 ((hmuB t b hm).2 hlt),?_⟩
  rw [World.cell?_of_block (w:=w) (hfrm.block b hlt fun hbl=>hh.1 (by
   cases t with
   | false=>exact MU_le true b (hblk b hbl)
   | true=>exact hblk b hbl))]
  exact hh.2
 have hbackF:∀ b q v,Sr M' B2 post w' false b q v→Sr X.M B3 L2 w' false b q v:=by
  rintro b q v hh
  refine ⟨fun hm=>hh.1 ?_,hh.2⟩
  rcases hm with hm|⟨id,bi,g1,g2,g3⟩
  ·exact .inl (.inl hm)
  ·rcases hcov id (hidlt id _ g1) with ⟨k1,k2,k3⟩|⟨i,k1,k2⟩
   ·rw [hb3 id k1 k2] at g1
    rw [hnsel id k3 k1,(purgeOs_live _ _ _).1] at g3
    exact .inl (.inr ⟨id,bi,k2,g1,g2,g3⟩)
   ·rw [hb4 i id k2] at g1
    exact .inr ⟨i,bi,g1,g2,h.liveq i k1⟩
 have hback:ld=false→(Sr M' B2 post w').le (Sr X.M B3 L2 w'):=by
  intro hld t b q v hh
  cases t with
  | false=>exact hbackF b q v hh
  | true =>
   refine ⟨fun hm=>hh.1 ?_,hh.2⟩
   rcases hm with hm|⟨id,bi,g0,g1,g2,g3⟩
   ·exact .inl (hT1 b hm)
   ·rcases hcov id (hidlt id _ g1) with ⟨k1,k2,k3⟩|⟨i,k1,k2⟩
    ·rw [hb3 id k1 k2] at g1
     rw [hnsel id k3 k1,(purgeOs_live _ _ _).1] at g3
     refine .inl ?_
     show T b
     subst hld
     exact .inr ⟨id,bi,k2,g0,g1,g2,g3⟩
    ·rw [hb4 i id k2] at g1
     exact .inr ⟨i,bi,Nat.zero_le _,g1,g2,h.liveq i k1⟩
 have hcd:∀ {p:Prop},(ld=true→p)→((Sr M' B2 post w').le (Sr X.M B3 L2 w')∨p):=by
  intro p hp
  cases hq:ld with
  | false=>exact .inl (hback hq)
  | true=>exact .inr (hp hq)
 have hren0:∀ (i:Nat) (x:Option BI),B2[i]? =some x→B3[nthD selF i]? =some x:=by
  intro i x hx
  have hi:i<selF.length:=by rw [hsfl,← hB2l]; exact (List.getElem?_eq_some_iff.1 hx).1
  rw [nthD_eq (List.getElem?_eq_getElem hi),hb4 i _ (List.getElem?_eq_getElem hi)]
  exact hx
 have hble:Ble B1 B3:=fun id x hx=>by
  simp only [B3]
  rw [List.getElem?_append_left (List.getElem?_eq_some_iff.1 hx).1]
  exact hx
 have hS2:St X B3 (purgeEs sel pre env) L2 a w':={
  relL:={
   len:=by rw [hB3l,hL2l]
   bnd:=fun id bi hb=>by
    rcases hcov id (hidlt id _ hb) with ⟨k1,k2,k3⟩|⟨i,k1,k2⟩
    ·rw [hb3 id k1 k2] at hb
     exact Nat.lt_of_lt_of_le (hL.bnd id bi hb) hfrm.size
    ·rw [hb4 i id k2] at hb
     exact hRel'.bnd i bi hb
   mbnd:=fun b hb=>Nat.lt_of_lt_of_le (hL.mbnd b hb) hfrm.size
   notM:=fun id bi hb hl=>by
    rcases hcov id (hidlt id _ hb) with ⟨k1,k2,k3⟩|⟨i,k1,k2⟩
    ·rw [hb3 id k1 k2] at hb
     rw [hnsel id k3 k1,(purgeOs_live _ _ _).1] at hl
     exact hL.notM id bi hb hl
    ·rw [hb4 i id k2] at hb
     exact fun hm=>hRel'.notM i bi hb (h.liveq i k1) (.inl hm)
   dist:=fun id jd bi bj hij hi hj hli hlj=>by
    rcases hcov id (hidlt id _ hi) with ⟨k1,k2,k3⟩|⟨i,k1,k2⟩<;>rcases hcov jd (hidlt jd _ hj) with ⟨q1,q2,q3⟩|⟨j,q1,q2⟩
    ·rw [hb3 id k1 k2] at hi
     rw [hb3 jd q1 q2] at hj
     rw [hnsel id k3 k1,(purgeOs_live _ _ _).1] at hli
     rw [hnsel jd q3 q1,(purgeOs_live _ _ _).1] at hlj
     exact hL.dist id jd bi bj hij hi hj hli hlj
    ·rw [hb3 id k1 k2] at hi
     rw [hnsel id k3 k1,(purgeOs_live _ _ _).1] at hli
     rw [hb4 j jd q2] at hj
     exact fun e=>hRel'.notM j bj hj (h.liveq j q1) (.inr ⟨id,bi,k2,hi,e,hli⟩)
    ·rw [hb4 i id k2] at hi
     rw [hb3 jd q1 q2] at hj
     rw [hnsel jd q3 q1,(purgeOs_live _ _ _).1] at hlj
     exact fun e=>hRel'.notM i bi hi (h.liveq i k1) (.inr ⟨jd,bj,q2,hj,e.symm,hlj⟩)
    ·rw [hb4 i id k2] at hi
     rw [hb4 j jd q2] at hj
     exact hRel'.dist i j bi bj (fun e=>hij (by subst e; exact Option.some.inj (k2.symm.trans q2))) hi hj (h.liveq i k1) (h.liveq j q1)
   obj:=fun id bo hb=>by
    rcases hcov id (hidlt id _ hb) with ⟨k1,k2,k3⟩|⟨i,k1,k2⟩
    ·rw [hb3 id k1 k2] at hb
     rw [hnsel id k3 k1]
     refine RelO.ble hble (purgeOs_rel sel pre B2 B _ _ (by omega) ?_)
     refine RelO_keep hle _ _ (fun hl b e=> ?_) (hL.obj id bo hb)
     subst e
     refine hfrm.block b.b (hL.bnd id b hb) ?_
     rintro ⟨i,bi,h1,h2⟩
     obtain ⟨s,k1,k2'⟩:=hB'i i _ h1
     exact hL.dist s id bi b (fun e=>k2 (e ▸ List.mem_of_getElem? k1)) k2' hb (sg s (List.mem_of_getElem? k1)).2.2 hl h2
    ·rw [hb4 i id k2] at hb
     rw [hp2 i id k2]
     exact renGO_rel hbackF (fun i x hx=>hren0 i _ hx) hren0 _ _ (h.liveq i k1) (hcd fun hl=>ntL_get i (hnt hl).1) (hRel'.obj i bo hb) }
  glob:=hS.glob.mono hle
  relE:=fun t=>RelSl.ble hble (purgeEs_rel hle sel pre B2 B env t (by omega) (hS.relE t))
  below:=by
   refine ⟨hfrm.os.trans hS.below.os,hfrm.tape.trans hS.below.tape,hfrm.output.trans hS.below.output,Nat.le_trans hS.below.size hfrm.size,fun k hk hm=> ?_⟩
   rw [← hS.below.block k hk hm]
   refine hfrm.block k (Nat.lt_of_lt_of_le hk hS.below.size) ?_
   rintro ⟨i,bi,h1,h2⟩
   obtain ⟨s,k1,k2⟩:=hB'i i _ h1
   have:=sg s (List.mem_of_getElem? k1)
   rcases hS.fresh s bi this.1 k2 this.2.2 with h4|h4
   ·omega
   ·exact hm (h2 ▸ h4)
  fresh:=fun id bi h1 hb hl=>by
   rcases hcov id (hidlt id _ hb) with ⟨k1,k2,k3⟩|⟨i,k1,k2⟩
   ·rw [hb3 id k1 k2] at hb
    rw [hnsel id k3 k1,(purgeOs_live _ _ _).1] at hl
    exact hS.fresh id bi h1 hb hl
   ·rw [hb4 i id k2] at hb
    rcases hfresh i bi hb with q1|⟨j,bj,q1,q2⟩
    ·exact .inl (Nat.le_trans hS.below.size q1)
    ·obtain ⟨s,r1,r2⟩:=hB'i j _ q1
     have:=sg s (List.mem_of_getElem? r1)
     rw [← q2]
     exact hS.fresh s bj this.1 r2 this.2.2
  old:=fun id hid=>by
   have hlt:id<L.length:=Nat.lt_of_lt_of_le hid hS.rol
   have hns:id ∉ sel:=fun hm=>by have:=hro' id hm; omega
   have hnf:id ∉ selF:=fun hm=>by
    obtain ⟨i,hi,e⟩:=List.mem_iff_getElem.1 hm
    rcases sf1 i id (by rw [List.getElem?_eq_getElem hi,e]) with ⟨_,k2⟩|⟨_,_,k3⟩
    ·exact hns (List.mem_of_getElem? k2)
    ·omega
   rw [hb3 id hlt hns,hnsel id hnf hlt,(purgeOs_live _ _ _).1]
   exact hS.old id hid
  rol:=by rw [hL2l]; have:=hS.rol; omega
  l0:=by rw [hL2l]; have:=hS.l0; omega
  knd:=fun id h0 h1=>by
   have hlt:id<L.length:=Nat.lt_of_lt_of_le h0 hS.l0
   have hk:=hS.knd id h0 hlt
   by_cases hs:id ∈ sel
   ·obtain ⟨i,hi,e⟩:=List.mem_iff_getElem.1 hs
    have hsi:sel[i]? =some id:=by rw [List.getElem?_eq_getElem hi,e]
    have hi':i<pre.length:=by omega
    have hkk:=(GLeO_live (sobj i id hsi).2).2.2
    rw [(hoL i id (sf0 i id hsi)).2,h.kinds i hi',← hkk,hb4 i id (sf0 i id hsi)]
    rcases hk with hk|⟨hk,hk2⟩
    ·exact .inl hk
    ·refine .inr ⟨hk,fun h3=> ?_⟩
     rw [hsame i hi' (by rw [h.kinds i hi',← hkk]; exact h3),hB' i id hsi]
     exact hk2 h3
   ·have hnf:id ∉ selF:=fun hm=>by
     obtain ⟨i,hi,e⟩:=List.mem_iff_getElem.1 hm
     rcases sf1 i id (by rw [List.getElem?_eq_getElem hi,e]) with ⟨_,k2⟩|⟨_,_,k3⟩
     ·exact hs (List.mem_of_getElem? k2)
     ·omega
    rw [hnsel id hnf hlt,(purgeOs_live _ _ _).2,hb3 id hlt hs]
    exact hk
  dfr:=hS.dfr
  sz:=hS.sz }
 refine hn _ _ _ _ _ _ hK (purgeEs_keys _ _ _) hS2 ?_
 have hnr:∀ (res:List AV),ntAs res→ntA (retA res):=by
  intro res hr
  match res,hr with
  | [],hr=>simp [retA,ntA,ntAs]
  | [x],hr=>exact hr.1
  | x::y::r,hr=>simpa [retA,ntA] using hr
 rw [← renG_ret]
 exact renG_rel hbackF (fun i x hx=>hren0 i _ hx) hren0 _ _ (hcd fun hl=>hnr _ (hnt hl).2) hu
end
end Go.VA
namespace Go.VA
open Go Go.RowKit
def forceI (sel:List Nat) (i:Nat) (K:Nat→Prop):Prop:=match nthG sel i with|some s=>K s|none=>K 0
theorem forceI_eq (sel:List Nat)(i:Nat)(K:Nat→Prop):forceI sel i K=K (nthD sel i):=by
 unfold forceI nthD
 cases nthG sel i<;>rfl
mutual
def renK (sel:List Nat):AV→(AV→Prop)→Prop
 | .ptr i o,K=>forceI sel i fun i=>K (.ptr i o)
 | .pe i e k j,K=>forceI sel i fun i=>K (.pe i e k j)
 | .own i e o l,K=>forceI sel i fun i=>K (.own i e o l)
 | .mpv i,K=>forceI sel i fun i=>K (.mpv i)
 | .agx xs,K=>renKs sel xs fun xs=>K (.agx xs)
 | .tup xs,K=>renKs sel xs fun xs=>K (.tup xs)
 | .fn f xs ys,K=>renKs sel xs fun xs=>renKs sel ys fun ys=>K (.fn f xs ys)
 | .gd ..,K=>K .any
 | .any,K=>K .any
 | .c x,K=>K (.c x)
 | .ag xs,K=>K (.ag xs)
 | .sp t xs k,K=>K (.sp t xs k)
 | .ub p,K=>K (.ub p)
def renKs (sel:List Nat):List AV→(List AV→Prop)→Prop
 | [],K=>K []
 | x::r,K=>renK sel x fun x=>renKs sel r fun r=>K (x::r)
end
mutual
theorem renK_eq (sel:List Nat):∀ (x:AV) (K:AV→Prop),renK sel x K=K (renG sel x)
 | .ptr i o,K=>by simp only [renK,renG]; rw [forceI_eq]
 | .pe i e k j,K=>by simp only [renK,renG]; rw [forceI_eq]
 | .own i e o l,K=>by simp only [renK,renG]; rw [forceI_eq]
 | .mpv i,K=>by simp only [renK,renG]; rw [forceI_eq]
 | .agx xs,K=>by simp only [renK,renG]; rw [renKs_eq sel xs]
 | .tup xs,K=>by simp only [renK,renG]; rw [renKs_eq sel xs]
 | .fn f xs ys,K=>by simp only [renK,renG]; rw [renKs_eq sel xs,renKs_eq sel ys]
 | .gd ..,K=>by simp only [renK,renG]
 | .any,K=>by simp only [renK,renG]
 | .c x,K=>by simp only [renK,renG]
 | .ag xs,K=>by simp only [renK,renG]
 | .sp t xs k,K=>by simp only [renK,renG]
 | .ub p,K=>by simp only [renK,renG]
theorem renKs_eq (sel:List Nat):∀ (xs:List AV) (K:List AV→Prop),renKs sel xs K=K (renGs sel xs)
 | [],K=>by simp only [renKs,renGs]
 | x::r,K=>by simp only [renKs,renGs]; rw [renK_eq sel x,renKs_eq sel r]
end
def renOK (sel:List Nat):AO→(AO→Prop)→Prop
 | .box xs,K=>renKs sel xs fun xs=>K (.box xs)
 | .row e n f,K=>K (.row e n f)
 | .frz e n f,K=>K (.frz e n f)
 | .mp m,K=>K (.mp m)
 | .amb vs xs,K=>K (.amb vs xs)
 | .dead,K=>K .dead
theorem renOK_eq (sel:List Nat)(x:AO)(K:AO→Prop):renOK sel x K=K (renGO sel x):=by
 cases x<;>simp only [renOK,renGO]
 rw [renKs_eq]
def putGK (selF:List Nat):List Nat→List AO→List AO→(List AO→Prop)→Prop
 | [],_,L,K=>K L
 | s::r,post,L,K=>match post with
  | []=>K L
  | y::pr=>renOK selF y fun y=>putGK selF r pr (setO L s y) K
theorem putGK_eq (selF:List Nat):∀ (sel:List Nat) (post L:List AO) (K:List AO→Prop),putGK selF sel post L K=K (putG selF sel post L)
 | [],_,_,_=>by simp [putGK,putG]
 | _::_,[],_,_=>by simp [putGK,putG]
 | s::r,y::pr,L,K=>by simp only [putGK,putG]; rw [renOK_eq,putGK_eq selF r pr]
def appL:List AO→List AO→List AO
 | [],r=>r
 | x::l,r=>x::appL l r
theorem appL_eq:∀ l r,appL l r=l++r
 | [],r=>rfl
 | x::l,r=>by simp [appL,appL_eq l r]
def deads:Nat→List AO
 | 0=>[]
 | n+1=> .dead::deads n
theorem deads_eq:∀ n,deads n=List.replicate n .dead
 | 0=>rfl
 | n+1=>by simp [deads,List.replicate_succ,deads_eq n]
def appA:List AV→List AV→List AV
 | [],r=>r
 | x::l,r=>x::appA l r
theorem appA_eq:∀ l r,appA l r=l++r
 | [],r=>rfl
 | x::l,r=>by simp [appA,appA_eq l r]
def allGe (ro:Nat):List Nat→Bool
 | []=>true
 | s::r=>match Nat.ble ro s with|true=>allGe ro r|false=>false
theorem allGe_spec {ro:Nat}:∀ {l:List Nat},allGe ro l=true→∀ s ∈ l,ro≤s
 | [],_,s,h=>by simp at h
 | x::r,h,s,hs=>by
  simp only [allGe] at h
  split at h
  ·rename_i h0
   rcases List.mem_cons.1 hs with rfl|hs
   ·exact Nat.le_of_ble_eq_true h0
   ·exact allGe_spec h s hs
  ·simp at h
def selU (pre L:List AO) (args' args:List AV):List Nat:=selFrom (expP pre L (expP pre L (pairAs args' args []))) (lenO pre) 0
def condG (ld:Bool) (ro:Nat) (pre L:List AO) (args' args:List AV):Prop :=
 forceNs (selU pre L args' args) fun sel=>distN sel=true∧allGe ro sel=true∧GLeL (viewU ld sel L) sel L 0 pre∧GLes (viewU ld sel L) sel args' args
def ntG (ld:Bool) (post:List AO) (res:List AV):Prop:=match ld with|true=>ntL post∧ntAs res|false=>True
def afterG (pre post:List AO) (res args' args:List AV) (env:Env) (L:List AO) (K:AV→Env→List AO→Prop):Prop :=
 forceNs (selU pre L args' args) fun sel=>forceNs (appN sel (upTo (lenO post-lenO pre) (lenO L))) fun selF =>
  putGK selF selF post (appL (purgeLs sel pre L) (deads (lenO post-lenO pre))) fun L2=>forceL L2 fun L2=>renKs selF res fun rs=>K (retA rs) (purgeEs sel pre env) L2
section
variable {P:Program} {tb:TB} {gl:Gl}
theorem xc_g {f:Nat}{pre post:List AO}{args' res:List AV}(h:GCall P gl f pre args' post res)(ld:Bool){ro:Nat}{first cap args:List AV}{env:Env}{L:List AO}{K:AV→Env→List AO→Prop}
  (hc:condG ld ro pre L args' (appA first (appA args cap))) (hnt:ntG ld post res)
  (hK:afterG pre post res args' (appA first (appA args cap)) env L K):XCall P gl ro (.fn f first cap) args env L K:=by
 unfold condG at hc
 unfold afterG at hK
 rw [forceNs_eq] at hc hK
 rw [forceNs_eq,putGK_eq,forceL_eq,renKs_eq,appN_eq,appL_eq,deads_eq,lenO_eq,lenO_eq,lenO_eq] at hK
 obtain ⟨h1,h2,h3,h4⟩:=hc
 rw [appA_eq,appA_eq,← List.append_assoc] at h3 h4 h1 h2 hK
 exact xc_g_core h ld _ h1 (allGe_spec h2) (by unfold selU; rw [selFrom_length,lenO_eq]) h3 h4 (fun hl=>by subst hl; exact hnt) hK
def allLive:List AO→Bool
 | []=>true
 | x::r=>match x.live with|true=>allLive r|false=>false
theorem allLive_get:∀ {l:List AO},allLive l=true→∀ i,i<l.length→(getO l i).live=true
 | [],_,i,h=>by simp at h
 | x::r,h,i,hi=>by
  simp only [allLive] at h
  split at h
  ·rename_i h0
   cases i with
   | zero=>exact h0
   | succ i=>exact allLive_get h i (by simpa using hi)
  ·simp at h
theorem gcall_of_vcb (htb:TbOk P tb)(hmix:P.follows .mixedOrders=true){f:Nat}{fn:Func}{c:Code}(hf:P.funcs[f]? =some fn)(hb:fn.body=some c)
  (hname:(fn.name== "runtime.NumGoroutine")=false) (hok:codeOk fn.ntmps c=true) {pre post:List AO} {args res:List AV} (hargs':Nat.ble args.length fn.ntmps=true) (hkd:kdsOk pre post=true)
  (hlq:allLive post=true)
  (h:bndOs pre→gbnds args→crossK fn.results.toList c fun U=>vc P tb gl 0 pre.length U c (envOf 0 args) pre (EndG tb fn.results.toList pre.length post res)):GCall P gl f pre args post res :=
 gcall_of_vc htb hmix hf hb hname hok hargs' hkd (allLive_get hlq) h
end
end Go.VA
namespace Go.VA
open Go Go.RowKit
theorem lenL_eq:∀ l:List AO,lenL l=l.length
 | []=>rfl
 | _::r=>by simp [lenL,lenL_eq r]
theorem refE_self {k n:Nat}:∀ (env env0:Env) (ws:List Nat),nodupE ws env=true→allLtE n env=true→(∀ t,t ∉ ws→get env0 t=get env t)→RefE env0 k n env
 | [],_,_,_,_,_=>trivial
 | (s,x)::r,env0,ws,h,hl,hg=>by
  simp only [nodupE] at h
  split at h
  ·simp at h
  ·rename_i hm
   have hs:s ∉ ws:=fun e=>by rw [memN_spec.2 e] at hm; simp at hm
   simp only [allLtE] at hl
   split at hl
   ·rename_i hx
    refine ⟨⟨?_,hx⟩,refE_self r env0 (s::ws) h hl fun t ht=> ?_⟩
    ·rw [hg s hs]
     exact LeE.of (Le.of_eq (by simp [get]))
    ·simp only [List.mem_cons,not_or] at ht
     rw [hg t ht.2]
     simp only [get]
     split
     ·rename_i e; exact absurd (Nat.beq_spec e).symm ht.1
     ·rfl
   ·simp at hl
theorem leAs_self {k n:Nat}:∀ xs:List AV,AV.lts n xs=true→LeAs k n xs xs
 | [],_=>trivial
 | x::xs,h=>by
  simp only [AV.lts] at h
  split at h
  ·rename_i hx; exact ⟨⟨LeE.of (Le.refl x),hx⟩,leAs_self xs h⟩
  ·simp at h
theorem refL_self {q n:Nat}:∀ L:List AO,allLtO n L=true→RefL q n L L
 | [],_=>trivial
 | x::r,h=>by
  simp only [allLtO] at h
  split at h
  ·rename_i hx
   refine ⟨?_,refL_self r h⟩
   cases x with
   | box xs=>exact leAs_self xs hx
   | row e k g=>exact ⟨rfl,rfl,fun i _=>LeCs.refl _⟩
   | frz e k g=>exact ⟨rfl,rfl,fun i _=>LeCs.refl _⟩
   | mp m=>exact LeMs.refl m
   | amb vs xs=>exact ⟨rfl,leAs_self xs hx⟩
   | dead=>trivial
  ·simp at h
theorem refR_self:∀ (k:Nat) (L:List AO),k≤L.length→RefR k L L
 | 0,_,_=>trivial
 | k+1,[],h=>by simp at h
 | k+1,x::r,h=>⟨rfl,refR_self k r (by simpa using h)⟩
theorem RefS.self {ro n0:Nat}{env:Env}{L:List AO}(h:selfOk ro n0 env L=true):RefS ro n0 env L (env,L):=by
 unfold selfOk at h
 split at h
 ·simp at h
 ·rename_i h1
  split at h
  ·simp at h
  ·rename_i h2
   split at h
   ·simp at h
   ·rename_i h3
    split at h
    ·simp at h
    ·rename_i h4
     split at h
     ·simp at h
     ·rename_i h5
      rw [lenL_eq] at h3 h4 h5 h
      exact ⟨⟨refE_self env env [] h1 h3 fun _ _=>rfl,refL_self L h4,refR_self ro L (Nat.le_of_ble_eq_true h5),h⟩,h2⟩
theorem Then.mk' {s:Env×List AO}{K:Env→List AO→Prop}(h:K s.1 s.2):Then s K:=⟨h⟩
section
variable {P:Program} {gl:Gl}
theorem ACall.of_gcall {f:Nat}{args:List AV}{esz n:Nat}{g:Nat→List C}(h:GCall P gl f [] args [.row esz n g] [.own 0 esz 0 n]):ACall P gl f args [] (.c (.sl false esz n (fun i=>g (0+i)))) where
 callable:=h.callable
 closed:=rfl
 run:=fun w M B vals hro hL hG hv=>by
  have hB:B=[]:=List.length_eq_zero_iff.1 hL.len
  subst hB
  refine (h.run w M [] vals hro hL hG hv).mono fun e w' ⟨u,B',he,hf,hrel,hu,_,_⟩=>⟨u,he,?_,?_⟩
  ·have:Frm (fun _=>False) w w':=⟨hf.os,hf.tape,hf.output,hf.size,fun k hk hm=>hf.block k hk fun ⟨id,bi,h1,_⟩=>by simp at h1⟩
   exact this.below
  ·simp only [RelV]
   have hle:(Sr M B' [.row esz n g] w').le (Sr M [] [] w'):=fun t b o u hh=>⟨fun hm=>hh.1 (by
    cases t with
    | false => rcases hm with hm | ⟨id, bi, h1, _⟩
               ·exact .inl hm
               ·simp at h1
    | true => rcases hm with hm | ⟨id, bi, _, h1, _⟩
              ·exact .inl hm
              ·simp at h1),hh.2⟩
   refine viewE_sound (sel:=[]) hrel hle (fun id bi _ hb hl o u hc=>⟨?_,hc⟩) 0 esz 0 n _ u ?_ hu
   ·rintro (hm|⟨j,bj,h1,_⟩)
    ·exact hrel.notM id bi hb hl hm
    ·simp at h1
   ·simp [viewE,getO,memN]
theorem ACall.leA {f:Nat}{args args':List AV}{r:AV}(h:ACall P gl f args [] r)(hle:∀ (B:List (Option BI)) (S:Rd) us,RelVs B S args' us→RelVs B S args us):ACall P gl f args' [] r where
 callable:=h.callable
 closed:=h.closed
 run:=fun w M B vals hro hL hG hv=>h.run w M B vals hro hL hG (hle _ _ _ hv)
end
end Go.VA
namespace Go.VA
open Go Go.RowKit
@[irreducible] noncomputable def arrC (g:Nat→C) (n:Nat):List C:=Classical.choose (⟨(List.range n).map g,rfl⟩:∃ l,l=(List.range n).map g)
theorem arrC_def (g:Nat→C)(n:Nat):arrC g n=(List.range n).map g:=by unfold arrC; exact Classical.choose_spec (⟨(List.range n).map g,rfl⟩:∃ l,l=(List.range n).map g)
theorem arrC_length (g:Nat→C)(n:Nat):(arrC g n).length=n:=by rw [arrC_def]; simp
theorem arrC_get (g:Nat→C)(n i:Nat):(arrC g n)[i]? =if i<n then some (g i) else none:=by
 rw [arrC_def]
 simp only [List.getElem?_map]
 by_cases h:i<n
 ·rw [if_pos h,List.getElem?_range h]; rfl
 ·rw [if_neg h,List.getElem?_eq_none (by simp; omega)]; rfl
theorem arrC_ext {l:List C}{g:Nat→C}{n:Nat}(h:l.length=n)(k:∀ i,i<n→l[i]? =some (g i)):l=arrC g n:=by
 apply List.ext_getElem?
 intro i
 rw [arrC_get]
 by_cases hi:i<n
 ·rw [if_pos hi,k i hi]
 ·rw [if_neg hi,List.getElem?_eq_none (by omega)]
theorem arrC_congr {f g:Nat→C}{n:Nat}(h:∀ i,i<n→f i=g i):arrC f n=arrC g n :=
 arrC_ext (arrC_length f n) fun i hi=>by rw [arrC_get,if_pos hi,h i hi]
theorem arrC_one (g:Nat→C):arrC g 1=[g 0]:=by rw [arrC_def]; rfl
theorem cut_drop {α:Type}:∀ (xs:List α) (k n:Nat),k+n≤xs.length→cut xs k n=some ((xs.drop k).take n)
 | [],0,0,_=>rfl
 | _::_,0,0,_=>rfl
 | [],0,n+1,h=>by simp at h
 | [],k+1,n,h=>by simp at h
 | x::r,0,n+1,h=>by
  have:=cut_drop r 0 n (by simp at h; omega)
  simp only [cut,this]
  simp
 | x::r,k+1,n,h=>by
  have:=cut_drop r k n (by simp at h; omega)
  simp only [cut,this]
  simp
theorem arrC_cut (g:Nat→C)(n k m:Nat)(h:k+m≤n):cut (arrC g n) k m=some (arrC (fun i=>g (k+i)) m):=by
 rw [cut_drop _ _ _ (by rw [arrC_length]; exact h)]
 congr 1
 refine arrC_ext (by rw [List.length_take,List.length_drop,arrC_length]; omega) fun i hi=> ?_
 rw [List.getElem?_take,if_pos hi,List.getElem?_drop,arrC_get,if_pos (by omega)]
theorem arrC_cut1 (g:Nat→C)(n k:Nat)(h:k<n):cut (arrC g n) k 1=some [g k]:=by
 rw [arrC_cut g n k 1 h,arrC_one]; rfl
theorem arrC_cutAll (g:Nat→C)(n:Nat):cut (arrC g n) 0 n=some (arrC g n):=by
 rw [arrC_cut g n 0 n (by omega)]; congr 1; exact arrC_congr fun i _=>by rw [Nat.zero_add]
theorem cut_map {α β:Type}(f:α→β):∀ (xs:List α) (k n:Nat),k+n≤xs.length→cut (xs.map f) k n=some (((xs.drop k).take n).map f):=by
 intro xs k n h
 rw [cut_drop _ _ _ (by simpa using h),List.map_take,List.map_drop]
theorem arrA_cut1 (g:Nat→C)(n k:Nat)(h:k<n):cut (List.map AV.c (arrC g n)) k 1=some [.c (g k)]:=by
 rw [cut_map _ _ _ _ (by rw [arrC_length]; exact h)]
 have:=arrC_cut1 g n k h
 rw [cut_drop _ _ _ (by rw [arrC_length]; exact h)] at this
 simp only [Option.some.injEq] at this
 rw [this]; rfl
theorem arrA_cutAll (g:Nat→C)(n:Nat):cut (List.map AV.c (arrC g n)) 0 n=some (List.map AV.c (arrC g n)):=by
 rw [cut_map _ _ _ _ (by rw [arrC_length]; omega)]
 have:=arrC_cutAll g n
 rw [cut_drop _ _ _ (by rw [arrC_length]; omega)] at this
 simp only [Option.some.injEq] at this
 rw [this]
theorem arrA_len (g:Nat→C)(n:Nat):(List.map AV.c (arrC g n)).length=n:=by rw [List.length_map,arrC_length]
theorem arrA_lenA (g:Nat→C)(n:Nat):lenA (List.map AV.c (arrC g n))=n:=by rw [lenA_eq,arrA_len]
theorem toCs_mapC:∀ (xs:List C),toCs (xs.map AV.c)=some xs
 | []=>rfl
 | x::r=>by simp [toCs,toCs_mapC r]
theorem layA_ok:∀ (ys:List AV) (o:Nat) (xs:List AV),o+xs.length≤ys.length→∃ zs,layA ys o xs=some zs
 | ys,0,[],_=>⟨ys,by cases ys<;>rfl⟩
 | [],0,x::xs,h=>by simp at h
 | [],o+1,xs,h=>by simp at h
 | y::r,0,x::xs,h=>by
  obtain ⟨z,hz⟩:=layA_ok r 0 xs (by simpa using h)
  exact ⟨x::z,by simp [layA,hz]⟩
 | y::r,o+1,xs,h=>by
  obtain ⟨z,hz⟩:=layA_ok r o xs (by simp at h; omega)
  exact ⟨y::z,by simp [layA,hz]⟩
theorem layA_eq {ys xs zs:List AV}{o:Nat}(hl:zs.length=ys.length)(h:o+xs.length≤ys.length)(hz:∀ i,zs[i]? =if o≤i∧i<o+xs.length then xs[i-o]? else ys[i]?):layA ys o xs=some zs:=by
 obtain ⟨z,k⟩:=layA_ok ys o xs h
 obtain ⟨_,h2,h3⟩:=layA_spec _ _ _ _ k
 rw [k]; congr 1
 apply List.ext_getElem?
 intro i
 rw [h3,hz]
theorem layA_all {ys:List AV}(g:Nat→C)(n:Nat)(h:ys.length=n):layA ys 0 (List.map AV.c (arrC g n))=some (List.map AV.c (arrC g n)):=by
 refine layA_eq (by rw [arrA_len,h]) (by rw [arrA_len,h]; omega) fun i=> ?_
 rw [arrA_len]
 by_cases hi:i<n
 ·rw [if_pos (by omega),Nat.sub_zero]
 ·rw [if_neg (by omega),List.getElem?_eq_none (by rw [arrA_len]; omega),List.getElem?_eq_none (by omega)]
def updC (g:Nat→C) (k:Nat) (x:C) (i:Nat):C:=if i=k then x else g i
theorem arrA_lay1 (g:Nat→C)(n k:Nat)(x:C)(h:k<n):layA (List.map AV.c (arrC g n)) k [.c x]=some (List.map AV.c (arrC (updC g k x) n)):=by
 refine layA_eq (by rw [arrA_len,arrA_len]) (by rw [arrA_len]; simp; omega) fun i=> ?_
 simp only [List.length_singleton,List.getElem?_map,arrC_get,updC]
 by_cases hi:i=k
 ·subst hi; rw [if_pos (by omega),if_pos h,if_pos rfl]; simp
 ·have hn:¬ (k≤i∧i<k+1):=by omega
  simp only [hi,if_false]
  rw [if_neg hn]
def upd4 (g:Nat→C) (k:Nat) (a b c d:C) (i:Nat):C:=if i=k then a else if i=k+1 then b else if i=k+2 then c else if i=k+3 then d else g i
theorem arrA_lay4 (g:Nat→C)(n k:Nat)(a b c d:C)(h:k+4≤n):layA (List.map AV.c (arrC g n)) k [.c a,.c b,.c c,.c d]=some (List.map AV.c (arrC (upd4 g k a b c d) n)):=by
 refine layA_eq (by rw [arrA_len,arrA_len]) (by rw [arrA_len]; simp; omega) fun i=> ?_
 simp only [List.length_cons,List.length_nil,List.getElem?_map,arrC_get,upd4]
 by_cases hi:k≤i∧i<k+(0+1+1+1+1)
 ·rw [if_pos hi,if_pos (by omega)]
  have:i=k∨i=k+1∨i=k+2∨i=k+3:=by omega
  rcases this with rfl|rfl|rfl|rfl
  ·simp
  ·simp
  ·rw [if_neg (by omega),if_neg (by omega),if_pos rfl]; simp
  ·rw [if_neg (by omega),if_neg (by omega),if_neg (by omega),if_pos rfl]; simp
 ·rw [if_neg hi]
  by_cases h2:i<n
  ·rw [if_pos h2,if_neg (by omega),if_neg (by omega),if_neg (by omega),if_neg (by omega),if_pos h2]
  ·rw [if_neg h2,if_neg h2]
theorem nthCC_arr (g:Nat→C)(n i:Nat)(h:i<n):nthCC (arrC g n) i=g i:=nthCC_get _ _ _ (by rw [arrC_get,if_pos h])
theorem LeAs_c (k n:Nat):∀ (xs:List C),LeAs k n (xs.map AV.c) (xs.map AV.c)
 | []=>trivial
 | x::r=>⟨⟨LeE.of (Le.refl _),rfl⟩,LeAs_c k n r⟩
theorem LeAs_of {k n:Nat}{xs:List AV}{g:Nat→C}{m:Nat}(h:xs=List.map AV.c (arrC g m)):LeAs k n xs (List.map AV.c (arrC g m)):=by subst h; exact LeAs_c k n _
theorem LeAs_arr {k n m:Nat}{f g:Nat→C}(h:∀ i,i<m→f i=g i):LeAs k n (List.map AV.c (arrC f m)) (List.map AV.c (arrC g m)):=by
 have e:=arrC_congr h
 rw [e]; exact LeAs_c _ _ _
theorem mkA_arr {a:Bool}{g:Nat→C}{n:Nat}(h:a=true):mkA a (List.map AV.c (arrC g n))= .ag (arrC g n):=by subst h; unfold mkA; simp only; rw [show toCs (List.map AV.c (arrC g n))=some (arrC g n) from toCs_mapC _]
theorem allScalar_arr {g:Nat→C}{n:Nat}(h:∀ i,(g i).scalar=true):allScalar (arrC g n)=true:=by
 have:∀ l:List C,(∀ x ∈ l,x.scalar=true)→allScalar l=true:=by
  intro l; induction l with
  | nil=>intro _; rfl
  | cons x r ih=>intro hl; simp only [allScalar,hl x (by simp)]; exact ih fun y hy=>hl y (by simp [hy])
 refine this _ fun x hx=> ?_
 rw [arrC_def] at hx
 obtain ⟨i,_,rfl⟩:=List.mem_map.1 hx
 exact h i
theorem arrC_cutZ {g:Nat→C}{n o z s m:Nat}(hm:m=1)(hs:s=1)(h:o+z<n):cut (arrC g n) (o+z*s) m=some [g (o+z)]:=by
 subst hm; subst hs; rw [Nat.mul_one]; exact arrC_cut1 g n _ h
theorem arrA_cutZ {g:Nat→C}{n o z s m:Nat}(hm:m=1)(hs:s=1)(h:o+z<n):cut (List.map AV.c (arrC g n)) (o+z*s) m=some [.c (g (o+z))]:=by
 subst hm; subst hs; rw [Nat.mul_one]; exact arrA_cut1 g n _ h
theorem arrA_layZ {g:Nat→C}{n o z s:Nat}{x:C}(hs:s=1)(h:o+z<n):layA (List.map AV.c (arrC g n)) (o+z*s) [.c x]=some (List.map AV.c (arrC (updC g (o+z) x) n)):=by
 subst hs; rw [Nat.mul_one]; exact arrA_lay1 g n _ x h
theorem arrA_layX {g:Nat→C}{n o z s:Nat}{x:AV}{y:C}(hx:x= .c y)(hs:s=1)(h:o+z<n):layA (List.map AV.c (arrC g n)) (o+z*s) [x]=some (List.map AV.c (arrC (updC g (o+z) y) n)):=by
 subst hx; exact arrA_layZ hs h
theorem arrA_cutN {g:Nat→C}{n m:Nat}(h:m=n):cut (List.map AV.c (arrC g n)) 0 m=some (List.map AV.c (arrC g n)):=by subst h; exact arrA_cutAll g m
theorem layA_allN {ys:List AV}{g:Nat→C}{n:Nat}(h:ys.length=n):layA ys 0 (List.map AV.c (arrC g n))=some (List.map AV.c (arrC g n)):=layA_all g n h
abbrev W:=BitVec 32
@[irreducible] noncomputable def wI (x:W):Int:=Classical.choose (⟨(x.toNat:Int),rfl⟩:∃ i,i=(x.toNat:Int))
theorem wI_def (x:W):wI x=(x.toNat:Int):=by unfold wI; exact Classical.choose_spec (⟨(x.toNat:Int),rfl⟩:∃ i,i=(x.toNat:Int))
noncomputable abbrev cw (x:W):C:= .v (.int .u32 (wI x))
theorem wI_zero:wI 0=0:=by rw [wI_def]; rfl
theorem ofInt_wI (x:W):BitVec.ofInt 32 (wI x)=x:=by rw [wI_def]; simp
theorem wrap32 (n:Int):IntKind.u32.wrap n=n%4294967296:=rfl
theorem w_of (n:Nat):IntKind.u32.wrap (n:Int)=wI (BitVec.ofNat 32 n):=by
 rw [wrap32,wI_def,BitVec.toNat_ofNat]; omega
theorem w_add (x y:W):IntKind.u32.wrap (wI x+wI y)=wI (x+y):=by
 rw [wrap32,wI_def,wI_def,wI_def,BitVec.toNat_add]; omega
theorem w_xor (x y:W):bitsI .xor .u32 (wI x) (wI y)=wI (x ^^^ y):=by
 show IntKind.u32.wrap (((BitVec.ofInt 32 (wI x) ^^^ BitVec.ofInt 32 (wI y)).toNat:Nat):Int)=_
 rw [ofInt_wI,ofInt_wI,wrap32,wI_def]; have:=(x ^^^ y).isLt; omega
theorem w_and (x y:W):bitsI .and .u32 (wI x) (wI y)=wI (x &&& y):=by
 show IntKind.u32.wrap (((BitVec.ofInt 32 (wI x) &&& BitVec.ofInt 32 (wI y)).toNat:Nat):Int)=_
 rw [ofInt_wI,ofInt_wI,wrap32,wI_def]; have:=(x &&& y).isLt; omega
theorem w_or (x y:W):bitsI .or .u32 (wI x) (wI y)=wI (x ||| y):=by
 show IntKind.u32.wrap (((BitVec.ofInt 32 (wI x) ||| BitVec.ofInt 32 (wI y)).toNat:Nat):Int)=_
 rw [ofInt_wI,ofInt_wI,wrap32,wI_def]; have:=(x ||| y).isLt; omega
theorem w_not (x:W):bitsI .xor .u32 4294967295 (wI x)=wI (~~~ x):=by
 show IntKind.u32.wrap (((BitVec.ofInt 32 4294967295 ^^^ BitVec.ofInt 32 (wI x)).toNat:Nat):Int)=_
 rw [ofInt_wI,wrap32,wI_def]
 have e:BitVec.ofInt 32 4294967295 ^^^ x= ~~~ x:=by
  rw [show BitVec.ofInt 32 4294967295=BitVec.allOnes 32 from by decide,BitVec.allOnes_xor]
 rw [e]; have:=(~~~ x).isLt; omega
theorem w_shl (x:W)(k:Nat)(h:k≤32):shlI .u32 (wI x) (k:Int)=wI (x <<< k):=by
 have e:shlI .u32 (wI x) (k:Int)=IntKind.u32.wrap (wI x*2 ^ (min k 32)):=rfl
 rw [e,Nat.min_eq_left h,wrap32,wI_def,wI_def,BitVec.toNat_shiftLeft,Nat.shiftLeft_eq]
 rw [Int.natCast_emod,Int.natCast_mul,Int.natCast_pow]
 rfl
theorem w_shr (x:W)(k:Nat)(h:k≤32):shrI .u32 (wI x) (k:Int)=wI (x >>> k):=by
 have e:shrI .u32 (wI x) (k:Int)=(wI x).fdiv (2 ^ (min k 32)):=rfl
 rw [e,Nat.min_eq_left h,wI_def,wI_def,BitVec.toNat_ushiftRight,Nat.shiftRight_eq_div_pow,Int.fdiv_eq_ediv_of_nonneg _ (by exact_mod_cast Nat.zero_le _)]
 push_cast
 rfl
theorem rot_of (x:W)(k:Nat)(h:k<32):(x <<< (32-k)) ||| (x >>> k)=x.rotateRight k:=by
 rw [BitVec.or_comm]
 unfold BitVec.rotateRight BitVec.rotateRightAux
 rw [Nat.mod_eq_of_lt h]
def kN:List Nat:=[1116352408,1899447441,3049323471,3921009573,961987163,1508970993,2453635748,2870763221,3624381080,310598401,607225278,1426881987,1925078388,2162078206,2614888103,3248222580,3835390401,4022224774,264347078,604807628,770255983,1249150122,1555081692,1996064986,2554220882,2821834349,2952996808,3210313671,3336571891,3584528711,113926993,338241895,666307205,773529912,1294757372,1396182291,1695183700,1986661051,2177026350,2456956037,2730485921,2820302411,3259730800,3345764771,3516065817,3600352804,4094571909,275423344,430227734,506948616,659060556,883997877,958139571,1322822218,1537002063,1747873779,1955562222,2024104815,2227730452,2361852424,2428436474,2756734187,3204031479,3329325298]
def bN:List Nat:=[1779033703,3144134277,1013904242,2773480762,1359893119,2600822924,528734635,1541459225]
def kT (i:Nat):W:=BitVec.ofNat 32 (kN.getD i 0)
def bT (i:Nat):W:=BitVec.ofNat 32 (bN.getD i 0)
noncomputable abbrev rndC:List C:=arrC (fun i=>cw (kT i)) 64
noncomputable abbrev cW8 (h:Nat→W):List C:=[cw (h 0),cw (h 1),cw (h 2),cw (h 3),cw (h 4),cw (h 5),cw (h 6),cw (h 7)]
def sg (a b c:Nat) (x:W):W:=x.rotateRight a ^^^ x.rotateRight b ^^^ x.rotateRight c
def sl (a b c:Nat) (x:W):W:=x.rotateRight a ^^^ x.rotateRight b ^^^ (x >>> c)
def wB (b:Nat→UInt8) (i:Nat):W:=BitVec.ofNat 32 ((((b (4*i)).toNat*256+(b (4*i+1)).toNat)*256+(b (4*i+2)).toNat)*256+(b (4*i+3)).toNat)
def wN (l:List W) (n:Nat):W:=l.getD (n-16) 0+sl 7 18 3 (l.getD (n-15) 0)+l.getD (n-7) 0+sl 17 19 10 (l.getD (n-2) 0)
def wL (b:Nat→UInt8):Nat→List W
 | 0=>[]
 | n+1=>wL b n++[if n<16 then wB b n else wN (wL b n) n]
def wT (b:Nat→UInt8) (i:Nat):W:=(wL b 64).getD i 0
def oneW (k w:W) (v:Nat→W):W:=v 7+sg 6 11 25 (v 4)+((v 4 &&& v 5) ^^^ (~~~ (v 4) &&& v 6))+k+w
def twoW (v:Nat→W):W:=sg 2 13 22 (v 0)+((v 0 &&& v 1) ^^^ (v 0 &&& v 2) ^^^ (v 1 &&& v 2))
def stepV (k w:W) (v:Nat→W):Nat→W
 | 0=>oneW k w v+twoW v
 | 1=>v 0
 | 2=>v 1
 | 3=>v 2
 | 4=>v 3+oneW k w v
 | 5=>v 4
 | 6=>v 5
 | _=>v 6
def rounds (w:Nat→W) (h:Nat→W):Nat→Nat→W
 | 0=>h
 | n+1=>stepV (kT n) (w n) (rounds w h n)
def thr (h:Nat→W) (b:Nat→UInt8) (i:Nat):W:=h i+rounds (wT b) h 64 i
def thrs (h:Nat→W) (b:Nat→UInt8):Nat→Nat→W
 | 0=>h
 | n+1=>thr (thrs h b n) (fun i=>b (64*n+i))
theorem wL_len (b:Nat→UInt8):∀ n,(wL b n).length=n
 | 0=>rfl
 | n+1=>by simp [wL,wL_len b n]
theorem wL_get (b:Nat→UInt8)(i:Nat):∀ n m,i<n→(wL b (n+m)).getD i 0=(wL b n).getD i 0
 | n,0,_=>rfl
 | n,m+1,h=>by
  rw [← Nat.add_assoc]
  simp only [wL]
  rw [← wL_get b i n m h]
  simp only [List.getD_eq_getElem?_getD]
  rw [List.getElem?_append_left (by rw [wL_len]; omega)]
theorem wT_get (b:Nat→UInt8)(i n:Nat)(h:i<n)(hn:n≤64):(wL b n).getD i 0=wT b i:=by
 unfold wT
 have:=wL_get b i n (64-n) h
 rw [show n+(64-n)=64 by omega] at this
 exact this.symm
theorem wT_at (b:Nat→UInt8)(i:Nat)(h:i<64):wT b i=if i<16 then wB b i else wN (wL b i) i:=by
 rw [← wT_get b i (i+1) (by omega) (by omega)]
 simp only [wL,List.getD_eq_getElem?_getD]
 rw [List.getElem?_append_right (by rw [wL_len]; omega),wL_len,Nat.sub_self]
 rfl
theorem wT_lo (b:Nat→UInt8)(i:Nat)(h:i<16):wT b i=wB b i:=by rw [wT_at b i (by omega),if_pos h]
theorem wT_hi (b:Nat→UInt8)(i:Nat)(h:16≤i)(h2:i<64):wT b i=wT b (i-16)+sl 7 18 3 (wT b (i-15))+wT b (i-7)+sl 17 19 10 (wT b (i-2)):=by
 rw [wT_at b i h2,if_neg (by omega)]
 unfold wN
 rw [wT_get b _ i (by omega) (by omega),wT_get b _ i (by omega) (by omega),wT_get b _ i (by omega) (by omega),wT_get b _ i (by omega) (by omega)]
abbrev cb (x:UInt8):C:= .v (.int .u8 (x.toNat:Int))
abbrev byF (b:Nat→UInt8) (i:Nat):List C:=[cb (b i)]
def catB (n:Nat) (b c:Nat→UInt8) (i:Nat):UInt8:=if i<n then b i else c (i-n)
def putB (k w i:Nat):UInt8:=UInt8.ofNat (k/256 ^ (w-1-i))
theorem catF_by (n:Nat)(b c:Nat→UInt8)(i:Nat):catF 0 n (byF b) (byF c) i=byF (catB n b c) i:=by
 by_cases h:i<n
 ·simp [catF,catB,h]
 ·simp [catF,catB,h]
theorem wL_ext {b c:Nat→UInt8}(h:∀ i,i<64→b i=c i):∀ n,wL b n=wL c n
 | 0=>rfl
 | n+1=>by
  simp only [wL]
  rw [wL_ext h n]
  by_cases hn:n<16
  ·rw [if_pos hn,if_pos hn]
   unfold wB
   rw [h _ (by omega),h _ (by omega),h _ (by omega),h _ (by omega)]
  ·rw [if_neg hn,if_neg hn]
theorem thr_ext {h:Nat→W}{b c:Nat→UInt8}(k:∀ i,i<64→b i=c i):thr h b=thr h c:=by
 have:wT b=wT c:=by funext i; unfold wT; rw [wL_ext k 64]
 funext i
 unfold thr
 rw [this]
theorem thrs_ext {h:Nat→W}{b c:Nat→UInt8}:∀ n,(∀ i,i<64*n→b i=c i)→thrs h b n=thrs h c n
 | 0,_=>rfl
 | n+1,k=>by
  simp only [thrs]
  rw [thrs_ext n fun i hi=>k i (by omega)]
  exact thr_ext fun i hi=>k _ (by omega)
def endQ (n:Nat):Nat:=if n%64<56 then 1 else 2
def blocks (n:Nat):Nat:=n/64+endQ n
def padM (m:Nat→UInt8) (n i:Nat):UInt8:=if i<n then m i else if i=n then 128 else if i<64*blocks n-8 then 0 else putB (8*n) 8 (i-(64*blocks n-8))
def shaB (m:Nat→UInt8) (n i:Nat):UInt8:=putB (thrs bT (padM m n) (blocks n) (i/4)).toNat 4 (i%4)
abbrev sumC (d:Nat→UInt8):List C:=[cb (d 0),cb (d 1),cb (d 2),cb (d 3),cb (d 4),cb (d 5),cb (d 6),cb (d 7),cb (d 8),cb (d 9),cb (d 10),cb (d 11),cb (d 12),cb (d 13),cb (d 14),cb (d 15),
 cb (d 16),cb (d 17),cb (d 18),cb (d 19),cb (d 20),cb (d 21),cb (d 22),cb (d 23),cb (d 24),cb (d 25),cb (d 26),cb (d 27),cb (d 28),cb (d 29),cb (d 30),cb (d 31)]
theorem arr_sumC (d:Nat→UInt8):arrC (fun i=>cb (d i)) 32=sumC d:=by rw [arrC_def]; rfl
theorem padM_lo (m:Nat→UInt8)(n i:Nat)(h:i<n):padM m n i=m i:=by unfold padM; rw [if_pos h]
theorem shaB_ext {m m':Nat→UInt8}{n:Nat}(h:∀ i,i<n→m i=m' i):shaB m n=shaB m' n:=by
 have:padM m n=padM m' n:=by
  funext i
  unfold padM
  by_cases hi:i<n
  ·rw [if_pos hi,if_pos hi,h i hi]
  ·rw [if_neg hi,if_neg hi]
 funext i
 unfold shaB
 rw [this]
theorem upd4_sha (m:Nat→UInt8)(n i:Nat)(h:Nat→W)(hh:h=thrs bT (padM m n) (blocks n))(k:Nat)(hk:k<32) :
  upd4 (fun k=>cb (if k<4*i then shaB m n k else 0)) (4*i) (cb (putB (h i).toNat 4 0)) (cb (putB (h i).toNat 4 (0+1))) (cb (putB (h i).toNat 4 (0+1+1))) (cb (putB (h i).toNat 4 (0+1+1+1))) k=cb (if k<4*(i+1) then shaB m n k else 0):=by
 subst hh
 have key:∀ d,d<4→shaB m n (4*i+d)=putB (thrs bT (padM m n) (blocks n) i).toNat 4 d:=fun d hd=>by
  unfold shaB
  rw [show (4*i+d)/4=i by omega,show (4*i+d)%4=d by omega]
 unfold upd4
 by_cases h0:k=4*i
 ·subst h0; rw [if_pos rfl,if_pos (by omega)]; exact congrArg cb (key 0 (by omega)).symm
 ·rw [if_neg h0]
  by_cases h1:k=4*i+1
  ·subst h1; rw [if_pos rfl,if_pos (by omega)]; exact congrArg cb (key 1 (by omega)).symm
  ·rw [if_neg h1]
   by_cases h2:k=4*i+2
   ·subst h2; rw [if_pos rfl,if_pos (by omega)]; exact congrArg cb (key 2 (by omega)).symm
   ·rw [if_neg h2]
    by_cases h3:k=4*i+3
    ·subst h3; rw [if_pos rfl,if_pos (by omega)]; exact congrArg cb (key 3 (by omega)).symm
    ·rw [if_neg h3]
     show cb (if k<4*i then shaB m n k else 0)=_
     by_cases h4:k<4*i
     ·rw [if_pos h4,if_pos (by omega)]
     ·rw [if_neg h4,if_neg (by omega)]
theorem purge_c (id:Nat):∀ xs:List C,List.map (AV.purge id) (List.map AV.c xs)=List.map AV.c xs
 | []=>rfl
 | x::r=>by simp only [List.map_cons]; rw [purge_c id r]; rfl
theorem LeAs_pc {k n id:Nat}{xs:List C}:LeAs k n (List.map (AV.purge id) (List.map AV.c xs)) (List.map AV.c xs):=by rw [purge_c]; exact LeAs_c _ _ _
theorem and63 (n:Nat)(h:n<9223372036854775808):bitsI .and .i64 (n:Int) 63=((n%64:Nat):Int):=by
 show IntKind.i64.wrap (((BitVec.ofInt 64 (n:Int) &&& BitVec.ofInt 64 63).toNat:Nat):Int)=_
 have e:(BitVec.ofInt 64 (n:Int) &&& BitVec.ofInt 64 63).toNat=n%64:=by
  rw [BitVec.toNat_and,BitVec.ofInt_natCast,BitVec.toNat_ofNat,Nat.mod_eq_of_lt (by omega),show (BitVec.ofInt 64 63).toNat=2 ^ 6-1 from by decide,Nat.and_two_pow_sub_one_eq_mod]
 rw [e]
 exact IntWalk.i64_in _ (by omega)
theorem shl3 (n:Nat)(h:n<1152921504606846976):shlI .u64 (n:Int) 3=((8*n:Nat):Int):=by
 have:shlI .u64 (n:Int) 3=((n:Int)*8)%18446744073709551616:=rfl
 rw [this]; omega
theorem arrC_cutM {g:Nat→C}{n z s m:Nat}(hm:m=1)(hs:s=1)(h:z<n):cut (arrC g n) (z*s) m=some [g z]:=by
 subst hm; subst hs; rw [Nat.mul_one]; exact arrC_cut1 g n _ h
theorem arrA_layX4 {g:Nat→C}{n z s:Nat}{xs:List AV}{a b c d:C}(hx:xs=[.c a,.c b,.c c,.c d])(hs:s=1)(h:z+4≤n):layA (List.map AV.c (arrC g n)) (z*s) xs=some (List.map AV.c (arrC (upd4 g z a b c d) n)):=by
 subst hx; subst hs; rw [Nat.mul_one]; exact arrA_lay4 g n z a b c d h
inductive V where
 | mk (k i:Int) (s:ByteArray) (l:List V) (ks:List ByteArray) (tk to:Int) (sec:Bool)
namespace V
def k:V→Int|mk k _ _ _ _ _ _ _=>k
def i:V→Int|mk _ i _ _ _ _ _ _=>i
def s:V→ByteArray|mk _ _ s _ _ _ _ _=>s
def l:V→List V|mk _ _ _ l _ _ _ _=>l
def ks:V→List ByteArray|mk _ _ _ _ ks _ _ _=>ks
def tk:V→Int|mk _ _ _ _ _ tk _ _=>tk
def to:V→Int|mk _ _ _ _ _ _ to _=>to
def sec:V→Bool|mk _ _ _ _ _ _ _ sec=>sec
def z:V:=mk 0 0 ByteArray.empty [] [] 0 0 false
instance:Inhabited V:=⟨z⟩
theorem sz_mem {x:V}{v:V}(h:x ∈ v.l):SizeOf.sizeOf x<SizeOf.sizeOf v:=by
 cases v with
 | mk k i s l ks tk to sec =>
  have:=List.sizeOf_lt_of_mem (show x ∈ l from h)
  simp
  omega
theorem ind {p:V→Prop}(h:∀ v,(∀ x ∈ v.l,p x)→p v)(v:V):p v:=by
 have:∀ n (v:V),SizeOf.sizeOf v<n→p v:=by
  intro n
  induction n with
  | zero=>intro v hv; omega
  | succ n ih=>intro v hv; exact h v fun x hx=>ih x (by have:=sz_mem hx; omega)
 exact this _ v (Nat.lt_succ_self _)
end V
mutual
def V.fold {α:Type} (f:V→List α→α):V→α
 | .mk k i s l ks tk to sec=>f (.mk k i s l ks tk to sec) (V.foldL f l)
def V.foldL {α:Type} (f:V→List α→α):List V→List α
 | []=>[]
 | x::r=>V.fold f x::V.foldL f r
end
theorem V.foldL_eq {α:Type}(f:V→List α→α):∀ l:List V,V.foldL f l=l.map (V.fold f)
 | []=>rfl
 | x::r=>by simp [V.foldL,V.foldL_eq f r]
theorem V.fold_eq {α:Type}(f:V→List α→α)(v:V):V.fold f v=f v (v.l.map (V.fold f)):=by
 cases v; simp only [V.fold,V.l,V.foldL_eq]
def cS (s:ByteArray):List C:=[.v (.string s)]
abbrev rS (ks:List ByteArray):Nat→List C:=rowE cS ByteArray.empty ks
mutual
def cV0:V→List C
 | .mk k i s l ks tk to sec=>[.v (.int .i64 k),.v (.int .i64 i),.v (.string s),.sl false 8 l.length (rV l),.sl false 1 ks.length (rS ks),.v (.int .i64 tk),.v (.int .i64 to),.v (.bool sec)]
def rV:List V→Nat→List C
 | [],_=>[]
 | x::_,0=>cV0 x
 | _::r,n+1=>rV r n
end
def cVt (t t':Bool) (v:V):List C :=
 [.v (.int .i64 v.k),.v (.int .i64 v.i),.v (.string v.s),.sl t 8 v.l.length (rV v.l),.sl t' 1 v.ks.length (rS v.ks),.v (.int .i64 v.tk),.v (.int .i64 v.to),.v (.bool v.sec)]
abbrev cV (v:V):List C:=cVt false false v
theorem cV0_eq (v:V):cV0 v=cV v:=by cases v; rfl
theorem rV_get {l:List V}{i:Nat}(h:i<l.length):rV l i=cV l[i]:=by
 induction l generalizing i with
 | nil=>simp at h
 | cons x r ih =>
  cases i with
  | zero=>simp only [rV]; exact cV0_eq x
  | succ i=>simp only [rV]; rw [ih (by simpa using h)]; rfl
theorem rV_getD {l:List V}{i:Nat}(h:i<l.length):rV l i=cV (l.getD i V.z):=by
 rw [rV_get h]; simp [List.getD_eq_getElem?_getD,h]
theorem rV_snoc {l:List V}{x:V}{i:Nat}(h:i<l.length+1):catF 0 l.length (rV l) (nthC [cV x]) i=rV (l++[x]) i:=by
 unfold catF
 by_cases hi:i<l.length
 ·rw [if_pos hi,Nat.zero_add,rV_get hi,rV_get (by simp; omega)]
  congr 1
  rw [List.getElem_append_left hi]
 ·rw [if_neg hi]
  obtain rfl:i=l.length:=by omega
  rw [rV_get (by simp)]
  simp [nthC]
theorem rV_ex {l:List V}{c:Nat}(h:c<l.length):∃ x,l[c]? =some x∧x ∈ l∧rV l ((c:Int)).toNat=cV x :=
 ⟨l[c],List.getElem?_eq_getElem h,List.getElem_mem h,by rw [← rV_get h]; rfl⟩
theorem take_snoc? {α:Type}{l:List α}{c:Nat}{x:α}(h:l[c]? =some x):l.take (c+1)=l.take c++[x]:=by
 obtain ⟨h1,h2⟩:=List.getElem?_eq_some_iff.1 h
 rw [List.take_succ_eq_append_getElem h1,h2]
theorem drop_cons? {α:Type}{l:List α}{c:Nat}{x:α}(h:l[c]? =some x):l.drop c=x::l.drop (c+1):=by
 obtain ⟨h1,h2⟩:=List.getElem?_eq_some_iff.1 h
 rw [List.drop_eq_getElem_cons h1,h2]
def eqs (a b:ByteArray):Bool:=a.toList==b.toList
def eqSs:List ByteArray→List ByteArray→Bool
 | [],[]=>true
 | x::xs,y::ys=>eqs x y&&eqSs xs ys
 | _,_=>false
theorem eqSs_len:∀ {l m:List ByteArray},l.length≠m.length→eqSs l m=false
 | [],[],h=>absurd rfl h
 | [],_::_,_=>rfl
 | _::_,[],_=>rfl
 | x::l,y::m,h=>by simp only [eqSs]; rw [eqSs_len (l:=l) (m:=m) (by simpa using h)]; simp
def fidx {α:Type} (p:α→Bool):List α→Nat→Int
 | [],_=> -1
 | x::r,i=>if p x then i else fidx p r (i+1)
theorem fidx_any {α:Type}(p:α→Bool):∀ (l:List α) (i:Nat),(decide (fidx p l i≥0))=l.any p
 | [],_=>by simp [fidx]
 | x::r,i=>by
  simp only [fidx,List.any_cons]
  by_cases h:p x=true
  ·simp [h]
  ·have:=fidx_any p r (i+1); simp [h] at this ⊢; exact this
theorem nthS {l:List ByteArray}{c:Nat}(h:c<l.length):∃ x,l[c]? =some x∧l.getD c ByteArray.empty=x :=
 ⟨l[c],List.getElem?_eq_getElem h,by simp [List.getD_eq_getElem?_getD,h]⟩
theorem take_get? {α:Type}{l:List α}{n c:Nat}{x:α}(hc:c<n)(h:l[c]? =some x):(l.take n)[c]? =some x:=by
 rw [List.getElem?_take,if_pos hc,h]
abbrev Ty:=Int×Int
def cT (p:Ty):List C:=[.v (.int .i64 p.1),.v (.int .i64 p.2)]
def tA (p:Ty):AV:= .ag (cT p)
def chk (p:Ty):Bool:= !(decide (p.1<0)||decide (p.1>5)||decide (p.2<0)||decide (p.2>3)||(!(p.1==4||p.1==5)&&p.2 != 0))
def chkR (p:Ty):Bool:=if (decide (p.1<0)||decide (p.1>5)||decide (p.2<0)||decide (p.2>3)) then false else (p.2==0||decide (p.1>3))
def errc (p:Ty):Int:=if chk p then 0 else 1
def wi (a b:Ty):Bool:=if (errc a != 0||errc b != 0) then false else (b.1==0&&b.2==0||a.1==b.1&&a.2==b.2||a.1==b.1&&b.2==0)
def wiR (a b:Ty):Bool:=if (!chkR a|| !chkR b) then false else (b.1==0||a.1==b.1&&a.2==b.2||a.1==b.1&&b.2==0)
def codeT (p:Ty):Int:=if chk p then IntKind.u8.wrap (bitsI .or .i64 (shlI .i64 p.1 3) p.2) else 255
def tys:List Ty:=[(0,0),(1,0),(2,0),(3,0),(4,0),(4,1),(4,2),(4,3),(5,0),(5,1),(5,2),(5,3)]
theorem chk_mem {a:Ty}(h:chk a=true):a ∈ tys:=by
 obtain ⟨k,o⟩:=a
 simp only [chk,Bool.not_eq_true',Bool.or_eq_false_iff,decide_eq_false_iff_not,Bool.and_eq_false_imp,Bool.not_eq_true,bne_eq_false_iff_eq] at h
 obtain ⟨⟨⟨⟨h1,h2⟩,h3⟩,h4⟩,h5⟩:=h
 have hk:k=0∨k=1∨k=2∨k=3∨k=4∨k=5:=by omega
 have ho:o=0∨o=1∨o=2∨o=3:=by omega
 rcases hk with rfl|rfl|rfl|rfl|rfl|rfl<;>rcases ho with rfl|rfl|rfl|rfl<;>first|decide|(exfalso; revert h5; decide)
theorem chkR_eq (a:Ty):chkR a=chk a:=by
 obtain ⟨k,o⟩:=a
 rw [Bool.eq_iff_iff]
 simp only [chk,chkR]
 split
 ·simp at *; omega
 ·simp at *; omega
namespace V
def t (v:V):Ty:=(v.tk,v.to)
end V
def nPairs (v:V):Nat:=min v.ks.length v.l.length
def nIt (v:V):Nat:=if v.k==4 then v.l.length else if v.k==5 then nPairs v else 0
theorem nPairs_le (v:V):nPairs v≤v.l.length:=by unfold nPairs; omega
theorem nIt_le (v:V):nIt v≤v.l.length:=by
 unfold nIt nPairs; split
 ·omega
 ·split<;>omega
def nKs (v:V):Nat:=if v.k != 5 then 0 else nPairs v
def items (v:V):List V:=v.l.take (nIt v)
def keys (v:V):List ByteArray:=v.ks.take (nKs v)
theorem items_len (v:V):(items v).length=nIt v:=by unfold items; have:=nIt_le v; simp; omega
theorem items_mem {v x:V}(h:x ∈ items v):x ∈ v.l:=List.mem_of_mem_take h
def weight:V→Int:=V.fold fun v rs=>(rs.take (nIt v)).foldl (fun n r=>IntKind.i64.wrap (n+r)) 1
theorem weight_eq (v:V):weight v=((items v).map weight).foldl (fun n r=>IntKind.i64.wrap (n+r)) 1:=by
 rw [weight,V.fold_eq,← List.map_take]; rfl
def flat (a b:V):Bool:=a.k==b.k&&a.i==b.i&&eqs a.s b.s&&(a.tk==b.tk&&a.to==b.to)&&a.sec==b.sec&&(a.l.length:Int)==b.l.length&&eqSs a.ks b.ks
def only (v:V):V:= .mk v.k (if v.k==1||v.k==2 then v.i else 0) (if v.k==3 then v.s else ByteArray.empty) (if v.k==5||v.k==4 then v.l else []) (if v.k==5 then v.ks else [])
 (if v.k==6 then v.tk else 0) (if v.k==6 then v.to else 0) v.sec
theorem only_k (v:V):(only v).k=v.k:=rfl
theorem only_i (v:V):(only v).i=if v.k==1||v.k==2 then v.i else 0:=rfl
theorem only_s (v:V):(only v).s=if v.k==3 then v.s else ByteArray.empty:=rfl
theorem only_l (v:V):(only v).l=if v.k==5||v.k==4 then v.l else []:=rfl
theorem only_ks (v:V):(only v).ks=if v.k==5 then v.ks else []:=rfl
theorem only_tk (v:V):(only v).tk=if v.k==6 then v.tk else 0:=rfl
theorem only_to (v:V):(only v).to=if v.k==6 then v.to else 0:=rfl
theorem only_sec (v:V):(only v).sec=v.sec:=rfl
def keyOk (ks:List ByteArray) (c:Nat) (x:ByteArray):Bool:=decide ((x.size:Int)>1024)||decide ((c:Int)>0)&& !(Op.bytesLess (ks.getD (IntKind.i64.wrap ((c:Int)-1)).toNat ByteArray.empty).toList x.toList)
def keysOk (ks:List ByteArray):List ByteArray→Nat→Bool
 | [],_=>true
 | x::r,c=>if keyOk ks c x then false else keysOk ks r (c+1)
def shaped (v:V):Bool :=
 if (decide (v.k<0)||decide (v.k>6)|| !flat v (only v)||decide ((v.s.size:Int)>1024)||decide ((v.l.length:Int)>128)) then false
 else if v.k==1 then shrI .i64 v.i 1==0
 else if v.k==6 then errc v.t==0
 else if v.k==5 then (if (v.ks.length:Int) != v.l.length then false else keysOk v.ks v.ks 0)
 else true
def allV:V→Int→Bool:=V.fold fun v rs d=>if (d==0|| !shaped v) then false else rs.all fun r=>r (IntKind.i64.wrap (d-1))
theorem allV_eq (v:V)(d:Int):allV v d=if (d==0|| !shaped v) then false else v.l.all fun x=>allV x (IntKind.i64.wrap (d-1)):=by
 rw [allV,V.fold_eq]
 simp only [List.all_map]
 rfl
def checkV (v:V):Int:=if (!allV v 8||decide (weight v>512)) then 1 else 0
def fits:V→Ty→Bool:=V.fold fun v rs t =>
 if errc t != 0 then false
 else if (t.1==0||v.k==0) then true
 else if v.k==6 then wi v.t t
 else if v.k != t.1 then false
 else !((rs.take (nIt v)).any fun r=> !(r (t.2,0)))
theorem fits_eq (v:V)(t:Ty):fits v t=if errc t != 0 then false
 else if (t.1==0||v.k==0) then true
 else if v.k==6 then wi v.t t
 else if v.k != t.1 then false
 else !((items v).any fun x=> !(fits x (t.2,0))):=by
 rw [fits,V.fold_eq,← List.map_take,List.any_map]; rfl
def known:V→Bool:=V.fold fun v rs=>v.k != 6&& !((rs.take (nIt v)).any fun r=> !r)
theorem known_eq (v:V):known v=(v.k != 6&& !((items v).any fun x=> !(known x))):=by
 rw [known,V.fold_eq,← List.map_take,List.any_map]; rfl
def cmpI (x y:Int):Int:=if x<y then -1 else if x>y then 1 else 0
def cmpS (x y:ByteArray):Int:=if Op.bytesLess x.toList y.toList then -1 else if !(Op.bytesLess x.toList y.toList||x.toList==y.toList) then 1 else 0
def orI:List Int→Int
 | []=>0
 | x::r=>if x != 0 then x else orI r
def V.sm:V→Bool:=V.fold fun v rs=>decide (v.l.length≤4294967296)&&decide (v.ks.length≤4294967296)&&rs.all id
theorem V.sm_eq (v:V):v.sm=(decide (v.l.length≤4294967296)&&decide (v.ks.length≤4294967296)&&v.l.all V.sm):=by
 rw [V.sm,V.fold_eq,List.all_map]; rfl
theorem V.sm_l {v:V}(h:v.sm=true):v.l.length≤4294967296∧v.ks.length≤4294967296∧∀ x ∈ v.l,x.sm=true:=by
 rw [V.sm_eq] at h
 simp only [Bool.and_eq_true,decide_eq_true_eq,List.all_eq_true] at h
 exact ⟨h.1.1,h.1.2,h.2⟩
def fitsR:V→Ty→Bool:=V.fold fun v rs t =>
 if !chkR t then false
 else if (t.1==0||v.k==0) then true
 else if v.k==6 then wiR v.t t
 else if v.k != t.1 then false
 else (rs.take (nIt v)).all fun r=>r (t.2,0)
theorem fitsR_eq (v:V)(t:Ty):fitsR v t=if !chkR t then false
 else if (t.1==0||v.k==0) then true
 else if v.k==6 then wiR v.t t
 else if v.k != t.1 then false
 else (items v).all fun x=>fitsR x (t.2,0):=by
 rw [fitsR,V.fold_eq,← List.map_take,List.all_map]; rfl
def chk1 (v:V) (d:Int):Bool:=decide (d<1)||decide (v.k<0)||decide (v.k>6)
def chk2 (v:V):Bool:=v.k != 1&&v.k != 2&&v.i != 0||v.k==1&&v.i != 0&&v.i != 1
def chk3 (v:V):Bool:=v.k != 3&& !(v.s.toList==({ data:= #[] }:ByteArray).toList)||decide ((v.s.size:Int)>1024)
def chk4 (v:V):Bool:=v.k != 6&& !(v.tk==0&&v.to==0)||v.k==6&& !chkR v.t
def chk5 (v:V):Bool:=v.k != 4&&v.k != 5&&decide ((v.l.length:Int)>0)||decide ((v.l.length:Int)>128)
def chk6 (v:V):Bool:=v.k != 5&&decide ((v.ks.length:Int)>0)||v.k==5&&(v.ks.length:Int) != v.l.length
def checkRV:V→Int→Bool:=V.fold fun v rs d =>
 if chk1 v d then false else if chk2 v then false else if chk3 v then false else if chk4 v then false else if chk5 v then false else if chk6 v then false
 else if !keysOk v.ks v.ks 0 then false else rs.all fun r=>r (IntKind.i64.wrap (d-1))
theorem checkRV_eq (v:V)(d:Int):checkRV v d =
 if chk1 v d then false else if chk2 v then false else if chk3 v then false else if chk4 v then false else if chk5 v then false else if chk6 v then false
 else if !keysOk v.ks v.ks 0 then false else v.l.all fun x=>checkRV x (IntKind.i64.wrap (d-1)):=by
 rw [checkRV,V.fold_eq,List.all_map]; rfl
def checkR (v:V):Bool:=checkRV v 8&&decide (weight v≤512)
def greatK:List ByteArray→Int→Int
 | [],n=>n
 | k::r,n=>if decide (n≤600) then greatK r (IntKind.i64.wrap (n+IntKind.i64.wrap ((if (4000:Int)<k.size then 4000 else (k.size:Int)).tdiv 4))) else n
def greatL (d:Int):List (Int→Int)→Int→Int
 | [],n=>n
 | r::rs,n=>if decide (n≤600) then greatL d rs (IntKind.i64.wrap (n+r (IntKind.i64.wrap (d-1)))) else n
theorem greatK_stop {l:List ByteArray}{n:Int}(h:decide (n≤600)=false):greatK l n=n:=by cases l<;>simp [greatK,h]
theorem greatL_stop {d:Int}{l:List (Int→Int)}{n:Int}(h:decide (n≤600)=false):greatL d l n=n:=by cases l<;>simp [greatL,h]
theorem greatK_go {l:List ByteArray}{n:Int}{c:Nat}{x:ByteArray}(hx:l[c]? =some x)(h:n≤600) :
  greatK (l.drop c) n=greatK (l.drop (c+1)) (IntKind.i64.wrap (n+IntKind.i64.wrap ((if (4000:Int)<x.size then 4000 else (x.size:Int)).tdiv 4))):=by
 rw [drop_cons? hx]; simp [greatK,h]
theorem greatL_go {d:Int}{l:List (Int→Int)}{n:Int}{c:Nat}{r:Int→Int}(hx:l[c]? =some r)(h:n≤600) :
  greatL d (l.drop c) n=greatL d (l.drop (c+1)) (IntKind.i64.wrap (n+r (IntKind.i64.wrap (d-1)))):=by
 rw [drop_cons? hx]; simp [greatL,h]
def great0 (v:V):Int:=IntKind.i64.wrap (IntKind.i64.wrap (1+IntKind.i64.wrap ((if (2000:Int)<v.s.size then 2000 else (v.s.size:Int)).tdiv 4))+(if (700:Int)<v.ks.length then 700 else (v.ks.length:Int)))
def greatV:V→Int→Int:=V.fold fun v rs d=>if d==0 then 601 else
 let n:=greatL d rs (greatK v.ks (great0 v)); if 601<n then 601 else n
theorem greatV_eq (v:V)(d:Int):greatV v d=if d==0 then 601 else
 let n:=greatL d (v.l.map greatV) (greatK v.ks (great0 v)); if 601<n then 601 else n:=by
 rw [greatV,V.fold_eq]
theorem eqs_refl (a:ByteArray):eqs a a=true:=by simp [eqs]
theorem eqSs_refl:∀ l:List ByteArray,eqSs l l=true
 | []=>rfl
 | x::r=>by simp [eqSs,eqs_refl,eqSs_refl r]
theorem shr1 (i:Int):(shrI .i64 i 1==0)=(i==0||i==1):=by
 rw [Bool.eq_iff_iff]
 have h:shrI .i64 i 1=i/2:=by
  unfold shrI
  have:min ((1:Int)).toNat IntKind.i64.bits=1:=by decide
  rw [this]
  exact (Int.fdiv_eq_ediv_of_nonneg i (by decide))
 simp only [beq_iff_eq,Bool.or_eq_true,h]
 omega
theorem keysOk_nil (ks:List ByteArray)(c:Nat):keysOk ks [] c=true:=rfl
theorem wrap_small {d:Int}(h0:0≤d)(h8:d≤8):IntKind.i64.wrap (d-1)=d-1:=wrap64 (by omega) (by omega)
theorem eqs_emp (s:ByteArray):eqs s ByteArray.empty=(s.toList==({ data:= #[] }:ByteArray).toList):=rfl
theorem eqSs_emp (l:List ByteArray):eqSs l []=decide (l.length=0):=by cases l<;>simp [eqSs]
theorem shaped_law (v:V)(d:Int)(h1:1≤d) :
  shaped v=(!chk1 v d&& !chk2 v&& !chk3 v&& !chk4 v&& !chk5 v&& !chk6 v&&keysOk v.ks v.ks 0):=by
 by_cases hk:v.k<0∨v.k>6
 ·have e1:chk1 v d=true:=by unfold chk1; simp; omega
  have e2:shaped v=false:=by
   unfold shaped
   rw [if_pos (by simp; omega)]
  rw [e1,e2]; rfl
 ·have hd:chk1 v d=false:=by unfold chk1; simp; omega
  have hr:v.k=0∨v.k=1∨v.k=2∨v.k=3∨v.k=4∨v.k=5∨v.k=6:=by omega
  have kb:(decide (v.k<0)||decide (v.k>6))=false:=by simp; omega
  have hks:v.ks=[]→keysOk v.ks v.ks 0=true:=fun e=>by rw [e]; rfl
  rw [hd]
  unfold shaped
  rw [kb]
  unfold flat chk2 chk3 chk4 chk5 chk6 errc
  rw [only_k,only_i,only_s,only_l,only_ks,only_tk,only_to,only_sec,← chkR_eq]
  have e0:v.t=(v.tk,v.to):=rfl
  obtain ⟨k,i,s,l,ks,tk,to,sec⟩:=v
  simp only [V.k,V.i,V.s,V.l,V.ks,V.tk,V.to,V.sec] at *
  rcases hr with rfl|rfl|rfl|rfl|rfl|rfl|rfl
  all_goals
   rw [Bool.eq_iff_iff]
   simp [eqs_refl,eqSs_refl,eqs_emp,eqSs_emp,shr1,e0]
   try (by_cases hl:l=[]<;>by_cases hq:ks=[]<;>simp [hl,hq,keysOk_nil,List.length_pos_iff])
   all_goals try grind
theorem all_congr' {α:Type}{p q:α→Bool}:∀ {l:List α},(∀ x ∈ l,p x=q x)→l.all p=l.all q
 | [],_=>rfl
 | x::r,h=>by simp only [List.all_cons]; rw [h x (by simp),all_congr' fun y hy=>h y (by simp [hy])]
theorem allV_check (v:V):∀ d:Int,0≤d→d≤8→allV v d=checkRV v d:=by
 refine V.ind (p:=fun v=>∀ d:Int,0≤d→d≤8→allV v d=checkRV v d) (fun v ih d h0 h8=> ?_) v
 rw [allV_eq,checkRV_eq]
 by_cases hd:d=0
 ·subst hd; simp [chk1]
 ·rw [shaped_law v d (by omega),all_congr' fun x hx=>ih x hx (IntKind.i64.wrap (d-1)) (by rw [wrap_small h0 h8]; omega) (by rw [wrap_small h0 h8]; omega)]
  have:(d==0)=false:=by simpa using hd
  rw [this]
  cases chk1 v d<;>cases chk2 v<;>cases chk3 v<;>cases chk4 v<;>cases chk5 v<;>cases chk6 v<;>cases keysOk v.ks v.ks 0<;>rfl
theorem check_law (v:V):(checkV v==0)=checkR v:=by
 unfold checkV checkR
 rw [allV_check v 8 (by decide) (by decide)]
 cases h:checkRV v 8<;>by_cases hw:weight v>512<;>simp [hw]<;>omega
theorem eqs_iff {a b:ByteArray}:eqs a b=true ↔ a=b:=by
 unfold eqs
 rw [beq_iff_eq]
 refine ⟨fun h=> ?_,fun h=>by rw [h]⟩
 rw [ByteArray.toList_eq,ByteArray.toList_eq] at h
 cases a; cases b
 simp at h
 simpa using h
def Ok (v:V):Prop:=∃ d,checkRV v d=true
theorem ok_of {v:V}(h:checkR v=true):Ok v:=by
 unfold checkR at h
 simp only [Bool.and_eq_true] at h
 exact ⟨8,h.1⟩
structure Okf (v:V):Prop where
 k0:0≤v.k
 k6:v.k≤6
 i:v.k≠1→v.k≠2→v.i=0
 s:v.k≠3→v.s=ByteArray.empty
 t:v.k≠6→v.tk=0∧v.to=0
 t6:v.k=6→chk v.t=true
 l:v.k≠4→v.k≠5→v.l=[]
 ks:v.k≠5→v.ks=[]
 ks5:v.k=5→v.ks.length=v.l.length
 ok:∀ x ∈ v.l,Ok x
theorem Ok.f {v:V}(h:Ok v):Okf v:=by
 obtain ⟨d,h⟩:=h
 rw [checkRV_eq] at h
 by_cases h1:chk1 v d=true
 ·simp [h1] at h
 by_cases h2:chk2 v=true
 ·simp [h1,h2] at h
 by_cases h3:chk3 v=true
 ·simp [h1,h2,h3] at h
 by_cases h4:chk4 v=true
 ·simp [h1,h2,h3,h4] at h
 by_cases h5:chk5 v=true
 ·simp [h1,h2,h3,h4,h5] at h
 by_cases h6:chk6 v=true
 ·simp [h1,h2,h3,h4,h5,h6] at h
 by_cases h7:keysOk v.ks v.ks 0=true
 ·simp only [h1,h2,h3,h4,h5,h6,h7] at h
  simp only [chk1,Bool.or_eq_true,decide_eq_true_eq,not_or] at h1
  refine ⟨by omega,by omega,fun a b=> ?_,fun a=> ?_,fun a=> ?_,fun a=> ?_,fun a b=> ?_,fun a=> ?_,fun a=> ?_,fun x hx=>⟨_,List.all_eq_true.1 h x hx⟩⟩
  ·simp [chk2] at h2
   exact h2.1 a b
  ·have:=(by simpa [chk3] using h3:(¬v.k=3→v.s.toList=[])∧_).1 a
   exact eqs_iff.1 (by rw [eqs_emp,this]; simp)
  ·simp [chk4] at h4
   exact h4.1 a
  ·simp [chk4] at h4
   rw [← chkR_eq]; exact h4.2 a
  ·simp [chk5] at h5
   exact h5.1 a b
  ·simp [chk6] at h6
   exact h6.1 a
  ·simp [chk6] at h6
   have:=h6.2 a
   omega
 ·simp [h1,h2,h3,h4,h5,h6,h7] at h
theorem Okf.keys {v:V}(h:Okf v):keys v=v.ks:=by
 unfold VA.keys nKs nPairs
 split
 ·rename_i h5; rw [h.ks (by simpa using h5)]; rfl
 ·rename_i h5; have:=h.ks5 (by simpa using h5); rw [List.take_of_length_le (by omega)]
theorem errc_ne (t:Ty):(errc t != 0)= !chk t:=by unfold errc; split<;>simp_all
theorem wi_eq (a b:Ty):wi a b=wiR a b:=by
 by_cases ha:chk a=true
 ·by_cases hb:chk b=true
  ·have:∀ a ∈ tys,∀ b ∈ tys,wi a b=wiR a b:=by decide +kernel
   exact this a (chk_mem ha) b (chk_mem hb)
  ·have hb:chk b=false:=by simpa using hb
   simp [wi,wiR,chkR_eq,errc,hb]
 ·have ha:chk a=false:=by simpa using ha
  simp [wi,wiR,chkR_eq,errc,ha]
theorem fits_R (v:V):∀ t,fits v t=fitsR v t:=by
 refine V.ind (p:=fun v=>∀ t,fits v t=fitsR v t) (fun v ih t=> ?_) v
 rw [fits_eq,fitsR_eq,errc_ne,chkR_eq,wi_eq]
 have:(!((items v).any fun x=> !(fits x (t.2,0))))=(items v).all fun x=>fitsR x (t.2,0):=by
  rw [List.not_any_eq_all_not]
  exact all_congr' fun x hx=>by rw [ih x (items_mem hx)]; simp
 rw [this]
abbrev bl (a b:ByteArray):Bool:=Op.bytesLess a.toList b.toList
theorem bytesLess_irr:∀ l:List UInt8,Op.bytesLess l l=false
 | []=>rfl
 | x::r=>by simp [Op.bytesLess,bytesLess_irr r]
theorem bytesLess_asym:∀ l m:List UInt8,Op.bytesLess l m=true→Op.bytesLess m l=false
 | [],[],h=>by simp [Op.bytesLess] at h
 | [],_::_,_=>rfl
 | _::_,[],h=>by simp [Op.bytesLess] at h
 | x::r,y::s,h=>by
  simp only [Op.bytesLess,Bool.or_eq_true,decide_eq_true_eq,Bool.and_eq_true,beq_iff_eq] at h
  simp only [Op.bytesLess,Bool.or_eq_false_iff,decide_eq_false_iff_not,Bool.and_eq_false_iff,beq_eq_false_iff_ne,UInt8.not_lt]
  rcases h with h|⟨rfl,h⟩
  ·have hne:y≠x:=fun e=>by subst e; exact absurd h (UInt8.lt_irrefl _)
   exact ⟨UInt8.le_of_lt h,.inl hne⟩
  ·exact ⟨UInt8.le_refl _,.inr (bytesLess_asym r s h)⟩
theorem NoTag.ag {xs:List C}(h:NtCs xs):NoTag (.ag xs):=⟨fun B S S' u hF hu=>by
 simp only [RelV] at hu ⊢
 obtain ⟨arr,e,h'⟩:=hu
 exact ⟨arr,e,NtCs.vs hF _ _ h h'⟩⟩
theorem NoTag.c {x:C}(h:NtC x):NoTag (.c x):=⟨fun B S S' u hF hu=>by
 simp only [RelV] at hu ⊢
 exact NtC.rep hF _ _ h hu⟩
def allNoTag:List AV→Prop
 | []=>True
 | x::r=>NoTag x∧allNoTag r
theorem NoTag.tup {xs:List AV}(h:allNoTag xs):NoTag (.tup xs):=⟨fun B S S' u hF hu=>by
 simp only [RelV] at hu ⊢
 obtain ⟨arr,e,h'⟩:=hu
 refine ⟨arr,e,?_⟩
 clear e
 revert h'
 generalize arr.toList=us
 induction xs generalizing us with
 | nil=>exact fun h=>h
 | cons x r ih =>
  intro h'
  simp only [RelVs] at h' ⊢
  obtain ⟨u,r',h1,h2,h3⟩:=h'
  exact ⟨u,r',h1,h.1.h B S S' u hF h2,ih h.2 _ h3⟩⟩
def rgV:V→Bool:=V.fold fun v rs=>decide (-9223372036854775808≤v.i)&&decide (v.i≤9223372036854775807)&&rs.all id
theorem rgV_eq (v:V):rgV v=(decide (-9223372036854775808≤v.i)&&decide (v.i≤9223372036854775807)&&v.l.all rgV):=by
 unfold rgV; rw [V.fold_eq]; simp [List.all_map]
open Go Go.RowKit Go.ChangeShapes Go.WideShapes Go.ChangeAt
def S0 (W:World):Rd:=fun _ b o u=>W.cell? ⟨b,o,none⟩=some u
def M0:Mz:=⟨0,fun _=>False,fun _=>False,fun _ h=>h⟩
theorem Sr_M0 (W:World):Sr M0 [] [] W=S0 W:=by
 funext t b o u
 simp only [Sr,S0,eq_iff_iff,and_iff_right_iff_imp]
 intro _ h
 cases t<;>simp [MU,M0] at h
theorem relL_nil (W:World):RelL M0 [] [] W where
 len:=rfl
 bnd:=by simp
 mbnd:=by simp [M0]
 notM:=by simp
 dist:=by simp
 obj:=by simp
section
variable {P:Program} {gl:Gl} {f:Nat} {args:List AV}
theorem acall_run {r:AV}(h:ACall P gl f args [] r)(W:World)(vals:Array Value)(hG:GlOk gl (S0 W))(hv:RelVs [] (S0 W) args vals.toList) :
  Calls P f vals W fun e w'=>∃ u,e= .returned u∧Below W.heap.size W w'∧RelV [] (S0 w') r u:=by
 have:=h.run W M0 [] vals rfl (relL_nil W) (by rw [Sr_M0]; exact hG) (by rw [Sr_M0]; exact hv)
 refine this.mono fun e w' ⟨u,h1,h2,h3⟩=>⟨u,h1,h2,?_⟩
 rwa [Sr_M0] at h3
theorem acall_true (h:ACall P gl f args [] (boolA true))(W:World)(vals:Array Value)(hG:GlOk gl (S0 W))(hv:RelVs [] (S0 W) args vals.toList) :
  Calls P f vals W fun e w'=>e= .returned (.bool true)∧Below W.heap.size W w':=by
 refine (acall_run h W vals hG hv).mono fun e w' ⟨u,h1,h2,h3⟩=> ?_
 simp only [boolA,RelV,RepC] at h3
 rw [h1,h3.1]
 exact ⟨rfl,h2⟩
end
section
variable {H:Type} {enc:TypeId×Value→H} {P:Program}
theorem post_of_below {f:Func}{s:ChangeSpec}{apart fresh handsOn again:Bool}{W W':World}{args:Array Value}{v:Value}{ds gs:List (DataW H)}{before pa pv:List MemPlace}
  (hW:DataW.Whole enc P f.params.toList s.vars apart W args.toList ds gs before)
  (hres:∀ (b:Nat) (sp:Nat→Bool) (hd:Bool),DataW.TrodAll enc P W' b sp hd f.resultTypes.toList (v.resultList f.resultTypes.size) (s.fn H (ds++gs)).results [])
  (hargs:∀ sp:Nat→Bool,(∀ p ∈ before,sp p.block=true)→DataW.TrodAll enc P W' 0 sp true f.params.toList args.toList (s.fn H (ds++gs)).args pa)
  (hvars:∀ sp:Nat→Bool,(∀ p ∈ before,sp p.block=true)→DataW.TrodVars enc P W' sp s.vars (s.fn H (ds++gs)).vars pv)
  (hps:before=pa++pv) (hb:Below W.heap.size W W')
  (hok:∀ (j:Nat) (t:TypeId) (r:Value),f.resultTypes[j]? =some t→(v.resultList f.resultTypes.size)[j]? =some r→Value.okWide P W' .any 0 t r) :
  s.post enc P f apart fresh handsOn again W args v W':=by
 have hlt:∀ p ∈ before,p.block<W.heap.size:=fun p hp=>hW.lt p hp
 have hold:∀ p ∈ before,(fun b=>decide (b<W.heap.size)) p.block=true:=fun p hp=>by simpa using hlt p hp
 refine ⟨ds,gs,before,[],pa,pv,hW,hres _ _ _,hargs _ hold,hvars _ hold,World.keptBut_mono (fun p hp=>⟨hp,?_⟩) (hb.frame (· ∈ before)),fun _=> ?_⟩
 ·rw [hps,List.mem_append] at hp
  exact Or.inr hp
 ·obtain ⟨_,_,_,_,_,hz,hn⟩:=hW
  refine ⟨hok,_,_,([]++pa)++pv,⟨[]++pa,pv,trodAll_append (hargs _ (fun _ _=>rfl)) (hres _ _ _),hvars _ (fun _ _=>rfl),rfl,?_,?_⟩,?_⟩
  ·intro b off hp
   have hin:MemPlace.cell b off ∈ before:=by rw [hps]; simpa using hp
   rw [hb.frozen (hlt _ hin)]
   exact hz b off hin
  ·intro ha
   have:=hn ha
   rw [hps] at this
   simpa using this
  ·intro p hp _
   rw [hps]
   simpa using hp
def carried (P:Program):List TypeId→Bool
 | []=>true
 | t::ts=>P.readableRec t&&decide (t<P.types.size)&&carried P ts
theorem trodAll_below (hl:laidOutB P=true){W W':World}(hb:Below W.heap.size W W'):∀ {ts:List TypeId} {vs:List Value} {ds:List (DataW H)} {ps:List MemPlace},
  carried P ts=true→DataW.TrodAll enc P W 0 (fun _=>true) true ts vs ds ps→(∀ x ∈ ps,x.block<W.heap.size) →
  ∀ sp:Nat→Bool,(∀ p ∈ ps,sp p.block=true)→DataW.TrodAll enc P W' 0 sp true ts vs ds ps
 | [],[],[],_,_,h,_,_,_=>h
 | t::ts,v::vs,d::ds,ps,hc,h,hlt,sp,hsp=>by
  simp only [carried,Bool.and_eq_true,decide_eq_true_eq] at hc
  obtain ⟨p,q,h1,h2,rfl⟩:=h
  have h3:=Below.trod hl hc.1.1 hc.1.2 h1 hb fun x hx=>hlt x (List.mem_append_left _ hx)
  refine ⟨p,q,?_,trodAll_below hl hb hc.2 h2 (fun x hx=>hlt x (List.mem_append_right _ hx)) sp (fun x hx=>hsp x (List.mem_append_right _ hx)),rfl⟩
  exact WideElems.Trod_stays hl hc.1.1 hc.1.2 h1 (fun x hx=>hb.same (hlt x (List.mem_append_left _ hx))) (fun x hx=>hsp x (List.mem_append_left _ hx))
 | [],_::_,_,_,_,h,_,_,_=>h.elim
 | _::_,[],_,_,_,h,_,_,_=>h.elim
 | [],[],_::_,_,_,h,_,_,_=>h.elim
 | _::_,_::_,[],_,_,h,_,_,_=>h.elim
end
end Go.VA
namespace Go.VA
open Go Go.RowKit Go.ChangeShapes Go.WideShapes Go.ChangeAt
section
variable {H:Type} {enc:TypeId×Value→H} {P:Program} {tb:TB} {w:World} {base:Nat} {spare:Nat→Bool} {held:Bool} {fuel:Nat} {t:TypeId} {cs:List Value} {x:DataW H×List MemPlace}
theorem cellsOf_tb (htb:TbOk P tb)(ho:(tb t).k.isOther=false):P.cellsOf t=(tb t).sz:=by
 obtain ⟨i,d,z,h1,h2,h3,h4,_⟩:=(htb t).ok ho
 unfold Program.cellsOf
 rw [h1]
 simpa using h4
theorem tr_int (htb:TbOk P tb){k:IntKind}(hk:(tb t).k= .int k)(h:DataW.trod enc P w base spare held fuel t cs=some x):∃ n,cs=[.int k n]∧k.min≤n∧n≤k.max:=by
 obtain ⟨d,h2,h3⟩:=(htb t).under (by rw [hk]; rfl)
 rw [hk] at h3
 simp only [TKok] at h3
 subst h3
 obtain ⟨n,h4,_,h5⟩:=DataW.trod_int h2 h
 simp only [Lit.wf,Bool.and_eq_true,decide_eq_true_eq] at h5
 exact ⟨n,h4,h5⟩
theorem tr_bool (htb:TbOk P tb)(hk:(tb t).k= .bool)(h:DataW.trod enc P w base spare held fuel t cs=some x):∃ b,cs=[.bool b]:=by
 obtain ⟨d,h2,h3⟩:=(htb t).under (by rw [hk]; rfl)
 rw [hk] at h3
 simp only [TKok] at h3
 subst h3
 obtain ⟨n,h4,_⟩:=DataW.trod_bool h2 h
 exact ⟨n,h4⟩
theorem tr_str (htb:TbOk P tb)(hk:(tb t).k= .str)(h:DataW.trod enc P w base spare held fuel t cs=some x):∃ s:ByteArray,cs=[.string s]∧s.size≤maxLen:=by
 obtain ⟨d,h2,h3⟩:=(htb t).under (by rw [hk]; rfl)
 rw [hk] at h3
 simp only [TKok] at h3
 subst h3
 obtain ⟨n,h4,_,h5⟩:=DataW.trod_string h2 h
 exact ⟨n,h4,h5⟩
theorem tr_struct (htb:TbOk P tb){fs:List (Nat×Nat)}(hk:(tb t).k= .struct fs)(h:DataW.trod enc P w base spare held fuel t cs=some x) :
  cs.length=(tb t).sz∧∃ m,fuel=m+1∧∀ i o ty:Nat,fs[i]? =some (o,ty)→(tb ty).k.isOther=false→∃ y,DataW.trod enc P w base spare held m ty ((cs.drop o).take (tb ty).sz)=some y:=by
 obtain ⟨d,h2,h3⟩:=(htb t).under (by rw [hk]; rfl)
 have hsz:=cellsOf_tb htb (t:=t) (by rw [hk]; rfl)
 rw [hk] at h3
 simp only [TKok] at h3
 obtain ⟨f,rfl,hf⟩:=h3
 obtain ⟨xs,n,h4,_,h5,h6,h7⟩:=DataW.trod_struct h2 h
 refine ⟨by rw [h5,hsz],n,h4,fun i o ty hi ho=> ?_⟩
 rw [← hf.1,List.getElem?_map,Option.map_eq_some_iff] at hi
 obtain ⟨g,k1,k2⟩:=hi
 rw [Array.getElem?_toList] at k1
 have:=h7 i g k1
 simp only [Prod.mk.injEq] at k2
 rw [k2.1,k2.2,cellsOf_tb htb ho] at this
 have hlt:i<xs.length:=by
  rw [h6]
  exact (Array.getElem?_eq_some_iff.1 k1).1
 rw [List.getElem?_eq_getElem hlt] at this
 exact ⟨_,this⟩
theorem repCs_of_repVs {S:Rd}{R:Nat→Value→Prop}:∀ {xs:List C} {us:List Value} {o:Nat},RepVs S xs us→(∀ j u,us[j]? =some u→R (o+j) u)→RepCs S R o xs
 | [],us,o,_,_=>by simp [RepCs]
 | x::xs,us,o,h,hR=>by
  simp only [RepVs] at h
  obtain ⟨u,r,rfl,h1,h2⟩:=h
  simp only [RepCs]
  refine ⟨⟨u,hR 0 u rfl,h1⟩,repCs_of_repVs h2 fun j v hv=> ?_⟩
  rw [Nat.add_assoc,Nat.add_comm 1 j]
  exact hR (j+1) v (by simpa using hv)
theorem repC_rows {S:Rd}{a:Option Addr}{len cap esz:Nat}{f:Nat→List C}{tg:Bool}(hc:len≤cap∧len≤140737488355328)
  (h:len=0∨∃ b o,a=some ⟨b,o,none⟩∧∀ i,i<len→∃ ce:List Value,ce.length=esz∧(∀ j,j<esz→∀ u,ce[j]? =some u→S tg b (o+i*esz+j) u)∧(f i).length=esz∧RepVs S (f i) ce) :
  RepC S (.sl tg esz len f) (.slice a len cap):=by
 simp only [RepC]
 refine ⟨a,cap,rfl,hc,?_⟩
 rcases h with h|⟨b,o,h1,h2⟩
 ·exact .inl h
 ·refine .inr ⟨b,o,h1,fun i hi=> ?_⟩
  obtain ⟨ce,k1,k2,k3,k4⟩:=h2 i hi
  refine ⟨k3,repCs_of_repVs k4 fun j u hu=> ?_⟩
  have:=(List.getElem?_eq_some_iff.1 hu).1
  exact k2 j (by omega) u hu
theorem relV_agg {S:Rd}{B:List (Option BI)}{v:Value}{xs:List C}{arr:Array Value}(hv:v= .agg arr)(h:RepVs S xs arr.toList):RelV B S (.ag xs) v:=by
 simp only [RelV]
 exact ⟨arr,hv,h⟩
theorem repV_i {S:Rd}{k:IntKind}{n:Int}:RepC S (.v (.int k n)) (.int k n):=by simp [RepC,Value.oneCell']
theorem repV_b {S:Rd}{b:Bool}:RepC S (.v (.bool b)) (.bool b):=by simp [RepC,Value.oneCell']
theorem repV_s {S:Rd}{b:ByteArray}:RepC S (.v (.string b)) (.string b):=by simp [RepC,Value.oneCell']
theorem arg_agg (htb:TbOk P tb)(hk:(tb t).k.agg=true){v:Value}{r:Reach}{b0:Nat}(hval:Value.okWide P w r b0 t v):∃ arr,v= .agg arr∧v.cells.toList=arr.toList:=by
 obtain ⟨d,h2,h3⟩:=(htb t).under (by cases h:(tb t).k<;>rw [h] at hk<;>simp_all [TK.agg,TK.isOther])
 cases h:(tb t).k<;>rw [h] at hk h3<;>simp only [TK.agg,Bool.false_eq_true] at hk
 case struct fs =>
  simp only [TKok] at h3
  obtain ⟨f,rfl,_⟩:=h3
  obtain ⟨cs,rfl,_⟩:=okWide_struct h2 hval
  exact ⟨cs,rfl,rfl⟩
 case array n e =>
  simp only [TKok] at h3
  subst h3
  simp only [Value.okWide,h2] at hval
  obtain ⟨cs,rfl,_⟩:=hval
  exact ⟨cs,rfl,rfl⟩
end
end Go.VA
namespace Go.VA
open Go Go.RowKit Go.ChangeShapes Go.WideShapes Go.ChangeAt
section
variable {H:Type} {enc:TypeId×Value→H} {P:Program} {tb:TB} {w:World} {base:Nat} {spare:Nat→Bool} {held:Bool} {fuel:Nat} {t:TypeId} {cs:List Value} {x:DataW H×List MemPlace}
def SzW (P:Program) (t:TypeId) (d:DataW H):Prop:=∀ n ∈ d.weights P t,n≤reachBytes
theorem bytesOf_tb (htb:TbOk P tb)(ho:(tb t).k.isOther=false):P.bytesOf t=(tb t).bytes:=by
 obtain ⟨i,d,z,h1,h2,h3,h4,h5,_⟩:=(htb t).ok ho
 unfold Program.bytesOf
 rw [h1]
 simpa using h5
theorem tr_structS (htb:TbOk P tb){fs:List (Nat×Nat)}(hk:(tb t).k= .struct fs)(h:DataW.trod enc P w base spare held fuel t cs=some x)(hs:SzW P t x.1) :
  cs.length=(tb t).sz∧∃ m,fuel=m+1∧∀ i o ty:Nat,fs[i]? =some (o,ty)→(tb ty).k.isOther=false→∃ y,DataW.trod enc P w base spare held m ty ((cs.drop o).take (tb ty).sz)=some y∧SzW P ty y.1:=by
 obtain ⟨d,h2,h3⟩:=(htb t).under (by rw [hk]; rfl)
 have hsz:=cellsOf_tb htb (t:=t) (by rw [hk]; rfl)
 rw [hk] at h3
 simp only [TKok] at h3
 obtain ⟨f,rfl,hf⟩:=h3
 obtain ⟨xs,n,h4,h8,h5,h6,h7⟩:=DataW.trod_struct h2 h
 refine ⟨by rw [h5,hsz],n,h4,fun i o ty hi ho=> ?_⟩
 rw [← hf.1,List.getElem?_map,Option.map_eq_some_iff] at hi
 obtain ⟨g,k1,k2⟩:=hi
 rw [Array.getElem?_toList] at k1
 have:=h7 i g k1
 simp only [Prod.mk.injEq] at k2
 rw [k2.1,k2.2,cellsOf_tb htb ho] at this
 have hlt:i<xs.length:=by
  rw [h6]
  exact (Array.getElem?_eq_some_iff.1 k1).1
 rw [List.getElem?_eq_getElem hlt] at this
 refine ⟨_,this,fun m hm=>hs m ?_⟩
 rw [h8]
 simp only [DataW.weights,h2]
 exact DataW.weights_mem_each (j:=i) (t:=ty) (d:=xs[i].1) (by rw [List.getElem?_map,Array.getElem?_toList,k1]; simp [k2.2]) (by simp [hlt]) m hm
theorem weightsAll_mem {e:TypeId}:∀ {l:List (DataW H)} {d:DataW H},d ∈ l→∀ n ∈ d.weights P e,n ∈ DataW.weightsAll P e l
 | y::r,d,hd,n,hn=>by
  simp only [DataW.weightsAll,List.mem_append]
  rcases List.mem_cons.1 hd with rfl|hd
  ·exact .inl hn
  ·exact .inr (weightsAll_mem hd n hn)
theorem tr_sliceS (htb:TbOk P tb){e:TypeId}(hk:(tb t).k= .slice e)(he:(tb e).k.isOther=false)(h0:0<(tb e).sz)(h:DataW.trod enc P w base spare held fuel t cs=some x)(hs:SzW P t x.1) :
  ∃ a len cap m,cs=[.slice a len cap]∧fuel=m+1∧len≤cap∧len*(tb e).bytes≤140737488351232∧(len=0∨∃ b o,a=some ⟨b,o,none⟩∧∀ i,i<len→∃ ce y,ce.length=(tb e).sz∧(∀ j,j<(tb e).sz→w.cell? ⟨b,o+i*(tb e).sz+j,none⟩=ce[j]?) ∧
   DataW.trod enc P w base spare held m e ce=some y∧SzW P e y.1):=by
 obtain ⟨d,h2,h3⟩:=(htb t).under (by rw [hk]; rfl)
 have hsz:=cellsOf_tb htb he
 have hby:=bytesOf_tb htb he
 rw [hk] at h3
 simp only [TKok] at h3
 subst h3
 rcases DataW.trod_slice h2 h with ⟨h4,_⟩|⟨a,len,cap,elems,rest,n,h4,h5,hx,h6,h7,h8,h9,h10,_⟩
 ·cases fuel with
  | zero=>simp [DataW.trod] at h
  | succ m=>exact ⟨none,0,0,m,h4,rfl,Nat.le_refl _,by simp,.inl rfl⟩
 ·have hw:(elems.length+rest.length)*P.bytesOf e≤reachBytes:=by
   refine hs _ ?_
   rw [hx]
   simp [DataW.weights,h2]
  refine ⟨some a,len,cap,n,h5,h4,h7,?_,?_⟩
  ·rw [← h9,← hby]
   have:elems.length*P.bytesOf e≤(elems.length+rest.length)*P.bytesOf e:=Nat.mul_le_mul_right _ (Nat.le_add_right _ _)
   unfold reachBytes at hw
   omega
  by_cases hl:len=0
  ·exact .inl hl
  ·right
   have key:∀ i,i<len→∃ ce y,w.cells? base (a.add (i*(tb e).sz)) (tb e).sz=some ce∧DataW.trod enc P w base spare held n e ce=some y∧SzW P e y.1:=by
    intro i hi
    have:=h10 i hi
    rw [hsz] at this
    rw [List.getElem?_eq_getElem (by omega)] at this
    obtain ⟨ce,k1,k2⟩:=Option.bind_eq_some_iff.1 this
    refine ⟨ce,_,k1,k2,fun m hm=>hs m ?_⟩
    rw [hx]
    simp only [DataW.weights,h2,List.mem_cons,List.mem_append]
    refine .inr (.inl (weightsAll_mem (d:=(elems[i]'(by omega)).1) (List.mem_map.2 ⟨elems[i]'(by omega),List.getElem_mem _,rfl⟩) m hm))
   obtain ⟨b,o,spot⟩:=a
   obtain ⟨ce0,y0,k1,_⟩:=key 0 (by omega)
   obtain ⟨_,k3,k4⟩:=World.cells?_some k1
   have g0:=k4 0 h0
   rw [List.getElem?_eq_getElem (by omega)] at g0
   have hspot:spot=none:=by simpa [Addr.add] using World.cell?_spot g0
   subst hspot
   refine ⟨b,o,rfl,fun i hi=> ?_⟩
   obtain ⟨ce,y,k1,k2,k5⟩:=key i hi
   obtain ⟨_,k3,k4⟩:=World.cells?_some k1
   refine ⟨ce,y,k3,fun j hj=> ?_,k2,k5⟩
   have:=k4 j hj
   rw [← this]
   congr 1
   simp only [Addr.add]
   split<;>split<;>simp_all
end
end Go.VA
namespace Go.VA
open Go Go.RowKit Go.ChangeShapes Go.WideShapes Go.ChangeAt
section
variable {P:Program} {tb:TB} {W:World}
theorem laid_ints (htb:TbOk P tb){n e:Nat}{k:IntKind}{t:TypeId}(hk:(tb t).k= .array n e)(he:(tb e).k= .int k)(h1:(tb e).sz=1){l:List Int}{r:List (String×DataW Unit)}{ps:List MemPlace}{nm:String}{g:Nat}
  (hg:P.globalNamed nm=some g) (ht:(P.globals[g]?).map (·.type)=some t) (h:DataW.LaidVars P W ((nm,.agg (l.map fun i=> .lit (.int k i)))::r) ps) :
  RepCs (S0 W) (S0 W false g) 0 (l.map fun i=> .v (.int k i))∧∃ q,DataW.LaidVars P W r q:=by
 obtain ⟨g',t',cs,fuel,p,q,hg',ht',hv,hd,hr,_⟩:=h
 obtain rfl:=Option.some.inj (hg.symm.trans hg')
 obtain rfl:=Option.some.inj (ht.symm.trans ht')
 refine ⟨?_,q,hr⟩
 obtain ⟨d,hd2,hT⟩:=(htb t).under (by simp [hk,TK.isOther])
 rw [hk] at hT
 simp only [TKok] at hT
 subst hT
 obtain ⟨d,hd3,hT⟩:=(htb e).under (by simp [he,TK.isOther])
 rw [he] at hT
 simp only [TKok] at hT
 subst hT
 have hce:P.cellsOf e=1:=by rw [cellsOf_tb htb (by rw [he]; rfl),h1]
 obtain ⟨xs,m,_,hx,hlen,hn,hel⟩:=DataW.trod_array hd2 hd
 simp only [Prod.mk.injEq,DataW.agg.injEq] at hx
 have hx1:=hx.1
 have hll:l.length=n:=by have:=congrArg List.length hx1; simpa [hn] using this
 refine RepCs.mk _ _ fun j x hj=> ?_
 rw [List.getElem?_map,Option.map_eq_some_iff] at hj
 obtain ⟨i,hi,rfl⟩:=hj
 have hjl:j<n:=by have:=(List.getElem?_eq_some_iff.1 hi).1; omega
 refine ⟨.int k i,?_,by simp [RepC,Value.oneCell']⟩
 have hy:=hel j hjl
 rw [List.getElem?_eq_getElem (by omega),hce] at hy
 obtain ⟨z,e1,e2,_⟩:=DataW.trod_int hd3 hy
 have hq:(xs.map (·.1))[j]? =(l.map fun i=>(DataW.lit (.int k i):DataW Unit))[j]? :=by rw [hx1]
 rw [List.getElem?_map,List.getElem?_map,hi,List.getElem?_eq_getElem (by omega)] at hq
 simp only [Option.map_some,Option.some.injEq] at hq
 rw [e2] at hq
 simp only [DataW.lit.injEq,Lit.int.injEq,true_and] at hq
 subst hq
 show W.cell? _=_
 rw [Nat.zero_add,World.var?_cell hg hv j,← Array.getElem?_toList]
 have:=congrArg (fun l=>l[0]?) e1
 simpa [List.getElem?_take,List.getElem?_drop] using this
end
theorem law_liftedL {C:Checked}{f:FuncId}{fn:Func}{s:ChangeSpec}{conds:List PathCond}(laid:List (String×DataW Unit))(os:Os)(started:os.Started){H:Type}{enc:TypeId×Value→H}{tb:TypeId}
  (own:ownKnob C.prog.godebug=none) (noInit:C.prog.inits.idxOf? f=none) (hfn:C.prog.funcs[f]? =some fn)
  (hl:laidOutB C.prog=true) (hc:carried C.prog fn.params.toList=true) (hv:s.vars=[]) (hvt:s.plain.varTypes C.prog=[]) (hr:fn.resultTypes= #[tb]) (htb:C.prog.underlying tb=some .bool)
  (hspec:∀ ds:List (DataW H),ds.length=fn.params.size→s.fn H ds={ results:=[.lit (.bool true)],args:=ds })
  (witness:∃ (w:World) (tape:Tape) (i:Input),w.os=os∧(w.forCall tape i).Shaped C.prog∧i.vars=[]∧Input.okWide C.prog (w.forCall tape i) .any w.heap.size f i ∧
   ((s.pre enc C.prog fn conds false (w.forCall tape i).memory i.args∧laidMetH C.prog laid (w.forCall tape i).memory)∧sizedMet enc C.prog fn (OpenSpec.ofChange s) false (w.forCall tape i).memory i.args)∧({}:Assume).holds C.prog (lone (Frame.enter C.prog f i.args .normal) [] (w.forCall tape i)))
  (call:∀ (W:World) (base:Nat) (args:Array Value) (ds:List (DataW H)) (ps:List MemPlace),
   (∀ (j:Nat) t v,fn.params[j]? =some t→args[j]? =some v→Value.okWide C.prog W .any base t v) →
   DataW.TrodAll enc C.prog W 0 (fun _=>true) true fn.params.toList args.toList ds ps →
   (∀ (j:Nat) t d,fn.params.toList[j]? =some t→ds[j]? =some d→SzW C.prog t d) →
   laidMetH C.prog laid W →
   Calls C.prog f args W fun e w'=>e= .returned (.bool true)∧Below W.heap.size W w') :
  ReturnsInHanded {} C os f .any (fun w args=>(s.pre enc C.prog fn conds false w args∧laidMetH C.prog laid w)∧sizedMet enc C.prog fn (OpenSpec.ofChange s) false w args) (s.post enc C.prog fn false true false false):=by
 refine returnsInHanded_of_change_and (X:=fun w _=>laidMetH C.prog laid w) (fun _ _ _ hh h=>h.of_heap hh) own started noInit hfn witness ?_
 intro W base args ds gs before hval hW _ hsz hX _
 have hW':=hW
 obtain ⟨p,q,hA,hV,hpq,hfz,hnd⟩:=hW
 rw [hv] at hV
 obtain ⟨rfl,rfl⟩:=trodVars_none hV
 rw [List.append_nil] at hpq
 subst hpq
 have hlen:ds.length=fn.params.size:=by
  have:∀ {ts:List TypeId} {vs:List Value} {ds:List (DataW H)} {ps:List MemPlace},DataW.TrodAll enc C.prog W 0 (fun _=>true) true ts vs ds ps→ds.length=ts.length:=by
   intro ts
   induction ts with
   | nil=>intro vs ds ps h; cases vs<;>cases ds<;>first|rfl|exact h.elim
   | cons t ts ih =>
    intro vs ds ps h
    cases vs with
    | nil=>exact h.elim
    | cons v vs =>
     cases ds with
     | nil=>exact h.elim
     | cons d ds =>
      obtain ⟨_,_,_,h2,_⟩:=h
      simp [ih h2]
  rw [this hA]; simp
 rw [hvt,List.append_nil,List.append_nil] at hsz
 have hsz':∀ (j:Nat) t d,fn.params.toList[j]? =some t→ds[j]? =some d→SzW C.prog t d:=fun j t d h1 h2 n hn=>by
  have:=List.all_eq_true.1 hsz n (DataW.weights_mem_each h1 h2 n hn)
  simpa using this
 refine (call W base args ds before hval hA hsz' hX).mono fun e W' ⟨he,hb⟩=>⟨_,he,?_⟩
 have hs:=hspec ds hlen
 refine post_of_below (pa:=before) (pv:=[]) hW' (fun b sp hd=> ?_) (fun sp hsp=> ?_) (fun sp _=> ?_) (by simp) hb ?_
 ·rw [List.append_nil,hs,hr]
  refine trodAll_mk1 ⟨1,?_⟩
  simp [DataW.trod,htb,Value.cells]
 ·rw [List.append_nil,hs]
  exact trodAll_below hl hb hc hA (fun x hx=>hW'.lt x hx) sp hsp
 ·rw [hv,List.append_nil,hs]
  rfl
 ·exact ok_one hr rfl (okWide_bool_mk htb true)
end Go.VA
namespace Go.VA
open Go Go.RowKit Go.ChangeShapes Go.WideShapes Go.ChangeAt
section
variable {P:Program} {tb:TB} {W:World}
theorem laid_two (htb:TbOk P tb){e:Nat}{k:IntKind}{t:TypeId}(hk:(tb t).k= .struct [(0,e),(1,e)])(he:(tb e).k= .int k)(h1:(tb e).sz=1){a b:Int}{r:List (String×DataW Unit)}{ps:List MemPlace}{nm:String}{g:Nat}
  (hg:P.globalNamed nm=some g) (ht:(P.globals[g]?).map (·.type)=some t) (h:DataW.LaidVars P W ((nm,.agg [.lit (.int k a),.lit (.int k b)])::r) ps) :
  RepCs (S0 W) (S0 W false g) 0 [.v (.int k a),.v (.int k b)]∧∃ q,DataW.LaidVars P W r q:=by
 obtain ⟨g',t',cs,fuel,p,q,hg',ht',hv,hd,hr,_⟩:=h
 obtain rfl:=Option.some.inj (hg.symm.trans hg')
 obtain rfl:=Option.some.inj (ht.symm.trans ht')
 refine ⟨?_,q,hr⟩
 obtain ⟨d,hd2,hT⟩:=(htb t).under (by simp [hk,TK.isOther])
 rw [hk] at hT
 simp only [TKok] at hT
 obtain ⟨f,rfl,hf⟩:=hT
 obtain ⟨d,hd3,hT⟩:=(htb e).under (by simp [he,TK.isOther])
 rw [he] at hT
 simp only [TKok] at hT
 subst hT
 have hce:P.cellsOf e=1:=by rw [cellsOf_tb htb (by rw [he]; rfl),h1]
 obtain ⟨xs,m,_,hx,hlen,hn,hel⟩:=DataW.trod_struct hd2 hd
 simp only [Prod.mk.injEq,DataW.agg.injEq] at hx
 have hx1:=hx.1
 have hf1:=hf.1
 have key:∀ (j:Nat) (i:Int),j<2→([a,b]:List Int)[j]? =some i→W.cell? ⟨g,j,none⟩=some (.int k i):=fun j i hj hi=>by
  have hfj:(f.toList.map fun f=>(f.offset,f.type))[j]? =some (j,e):=by
   rw [hf1]
   match j,hj with|0,_=>rfl|1,_=>rfl
  rw [List.getElem?_map,Option.map_eq_some_iff] at hfj
  obtain ⟨gf,k1,k2⟩:=hfj
  rw [Array.getElem?_toList] at k1
  have hy:=hel j gf k1
  simp only [Prod.mk.injEq] at k2
  have hxl:j<xs.length:=by rw [hn]; exact (Array.getElem?_eq_some_iff.1 k1).1
  rw [k2.1,k2.2,hce,List.getElem?_eq_getElem hxl] at hy
  obtain ⟨z,e1,e2,_⟩:=DataW.trod_int hd3 hy
  have hq:(xs.map (·.1))[j]? =([.lit (.int k a),.lit (.int k b)]:List (DataW Unit))[j]? :=by rw [hx1]
  have hq2:([.lit (.int k a),.lit (.int k b)]:List (DataW Unit))[j]? =some (.lit (.int k i)):=by
   match j,hj,hi with
   | 0,_,hi=>simp at hi; subst hi; rfl
   | 1,_,hi=>simp at hi; subst hi; rfl
  rw [hq2,List.getElem?_map,List.getElem?_eq_getElem hxl] at hq
  simp only [Option.map_some,Option.some.injEq] at hq
  rw [e2] at hq
  simp only [DataW.lit.injEq,Lit.int.injEq,true_and] at hq
  subst hq
  rw [World.var?_cell hg hv j,← Array.getElem?_toList]
  have:=congrArg (fun l=>l[0]?) e1
  simpa [List.getElem?_take,List.getElem?_drop] using this
 refine RepCs.mk _ _ fun j x hj=> ?_
 have hj2:j<2:=(List.getElem?_eq_some_iff.1 hj).1
 match j,hj2,hj with
 | 0,_,hj =>
  simp at hj; subst hj
  exact ⟨.int k a,by rw [Nat.zero_add]; exact key 0 a (by decide) rfl,by simp [RepC,Value.oneCell']⟩
 | 1,_,hj =>
  simp at hj; subst hj
  exact ⟨.int k b,by rw [Nat.zero_add]; exact key 1 b (by decide) rfl,by simp [RepC,Value.oneCell']⟩
end
end Go.VA
namespace Go.VA
open Go Go.RowKit
theorem bytesLess_trans:∀ l m n:List UInt8,Op.bytesLess l m=true→Op.bytesLess m n=true→Op.bytesLess l n=true
 | _,[],_,h,_=>by rename_i l n; cases l<;>simp [Op.bytesLess] at h
 | _,_::_,[],_,h=>by simp [Op.bytesLess] at h
 | [],_::_,_::_,_,_=>rfl
 | x::r,y::s,z::t,h,k=>by
  simp only [Op.bytesLess,Bool.or_eq_true,decide_eq_true_eq,Bool.and_eq_true,beq_iff_eq] at h k ⊢
  rcases h with h|⟨rfl,h⟩
  ·rcases k with k|⟨rfl,k⟩
   ·exact .inl (UInt8.lt_trans h k)
   ·exact .inl h
  ·rcases k with k|⟨rfl,k⟩
   ·exact .inl k
   ·exact .inr ⟨rfl,bytesLess_trans r s t h k⟩
abbrev Srt (l:List ByteArray):Prop:=l.Pairwise fun a b=>bl a b=true
theorem bl_irr (a:ByteArray):bl a a=false:=bytesLess_irr _
theorem srt_of_next:∀ {l:List ByteArray},(∀ (i:Nat) a b,l[i]? =some a→l[i+1]? =some b→bl a b=true)→Srt l
 | [],_=>List.Pairwise.nil
 | [x],_=>List.pairwise_singleton _ x
 | x::y::r,h=>by
  have ih:Srt (y::r):=srt_of_next fun i a b ha hb=>h (i+1) a b (by simpa using ha) (by simpa using hb)
  have hxy:=h 0 x y rfl rfl
  refine List.pairwise_cons.2 ⟨fun z hz=> ?_,ih⟩
  rcases List.mem_cons.1 hz with rfl|hz
  ·exact hxy
  ·exact bytesLess_trans _ _ _ hxy ((List.pairwise_cons.1 ih).1 z hz)
theorem keysOk_at {ks:List ByteArray}:∀ {l:List ByteArray} {c:Nat},keysOk ks l c=true→∀ (i:Nat) x,l[i]? =some x→keyOk ks (c+i) x=false
 | [],_,_,i,x,hx=>by simp at hx
 | y::r,c,h,i,x,hx=>by
  simp only [keysOk] at h
  cases hk:keyOk ks c y
  ·rw [hk,if_neg (by decide)] at h
   cases i with
   | zero=>simp at hx; subst hx; exact hk
   | succ i =>
    have:=keysOk_at h i x (by simpa using hx)
    rwa [show c+1+i=c+(i+1) from by omega] at this
  ·rw [hk,if_pos rfl] at h; exact absurd h (by decide)
theorem keysOk_srt {ks:List ByteArray}(h:keysOk ks ks 0=true)(hl:ks.length≤1000000):Srt ks:=by
 refine srt_of_next fun i a b ha hb=> ?_
 have hi:i+1<ks.length:=(List.getElem?_eq_some_iff.1 hb).1
 have:=keysOk_at h (i+1) b hb
 unfold keyOk at this
 have h0:decide (((0+(i+1):Nat):Int)>0)=true:=decide_eq_true (by omega)
 have h1:IntKind.i64.wrap (((0+(i+1):Nat):Int)-1)=i:=by rw [wrap64 (by omega) (by omega)]; omega
 rw [h0,h1,Int.toNat_natCast] at this
 have ea:ks.getD i ByteArray.empty=a:=by rw [List.getD_eq_getElem?_getD,ha]; rfl
 rw [ea] at this
 simp only [Bool.or_eq_false_iff,Bool.true_and,Bool.not_eq_false'] at this
 exact this.2
theorem Ok.keys {v:V}(h:Ok v):keysOk v.ks v.ks 0=true∧v.l.length≤128:=by
 obtain ⟨d,h⟩:=h
 rw [checkRV_eq] at h
 by_cases h1:chk1 v d=true
 ·simp [h1] at h
 by_cases h2:chk2 v=true
 ·simp [h1,h2] at h
 by_cases h3:chk3 v=true
 ·simp [h1,h2,h3] at h
 by_cases h4:chk4 v=true
 ·simp [h1,h2,h3,h4] at h
 by_cases h5:chk5 v=true
 ·simp [h1,h2,h3,h4,h5] at h
 by_cases h6:chk6 v=true
 ·simp [h1,h2,h3,h4,h5,h6] at h
 by_cases h7:keysOk v.ks v.ks 0=true
 ·refine ⟨h7,?_⟩
  simp only [chk5,Bool.or_eq_true,decide_eq_true_eq,not_or] at h5
  omega
 ·simp [h1,h2,h3,h4,h5,h6,h7] at h
theorem Ok.srt {v:V}(h:Ok v):Srt v.ks:=by
 obtain ⟨a,b⟩:=h.keys
 by_cases h5:v.k=5
 ·exact keysOk_srt a (by rw [h.f.ks5 h5]; omega)
 ·rw [h.f.ks h5]; exact List.Pairwise.nil
theorem srt_sub:∀ {ks ns:List ByteArray},Srt ks→Srt ns→(∀ x ∈ ns,x ∈ ks)→ns.length≤ks.length
 | _,[],_,_,_=>Nat.zero_le _
 | [],n::_,_,_,h=>by simpa using h n (by simp)
 | k::ks,n::ns,hk,hn,h=>by
  obtain ⟨k1,k2⟩:=List.pairwise_cons.1 hk
  obtain ⟨n1,n2⟩:=List.pairwise_cons.1 hn
  have hx:=h n (by simp)
  rcases List.mem_cons.1 hx with rfl|hx
  ·have:=srt_sub k2 n2 fun z hz=>by
    rcases List.mem_cons.1 (h z (by simp [hz])) with e|h2
    ·have:=n1 z hz; rw [e,bl_irr] at this; exact absurd this (by decide)
    ·exact h2
   simp only [List.length_cons]; omega
  ·have:=srt_sub k2 hn fun z hz=>by
    rcases List.mem_cons.1 (h z hz) with e|h2
    ·exfalso
     have a:=k1 n hx
     rcases List.mem_cons.1 hz with e2|h3
     ·rw [← e,e2,bl_irr] at a; exact absurd a (by decide)
     ·have b:=n1 z h3
      rw [e] at b
      have c:bl n k=false:=bytesLess_asym _ _ a
      rw [c] at b; exact absurd b (by decide)
    ·exact h2
   simp only [List.length_cons] at this ⊢; omega
theorem srt_eq:∀ {ks ns:List ByteArray},Srt ks→Srt ns→ks.length=ns.length→(∀ x ∈ ns,x ∈ ks)→ks=ns
 | [],[],_,_,_,_=>rfl
 | [],_::_,_,_,h,_=>by simp at h
 | _::_,[],_,_,h,_=>by simp at h
 | k::ks,n::ns,hk,hn,hl,h=>by
  obtain ⟨k1,k2⟩:=List.pairwise_cons.1 hk
  obtain ⟨n1,n2⟩:=List.pairwise_cons.1 hn
  have hx:=h n (by simp)
  rcases List.mem_cons.1 hx with rfl|hx
  ·rw [srt_eq k2 n2 (by simpa using hl) fun z hz=>by
    rcases List.mem_cons.1 (h z (by simp [hz])) with e|h2
    ·have:=n1 z hz; rw [e,bl_irr] at this; exact absurd this (by decide)
    ·exact h2]
  ·exfalso
   have:=srt_sub k2 hn fun z hz=>by
    rcases List.mem_cons.1 (h z hz) with e|h2
    ·exfalso
     have a:=k1 n hx
     rcases List.mem_cons.1 hz with e2|h3
     ·rw [← e,e2,bl_irr] at a; exact absurd a (by decide)
     ·have b:=n1 z h3
      rw [e] at b
      have c:bl n k=false:=bytesLess_asym _ _ a
      rw [c] at b; exact absurd b (by decide)
    ·exact h2
   simp only [List.length_cons] at this hl; omega
theorem fidx_at {ks:List ByteArray}(hs:Srt ks):∀ (c i:Nat) (x:ByteArray),ks[i]? =some x→fidx (fun k=>eqs k x) ks c=((c+i:Nat):Int):=by
 induction ks with
 | nil=>intro c i x h; simp at h
 | cons k ks ih =>
  intro c i x h
  obtain ⟨k1,k2⟩:=List.pairwise_cons.1 hs
  simp only [fidx]
  cases i with
  | zero =>
   simp at h; subst h
   rw [if_pos (eqs_refl _)]; simp
  | succ i =>
   have h:ks[i]? =some x:=by simpa using h
   have hne:eqs k x=false:=by
    cases he:eqs k x
    ·rfl
    ·have:=eqs_iff.1 he
     subst this
     have:=k1 k (List.mem_of_getElem? h)
     rw [bl_irr] at this; exact absurd this (by decide)
   rw [if_neg (by rw [hne]; decide),ih k2 (c+1) i x h]
   omega
theorem fidx_pos {α:Type}{p:α→Bool}:∀ {l:List α} {c:Nat},0≤fidx p l c→∃ (i:Nat) (x:α),l[i]? =some x∧p x=true∧fidx p l c=((c+i:Nat):Int)
 | [],c,h=>by simp [fidx] at h
 | y::r,c,h=>by
  simp only [fidx] at h ⊢
  cases hp:p y
  ·rw [hp,if_neg (by decide)] at h
   rw [if_neg (by decide)]
   obtain ⟨i,x,h1,h2,h3⟩:=fidx_pos h
   exact ⟨i+1,x,by simpa using h1,h2,by rw [h3]; omega⟩
  ·rw [if_pos rfl]
   exact ⟨0,y,rfl,hp,by simp⟩
end Go.VA
