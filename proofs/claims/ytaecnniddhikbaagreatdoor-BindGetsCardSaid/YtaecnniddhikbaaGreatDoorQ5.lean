/- Contracts of functions of the program,and the laws that stand on them: what each function answers,whatever its arguments. -/
import Derived.Test.YtaecnniddhikbaaGreatDoorQ1
import Derived.Test.YtaecnniddhikbaaGreatDoorP0
import Derived.Test.YtaecnniddhikbaaGreatDoorE1
import Derived.Test.YtaecnniddhikbaaGreatDoorA3
import Derived.Test.YtaecnniddhikbaaGreatDoorP4
import Derived.Test.YtaecnniddhikbaaGreatDoorP5
set_option linter.unusedSectionVars false
set_option linter.unnecessarySimpa false
set_option linter.unusedSimpArgs false
set_option linter.unusedVariables false
set_option maxRecDepth 100000
set_option maxHeartbeats 8000000
namespace Go.Proofs.YtaecnniddhikbaaGreatDoor
open Go Go.VA
end Go.Proofs.YtaecnniddhikbaaGreatDoor
namespace Go.Proofs.YtaecnniddhikbaaGreatDoor
open Go Go.VA
def ahL (h:List Int) (c:Nat):List Int:=(h.take c).flatMap fun k=>shortL k.toNat
def acH (x:Ac) (c:Nat):List Int:=[IntKind.u8.wrap x.k]++kyL x.y++layL x.p++layL x.w++shortL x.h.length++ahL x.h c
def acL (x:Ac):List Int:=acH x x.h.length
theorem ahL_succ {l:List Int} {c:Nat} (h:c<l.length):ahL l (c+1)=ahL l c++shortL (l.getD c 0).toNat:=by
 unfold ahL
 rw [take_snoc? (getD_some h 0),List.flatMap_append]
 simp
theorem acH_succ {x:Ac} {c:Nat} (h:c<x.h.length):acH x (c+1)=acH x c++shortL (x.h.getD c 0).toNat:=by
 unfold acH
 rw [ahL_succ h]
 simp only [List.append_assoc]
structure OkA (x:Ac):Prop where
 k:3≤x.k∧x.k≤5
 y:okKy x.y=true
 p:checkV x.p=0
 w:checkV x.w=0
 l:x.h.length≤64
 h:∀ n,n<x.h.length→0≤x.h.getD n 0∧x.h.getD n 0<64
theorem ah_ge {h:List Int} {i:Int} (hl:h.length≤140737488355328) (H:ahB h i=true):∀ n,n<h.length→(n:Int)≤h.getD n 0∧h.getD n 0<i:=by
 intro n
 induction n with
 | zero =>
  intro hn
  have:=allQ_at H 0 hn
  unfold ahX at this
  simp only [Bool.not_eq_true',Bool.or_eq_false_iff,decide_eq_false_iff_not] at this
  omega
 | succ n ih =>
  intro hn
  have:=allQ_at H (n+1) hn
  have i1:=ih (by omega)
  unfold ahX at this
  have e:(IntKind.i64.wrap (((n+1:Nat):Int)-1)).toNat=n:=by rw [wrap64 (by omega) (by omega)]; omega
  rw [e] at this
  simp only [Bool.not_eq_true',Bool.or_eq_false_iff,decide_eq_false_iff_not,Bool.and_eq_false_iff] at this
  omega
theorem okA_of {x:Ac} {i:Nat} (hi:i≤64) (hl:x.h.length≤140737488355328) (h1:acK x=true) (h2:ahB x.h i=true):OkA x:=by
 have g:=ah_ge hl h2
 unfold acK valB at h1
 simp only [Bool.and_eq_true] at h1
 obtain ⟨⟨a1,a2⟩,⟨b1,b2⟩,b3⟩:=h1
 refine ⟨?_,a1,by rw [checkV_if,b1]; rfl,by rw [checkV_if,b2]; rfl,?_,fun n hn=> ?_⟩
 ·split at b3
  ·rename_i h; rw [beq_iff_eq] at h; omega
  ·split at b3
   ·rename_i h; rw [beq_iff_eq] at h; omega
   ·split at b3
    ·rename_i h; rw [beq_iff_eq] at h; omega
    ·simp at b3
 ·by_cases h0:x.h.length=0
  ·omega
  ·have:=g (x.h.length-1) (by omega)
   omega
 ·have:=g n hn
  omega
theorem ahL_len {x:Ac}:∀ c,c≤x.h.length→(ahL x.h c).length≤10*c
 | 0,_=>by simp [ahL]
 | c+1,hc=>by
  have ih:=ahL_len (x:=x) c (by omega)
  have:=shortL_len (x.h.getD c 0).toNat
  rw [ahL_succ (by omega),List.length_append]
  omega
theorem acH_len {x:Ac} (o:OkA x) (c:Nat) (hc:c≤x.h.length):(acH x c).length≤4002000:=by
 have a:=kyL_len o.y
 have b:=(check_big o.p).1
 have b':=layL_big x.p
 have d:=(check_big o.w).1
 have d':=layL_big x.w
 have e:=shortL_len x.h.length
 have g:=ahL_len (x:=x) c hc
 have l:=o.l
 unfold acH
 simp only [List.length_append,List.length_singleton]
 omega
attribute [local irreducible] kyL layL shortL bitsI
end Go.Proofs.YtaecnniddhikbaaGreatDoor
namespace Go.Proofs.YtaecnniddhikbaaGreatDoor
open Go Go.VA
def bdL (b:Bd):List Int:=strL b.n++layL b.v
def spL (x:Sp):List Int:=kyL x.y++sumL x.s
def bdsL (l:List Bd) (c:Nat):List Int:=(l.take c).flatMap bdL
def spsL (l:List Sp) (c:Nat):List Int:=(l.take c).flatMap spL
def acsL (l:List Ac) (c:Nat):List Int:=(l.take c).flatMap acL
def pb0 (p:Pl):List Int:=sumL p.c++shortL p.a.toNat++shortL p.s.toNat++shortL p.b.length
def pbH (p:Pl) (c:Nat):List Int:=pb0 p++bdsL p.b c
def pt0 (p:Pl):List Int:=pbH p p.b.length++shortL p.t.length
def ptH (p:Pl) (c:Nat):List Int:=pt0 p++spsL p.t c
def px0 (p:Pl):List Int:=ptH p p.t.length++shortL p.x.length
def pxH (p:Pl) (c:Nat):List Int:=px0 p++acsL p.x c
def inP (p:Pl):List Int:=pxH p p.x.length
def mgP:ByteArray:={ data:= #[115,112,108,49] }
def fmP (p:Pl):List Int:=wrapL (bytesL mgP) (inP p)
theorem fm_succ {α:Type} (enc:α→List Int) (d:α) {l:List α} {c:Nat} (h:c<l.length):(l.take (c+1)).flatMap enc=(l.take c).flatMap enc++enc (l.getD c d):=by
 rw [take_snoc? (getD_some h d),List.flatMap_append]
 simp
theorem pbH_succ {p:Pl} {c:Nat} (h:c<p.b.length):pbH p (c+1)=pbH p c++bdL (p.b.getD c bd0):=by
 unfold pbH bdsL
 rw [fm_succ bdL bd0 h,List.append_assoc]
theorem ptH_succ {p:Pl} {c:Nat} (h:c<p.t.length):ptH p (c+1)=ptH p c++spL (p.t.getD c sp0):=by
 unfold ptH spsL
 rw [fm_succ spL sp0 h,List.append_assoc]
theorem pxH_succ {p:Pl} {c:Nat} (h:c<p.x.length):pxH p (c+1)=pxH p c++acL (p.x.getD c ac0):=by
 unfold pxH acsL
 rw [fm_succ acL ac0 h,List.append_assoc]
structure OkB (b:Bd):Prop where
 n:b.n.size≤24
 v:checkV b.v=0
structure OkP (p:Pl):Prop where
 s:p.s≤4611686018427387904
 bl:p.b.length≤128
 b:∀ j,j<p.b.length→OkB (p.b.getD j bd0)
 tl:p.t.length≤64
 t:∀ j,j<p.t.length→okKy (p.t.getD j sp0).y=true
 xl:p.x.length≤64
 x:∀ j,j<p.x.length→OkA (p.x.getD j ac0)
structure RgPl (p:Pl):Prop where
 a0:0≤p.a
 a1:p.a<18446744073709551616
 s0:0≤p.s
 s1:p.s<18446744073709551616
 c:∀ i,32≤i→p.c i=0
 b:∀ x ∈ p.b,rgV x.v=true
 t:∀ x ∈ p.t,0≤x.y.n∧x.y.n≤4294967295∧∀ i,32≤i→x.s i=0
 x:∀ x ∈ p.x,0≤x.y.n∧x.y.n≤4294967295∧rgV x.p=true∧rgV x.w=true
theorem okBd_of {l:List Bd} {c:Nat} (h:vrQ l c=true):OkB (l.getD c bd0):=by
 unfold vrQ at h
 simp only [Bool.and_eq_true] at h
 refine ⟨?_,by rw [checkV_if,h.1.2]; rfl⟩
 have:=h.1.1.2
 unfold nameB at this
 simp only [Bool.and_eq_true] at this
 exact spell_le this.1
theorem okP_of {p:Pl} (h:okPl p=true) (hl:∀ j,j<p.x.length→(p.x.getD j ac0).h.length≤140737488355328):OkP p:=by
 unfold okPl varsB stampsB actsB at h
 simp only [Bool.not_eq_true',Bool.or_eq_false_iff,Bool.not_eq_false',decide_eq_false_iff_not,Bool.and_eq_true,decide_eq_true_eq] at h
 obtain ⟨⟨⟨h1,h2,h3⟩,h4,h5⟩,h6,h7⟩:=h
 refine ⟨by omega,by omega,fun j hj=>okBd_of (allQ_at h2 j hj),by omega,fun j hj=> ?_,by omega,fun j hj=> ?_⟩
 ·have:=allQ_at h4 j hj
  unfold spQ at this
  simp only [Bool.and_eq_true] at this
  exact this.1
 ·have:=allQ_at h6 j hj
  unfold acQ at this
  simp only [Bool.and_eq_true] at this
  exact okA_of (i:=j) (by omega) (hl j hj) this.1.1 this.1.2
theorem fm_len {α:Type} (enc:α→List Int) (d:α) (m:Nat) {l:List α} (h:∀ j,j<l.length→(enc (l.getD j d)).length≤m):∀ c,c≤l.length→((l.take c).flatMap enc).length≤m*c
 | 0,_=>by simp
 | c+1,hc=>by
  have ih:=fm_len enc d m h c (by omega)
  have:=h c (by omega)
  rw [fm_succ enc d (by omega),List.length_append,Nat.mul_add]
  omega
theorem fm_bys {α:Type} (enc:α→List Int) (d:α) {l:List α} (h:∀ j,j<l.length→Bys (enc (l.getD j d))):∀ c,c≤l.length→Bys ((l.take c).flatMap enc)
 | 0,_=>by intro x hx; simp at hx
 | c+1,hc=>by
  rw [fm_succ enc d (by omega)]
  exact bys_app (fm_bys enc d h c (by omega)) (h c (by omega))
theorem bdL_len {b:Bd} (o:OkB b):(bdL b).length≤2000034:=by
 have a:=strL_len b.n
 have c:=o.n
 have d:=(check_big o.v).1
 have e:=layL_big b.v
 unfold bdL
 rw [List.length_append]
 omega
theorem spL_len {x:Sp} (o:okKy x.y=true):(spL x).length≤145:=by
 have a:=kyL_len o
 unfold spL
 rw [List.length_append,sumL_len]
 omega
theorem acL_len {x:Ac} (o:OkA x):(acL x).length≤4002000:=acH_len o _ (Nat.le_refl _)
theorem bys_bd {b:Bd} (o:OkB b):Bys (bdL b):=bys_app (bys_strL (by have:=o.n; omega)) (layL_bys b.v 8 (check_parts o.v).1 (by decide))
theorem bys_sp {x:Sp} (o:okKy x.y=true):Bys (spL x):=bys_app (bys_ky o) (bys_bytes 32 _)
theorem bys_ac {x:Ac} (o:OkA x):Bys (acL x):=by
 have k:=o.k
 have l:=o.l
 refine bys_app (bys_app (bys_app (bys_app (bys_app (bys_one (bys_w8 _)) (bys_ky o.y)) (layL_bys x.p 8 (check_parts o.p).1 (by decide))) (layL_bys x.w 8 (check_parts o.w).1 (by decide))) (bys_shortL (by omega))) ?_
 exact fm_bys (fun k:Int=>shortL k.toNat) 0 (fun j hj=>bys_shortL (by have:=o.h j hj; omega)) _ (Nat.le_refl _)
theorem pb0_len (p:Pl):(pb0 p).length≤62:=by
 have a:=shortL_len p.a.toNat
 have b:=shortL_len p.s.toNat
 have c:=shortL_len p.b.length
 unfold pb0
 simp only [List.length_append,sumL_len]
 omega
theorem pbH_len {p:Pl} (o:OkP p) (c:Nat) (hc:c≤p.b.length):(pbH p c).length≤256005000:=by
 have a:=pb0_len p
 have b:=fm_len bdL bd0 2000034 (fun j hj=>bdL_len (o.b j hj)) c hc
 have d:=o.bl
 unfold pbH bdsL
 rw [List.length_append]
 omega
theorem ptH_len {p:Pl} (o:OkP p) (c:Nat) (hc:c≤p.t.length):(ptH p c).length≤256020000:=by
 have a:=pbH_len o p.b.length (Nat.le_refl _)
 have b:=fm_len spL sp0 145 (fun j hj=>spL_len (o.t j hj)) c hc
 have e:=shortL_len p.t.length
 have d:=o.tl
 unfold ptH pt0 spsL
 rw [List.length_append,List.length_append]
 omega
theorem pxH_len {p:Pl} (o:OkP p) (c:Nat) (hc:c≤p.x.length):(pxH p c).length≤520000000:=by
 have a:=ptH_len o p.t.length (Nat.le_refl _)
 have b:=fm_len acL ac0 4002000 (fun j hj=>acL_len (o.x j hj)) c hc
 have e:=shortL_len p.x.length
 have d:=o.xl
 unfold pxH px0 acsL
 rw [List.length_append,List.length_append]
 omega
theorem bys_inP {p:Pl} (o:OkP p) (r:RgPl p):Bys (inP p):=by
 have a0:=r.a0
 have a1:=r.a1
 have s0:=r.s0
 have s1:=r.s1
 have b:=o.bl
 have t:=o.tl
 have x:=o.xl
 have h1:Bys (pb0 p):=bys_app (bys_app (bys_app (bys_bytes 32 _) (bys_shortL (by omega))) (bys_shortL (by omega))) (bys_shortL (by omega))
 have h2:Bys (pbH p p.b.length):=bys_app h1 (fm_bys bdL bd0 (fun j hj=>bys_bd (o.b j hj)) _ (Nat.le_refl _))
 have h3:Bys (ptH p p.t.length):=bys_app (bys_app h2 (bys_shortL (by omega))) (fm_bys spL sp0 (fun j hj=>bys_sp (o.t j hj)) _ (Nat.le_refl _))
 exact bys_app (bys_app h3 (bys_shortL (by omega))) (fm_bys acL ac0 (fun j hj=>bys_ac (o.x j hj)) _ (Nat.le_refl _))
theorem fmP_len (p:Pl):(fmP p).length=40+(inP p).length:=wrapL_len _ _ (by rw [bytesL_len]; rfl)
end Go.Proofs.YtaecnniddhikbaaGreatDoor
