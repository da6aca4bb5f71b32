/- Contracts of functions of the program,and the laws that stand on them: what each function answers,whatever its arguments. -/
import Derived.Test.YtiodgjgngfklkaaGreatDoorP15
import Derived.Test.YtiodgjgngfklkaaGreatDoorW1
set_option linter.all false
set_option maxRecDepth 100000
set_option maxHeartbeats 8000000
namespace Go.Proofs.YtiodgjgngfklkaaGreatDoor
open Go Go.VA
theorem kd_back {s:ByteArray}{a:Nat}{k:Ky}(ho:okKy k=true)(h0:0≤k.n)(h1:k.n≤4294967295)(h:AtL s a (kyL k)):kd s a=(k,((kyL k).length:Int),0) :=
 ky_back _ k ho h0 h1 (h.sub (by have:=h.1; omega))
theorem vl_back {s:ByteArray}{a:Nat}{v:V}(hc:checkV v=0)(hR:rgV v=true)(h:AtL s a (layL v)):vl s a=(v,((layL v).length:Int),0) :=
 cGet_back _ v hc hR (h.sub (by have:=h.1; omega))
theorem sh_back {s:ByteArray}{a n:Nat}(hn:n<2 ^ 64)(h:AtL s a (shortL n)):sh s a=((n:Int),((shortL n).length:Int),0):=by
 have:=gSx_back s a n hn h
 exact this
def depsF (l:List Ad):List Int:=l.flatMap fun a=>kyL (kyA a)
theorem depsL_all (l:List Ad):depsL l l.length=depsF l:=by unfold depsL depsF; rw [List.take_length]
theorem kyL_pos (k:Ky):1≤(kyL k).length:=by
 unfold kyL
 simp only [List.length_append,List.length_singleton]
 omega
theorem depsF_len:∀ l:List Ad,l.length≤(depsF l).length
 | []=>by simp [depsF]
 | x::l=>by
  have ih:=depsF_len l
  have:=kyL_pos (kyA x)
  have e:depsF (x::l)=kyL (kyA x)++depsF l:=by simp [depsF]
  rw [e,List.length_append,List.length_cons]
  omega
theorem dpG_back {s:ByteArray}:∀ (l:List Ad) (a:Nat) (acc:List Ad),(∀ x ∈ l,okAd x=true)→AtL s a (depsF l)→dpG (kd s) l.length a acc=some (acc++l,a+(depsF l).length)
 | [],a,acc,_,_=>by simp [dpG,depsF]
 | x::l,a,acc,ho,h=>by
  have e:depsF (x::l)=kyL (kyA x)++depsF l:=by simp [depsF]
  rw [e] at h
  have hk:=kd_back (k:=kyA x) (kyA_ok (ho x (by simp))) (by show (0:Int)≤1; decide) (by show (1:Int)≤4294967295; decide) h.left
  have ih:=dpG_back l (a+(kyL (kyA x)).length) (acc++[x]) (fun y hy=>ho y (by simp [hy])) h.right
  rw [List.length_cons,e,List.length_append]
  simp only [dpG,hk]
  rw [if_neg (by show ¬((0:Int) != 0||(1:Int) != 1)=true; decide),Int.toNat_natCast]
  show dpG (kd s) l.length (a+(kyL (kyA x)).length) (acc++[x])=_
  rw [ih,List.append_assoc,Nat.add_assoc]
  rfl
theorem fl_back (t u:Bool):flB t u≤3∧((flB t u).tmod 2==1)=t∧decide (flB t u>1)=u:=by
 cases t<;>cases u<;>decide +kernel
theorem ent_back {s:ByteArray}{a:Nat}{e:En}(ho:okEn e=true)(r:RgEn e)(h:AtL s a (enL e)):gEn s a=some (e,a+(enL e).length):=by
 obtain ⟨h1,h2,h3⟩:=okEn_parts ho
 obtain ⟨h4,h5⟩:=depsB_parts h3
 have hz:=h.1
 unfold enL enH at h
 rw [depsL_all] at h
 have hK:=h.left.left.left.left
 have hF:=h.left.left.left.right
 have hV:=h.left.left.right
 have hS:=h.left.right
 have hD:=h.right
 have el:(enL e).length=(kyL e.y).length+1+(layL e.v).length+(shortL e.d.length).length+(depsF e.d).length:=by
  unfold enL enH
  rw [depsL_all]
  simp only [List.length_append,List.length_singleton]
 simp only [List.length_append,List.length_singleton,← Nat.add_assoc] at hV hS hD
 have eK:=kd_back h1 r.y0 r.y1 hK
 have eB:byteN s (a+(kyL e.y).length)=flB e.t e.u:=hF.head.1
 have eV:=vl_back h2 r.v hV
 have eS:=sh_back (n:=e.d.length) (by omega) hS
 have eD:=dpG_back e.d _ [] (fun x hx=>by
  obtain ⟨i,hi,rfl⟩:=List.mem_iff_getElem.1 hx
  have:=h5 i hi
  rwa [List.getD_eq_getElem?_getD,List.getElem?_eq_getElem hi] at this) hD
 have dl:=depsF_len e.d
 have f:=fl_back e.t e.u
 have q1:g1 (kd s) a=a+(kyL e.y).length+1:=by unfold g1; rw [eK]; show a+((((kyL e.y).length:Int)).toNat+1)=_; omega
 have q2:g2 (kd s) (vl s) a=a+(kyL e.y).length+1+(layL e.v).length:=by unfold g2; rw [q1,eV]; show _+(((layL e.v).length:Int)).toNat=_; omega
 have q3:g3 (kd s) (vl s) (sh s) a=a+(kyL e.y).length+1+(layL e.v).length+(shortL e.d.length).length:=by unfold g3; rw [q2,eS]; show _+(((shortL e.d.length).length:Int)).toNat=_; omega
 unfold gEn gEnG
 rw [q3,q2,q1,eK,eV,eS]
 simp only [Int.toNat_natCast]
 simp only [eB]
 rw [if_neg,if_neg (by decide),if_neg,eD,f.2.1,f.2.2,el]
 ·simp only [List.nil_append,Option.map_some]
  have:a+(kyL e.y).length+1+(layL e.v).length+(shortL e.d.length).length+(depsF e.d).length=a+((kyL e.y).length+1+(layL e.v).length+(shortL e.d.length).length+(depsF e.d).length):=by omega
  rw [this]
 ·simp
  omega
 ·simp
  omega
def ensF (l:List En):List Int:=l.flatMap enL
theorem ensL_all (l:List En):ensL l l.length=ensF l:=by unfold ensL ensF; rw [List.take_length]
theorem enL_pos (e:En):1≤(enL e).length:=by
 have:=kyL_pos e.y
 unfold enL enH
 simp only [List.length_append]
 omega
theorem ensF_len:∀ l:List En,l.length≤(ensF l).length
 | []=>by simp [ensF]
 | x::l=>by
  have ih:=ensF_len l
  have:=enL_pos x
  have e:ensF (x::l)=enL x++ensF l:=by simp [ensF]
  rw [e,List.length_append,List.length_cons]
  omega
theorem stG_back {s:ByteArray}:∀ (l:List En) (a:Nat) (acc:List En),(∀ x ∈ l,okEn x=true∧RgEn x)→AtL s a (ensF l)→stG (gEn s) l.length a acc=some (acc++l,a+(ensF l).length)
 | [],a,acc,_,_=>by simp [stG,ensF]
 | x::l,a,acc,ho,h=>by
  have e:ensF (x::l)=enL x++ensF l:=by simp [ensF]
  rw [e] at h
  have hx:=ho x (by simp)
  have hk:=ent_back hx.1 hx.2 h.left
  have ih:=stG_back l (a+(enL x).length) (acc++[x]) (fun y hy=>ho y (by simp [hy])) h.right
  rw [List.length_cons,e,List.length_append]
  simp only [stG,hk]
  rw [ih,List.append_assoc,Nat.add_assoc]
  rfl
theorem preM_back {mg s:ByteArray}(h4:mg.size=4)(h:AtL s 0 (bytesL mg)):preM mg s=true:=by
 have e:bytesOf 4 (fun i=>strCells s (0+i))=mg:=by
  have:=subS_ba (s:=s) (a:=0) (L:=bytesL mg) h
  rw [bytesL_len,h4] at this
  refine this.trans ?_
  refine ba_ext (by rw [baL_size,bytesL_len]) fun j hj=> ?_
  rw [baL_size,bytesL_len] at hj
  simp only [baL,bytesL,List.map_map]
  rw [List.getElem?_map]
  cases hq:mg.data.toList[j]? with
  | none=>rfl
  | some x=>simp
 unfold preM
 rw [e]; exact beq_self_eq_true _
structure WrapAt (mg s:ByteArray) (L:List Int):Prop where
 m:preM mg s=true
 n:be4 s=L.length
 s:AtL s 8 (sumL (shaA (baL L)))
theorem wrap_at {mg s:ByteArray}{L:List Int}(h4:mg.size=4)(hL:L.length<4294967296)(h:AtL s 0 (bytesL mg++be4L L.length++sumL (shaA (baL L)))):WrapAt mg s L:=by
 have l4:(bytesL mg).length=4:=by rw [bytesL_len]; exact h4
 have h1:=h.left.left
 have h2:=h.left.right
 have h3:=h.right
 rw [List.length_append,be4L_len,l4] at h3
 rw [l4] at h2
 exact ⟨preM_back h4 h1,be4_back hL h2,h3⟩
theorem unE_back {mg s:ByteArray}{L:List Int}(h4:mg.size=4)(hs:s.size≤4294967296)(hL:L.length<4294967296)(hz:s.size=40+L.length)(h:AtL s 0 (wrapL (bytesL mg) L)):unE mg s=0:=by
 have w:=wrap_at h4 hL h.left
 have l4:(bytesL mg).length=4:=by rw [bytesL_len]; exact h4
 have hr:=h.right
 rw [List.length_append,List.length_append,be4L_len,sumL_len,l4] at hr
 have eX:wXs s=baL L:=by
  unfold wXs
  rw [show s.size-40=L.length from by omega]
  exact subS_ba hr
 have hw:IntKind.u64.wrap ((s.size-(40:Int).toNat:Nat):Int)=(L.length:Int):=by
  have:(40:Int).toNat=40:=rfl
  rw [this,wrapU (by omega) (by omega)]; omega
 unfold unE unEG
 rw [if_neg (by simp; omega),w.m,if_neg (by decide),hw,w.n,if_neg (by simp),if_neg (by simp),eX,sum_back w.s,if_neg (by decide)]
theorem rSt_back {s:ByteArray}{x:St}(ho:okSt x=true)(r:RgSt x)(hz:s.size=(fmS x).length)(h:AtL s 0 (fmS x)):rSt s=(x,0):=by
 have hl:=inH_len ho x.l.length (Nat.le_refl _)
 change (inS x).length≤130000000 at hl
 have fl:=fmS_len x
 have hs:s.size≤4294967296:=by omega
 have hu:=unE_back (mg:=mgS) rfl hs (by omega) (by omega) h
 obtain ⟨o1,o2,o3⟩:=okSt_parts ho
 have a0:=r.a0
 have a1:=r.a1
 have s0:=r.s0
 have hr:=h.right
 rw [List.length_append,List.length_append,be4L_len,sumL_len,show (bytesL mgS).length=4 from rfl] at hr
 change AtL s 40 (inH x x.l.length) at hr
 unfold inH at hr
 rw [ensL_all] at hr
 have h1':=hr.left.left.left
 have h2':=hr.left.left.right
 have h3':=hr.left.right
 have h4':=hr.right
 simp only [List.length_append,← Nat.add_assoc] at h3' h4'
 have e1:=sh_back (by omega) h1'
 have e2:=sh_back (by omega) h2'
 have e3:=sh_back (n:=x.l.length) (by omega) h3'
 have q1:h1 (sh s)=40+(shortL x.a.toNat).length:=by unfold h1; rw [e1]; rfl
 have q2:h2 (sh s)=40+(shortL x.a.toNat).length+(shortL x.s.toNat).length:=by unfold h2; rw [q1,e2]; rfl
 have q3:h3 (sh s)=40+(shortL x.a.toNat).length+(shortL x.s.toNat).length+(shortL x.l.length).length:=by unfold h3; rw [q2,e3]; rfl
 have eG:=stG_back x.l _ [] (fun e he=>by
  obtain ⟨i,hi,rfl⟩:=List.mem_iff_getElem.1 he
  have:=o3 i hi
  rw [List.getD_eq_getElem?_getD,List.getElem?_eq_getElem hi] at this
  exact ⟨this,r.l _ (List.getElem_mem hi)⟩) h4'
 have il:(inS x).length=(shortL x.a.toNat).length+(shortL x.s.toNat).length+(shortL x.l.length).length+(ensF x.l).length:=by
  unfold inS inH
  rw [ensL_all]
  simp only [List.length_append]
 have ll:=ensF_len x.l
 rw [← rRef_eq hs]
 unfold rRef
 rw [hu,if_neg (by decide)]
 unfold rGetG
 rw [q3,q2,q1,e1,e2,e3,if_neg (by show ¬((0:Int) != 0)=true; decide),if_neg (by show ¬((0:Int) != 0)=true; decide),if_neg (by simp; omega)]
 rw [Int.toNat_natCast,eG]
 have wa:(x.a.toNat:Int)=x.a:=Int.toNat_of_nonneg a0
 have ws:(x.s.toNat:Int)=x.s:=Int.toNat_of_nonneg s0
 have ex:(⟨(x.a.toNat:Int),(x.s.toNat:Int),x.l⟩:St)=x:=by rw [wa,ws]
 have p1e:p1 s=40+(shortL x.a.toNat).length:=q1
 show finG s (x.a.toNat:Int) (x.s.toNat:Int) (fun l=>okSt ⟨(x.a.toNat:Int),(sh s (p1 s)).1,l⟩) (some ([]++x.l,_))=_
 rw [p1e,e2]
 unfold finG
 rw [List.nil_append]
 show (if _ != _|| !okSt (⟨(x.a.toNat:Int),(x.s.toNat:Int),x.l⟩:St) then _ else ((⟨(x.a.toNat:Int),(x.s.toNat:Int),x.l⟩:St),(0:Int)))=_
 rw [ex,ho,if_neg]
 simp
 omega
theorem fmS_bys {x:St}(ho:okSt x=true)(r:RgSt x):Bys (fmS x):=bys_wrap (by intro x hx; revert x; decide +kernel) (bys_inH ho r _ (Nat.le_refl _))
theorem fmS_at {x:St}(ho:okSt x=true)(r:RgSt x):AtL (baL (fmS x)) 0 (fmS x):=⟨by rw [baL_size]; omega,fun j hj=>by rw [Nat.zero_add]; exact baL_byte (fmS_bys ho r) j hj⟩
end Go.Proofs.YtiodgjgngfklkaaGreatDoor
