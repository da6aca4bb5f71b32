/- What functions of the program answer,whatever their arguments. -/
import Derived.Test.YtaecnniddhikbaaGreatDoorP15
import Derived.Test.YtaecnniddhikbaaGreatDoorW1
import Derived.Test.YtaecnniddhikbaaGreatDoorE1
set_option linter.unusedSectionVars false
set_option linter.unnecessarySimpa false
set_option linter.unusedSimpArgs false
set_option linter.unusedVariables false
set_option maxRecDepth 100000
set_option maxHeartbeats 8000000
namespace Go.Proofs.YtaecnniddhikbaaGreatDoor
open Go Go.VA
theorem kd_back {s:ByteArray}{a:Nat}{k:Ky}(ho:okKy k=true)(h0:0≤k.n)(h1:k.n≤4294967295)(h:AtL s a (kyL k)):kd s a=(k,((kyL k).length:Int),0) :=
 ky_back _ k ho h0 h1 (h.sub (by have:=h.1; omega))
theorem vl_back {s:ByteArray}{a:Nat}{v:V}(hc:checkV v=0)(hR:rgV v=true)(h:AtL s a (layL v)):vl s a=(v,((layL v).length:Int),0) :=
 cGet_back _ v hc hR (h.sub (by have:=h.1; omega))
theorem sh_back {s:ByteArray}{a n:Nat}(hn:n<2 ^ 64)(h:AtL s a (shortL n)):sh s a=((n:Int),((shortL n).length:Int),0):=by
 have:=gSx_back s a n hn h
 exact this
theorem preM_back {mg s:ByteArray}(h4:mg.size=4)(h:AtL s 0 (bytesL mg)):preM mg s=true:=by
 have e:bytesOf 4 (fun i=>strCells s (0+i))=mg:=by
  have:=subS_ba (s:=s) (a:=0) (L:=bytesL mg) h
  rw [bytesL_len,h4] at this
  refine this.trans ?_
  refine ba_ext (by rw [baL_size,bytesL_len]) fun j hj=> ?_
  rw [baL_size,bytesL_len] at hj
  simp only [baL,bytesL,List.map_map]
  rw [List.getElem?_map]
  cases hq:mg.data.toList[j]? with
  | none=>rfl
  | some x=>simp
 unfold preM
 rw [e]; exact beq_self_eq_true _
structure WrapAt (mg s:ByteArray) (L:List Int):Prop where
 m:preM mg s=true
 n:be4 s=L.length
 s:AtL s 8 (sumL (shaA (baL L)))
theorem wrap_at {mg s:ByteArray}{L:List Int}(h4:mg.size=4)(hL:L.length<4294967296)(h:AtL s 0 (bytesL mg++be4L L.length++sumL (shaA (baL L)))):WrapAt mg s L:=by
 have l4:(bytesL mg).length=4:=by rw [bytesL_len]; exact h4
 have h1:=h.left.left
 have h2:=h.left.right
 have h3:=h.right
 rw [List.length_append,be4L_len,l4] at h3
 rw [l4] at h2
 exact ⟨preM_back h4 h1,be4_back hL h2,h3⟩
theorem unE_back {mg s:ByteArray}{L:List Int}(h4:mg.size=4)(hs:s.size≤4294967296)(hL:L.length<4294967296)(hz:s.size=40+L.length)(h:AtL s 0 (wrapL (bytesL mg) L)):unE mg s=0:=by
 have w:=wrap_at h4 hL h.left
 have l4:(bytesL mg).length=4:=by rw [bytesL_len]; exact h4
 have hr:=h.right
 rw [List.length_append,List.length_append,be4L_len,sumL_len,l4] at hr
 have eX:wXs s=baL L:=by
  unfold wXs
  rw [show s.size-40=L.length from by omega]
  exact subS_ba hr
 have hw:IntKind.u64.wrap ((s.size-(40:Int).toNat:Nat):Int)=(L.length:Int):=by
  have:(40:Int).toNat=40:=rfl
  rw [this,wrapU (by omega) (by omega)]; omega
 unfold unE unEG
 rw [if_neg (by simp; omega),w.m,if_neg (by decide),hw,w.n,if_neg (by simp),if_neg (by simp),eX,sum_back w.s,if_neg (by decide)]
end Go.Proofs.YtaecnniddhikbaaGreatDoor
namespace Go.Proofs.YtaecnniddhikbaaGreatDoor
open Go Go.VA
end Go.Proofs.YtaecnniddhikbaaGreatDoor
