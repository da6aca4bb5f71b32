/- What functions of the program answer,whatever their arguments. -/
import Derived.Test.YtaecnniddhikbaaGreatDoorP6
import Derived.Test.YtaecnniddhikbaaGreatDoorP4
import Derived.Test.YtaecnniddhikbaaGreatDoorE1
import Derived.Test.YtaecnniddhikbaaGreatDoorA3
set_option linter.unusedSectionVars false
set_option linter.unnecessarySimpa false
set_option linter.unusedSimpArgs false
set_option linter.unusedVariables false
set_option maxRecDepth 100000
set_option maxHeartbeats 8000000
namespace Go.Proofs.YtaecnniddhikbaaGreatDoor
open Go Go.VA
end Go.Proofs.YtaecnniddhikbaaGreatDoor
namespace Go.Proofs.YtaecnniddhikbaaGreatDoor
open Go Go.VA
theorem cGet_rg (x:ByteArray):0≤(cGet x).2.1∧(cGet x).2.1≤x.size:=by
 unfold cGet
 split
 ·exact ⟨Int.le_refl _,by show (0:Int)≤_; omega⟩
 ·have:=gV_ok false x
  exact ⟨this.1,this.2.1⟩
theorem kyFin_rg {s:ByteArray}{k:Ky}{i n a e:Int}(h:RgOk s a e):0≤(kyFin k i n a e).2.1∧(kyFin k i n a e).2.1≤s.size:=by
 have z:(0:Int)≤0∧(0:Int)≤s.size:=⟨Int.le_refl _,by omega⟩
 unfold kyFin
 split
 ·exact z
 ·rename_i he
  split
  ·exact z
  ·exact h (by simpa using he)
theorem gKyA_rg (s:ByteArray):0≤(gKyA s).2.1∧(gKyA s).2.1≤s.size:=by
 have r1:RgOk s (gK1 s).2.1 (gK1 s).2.2:=rTx_rg (rg0 s)
 have r2:RgOk s (gK2 s).2.1 (gK2 s).2.2:=rTx_rg r1
 have r3:RgOk s (gK3 s).2.1 (gK3 s).2.2:=rKd_rg r2
 have r4:RgOk s (gK4 s).2.1 (gK4 s).2.2:=rSh_rg r3
 have r5:RgOk s (gK5 s).2.1 (gK5 s).2.2:=rTx_rg r3
 unfold gKyA
 split
 ·exact kyFin_rg (rSh_rg r4)
 ·split
  ·exact kyFin_rg (rSh_rg r5)
  ·exact kyFin_rg r4
def tS (s:ByteArray) (a:Nat):ByteArray:=subS s a (s.size-a)
theorem tS_size (s:ByteArray)(a:Nat):(tS s a).size=s.size-a:=sub_size s a _
def kd (s:ByteArray) (a:Nat):Ky×Int×Int:=gKyA (tS s a)
def sh (s:ByteArray) (a:Nat):Int×Int×Int:=gS s a (s.size-a) 0 0
def vl (s:ByteArray) (a:Nat):V×Int×Int:=cGet (tS s a)
theorem kd_rg (s:ByteArray)(a:Nat):0≤(kd s a).2.1∧(kd s a).2.1≤((s.size-a:Nat):Int):=by
 have:=gKyA_rg (tS s a)
 rwa [tS_size] at this
theorem vl_rg (s:ByteArray)(a:Nat):0≤(vl s a).2.1∧(vl s a).2.1≤((s.size-a:Nat):Int):=by
 have:=cGet_rg (tS s a)
 rwa [tS_size] at this
theorem sh_rg (s:ByteArray)(a:Nat):0≤(sh s a).2.1∧(sh s a).2.1≤((s.size-a:Nat):Int):=by
 unfold sh
 by_cases h:(gS s a (s.size-a) 0 0).2.2=0
 ·have:=gS_ok s a (s.size-a) 0 0 (Int.le_refl 0) h
  omega
 ·have:=gS_bad s a (s.size-a) 0 0 h
  omega
abbrev cRd (t:Bool) (s:ByteArray) (a:Nat) (b:Bool):List C:=[.sl t 1 (s.size-a) (fun i=>strCells s (a+i)),.v (.bool b)]
theorem leRd {t:Bool}{s:ByteArray}{a n:Nat}:LeC (.sl t 1 (s.size-a-n) (fun i=>strCells s (a+(n+i)))) (.sl t 1 (s.size-(a+n)) (fun i=>strCells s (a+n+i))) :=
 LeC.sl (by omega) (fun i hi=>by rw [Nat.add_assoc])
theorem aGetKyT (t:Bool)(s:ByteArray)(a:Nat):ACall Tryz.prog gl 83 [.c (.sl t 1 (s.size-a) (fun i=>strCells s (a+i)))] [] (.tup [.ag (cKy (kd s a).1),intA .i64 (kd s a).2.1,intA .i64 (kd s a).2.2]):=aGetKyS t s a _
theorem aGetVT (t:Bool)(s:ByteArray)(a:Nat):ACall Tryz.prog gl 82 [.c (.sl t 1 (s.size-a) (fun i=>strCells s (a+i)))] [] (.tup [.ag (cV (vl s a).1),intA .i64 (vl s a).2.1,intA .i64 (vl s a).2.2]) :=
 (aGet t (tS s a)).le ⟨leSl (tS_size s a).symm (fun i hi=>(sub_cells s a _ i (by rwa [tS_size] at hi)).symm),trivial⟩
theorem aGetST (t:Bool)(s:ByteArray)(a:Nat):ACall Tryz.prog gl 79 [.c (.sl t 1 (s.size-a) (fun i=>strCells s (a+i)))] [] (.tup [intA .u64 (sh s a).1,intA .i64 (sh s a).2.1,intA .i64 (sh s a).2.2]):=aGetShort t _ s a
end Go.Proofs.YtaecnniddhikbaaGreatDoor
namespace Go.Proofs.YtaecnniddhikbaaGreatDoor
open Go Go.VA
def fgV (s:ByteArray) (a:Nat):Int:=if s.size-a<1 then 0 else byteN s a
def fgE (s:ByteArray) (a:Nat):Int:=if s.size-a<1 then 2 else 0
def e1 (s:ByteArray) (a:Nat):Nat:=a+(kd s a).2.1.toNat
def mn (s:ByteArray) (a:Nat):Int:=if ((s.size-a:Nat):Int)<1 then ((s.size-a:Nat):Int) else 1
theorem mn_rg (s:ByteArray)(a:Nat):0≤mn s a∧mn s a≤((s.size-a:Nat):Int):=by unfold mn; split<;>omega
theorem mn_eq (s:ByteArray)(a:Nat):(mn s a).toNat=min 1 (s.size-a):=by unfold mn; split<;>omega
def e2 (s:ByteArray) (a:Nat):Nat:=e1 s a+(mn s (e1 s a)).toNat
def e3 (s:ByteArray) (a:Nat):Nat:=e2 s a+(vl s (e2 s a)).2.1.toNat
def e4 (s:ByteArray) (a:Nat):Nat:=e3 s a+(sh s (e3 s a)).2.1.toNat
def b1 (s:ByteArray) (a:Nat) (b:Bool):Bool:=b||(kd s a).2.2 != 0
def b2 (s:ByteArray) (a:Nat) (b:Bool):Bool:=b1 s a b||fgE s (e1 s a) != 0||decide (fgV s (e1 s a)>3)
def b3 (s:ByteArray) (a:Nat) (b:Bool):Bool:=b2 s a b||(vl s (e2 s a)).2.2 != 0
def b4 (s:ByteArray) (a:Nat) (b:Bool):Bool:=b3 s a b||(sh s (e3 s a)).2.2 != 0
def dpR (s:ByteArray):Nat→Int→Nat→List Ad→Bool→List Ad×Nat×Bool
 | 0,_,a,acc,b=>(acc,a,b)
 | m+1,i,a,acc,b=>if decide (i>0)&& !b then dpR s m (IntKind.u64.wrap (i-1)) (e1 s a) (acc++[(kd s a).1.a]) (b1 s a b||(kd s a).1.n != 1) else (acc,a,b)
def dpS (s:ByteArray) (a:Nat) (b:Bool):List Ad×Nat×Bool:=dpR s (s.size+2) (sh s (e3 s a)).1 (e4 s a) [] (b4 s a b)
def enS (s:ByteArray) (a:Nat) (b:Bool):En:=⟨(kd s a).1,(vl s (e2 s a)).1,bitsI .and .u64 (fgV s (e1 s a)) 1 != 0,bitsI .and .u64 (fgV s (e1 s a)) 2 != 0,(dpS s a b).1⟩
theorem aGet1 (t:Bool)(s:ByteArray)(a:Nat):ACall Tryz.prog gl 37 [.c (.sl t 1 (s.size-a) (fun i=>strCells s (a+i))),intA .i64 1] [] (.tup [intA .u64 (fgV s a),intA .i64 (fgE s a)]):=by
 have:=aNumGet t (s.size-a) (fun i=>(s.data.toList[a+i]?).getD 0) 1 (by decide) (by decide)
 rw [nB_one] at this
 exact this
theorem rSh_pos {s:ByteArray}{a b:Int}(h:RgOk s a b)(h0:(rShort s a b).2.2=0):0<(rShort s a b).2.1:=by
 unfold rShort at h0 ⊢
 split
 ·rename_i hb
  rw [if_pos hb] at h0
  have h0:b=0:=h0
  rw [h0] at hb
  exact absurd hb (by decide)
 ·rename_i hb
  rw [if_neg hb] at h0
  have hb:b=0:=by simpa using hb
  have:=gS_ok s a.toNat (s.size-a.toNat) 0 0 (Int.le_refl 0) h0
  have:=h hb
  show 0<a+(gS s a.toNat (s.size-a.toNat) 0 0).2.1
  omega
theorem kyFin_pos {k:Ky}{i n a e:Int}(h:e=0→0<a)(h0:(kyFin k i n a e).2.2=0):0<(kyFin k i n a e).2.1:=by
 unfold kyFin at h0 ⊢
 split
 ·rename_i he
  rw [if_pos he] at h0
  have h0:e=0:=h0
  rw [h0] at he
  exact absurd he (by decide)
 ·rename_i he
  rw [if_neg he] at h0
  split
  ·rename_i h2
   rw [if_pos h2] at h0
   exact absurd h0 (by show (4:Int)≠0; decide)
  ·exact h (by simpa using he)
theorem gKyA_pos (s:ByteArray)(h0:(gKyA s).2.2=0):0<(gKyA s).2.1:=by
 have r1:RgOk s (gK1 s).2.1 (gK1 s).2.2:=rTx_rg (rg0 s)
 have r2:RgOk s (gK2 s).2.1 (gK2 s).2.2:=rTx_rg r1
 have r3:RgOk s (gK3 s).2.1 (gK3 s).2.2:=rKd_rg r2
 have r4:RgOk s (gK4 s).2.1 (gK4 s).2.2:=rSh_rg r3
 have r5:RgOk s (gK5 s).2.1 (gK5 s).2.2:=rTx_rg r3
 by_cases h1:((gK3 s).1==1)=true
 ·rw [gKyA_1 h1] at h0 ⊢
  exact kyFin_pos (fun h=>rSh_pos r4 h) h0
 ·have h1:((gK3 s).1==1)=false:=by simpa using h1
  by_cases h2:((gK3 s).1==2)=true
  ·rw [gKyA_2 h1 h2] at h0 ⊢
   exact kyFin_pos (fun h=>rSh_pos r5 h) h0
  ·have h2:((gK3 s).1==2)=false:=by simpa using h2
   rw [gKyA_0 h1 h2] at h0 ⊢
   exact kyFin_pos (fun h=>rSh_pos r3 h) h0
theorem kd_pos (s:ByteArray)(a:Nat)(h:(kd s a).2.2=0):0<(kd s a).2.1:=gKyA_pos _ h
end Go.Proofs.YtaecnniddhikbaaGreatDoor
