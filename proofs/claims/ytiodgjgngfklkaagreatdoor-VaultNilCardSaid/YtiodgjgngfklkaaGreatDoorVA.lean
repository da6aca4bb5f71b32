/- An executor of the model over symbolic values,and the proof that what it shows of a function holds of every call: no condition. -/
import Derived.WalkKit
import Derived.Deep.MidRow
import Derived.Lib.UnsafeStr
set_option linter.all false
namespace Go.VA
open Go Go.RowKit
inductive C where
 | v (x:Value)
 | sl (t:Bool) (esz n:Nat) (f:Nat→List C)
 | emp
inductive AV where
 | any
 | c (x:C)
 | ag (xs:List C)
 | agx (xs:List AV)
 | ptr (id off:Nat)
 | pe (id esz i k:Nat)
 | sp (t:Bool) (xs:List C) (k:Nat)
 | own (id esz off len:Nat)
 | tup (xs:List AV)
 | fn (f:Nat) (first cap:List AV)
 | gd (s:Nat) (want:Bool) (x:AV)
 | mpv (id:Nat)
 | ub (p:Bool→Prop)
inductive AO where
 | box (xs:List AV)
 | row (esz n:Nat) (f:Nat→List C)
 | frz (esz n:Nat) (f:Nat→List C)
 | mp (m:List (Value×AV))
 | amb (vs:List Value) (xs:List AV)
 | dead
structure BI where
 b:Nat
 o:Nat
 sz:Nat
 n:Nat
abbrev Rd:=Bool→Nat→Nat→Value→Prop
mutual
def RepC (S:Rd):C→Value→Prop
 | .v x,u=>u=x∧x.oneCell'=true
 | .emp,u=>∃ a,u= .slice a 0 0
 | .sl t esz n f,u=>∃ a cap,u= .slice a n cap∧(n≤cap∧n≤140737488355328) ∧
   (n=0∨∃ b o,a=some ⟨b,o,none⟩∧∀ i,i<n→(f i).length=esz∧RepCs S (S t b) (o+i*esz) (f i))
def RepCs (S:Rd) (R:Nat→Value→Prop):Nat→List C→Prop
 | _,[]=>True
 | o,x::xs=>(∃ u,R o u∧RepC S x u)∧RepCs S R (o+1) xs
end
def RepVs (S:Rd):List C→List Value→Prop
 | [],us=>us=[]
 | x::xs,us=>∃ u r,us=u::r∧RepC S x u∧RepVs S xs r
mutual
def RelV (B:List (Option BI)) (S:Rd):AV→Value→Prop
 | .any,_=>True
 | .c x,u=>RepC S x u
 | .ag xs,u=>∃ arr:Array Value,u= .agg arr∧RepVs S xs arr.toList
 | .agx xs,u=>∃ arr:Array Value,u= .agg arr∧(∀ v ∈ arr.toList,v.oneCell'=true)∧RelVs B S xs arr.toList
 | .ptr id off,u=>∃ bi,B[id]? =some (some bi)∧u= .pointer (some ⟨bi.b,bi.o+off,none⟩)
 | .pe id esz i k,u=>∃ bi,B[id]? =some (some bi)∧u= .pointer (some ⟨bi.b,bi.o+i*esz+k,none⟩)∧i<bi.n
 | .sp t xs k,u=>∃ b o,u= .pointer (some ⟨b,o+k,none⟩)∧RepCs S (S t b) o xs
 | .own id esz off len,u =>
   (∃ bi cap,B[id]? =some (some bi)∧u= .slice (some ⟨bi.b,bi.o+off*esz,none⟩) len cap∧(len≤cap∧len≤140737488355328)∧bi.o+(off+cap)*esz≤bi.sz∧(off+len≤bi.n∧bi.n≤off+cap)) ∨
   (len=0∧(∃ a,u= .slice a 0 0)∧∃ bo,B[id]? =some bo∧∀ bi,bo=some bi→bi.n≤off)
 | .tup xs,u=>∃ arr:Array Value,u= .tuple arr∧RelVs B S xs arr.toList
 | .fn f first cap,u=>∃ a1 a2:Array Value,u= .func (.func f) a1 a2∧RelVs B S first a1.toList∧RelVs B S cap a2.toList
 | .gd ..,_=>True
 | .mpv id,u=>∃ bi,B[id]? =some (some bi)∧u= .map (some bi.b)
 | .ub p,u=>∃ b,u= .bool b∧p b
def RelVs (B:List (Option BI)) (S:Rd):List AV→List Value→Prop
 | [],us=>us=[]
 | x::xs,us=>∃ u r,us=u::r∧RelV B S x u∧RelVs B S xs r
end
def Rd.le (S S':Rd):Prop:=∀ t b o u,S t b o u→S' t b o u
theorem Rd.le_refl (S:Rd):S.le S:=fun _ _ _ _ h=>h
theorem Rd.le_trans {S S' S'':Rd}(h:S.le S')(k:S'.le S''):S.le S'':=fun t b o u x=>k t b o u (h t b o u x)
mutual
theorem RepC.mono {S S':Rd}(h:S.le S'):∀ (x:C) (u:Value),RepC S x u→RepC S' x u
 | .v _,_,hh=>by simpa [RepC] using hh
 | .emp,_,hh=>by simpa [RepC] using hh
 | .sl t esz n f,u,hh=>by
  simp only [RepC] at hh ⊢
  obtain ⟨a,cap,hu,hc,h1⟩:=hh
  refine ⟨a,cap,hu,hc,?_⟩
  rcases h1 with h1|⟨b,o,ha,h1⟩
  ·exact .inl h1
  ·exact .inr ⟨b,o,ha,fun i hi=>⟨(h1 i hi).1,RepCs.mono h (h t b) (f i) _ (h1 i hi).2⟩⟩
theorem RepCs.mono {S S':Rd}(h:S.le S'){R R':Nat→Value→Prop}(hR:∀ o u,R o u→R' o u):∀ (xs:List C) (o:Nat),RepCs S R o xs→RepCs S' R' o xs
 | [],_,_=>by simp [RepCs]
 | x::xs,o,hh=>by
  simp only [RepCs] at hh ⊢
  obtain ⟨⟨u,h1,h2⟩,h3⟩:=hh
  exact ⟨⟨u,hR o u h1,RepC.mono h x u h2⟩,RepCs.mono h hR xs _ h3⟩
end
theorem RepVs.mono {S S':Rd}(h:S.le S'):∀ (xs:List C) (us:List Value),RepVs S xs us→RepVs S' xs us
 | [],_,hh=>by simpa [RepVs] using hh
 | x::xs,us,hh=>by
  simp only [RepVs] at hh ⊢
  obtain ⟨u,r,h1,h2,h3⟩:=hh
  exact ⟨u,r,h1,RepC.mono h x u h2,RepVs.mono h xs r h3⟩
def Ble (B B':List (Option BI)):Prop:=∀ (id:Nat) (x:Option BI),B[id]? =some x→B'[id]? =some x
theorem Ble.refl (B:List (Option BI)):Ble B B:=fun _ _ h=>h
theorem Ble.trans {B B' B'':List (Option BI)}(h:Ble B B')(k:Ble B' B''):Ble B B'':=fun i x e=>k i x (h i x e)
mutual
theorem RelV.mono {B B':List (Option BI)}{S S':Rd}(hB:Ble B B')(h:S.le S'):∀ (x:AV) (u:Value),RelV B S x u→RelV B' S' x u
 | .any,_,_=>by simp [RelV]
 | .c x,u,hh=>by simp only [RelV] at hh ⊢; exact RepC.mono h x u hh
 | .ag xs,u,hh=>by
  simp only [RelV] at hh ⊢
  obtain ⟨arr,hu,h1⟩:=hh
  exact ⟨arr,hu,RepVs.mono h xs _ h1⟩
 | .agx xs,u,hh=>by
  simp only [RelV] at hh ⊢
  obtain ⟨arr,hu,h0,h1⟩:=hh
  exact ⟨arr,hu,h0,RelVs.mono hB h xs _ h1⟩
 | .ptr id off,u,hh=>by
  simp only [RelV] at hh ⊢
  obtain ⟨bi,h1,h2⟩:=hh
  exact ⟨bi,hB _ _ h1,h2⟩
 | .pe id esz i k,u,hh=>by
  simp only [RelV] at hh ⊢
  obtain ⟨bi,h1,h2⟩:=hh
  exact ⟨bi,hB _ _ h1,h2⟩
 | .sp t xs k,u,hh=>by
  simp only [RelV] at hh ⊢
  obtain ⟨b,o,h1,h2⟩:=hh
  exact ⟨b,o,h1,RepCs.mono h (h t b) xs o h2⟩
 | .own id esz off len,u,hh=>by
  simp only [RelV] at hh ⊢
  rcases hh with ⟨bi,cap,h1,h2⟩|⟨h1,h2,bo,h3⟩
  ·exact .inl ⟨bi,cap,hB _ _ h1,h2⟩
  ·exact .inr ⟨h1,h2,bo,hB _ _ h3.1,h3.2⟩
 | .tup xs,u,hh=>by
  simp only [RelV] at hh ⊢
  obtain ⟨arr,hu,h1⟩:=hh
  exact ⟨arr,hu,RelVs.mono hB h xs _ h1⟩
 | .fn f first cap,u,hh=>by
  simp only [RelV] at hh ⊢
  obtain ⟨a1,a2,hu,h1,h2⟩:=hh
  exact ⟨a1,a2,hu,RelVs.mono hB h first _ h1,RelVs.mono hB h cap _ h2⟩
 | .gd ..,_,_=>by simp [RelV]
 | .mpv id,u,hh=>by
  simp only [RelV] at hh ⊢
  obtain ⟨bi,h1,h2⟩:=hh
  exact ⟨bi,hB _ _ h1,h2⟩
 | .ub p,u,hh=>by simpa only [RelV] using hh
theorem RelVs.mono {B B':List (Option BI)}{S S':Rd}(hB:Ble B B')(h:S.le S'):∀ (xs:List AV) (us:List Value),RelVs B S xs us→RelVs B' S' xs us
 | [],_,hh=>by simpa [RelVs] using hh
 | x::xs,us,hh=>by
  simp only [RelVs] at hh ⊢
  obtain ⟨u,r,h1,h2,h3⟩:=hh
  exact ⟨u,r,h1,RelV.mono hB h x u h2,RelVs.mono hB h xs r h3⟩
end
def AV.closed:AV→Bool
 | .c _| .ag _| .sp .. =>true
 | .tup xs=>go xs
 | .agx xs=>go xs
 | _=>false
where go:List AV→Bool
 | []=>true
 | x::xs=>match AV.closed x with|true=>go xs|false=>false
inductive TK where
 | other|int (k:IntKind)|bool|str|ptr (e:Nat)|func
 | slice (e:Nat)|struct (fs:List (Nat×Nat))|array (n e:Nat)|map (k e:Nat)
structure TI where
 k:TK
 sz:Nat
 bytes:Nat
 zero:List Value
abbrev TB:=Nat→TI
def TK.isOther:TK→Bool
 | .other=>true
 | _=>false
def TK.agg:TK→Bool
 | .struct _=>true
 | .array .. =>true
 | _=>false
abbrev Env:=List (Nat×AV)
def get:Env→Nat→AV
 | [],_=> .any
 | (s,x)::r,t=>match Nat.beq s t with|true=>x|false=>get r t
def getO:List AO→Nat→AO
 | [],_=> .dead
 | x::_,0=>x
 | _::r,n+1=>getO r n
def setO:List AO→Nat→AO→List AO
 | [],_,_=>[]
 | _::r,0,y=>y::r
 | x::r,n+1,y=>x::setO r n y
inductive Key where
 | no
 | at (s:Nat) (w:Bool)
def beqB:Bool→Bool→Bool
 | true,true=>true
 | false,false=>true
 | _,_=>false
def Key.is (s:Nat) (w:Bool):Key→Bool
 | .no=>false
 | .at s' w'=>match Nat.beq s s' with|true=>beqB w w'|false=>false
def useK (key key2:Key):AV→AV
 | .gd s w x=>match key.is s w with
  | true=>x
  | false=>match key2.is s w with
   | true=>x
   | false=> .any
 | x=>x
structure Gl where
 cells:Nat→List C
def allOne:List Value→Bool
 | []=>true
 | v::r=>match v.oneCell' with|true=>allOne r|false=>false
def evO (gl:Gl) (env:Env) (key key2:Key):Operand→AV
 | .tmp t=>useK key key2 (get env t)
 | .const (.agg cs)=>match allOne cs.toList with|true=> .ag (cs.toList.map C.v)|false=> .any
 | .const (.tuple _)=> .any
 | .const v=> .c (.v v)
 | .global g=> .sp false (gl.cells g) 0
 | .func f=> .fn f [] []
def chain (env:Env):Nat→Key→Prop→Prop
 | 0,_,p=>p
 | _+1,.no,p=>p
 | n+1,.at s w,p=>match get env s with
  | .c (.v (.bool b))=>b=w→p
  | .gd s' w' (.c (.v (.bool b)))=>chain env n (.at s' w') (b=w→p)
  | _=>p
def mkC (agg:Bool) (xs:List C):AV:=match agg with
 | true=> .ag xs
 | false=>match xs with
  | [x]=> .c x
  | _=> .any
def toCs:List AV→Option (List C)
 | []=>some []
 | .c x::r=>match toCs r with
  | some xs=>some (x::xs)
  | none=>none
 | _=>none
def mkA (agg:Bool) (ys:List AV):AV:=match agg with
 | true=>match toCs ys with
  | some xs=> .ag xs
  | none=> .agx ys
 | false=>match ys with
  | [y]=>y
  | _=> .any
def cellsA:AV→Option (List AV)
 | .ag xs=>some (xs.map AV.c)
 | .agx xs=>some xs
 | .any=>none
 | .gd .. =>none
 | .tup _=>none
 | x=>some [x]
def nthCC:List C→Nat→C
 | [],_=> .emp
 | x::_,0=>x
 | _::r,n+1=>nthCC r n
def viewO (L:List AO) (id esz off len:Nat):Option (C×Bool):=match getO L id with
 | .row e _ f=>match Nat.beq e esz with
  | true=>some (.sl true esz len (fun i=>f (off+i)),true)
  | false=>none
 | .frz e _ f=>match Nat.beq e esz with
  | true=>some (.sl false esz len (fun i=>f (off+i)),false)
  | false=>none
 | .box ys=>match Nat.beq 1 esz with
  | true=>match toCs ys with
   | some cs=>some (.sl true esz len (fun i=>[nthCC cs (off+i)]),true)
   | none=>none
  | false=>none
 | _=>none
def viewCs (L:List AO):List AV→Option (List C×Bool)
 | []=>some ([],false)
 | x::r=>match viewCs L r with
  | none=>none
  | some (xs,b)=>match x with
   | .c y=>some (y::xs,b)
   | .own id esz off len=>match viewO L id esz off len with
    | some (y,true)=>some (y::xs,true)
    | some (y,false)=>some (y::xs,b)
    | none=>none
   | _=>none
def viewX (L:List AO) (id esz off len:Nat):Option (C×Bool):=match viewO L id esz off len with
 | some r=>some r
 | none=>match Nat.beq 1 esz with
  | false=>none
  | true=>match getO L id with
   | .box ys=>match viewCs L ys with
    | some (cs,_)=>some (.sl true 1 len (fun i=>[nthCC cs (off+i)]),true)
    | none=>none
   | _=>none
def toArg0 (L:List AO):AV→Option (AV×Bool)
 | .c x=>some (.c x,false)
 | .ag xs=>some (.ag xs,false)
 | .sp t xs k=>some (.sp t xs k,false)
 | .own id esz off len=>match viewX L id esz off len with
  | some (y,b)=>some (.c y,b)
  | none=>none
 | .agx ys=>match viewCs L ys with
  | some (xs,b)=>some (.ag xs,b)
  | none=>none
 | .ptr id off=>match getO L id with
  | .box ys=>match viewCs L ys with
   | some (xs,_)=>some (.sp true xs off,true)
   | none=>none
  | _=>none
 | _=>none
def toArgs0 (L:List AO):List AV→Option (List AV×Bool)
 | []=>some ([],false)
 | x::r=>match toArg0 L x with
  | none=>none
  | some (y,true)=>match toArgs0 L r with
   | some (ys,_)=>some (y::ys,true)
   | none=>none
  | some (y,false)=>match toArgs0 L r with
   | some (ys,b)=>some (y::ys,b)
   | none=>none
def toArg (L:List AO):AV→Option (AV×Bool)
 | .fn f first cap=>match toArgs0 L first with
  | none=>none
  | some (xs,b)=>match toArgs0 L cap with
   | none=>none
   | some (ys,b')=>some (.fn f xs ys,match b with|true=>true|false=>b')
 | x=>toArg0 L x
def toArgs (L:List AO):List AV→Option (List AV×Bool)
 | []=>some ([],false)
 | x::r=>match toArg L x with
  | none=>none
  | some (y,true)=>match toArgs L r with
   | some (ys,_)=>some (y::ys,true)
   | none=>none
  | some (y,false)=>match toArgs L r with
   | some (ys,b)=>some (y::ys,b)
   | none=>none
def C.scalar:C→Bool
 | .v _=>true
 | _=>false
def allScalar:List C→Bool
 | []=>true
 | x::r=>match x.scalar with|true=>allScalar r|false=>false
def AV.scalar:AV→Bool
 | .c x=>x.scalar
 | .ag xs=>allScalar xs
 | .tup xs=>go xs
 | _=>false
where go:List AV→Bool
 | []=>true
 | x::xs=>match AV.scalar x with|true=>go xs|false=>false
def AO.live:AO→Bool
 | .box _=>true
 | .row .. =>true
 | .mp _=>true
 | _=>false
structure Mz where
 ro:Nat
 f:Nat→Prop
 t:Nat→Prop
 le:∀ b,t b→f b
def MU (M:Mz) (B:List (Option BI)) (L:List AO):Bool→Nat→Prop
 | false,b=>M.f b∨∃ (id:Nat) (bi:BI),B[id]? =some (some bi)∧bi.b=b∧(getO L id).live=true
 | true,b=>M.t b∨∃ (id:Nat) (bi:BI),M.ro≤id∧B[id]? =some (some bi)∧bi.b=b∧(getO L id).live=true
theorem MU_le {M:Mz}{B:List (Option BI)}{L:List AO}(t:Bool)(b:Nat)(h:MU M B L t b):MU M B L false b:=by
 cases t with
 | false=>exact h
 | true =>
  rcases h with h|⟨id,bi,_,h⟩
  ·exact .inl (M.le b h)
  ·exact .inr ⟨id,bi,h⟩
def Sr (M:Mz) (B:List (Option BI)) (L:List AO) (w:World):Rd :=
 fun t b o u=>¬ MU M B L t b∧w.cell? ⟨b,o,none⟩=some u
def RelM (S:Rd):List (Value×AV)→List MapEntry→Prop
 | [],es=>es=[]
 | x::xs,es=>∃ e r,es=e::r∧e.key=x.1∧RelV [] S x.2 e.val∧RelM S xs r
theorem RelM.mono {S S':Rd}(h:S.le S'):∀ (m:List (Value×AV)) (es:List MapEntry),RelM S m es→RelM S' m es
 | [],_,hh=>by simpa [RelM] using hh
 | x::xs,es,hh=>by
  simp only [RelM] at hh ⊢
  obtain ⟨e,r,h1,h2,h3,h4⟩:=hh
  exact ⟨e,r,h1,h2,RelV.mono (Ble.refl _) h _ _ h3,RelM.mono h xs r h4⟩
def RowAt (w:World) (b:Nat) (cs:Array Value) (ty:TypeId) (e:Nat):Prop:=∃ fz:Nat×Nat,w.heap[b]? =some (.cells cs ty fz)∧(fz=(0,0)∨e=1∧cs.size≤fz.1)
theorem RowAt.of {w:World}{b:Nat}{cs:Array Value}{ty:TypeId}{e:Nat}(h:w.heap[b]? =some (.cells cs ty (0,0))):RowAt w b cs ty e:=⟨_,h,.inl rfl⟩
theorem RowAt.cell {w:World}{b:Nat}{cs:Array Value}{ty:TypeId}{e:Nat}(h:RowAt w b cs ty e)(o:Nat):w.cell? ⟨b,o,none⟩=cs[o]? :=by
 obtain ⟨fz,h,_⟩:=h
 simp [World.cell?,h]
def Bst (es:Array MapEntry) (clock:Nat):Prop:=(∀ x ∈ es.toList,x.born<clock)∧(es.toList.map (·.born)).Nodup
theorem Bst.nil:Bst #[] 0:=⟨by simp,by simp⟩
theorem Bst.push {es:Array MapEntry}{clock:Nat}(h:Bst es clock)(k v:Value):Bst (es.push { key:=k,val:=v,born:=clock }) (clock+1):=by
 obtain ⟨h1,h2⟩:=h
 refine ⟨fun x hx=> ?_,?_⟩
 ·rw [Array.toList_push] at hx
  rcases List.mem_append.1 hx with hx|hx
  ·exact Nat.lt_succ_of_lt (h1 x hx)
  ·simp at hx; subst hx; exact Nat.lt_succ_self _
 ·rw [Array.toList_push,List.map_append,List.nodup_append]
  refine ⟨h2,by simp,fun a ha b hb=> ?_⟩
  simp at hb ha
  obtain ⟨x,hx,rfl⟩:=ha
  subst hb
  exact Nat.ne_of_lt (h1 x (by simpa using hx))
theorem Bst.modify {es:Array MapEntry}{clock:Nat}(h:Bst es clock)(j:Nat)(k v:Value):Bst (es.modify j fun e=>{ e with key:=k,val:=v }) clock:=by
 obtain ⟨h1,h2⟩:=h
 have e:(es.modify j fun e=>{ e with key:=k,val:=v }).toList.map (·.born)=es.toList.map (·.born):=by
  rw [Array.toList_modify]
  refine List.ext_getElem? fun i=> ?_
  rw [List.getElem?_map,List.getElem?_map,List.getElem?_modify]
  cases es.toList[i]? with
  | none=>rfl
  | some x=>by_cases hj:j=i<;>simp [hj]
 refine ⟨fun x hx=> ?_,by rw [e]; exact h2⟩
 have:x.born ∈ es.toList.map (·.born):=by rw [← e]; exact List.mem_map_of_mem hx
 obtain ⟨y,hy,hxy⟩:=List.mem_map.1 this
 rw [← hxy]
 exact h1 y hy
theorem Bst.erase {es:Array MapEntry}{clock:Nat}(h:Bst es clock)(j:Nat):Bst (es.eraseIdxIfInBounds j) clock:=by
 obtain ⟨h1,h2⟩:=h
 have e:(es.eraseIdxIfInBounds j).toList=es.toList.eraseIdx j:=by
  unfold Array.eraseIdxIfInBounds
  split
  ·simp
  ·rename_i hj
   rw [List.eraseIdx_of_length_le (by simpa using hj)]
 refine ⟨fun x hx=>h1 x (List.mem_of_mem_eraseIdx (e ▸ hx)),?_⟩
 rw [e]
 exact h2.sublist ((List.eraseIdx_sublist _ _).map _)
def RelO (B:List (Option BI)) (S:Rd) (w:World):AO→Option BI→Prop
 | .box xs,bo=>∃ bi cs ty,bo=some bi∧w.heap[bi.b]? =some (.cells cs ty (0,0))∧bi.o=0∧(bi.sz=cs.size∧bi.n=cs.size)∧(∀ v ∈ cs.toList,v.oneCell'=true)∧RelVs B S xs cs.toList
 | .row _ n _,none=>n=0
 | .row esz n f,some bi=>bi.n=n∧∃ cs ty,RowAt w bi.b cs ty esz∧bi.sz=cs.size∧bi.o+n*esz≤bi.sz ∧
   ∀ i,i<n→(f i).length=esz∧RepCs S (fun o u=>cs[o]? =some u) (bi.o+i*esz) (f i)
 | .frz _ n _,none=>n=0
 | .frz esz n f,some bi=>bi.n=n∧∀ i,i<n→(f i).length=esz∧RepCs S (S false bi.b) (bi.o+i*esz) (f i)
 | .amb vs xs,_=>RelVs B S xs vs
 | .mp m,bo=>∃ bi es clock,bo=some bi∧w.heap[bi.b]? =some (.map es clock)∧RelM S m es.toList∧Bst es clock
 | .dead,_=>True
structure RelL (M:Mz) (B:List (Option BI)) (L:List AO) (w:World):Prop where
 len:B.length=L.length
 bnd:∀ (id:Nat) (bi:BI),B[id]? =some (some bi)→bi.b<w.heap.size
 mbnd:∀ b,M.f b→b<w.heap.size
 notM:∀ (id:Nat) (bi:BI),B[id]? =some (some bi)→(getO L id).live=true→¬ M.f bi.b
 dist:∀ (i j:Nat) (bi bj:BI),i≠j→B[i]? =some (some bi)→B[j]? =some (some bj)→(getO L i).live=true→(getO L j).live=true→bi.b≠bj.b
 obj:∀ (id:Nat) (bo:Option BI),B[id]? =some bo→RelO B (Sr M B L w) w (getO L id) bo
def GlOk (gl:Gl) (S:Rd):Prop:=∀ g,RepCs S (S false g) 0 (gl.cells g)
def Callable (P:Program) (f:Nat):Prop:=∃ fn,P.funcs[f]? =some fn∧(fn.name== "runtime.NumGoroutine")=false∧fn.body.isNone=false
structure ACall (P:Program) (gl:Gl) (f:Nat) (args:List AV) (L:List AO) (r:AV):Prop where
 callable:Callable P f
 closed:r.closed=true
 run:∀ (w:World) (M:Mz) (B:List (Option BI)) (vals:Array Value),M.ro=L.length →
  RelL M B L w→GlOk gl (Sr M B L w)→RelVs B (Sr M B L w) args vals.toList →
  Calls P f vals w fun e w'=>∃ u,e= .returned u∧Below w.heap.size w w'∧RelV B (Sr M B L w') r u
structure Le (n:Nat) (x' x:AV):Prop where
 h:∀ B S u,n≤B.length→RelV B S x' u→RelV B S x u
theorem Le.refl {n:Nat}(x:AV):Le n x x:=⟨fun _ _ _ _ h=>h⟩
theorem Le.of_eq {n:Nat}{x y:AV}(h:x=y):Le n x y:=h ▸ Le.refl x
structure LeE (k n:Nat) (x' x:AV):Prop where
 h:Le n x' x∨∃ id esz off,k≤id∧id<n∧x'= .c (.v (.slice none 0 0))∧x= .own id esz off 0
theorem LeE.of {k n:Nat}{x' x:AV}(h:Le n x' x):LeE k n x' x:=⟨.inl h⟩
theorem LeE.nil {k n id esz off:Nat}(h:(match Nat.ble k id with|true=>Nat.blt id n|false=>false)=true):LeE k n (.c (.v (.slice none 0 0))) (.own id esz off 0):=by
 split at h
 ·rename_i hk
  exact ⟨.inr ⟨id,esz,off,Nat.le_of_ble_eq_true hk,by simpa [Nat.blt_eq] using h,rfl,rfl⟩⟩
 ·simp at h
theorem LeE.rel {k n:Nat}{x' x:AV}(h:LeE k n x' x){B:List (Option BI)}{S:Rd}{u:Value}(hn:n≤B.length)(hB:∀ id,k≤id→id<n→B[id]? =some none)(hu:RelV B S x' u):RelV B S x u:=by
 rcases h.h with h|⟨id,esz,off,h1,h2,rfl,rfl⟩
 ·exact h.h _ _ _ hn hu
 ·simp only [RelV,RepC] at hu ⊢
  exact .inr ⟨trivial,⟨none,hu.1⟩,none,hB id h1 h2,fun bi e=>by cases e⟩
structure NoTag (r:AV):Prop where
 h:∀ B S S' u,(∀ b o v,S false b o v→S' false b o v)→RelV B S r u→RelV B S' r u
def RelSl (B:List (Option BI)) (S:Rd) (a:Act):AV→Value→Prop
 | .gd s w x,u=>(a.tmps.getD s undef= .bool w→RelV B S x u)∧(a.tmps.getD s undef≠ .bool w→u=undef)
 | x,u=>RelV B S x u
def RelE (B:List (Option BI)) (S:Rd) (env:Env) (a:Act):Prop:=∀ t,RelSl B S a (get env t) (a.tmps.getD t undef)
structure Fx where
 gl:Gl
 w0:World
 M:Mz
 B0:List (Option BI)
 L0:List AO
 nt:Nat
 mt:Nat→Prop
def AO.kd:AO→Nat
 | .dead=>0
 | .box _=>1
 | .mp _=>2
 | .amb .. =>4
 | .row .. =>3
 | .frz .. =>3
structure Frm (mt:Nat→Prop) (w w':World):Prop where
 os:w'.os=w.os
 tape:w'.tape=w.tape
 output:w'.output=w.output
 size:w.heap.size≤w'.heap.size
 block:∀ k,k<w.heap.size→¬ mt k→w'.heap[k]? =w.heap[k]?
structure St (X:Fx) (B:List (Option BI)) (env:Env) (L:List AO) (a:Act) (w:World):Prop where
 relL:RelL X.M B L w
 glob:GlOk X.gl (Sr X.M B L w)
 relE:RelE B (Sr X.M B L w) env a
 below:Frm X.mt X.w0 w
 fresh:∀ (id:Nat) (bi:BI),X.M.ro≤id→B[id]? =some (some bi)→(getO L id).live=true→X.w0.heap.size≤bi.b∨X.mt bi.b
 old:∀ (id:Nat),id<X.M.ro→B[id]? =X.B0[id]? ∧(getO L id).live=(getO X.L0 id).live
 rol:X.M.ro≤L.length
 l0:X.L0.length≤L.length
 knd:∀ (id:Nat),id<X.L0.length→id<L.length→(getO L id).kd=0∨((getO L id).kd=(getO X.L0 id).kd∧((getO L id).kd≠3→B[id]? =X.B0[id]?))
 dfr:a.defers=[]
 sz:a.tmps.size=X.nt
def gkey:AV→Option Nat
 | .gd s _ _=>some s
 | _=>none
def keysE (env:Env):List (Option Nat):=env.map fun p=>gkey p.2
def StepTo (P:Program) (X:Fx) (o:Oper) (env:Env) (K:AV→Env→List AO→Prop) (a:Act) (w:World):Prop :=
 ∀ (next:Act→World→Prop) (Q:Exit→Act→World→Prop),
  (∀ x env' L' B' u w',K x env' L'→keysE env'=keysE env→St X B' env' L' a w'→RelV B' (Sr X.M B' L' w') x u→next (a.put o.dst u) w')→o.wp P a w next Q
structure XCall (P:Program) (gl:Gl) (ro:Nat) (f:AV) (args:List AV) (env:Env) (L:List AO) (K:AV→Env→List AO→Prop):Prop where
 h:∀ (X:Fx) (B:List (Option BI)) (a:Act) (w:World) (o:Oper) (c:Call) (fo:Operand),X.gl=gl→X.M.ro=ro→St X B env L a w→o.op= .call c→c.callee= .value fo →
  RelV B (Sr X.M B L w) f (a.eval fo)→RelVs B (Sr X.M B L w) args (c.args.map a.eval).toList→StepTo P X o env K a w
def boolA (b:Bool):AV:= .c (.v (.bool b))
def intA (k:IntKind) (n:Int):AV:= .c (.v (.int k n))
def eqC:C→C→Option Bool
 | .v (.int _ a),.v (.int _ b)=>some (a==b)
 | .v (.string a),.v (.string b)=>some (a==b)
 | .v (.bool a),.v (.bool b)=>some (a==b)
 | _,_=>none
def eqCs:List C→List C→Option Bool
 | [],[]=>some true
 | x::xs,y::ys=>match eqC x y with
  | none=>none
  | some a=>match ys with
   | []=>match xs with
    | []=>some a
    | _=>none
   | _=>match eqCs xs ys with
    | some b=>some (a&&b)
    | none=>none
 | _,_=>none
def eqV:Value→Value→Option Bool
 | .int _ a,.int _ b=>some (a==b)
 | .string a,.string b=>some (a==b)
 | .bool a,.bool b=>some (a==b)
 | _,_=>none
def eqVs:List Value→List Value→Option Bool
 | [],[]=>some true
 | x::xs,y::ys=>match eqV x y,eqVs xs ys with
  | some a,some b=>some (a&&b)
  | _,_=>none
 | _,_=>none
def kindNo:IntKind→Nat
 | .i8=>0| .i16=>1| .i32=>2| .i64=>3| .u8=>4| .u16=>5| .u32=>6| .u64=>7
def shV:Value→Nat
 | .int k _=>kindNo k
 | .string _=>8
 | .bool _=>9
 | _=>10
def shC:C→Nat
 | .v x=>shV x
 | _=>11
def shCs:List C→List Nat
 | []=>[]
 | x::r=>shC x::shCs r
def beqNs:List Nat→List Nat→Bool
 | [],[]=>true
 | x::xs,y::ys=>match Nat.beq x y with|true=>beqNs xs ys|false=>false
 | _,_=>false
def StructEq (P:Program) (t:TypeId) (sh:List Nat):Prop :=
 ∀ (x y:Operand) (xs ys:Array Value) (q:Bool),xs.toList.map shV=sh→ys.toList.map shV=sh→eqVs xs.toList ys.toList=some q→∀ w,
  (do eqGuard .eql t x y (.agg xs) (.agg ys); binOp .eql t (.agg xs) (.agg ys):Sem Value).run P w= .ok (.bool q) w ∧
  (do eqGuard .neq t x y (.agg xs) (.agg ys); binOp .neq t (.agg xs) (.agg ys):Sem Value).run P w= .ok (.bool (!q)) w
def bitsI (op:BinOp) (k:IntKind) (x y:Int):Int :=
 k.wrap (match op with
  | .and=>(BitVec.ofInt k.bits x &&& BitVec.ofInt k.bits y).toNat
  | .or=>(BitVec.ofInt k.bits x ||| BitVec.ofInt k.bits y).toNat
  | .xor=>(BitVec.ofInt k.bits x ^^^ BitVec.ofInt k.bits y).toNat
  | _=>(BitVec.ofInt k.bits x &&& ~~~ BitVec.ofInt k.bits y).toNat:Nat)
def shlI (k:IntKind) (x y:Int):Int:=k.wrap (x*2 ^ (min y.toNat k.bits))
def shrI (k:IntKind) (x y:Int):Int:=x.fdiv (2 ^ (min y.toNat k.bits))
def opInt (ch:Prop→Prop) (op:BinOp) (k:IntKind) (a:Int) (k':IntKind) (b:Int) (K:AV→Prop):Prop :=
 match op with
 | .shl=>ch (0≤b)∧K (intA k (shlI k a b))
 | .shr=>ch (0≤b)∧K (intA k (shrI k a b))
 | op=>match Nat.beq (kindNo k) (kindNo k') with
  | false=>False
  | true=>match op with
   | .add=>K (intA k (k.wrap (a+b)))
   | .sub=>K (intA k (k.wrap (a-b)))
   | .mul=>K (intA k (k.wrap (a*b)))
   | .quo=>ch (b≠0)∧K (intA k (k.wrap (a.tdiv b)))
   | .rem=>ch (b≠0)∧K (intA k (a.tmod b))
   | .eql=>K (boolA (a==b))
   | .neq=>K (boolA (a != b))
   | .lss=>K (boolA (decide (a<b)))
   | .leq=>K (boolA (decide (a≤b)))
   | .gtr=>K (boolA (decide (a>b)))
   | .geq=>K (boolA (decide (a≥b)))
   | .and=>K (intA k (bitsI .and k a b))
   | .or=>K (intA k (bitsI .or k a b))
   | .xor=>K (intA k (bitsI .xor k a b))
   | .andNot=>K (intA k (bitsI .andNot k a b))
   | _=>False
def opStr (ch:Prop→Prop) (op:BinOp) (a b:ByteArray) (K:AV→Prop):Prop :=
 match op with
 | .add=>ch (a.size+b.size≤9223372036854775807)∧K (.c (.v (.string (a++b))))
 | .eql=>K (boolA (a.toList==b.toList))
 | .neq=>K (boolA (!(a.toList==b.toList)))
 | .lss=>K (boolA (Op.bytesLess a.toList b.toList))
 | .leq=>K (boolA (Op.bytesLess a.toList b.toList||a.toList==b.toList))
 | .gtr=>K (boolA (!(Op.bytesLess a.toList b.toList||a.toList==b.toList)))
 | .geq=>K (boolA (!(Op.bytesLess a.toList b.toList)))
 | _=>False
def opPtrNil (tb:TB) (t:TypeId) (op:BinOp) (same:Bool) (K:AV→Prop):Prop :=
 match (tb t).k with
 | .ptr _=>match op with
  | .eql=>K (boolA same)
  | .neq=>K (boolA (!same))
  | _=>False
 | _=>False
def opSlNil (tb:TB) (t:TypeId) (op:BinOp) (p:Bool→Prop) (K:AV→Prop):Prop :=
 match (tb t).k with
 | .slice _=>match op with
  | .eql=>K (.ub p)
  | .neq=>K (.ub fun b=>p (!b))
  | _=>False
 | _=>False
def opBin (P:Program) (tb:TB) (ch:Prop→Prop) (op:BinOp) (t:TypeId) (x y:AV) (K:AV→Prop):Prop :=
 match x with
 | .c (.v (.int k a))=>match y with
  | .c (.v (.int k' b))=>opInt ch op k a k' b K
  | _=>False
 | .c (.v (.bool a))=>match y with
  | .c (.v (.bool b))=>match (tb t).k with
   | .bool=>match op with
    | .eql=>K (boolA (a==b))
    | .neq=>K (boolA (!(a==b)))
    | _=>False
   | _=>False
  | _=>False
 | .c (.v (.string a))=>match y with
  | .c (.v (.string b))=>opStr ch op a b K
  | _=>False
 | .ag xs=>match y with
  | .ag ys=>match eqCs xs ys with
   | none=>False
   | some q=>match beqNs (shCs xs) (shCs ys) with
    | false=>False
    | true=>match op with
     | .eql=>StructEq P t (shCs xs)∧K (boolA q)
     | .neq=>StructEq P t (shCs xs)∧K (boolA (!q))
     | _=>False
  | _=>False
 | .ptr .. =>match y with
  | .c (.v (.pointer none))=>opPtrNil tb t op false K
  | _=>False
 | .sp .. =>match y with
  | .c (.v (.pointer none))=>opPtrNil tb t op false K
  | _=>False
 | .c (.sl _ _ n _)=>match y with
  | .c (.v (.slice none 0 0))=>opSlNil tb t op (fun b=>b=true→n=0) K
  | _=>False
 | .own _ _ _ n=>match y with
  | .c (.v (.slice none 0 0))=>opSlNil tb t op (fun b=>b=true→n=0) K
  | _=>False
 | .c .emp=>match y with
  | .c (.v (.slice none 0 0))=>opSlNil tb t op (fun _=>True) K
  | _=>False
 | .c (.v (.slice none 0 0))=>match y with
  | .c (.v (.slice none 0 0))=>opSlNil tb t op (fun b=>b=true) K
  | _=>False
 | .c (.v (.pointer none))=>match y with
  | .c (.v (.pointer none))=>opPtrNil tb t op true K
  | .ptr .. =>opPtrNil tb t op false K
  | .sp .. =>opPtrNil tb t op false K
  | _=>False
 | _=>False
def opUn (op:UnOp) (x:AV) (K:AV→Prop):Prop :=
 match op,x with
 | .not,.c (.v (.bool b))=>K (boolA (!b))
 | .neg,.c (.v (.int k n))=>K (intA k (k.wrap (0-n)))
 | .xor,.c (.v (.int k n))=>K (intA k (bitsI .xor k (if k.signed then -1 else k.max) n))
 | _,_=>False
def byteC:List C→UInt8
 | [.v (.int _ n)]=>UInt8.ofNat n.toNat
 | _=>0
def bytesOf (n:Nat) (f:Nat→List C):ByteArray:=⟨((List.range n).map fun i=>byteC (f i)).toArray⟩
def strCells (s:ByteArray) (i:Nat):List C:=[.v (.int .u8 (((s.data.toList[i]?).getD 0).toNat:Int))]
def isBytes (n:Nat) (f:Nat→List C):Prop:=∀ i,i<n→∃ x:UInt8,f i=[.v (.int .u8 (x.toNat:Int))]
def opConv (tb:TB) (ch:Prop→Prop) (L:List AO) (src dst:TypeId) (x:AV) (K:AV→Prop):Prop :=
 match (tb src).k.isOther with
 | true=>False
 | false=>match (tb dst).k with
 | .int k=>match x with
  | .c (.v (.int _ n))=>K (intA k (k.wrap n))
  | _=>False
 | .str=>match x with
  | .c (.v (.string s))=>K (.c (.v (.string s)))
  | .c (.sl _ e n f)=>match (tb src).k with
   | .slice b=>match (tb b).k with
    | .int .u8=>match Nat.beq e 1 with
     | true=>ch (isBytes n f)∧K (.c (.v (.string (bytesOf n f))))
     | false=>False
    | _=>False
   | _=>False
  | .own id e off len=>match (tb src).k with
   | .slice b=>match (tb b).k with
    | .int .u8=>match Nat.beq e 1 with
     | true=>match viewO L id e off len with
      | some (.sl _ _ n f,_)=>ch (isBytes n f)∧K (.c (.v (.string (bytesOf n f))))
      | _=>False
     | false=>False
    | _=>False
   | _=>False
  | _=>False
 | .slice b=>match (tb b).k with
  | .int .u8=>match x with
   | .c (.v (.string s))=>match (tb src).k with
    | .str=>ch (s.size≤140737488355328)∧K (.c (.sl false 1 s.size (strCells s)))
    | _=>False
   | _=>False
  | _=>False
 | _=>False
def fieldAt:List (Nat×Nat)→Nat→Option (Nat×Nat)
 | [],_=>none
 | x::_,0=>some x
 | _::r,n+1=>fieldAt r n
def opFieldAddr (tb:TB) (t:TypeId) (x:AV) (i:Nat) (K:AV→Prop):Prop :=
 match (tb t).k with
 | .struct fs=>match fieldAt fs i with
  | none=>False
  | some (o,ty)=>match Nat.beq (tb ty).sz 0 with
   | true=>False
   | false=>match (tb ty).k.isOther with
    | true=>False
    | false=>match x with
     | .ptr id off=>K (.ptr id (off+o))
     | .pe id esz j k=>K (.pe id esz j (k+o))
     | .sp g xs k=>K (.sp g xs (k+o))
     | _=>False
 | _=>False
def cut {α:Type}:List α→Nat→Nat→Option (List α)
 | _,0,0=>some []
 | [],0,_+1=>none
 | x::r,0,n+1=>match cut r 0 n with
  | some ys=>some (x::ys)
  | none=>none
 | [],_+1,_=>none
 | _::r,k+1,n=>cut r k n
def cutC (agg:Bool) (xs:List C) (k n:Nat) (K:AV→Prop):Prop:=match cut xs k n with
 | some ys=>K (mkC agg ys)
 | none=>False
def cutA (agg:Bool) (xs:List AV) (k n:Nat) (K:AV→Prop):Prop:=match cut xs k n with
 | some ys=>K (mkA agg ys)
 | none=>False
def opField (tb:TB) (t:TypeId) (x:AV) (i:Nat) (K:AV→Prop):Prop :=
 match (tb t).k with
 | .struct fs=>match fieldAt fs i with
  | none=>False
  | some (o,ty)=>match (tb ty).k.isOther with
   | true=>False
   | false=>match x with
    | .ag xs=>cutC (tb ty).k.agg xs o (tb ty).sz K
    | .agx xs=>cutA (tb ty).k.agg xs o (tb ty).sz K
    | _=>False
 | _=>False
def opLoad (tb:TB) (L:List AO) (t:TypeId) (x:AV) (K:AV→Prop):Prop :=
 match (tb t).k with
 | .other=>False
 | _=>match x with
  | .sp _ xs k=>cutC (tb t).k.agg xs k (tb t).sz K
  | .ptr id off=>match getO L id with
   | .box ys=>cutA (tb t).k.agg ys off (tb t).sz K
   | _=>False
  | .pe id esz i k=>match getO L id with
   | .row e _ f=>match Nat.beq e esz with
    | true=>cutC (tb t).k.agg (f i) k (tb t).sz K
    | false=>False
   | .frz e _ f=>match Nat.beq e esz with
    | true=>cutC (tb t).k.agg (f i) k (tb t).sz K
    | false=>False
   | .box ys=>cutA (tb t).k.agg ys (i*esz+k) (tb t).sz K
   | _=>False
  | _=>False
def opIndexAddr (tb:TB) (ch:Prop→Prop) (t:TypeId) (x i:AV) (K:AV→Prop):Prop :=
 match i with
 | .c (.v (.int _ z))=>match (tb t).k with
  | .slice e=>match (tb e).k.isOther with
   | true=>False
   | false=>match x with
    | .c (.sl g esz n f)=>match Nat.beq esz (tb e).sz with
     | true=>ch (0≤z∧z<(n:Int))∧K (.sp g (f z.toNat) 0)
     | false=>False
    | .own id esz off len=>match Nat.beq esz (tb e).sz with
     | true=>ch (0≤z∧z<(len:Int))∧K (.pe id esz (off+z.toNat) 0)
     | false=>False
    | _=>False
  | .array n e=>match (tb e).k.isOther with
   | true=>False
   | false=>match x with
    | .ptr id off=>ch (0≤z∧z<(n:Int))∧K (.ptr id (off+z.toNat*(tb e).sz))
    | .sp g xs k=>ch (0≤z∧z<(n:Int))∧K (.sp g xs (k+z.toNat*(tb e).sz))
    | _=>False
  | _=>False
 | _=>False
def opIndex (tb:TB) (ch:Prop→Prop) (t:TypeId) (x i:AV) (K:AV→Prop):Prop :=
 match i with
 | .c (.v (.int _ z))=>match (tb t).k with
  | .str=>match x with
   | .c (.v (.string s))=>ch (0≤z∧z<(s.size:Int))∧K (.c (.v (.int .u8 (((s.data.toList[z.toNat]?).getD 0).toNat:Int))))
   | _=>False
  | .array n e=>match (tb e).k.isOther with
   | true=>False
   | false=>match x with
    | .ag xs=>ch (0≤z∧z<(n:Int))∧cutC (tb e).k.agg xs (z.toNat*(tb e).sz) (tb e).sz K
    | _=>False
  | _=>False
 | _=>False
def lenK (x:AV) (K:Nat→Prop):Prop :=
 match x with
 | .c (.sl _ _ n _)=>K n
 | .c .emp=>K 0
 | .c (.v (.slice none 0 0))=>K 0
 | .own _ _ _ len=>K len
 | _=>False
def opLen (tb:TB) (t:TypeId) (x:AV) (K:AV→Prop):Prop :=
 match (tb t).k with
 | .array n _=>K (intA .i64 n)
 | .slice _=>lenK x fun n=>K (intA .i64 n)
 | .str=>match x with
  | .c (.v (.string s))=>K (intA .i64 s.size)
  | _=>False
 | _=>False
def boundK (ch:Prop→Prop) (x:Option AV) (dflt most:Nat) (K:Nat→Prop):Prop :=
 match x with
 | none=>K dflt
 | some (.c (.v (.int _ z)))=>ch (0≤z∧z≤(most:Int))∧K z.toNat
 | _=>False
def mostO (L:List AO) (id off len:Nat):Nat:=match getO L id with
 | .row _ n _=>max len (min (n-off) 140737488355328)
 | .frz _ n _=>max len (min (n-off) 140737488355328)
 | _=>len
def lenA:List AV→Nat
 | []=>0
 | _::r=>lenA r+1
def opSlice (tb:TB) (ch:Prop→Prop) (L:List AO) (t:TypeId) (x:AV) (lo hi mx:Option AV) (K:AV→Prop):Prop :=
 match (tb t).k with
 | .array n e=>match mx with
  | none=>match (match (tb e).k.isOther with|true=>false|false=>match Nat.beq (tb e).sz 1 with|true=>Nat.ble n 140737488355328|false=>false) with
   | false=>False
   | true=>match x with
    | .ptr id 0=>match getO L id with
     | .box ys=>match Nat.beq (lenA ys) n with
      | true=>boundK ch hi n n fun h=>boundK ch lo 0 h fun l=>K (.own id 1 l (h-l))
      | false=>False
     | _=>False
    | .sp g xs k=>match Nat.ble (k+n) xs.length with
     | true=>boundK ch hi n n fun h=>boundK ch lo 0 h fun l=>K (.c (.sl g 1 (h-l) (fun i=>[nthCC xs (k+(l+i))])))
     | false=>False
    | _=>False
  | some _=>False
 | .str=>match mx with
  | none=>match x with
   | .c (.v (.string s))=>boundK ch hi s.size s.size fun h=>boundK ch lo 0 h fun l=>K (.c (.v (.string (s.extract l h))))
   | _=>False
  | _=>False
 | .slice e=>match (tb e).k.isOther with
  | true=>False
  | false=>match mx with
   | none=>match x with
    | .c (.sl g esz n f)=>match Nat.beq esz (tb e).sz with
     | true=>boundK ch hi n n fun h=>boundK ch lo 0 h fun l=>K (.c (.sl g esz (h-l) (fun i=>f (l+i))))
     | false=>False
    | .own id esz off len=>match Nat.beq esz (tb e).sz with
     | true=>boundK ch hi len (mostO L id off len) fun h=>boundK ch lo 0 h fun l=>K (.own id esz (off+l) (h-l))
     | false=>False
    | .c (.v (.slice none 0 0))=>boundK ch hi 0 0 fun h=>boundK ch lo 0 h fun _=>K (.c (.v (.slice none 0 0)))
    | _=>False
   | some (.c (.v (.int _ 0)))=>match hi with
    | some (.c (.v (.int _ 0)))=>match lo with
     | none=>match x with
      | .c (.sl ..)=>K (.c .emp)
      | .c .emp=>K (.c .emp)
      | .own .. =>K (.c .emp)
      | .c (.v (.slice none 0 0))=>K (.c (.v (.slice none 0 0)))
      | _=>False
     | _=>False
    | _=>False
   | _=>False
 | _=>False
def nthA:List AV→Nat→AV
 | [],_=> .any
 | x::_,0=>x
 | _::r,n+1=>nthA r n
def opExtract (x:AV) (i:Nat) (K:AV→Prop):Prop :=
 match x with
 | .tup xs=>match Nat.blt i xs.length with
  | true=>K (nthA xs i)
  | false=>False
 | _=>False
def opNil (x:AV) (K:AV→Prop):Prop :=
 match x with
 | .ptr id off=>K (.ptr id off)
 | .pe id e i k=>K (.pe id e i k)
 | .sp g xs k=>K (.sp g xs k)
 | .fn f [] []=>K (.fn f [] [])
 | _=>False
def layA:List AV→Nat→List AV→Option (List AV)
 | ys,0,[]=>some ys
 | y::r,0,x::xs=>match layA r 0 xs with
  | some z=>some (x::z)
  | none=>none
 | y::r,n+1,xs=>match layA r n xs with
  | some z=>some (y::z)
  | none=>none
 | [],0,_::_=>none
 | [],_+1,_=>none
def fillA (place:Nat→Option (Nat×Nat)) (ys:List AV):List (Nat×AV)→Option (List AV)
 | []=>some ys
 | (i,x)::r=>match place i with
  | none=>none
  | some (o,n)=>match cellsA x with
   | none=>none
   | some xs=>match Nat.beq xs.length n with
    | false=>none
    | true=>match layA ys o xs with
     | none=>none
     | some zs=>fillA place zs r
def mkAgg (ys:List AV):AV:=match toCs ys with
 | some xs=> .ag xs
 | none=> .agx ys
def placeS (tb:TB) (fs:List (Nat×Nat)) (i:Nat):Option (Nat×Nat):=match fieldAt fs i with
 | some (o,ty)=>match (tb ty).k.isOther with
  | true=>none
  | false=>some (o,(tb ty).sz)
 | none=>none
def opBuild (tb:TB) (t:TypeId) (parts:List (Nat×AV)) (K:AV→Prop):Prop :=
 match (tb t).k with
 | .struct fs=>match fillA (placeS tb fs) ((tb t).zero.map fun v=> .c (.v v)) parts with
  | some ys=>K (mkAgg ys)
  | none=>False
 | .array _ e=>match (tb e).k.isOther with
  | true=>False
  | false=>match fillA (fun i=>some (i*(tb e).sz,(tb e).sz)) ((tb t).zero.map fun v=> .c (.v v)) parts with
   | some ys=>K (mkAgg ys)
   | none=>False
 | _=>False
def rowsC:List AV→Option (List (List C))
 | []=>some []
 | x::r=>match x with
  | .c y=>match rowsC r with
   | some l=>some ([y]::l)
   | none=>none
  | .ag ys=>match rowsC r with
   | some l=>some (ys::l)
   | none=>none
  | _=>none
def inTurn:List (Nat×AV)→Nat→Option (List AV)
 | [],_=>some []
 | (i,x)::r,n=>match Nat.beq i n with
  | true=>match inTurn r (n+1) with
   | some l=>some (x::l)
   | none=>none
  | false=>none
def allLen (n:Nat):List (List C)→Bool
 | []=>true
 | x::r=>match Nat.beq x.length n with|true=>allLen n r|false=>false
def nthC (l:List (List C)) (i:Nat):List C:=l.getD i []
def opBuildSlice (tb:TB) (t:TypeId) (len:Nat) (parts:List (Nat×AV)) (K:AV→Prop):Prop :=
 match (tb t).k with
 | .slice e=>match (tb e).k.isOther with
  | true=>False
  | false=>match Nat.ble (len*((tb e).sz+1)) 16777216 with
   | false=>False
   | true=>match inTurn parts 0 with
    | none=>False
    | some xs=>match Nat.beq xs.length len with
     | false=>False
     | true=>match rowsC xs with
      | none=>False
      | some l=>match allLen (tb e).sz l with
       | true=>K (match len with|0=> .c .emp|_=> .c (.sl false (tb e).sz len (nthC l)))
       | false=>False
 | _=>False
def frzV (L:List AO) (x:AV):AV:=match x with
 | .own id esz off len=>match getO L id with
  | .frz e _ f=>match Nat.beq e esz with
   | true=> .c (.sl false esz len (fun i=>f (off+i)))
   | false=>x
  | _=>x
 | x=>x
def opCall (P:Program) (gl:Gl) (ch:Prop→Prop) (L:List AO) (f:AV) (args:List AV) (K:AV→Prop):Prop :=
 match f with
 | .fn f first cap=>match toArgs L (first++args++cap) with
  | none=>False
  | some (xs,false)=>∃ r,ch (ACall P gl f xs [] r)∧K r
  | some (xs,true)=>∃ r,ch (ACall P gl f xs [] r)∧NoTag r∧K r
 | _=>False
def opMinMax (big:Bool):List AV→(AV→Prop)→Prop
 | [.c (.v (.int k a)),.c (.v (.int k' b))],K=>match Nat.beq (kindNo k) (kindNo k') with
  | true=>match big with
   | true=>K (intA k (if b>a then b else a))
   | false=>K (intA k (if b<a then b else a))
  | false=>False
 | _,_=>False
def opPick (gl:Gl) (env:Env) (key:Key) (c a b:Operand) (K:AV→Prop):Prop :=
 match evO gl env key .no c with
 | .c (.v (.bool q))=>match c with
  | .tmp t=>match a with
   | .const (.bool true)=>match evO gl env key (.at t false) b with
    | .c (.v (.bool y))=>K (boolA (q||y))
    | _=>match q with
     | true=>K (boolA true)
     | false=>False
   | a=>match b with
    | .const (.bool false)=>match evO gl env key (.at t true) a with
     | .c (.v (.bool x))=>K (boolA (q&&x))
     | _=>match q with
      | true=>False
      | false=>K (boolA false)
    | _=>False
  | _=>False
 | _=>False
def scVs:List C→Option (List Value)
 | []=>some []
 | .v x::r=>match scVs r with|some vs=>some (x::vs)|none=>none
 | _::_=>none
def keyV:AV→Option Value
 | .c (.v (.string s))=>some (.string s)
 | .c (.v (.int k n))=>some (.int k n)
 | .c (.v (.bool b))=>some (.bool b)
 | .ag xs=>match scVs xs with|some vs=>some (.agg ⟨vs⟩)|none=>none
 | _=>none
structure KeyS (P:Program) (t:TypeId) (sh:List Nat):Prop where
 wide:(match P.underlying t with|some (.array _ _)|some (.struct _)=>true|_=>false)=true
 known:∃ d,P.underlying t=some d
 sc:∀ c ∈ sh,c≠10
 check:∀ (em:Bool) (xs:Array Value) (w:World),xs.toList.map shV=sh→(Instr.checkKey em 10000 t (.agg xs)).run P w= .ok () w
 eq:∀ (xs ys:Array Value) (q:Bool),xs.toList.map shV=sh→ys.toList.map shV=sh→eqVs xs.toList ys.toList=some q→∀ w,(Op.equal t (.agg xs) (.agg ys)).run P w= .ok q w
def kOk:TK→Value→Bool
 | .str,.string _=>true
 | .int k,.int k' _=>Nat.beq (kindNo k) (kindNo k')
 | .bool,.bool _=>true
 | _,_=>false
def keqV:Value→Value→Bool
 | .int _ a,.int _ b=>a==b
 | .string a,.string b=>a==b
 | .bool a,.bool b=>a==b
 | .agg a,.agg b=>match eqVs a.toList b.toList with|some q=>q|none=>false
 | _,_=>false
def mFind (k:Value):List (Value×AV)→Option AV
 | []=>none
 | p::r=>match keqV k p.1 with
  | true=>some p.2
  | false=>mFind k r
def mOk (t:TK):List (Value×AV)→Bool
 | []=>true
 | p::r=>match kOk t p.1 with
  | true=>mOk t r
  | false=>false
def mOkS (sh:List Nat):List (Value×AV)→Bool
 | []=>true
 | p::r=>match p.1 with
  | .agg b=>match beqNs (b.toList.map shV) sh with
   | true=>mOkS sh r
   | false=>false
  | _=>false
def kOkP (P:Program) (tb:TB) (kt:TypeId) (kv:Value):Prop:=match kv with
 | .agg a=>KeyS P kt (a.toList.map shV)
 | kv=>kOk (tb kt).k kv=true
def mOkP (tb:TB) (kt:TypeId) (kv:Value) (m:List (Value×AV)):Prop:=match kv with
 | .agg a=>mOkS (a.toList.map shV) m=true
 | _=>mOk (tb kt).k m=true
def mPut (k:Value) (y:AV):List (Value×AV)→List (Value×AV)
 | []=>[(k,y)]
 | p::r=>match keqV k p.1 with
  | true=>(k,y)::r
  | false=>p::mPut k y r
def mDel (k:Value):List (Value×AV)→List (Value×AV)
 | []=>[]
 | p::r=>match keqV k p.1 with
  | true=>r
  | false=>p::mDel k r
def MFind (k:Value) (z:AV) (m:List (Value×AV)) (q:AV×Bool):Prop:=match mFind k m with
 | some y=>Le 0 y q.1∧q.2=true
 | none=>Le 0 z q.1∧q.2=false
def ZeroIs (P:Program) (t:TypeId) (z:Value):Prop:=∃ i,P.info? t=some i∧i.zero=some z
def consC:List Value→List C
 | []=>[]
 | v::r=> .v v::consC r
def opLookup (P:Program) (tb:TB) (L:List AO) (t:TypeId) (x k:AV) (ok:Bool) (K:AV→Prop):Prop :=
 let K':AV×Bool→Prop:=fun q=>match q with
  | (y,b)=>match ok with
   | true=>K (.tup [y,boolA b])
   | false=>K y
 match (tb t).k with
 | .map kt et=>match x with
  | .mpv id=>match getO L id with
   | .mp m=>match keyV k with
    | some kv=>kOkP P tb kt kv∧mOkP tb kt kv m∧match (tb et).k.isOther with
     | true=>False
     | false=>match (tb et).k.agg with
      | true=>∃ q,MFind kv (.ag (consC (tb et).zero)) m q∧K' q
      | false=>match (tb et).zero with
       | [v]=>ZeroIs P et v∧∃ q,MFind kv (.c (.v v)) m q∧K' q
       | _=>False
    | none=>False
   | _=>False
  | _=>False
 | _=>False
def opCapNil (tb:TB) (t:TypeId) (x:AV) (K:AV→Prop):Prop:=match (tb t).k with
 | .slice _=>match x with
  | .c (.v (.slice none 0 0))=>K (intA .i64 0)
  | _=>False
 | _=>False
def opPure (P:Program) (tb:TB) (gl:Gl) (env:Env) (key:Key) (L:List AO) (o:Op) (K:AV→Prop):Prop :=
 let ev:Operand→AV:=evO gl env key .no
 let ch:Prop→Prop:=chain env 20 key
 match o with
 | .move x=>K (ev x)
 | .assign x=>K (ev x)
 | .pick c a b=>opPick gl env key c a b K
 | .load t x=>opLoad tb L t (ev x) K
 | .nilCheck x=>opNil (ev x) K
 | .binOp op t x y _=>opBin P tb ch op t (ev x) (ev y) K
 | .unOp op _ x=>opUn op (ev x) K
 | .convert s d x=>opConv tb ch L s d (ev x) K
 | .slice t x lo hi mx=>opSlice tb ch L t (ev x) (lo.map ev) (hi.map ev) (mx.map ev) K
 | .fieldAddr t x i=>opFieldAddr tb t (ev x) i K
 | .field t x i=>opField tb t (ev x) i K
 | .indexAddr t x i=>opIndexAddr tb ch t (ev x) (ev i) K
 | .index t x i=>opIndex tb ch t (ev x) (ev i) K
 | .extract x i=>opExtract (ev x) i K
 | .build t ps=>opBuild tb t (ps.toList.map fun p=>(p.1,ev p.2)) K
 | .buildSlice t n ps=>opBuildSlice tb t n (ps.toList.map fun p=>(p.1,frzV L (ev p.2))) K
 | .makeFunc fn fs cs=>match fn with
  | .func f=>K (.fn f (fs.toList.map ev) (cs.toList.map ev))
  | _=>False
 | .lookup t x k ok=>opLookup P tb L t (ev x) (ev k) ok K
 | .call c=>match c.callee with
  | .value f=>opCall P gl ch L (ev f) (c.args.toList.map ev) K
  | .builtin b=>match b with
   | .len=>match c.args.toList with
    | [x]=>match c.argTypes.toList with
     | [t]=>opLen tb t (ev x) K
     | _=>False
    | _=>False
   | .cap=>match c.args.toList with
    | [x]=>match c.argTypes.toList with
     | [t]=>opCapNil tb t (ev x) K
     | _=>False
    | _=>False
   | .max=>opMinMax true (c.args.toList.map ev) K
   | .min=>opMinMax false (c.args.toList.map ev) K
   | _=>False
  | _=>False
 | _=>False
mutual
def AV.free (id:Nat):AV→Bool
 | .own i .. =>match Nat.beq i id with|true=>false|false=>true
 | .pe i .. =>match Nat.beq i id with|true=>false|false=>true
 | .ptr i _=>match Nat.beq i id with|true=>false|false=>true
 | .mpv i=>match Nat.beq i id with|true=>false|false=>true
 | .agx xs=>AV.frees id xs
 | .tup xs=>AV.frees id xs
 | .fn _ xs ys=>match AV.frees id xs with|true=>AV.frees id ys|false=>false
 | .gd .. =>false
 | _=>true
def AV.frees (id:Nat):List AV→Bool
 | []=>true
 | x::xs=>match AV.free id x with|true=>AV.frees id xs|false=>false
end
def AV.purge (id:Nat):AV→AV
 | .own i e o l=>match Nat.beq i id with|true=> .any|false=> .own i e o l
 | .pe i e j k=>match Nat.beq i id with|true=> .any|false=> .pe i e j k
 | .ptr i o=>match Nat.beq i id with|true=> .any|false=> .ptr i o
 | .mpv i=>match Nat.beq i id with|true=> .any|false=> .mpv i
 | .agx xs=>match AV.frees id xs with|true=> .agx xs|false=> .any
 | .tup xs=>match AV.frees id xs with|true=> .tup xs|false=> .any
 | .fn f xs ys=>match AV.frees id xs with|true=>(match AV.frees id ys with|true=> .fn f xs ys|false=> .any)|false=> .any
 | .gd .. => .any
 | x=>x
theorem AV.purge_eq (id:Nat)(x:AV):x.purge id=match x.free id with|true=>x|false=> .any:=by
 cases x<;>simp only [AV.purge,AV.free]
 all_goals first
  | rfl
  | (cases Nat.beq _ _<;>rfl)
  | (cases AV.frees _ _<;>rfl)
  | (rename_i xs ys; cases AV.frees id xs<;>cases AV.frees id ys<;>rfl)
def purgeE (id:Nat):Env→Env
 | []=>[]
 | (s,.gd t w x)::r=>(s,.gd t w (x.purge id))::purgeE id r
 | (s,x)::r=>(s,x.purge id)::purgeE id r
def purgeL (id:Nat):List AO→List AO
 | []=>[]
 | .box xs::r=> .box (xs.map (AV.purge id))::purgeL id r
 | .amb vs xs::r=> .amb vs (xs.map (AV.purge id))::purgeL id r
 | x::r=>x::purgeL id r
def catF (off len:Nat) (f g:Nat→List C) (i:Nat):List C:=if i<len then f (off+i) else g (i-len)
def srcK (L:List AO) (y:AV) (esz:Nat) (K:Nat→(Nat→List C)→Prop):Prop :=
 match y with
 | .c (.sl _ e m g)=>match Nat.beq e esz with
  | true=>K m g
  | false=>False
 | .own id e off len=>match viewO L id e off len with
  | some (.sl _ e' m g,_)=>match Nat.beq e' esz with
   | true=>K m g
   | false=>False
  | _=>False
 | .c .emp=>K 0 fun _=>[]
 | .c (.v (.slice none 0 0))=>K 0 fun _=>[]
 | .c (.v (.string s))=>match Nat.beq esz 1 with
  | true=>K s.size (strCells s)
  | false=>False
 | _=>False
def TK.seq:TK→Bool
 | .slice _=>true
 | .str=>true
 | _=>false
def appK:List AO→AO→Nat→(Nat→List AO→Prop)→Prop
 | [],x,n,K=>K n [x]
 | y::r,x,n,K=>appK r x (n+1) fun id L=>K id (y::L)
theorem appK_eq:∀ (L:List AO) (x:AO) (n:Nat) (K:Nat→List AO→Prop),appK L x n K=K (n+L.length) (L++[x])
 | [],x,n,K=>rfl
 | y::r,x,n,K=>by
  simp only [appK]
  rw [appK_eq r x (n+1)]
  simp only [List.length_cons,List.cons_append]
  rw [show n+1+r.length=n+(r.length+1) from by omega]
theorem appK0 (L:List AO)(x:AO)(K:Nat→List AO→Prop):appK L x 0 K=K L.length (L++[x]):=by rw [appK_eq,Nat.zero_add]
def boxC:List Value→List AV
 | []=>[]
 | v::r=> .c (.v v)::boxC r
theorem boxC_eq:∀ (l:List Value),boxC l=l.map fun v=> .c (.v v)
 | []=>rfl
 | v::r=>by simp [boxC,boxC_eq r]
def zeroC:List Value→List C
 | []=>[]
 | v::r=> .v v::zeroC r
def opAppendZ (tb:TB) (env:Env) (L:List AO) (e:TypeId) (x y:AV) (K:AV→Env→List AO→Prop):Prop:=match x with
 | .c (.v (.slice none 0 0))=>match y with
  | .c (.v (.int _ n))=>(0<n∧n≤140737488355328∧n*((tb e).bytes:Int)≤140737488355328) ∧
    appK L (.row (tb e).sz n.toNat (fun _=>zeroC (tb e).zero)) 0 fun id L=>K (.own id (tb e).sz 0 n.toNat) env L
  | _=>False
 | _=>False
def opAppend (tb:TB) (ro:Nat) (env:Env) (L:List AO) (t t2:TypeId) (x y:AV) (K:AV→Env→List AO→Prop):Prop :=
 match (tb t).k with
 | .slice e=>match (tb e).k.isOther with
  | true=>False
  | false=>match (tb t2).k.seq with
  | false=>match (tb t2).k with
   | .int _=>opAppendZ tb env L e x y K
   | _=>False
  | true=>match Nat.ble 1 (tb e).bytes with
  | false=>False
  | true=>srcK L y (tb e).sz fun m g=>match x with
   | .own id esz off len=>match Nat.beq esz (tb e).sz with
    | true=>match getO L id with
     | .row e2 _ f=>match (match Nat.beq e2 esz with|true=>Nat.ble ro id|false=>false) with
      | true=>((len+m)*(tb e).bytes≤140737488355328) ∧
        K (.own id esz 0 (len+m)) (purgeE id env) (purgeL id (setO L id (.row esz (len+m) (catF off len f g))))
      | false=>False
     | _=>False
    | false=>False
   | .c .emp=>(m*(tb e).bytes≤140737488355328)∧appK L (.row (tb e).sz m g) 0 fun id L=>K (.own id (tb e).sz 0 m) env L
   | .c (.v (.slice none 0 0))=>(m*(tb e).bytes≤140737488355328)∧appK L (.row (tb e).sz m g) 0 fun id L=>K (.own id (tb e).sz 0 m) env L
   | _=>False
 | _=>False
def layC:List C→Nat→List C→Option (List C)
 | ys,0,[]=>some ys
 | y::r,0,x::xs=>match layC r 0 xs with
  | some z=>some (x::z)
  | none=>none
 | y::r,n+1,xs=>match layC r n xs with
  | some z=>some (y::z)
  | none=>none
 | [],0,_::_=>none
 | [],_+1,_=>none
def updF (f:Nat→List C) (i:Nat) (x:List C) (j:Nat):List C:=if j=i then x else f j
def opStore (tb:TB) (ro:Nat) (L:List AO) (t:TypeId) (p x:AV) (K:List AO→Prop):Prop :=
 match (tb t).k with
 | .other=>False
 | _=>match cellsA x with
  | none=>False
  | some xs=>match Nat.beq xs.length (tb t).sz with
   | false=>False
   | true=>match p with
    | .ptr id off=>match getO L id with
     | .box ys=>match Nat.ble ro id with
      | false=>False
      | true=>match layA ys off xs with
       | some zs=>K (setO L id (.box zs))
       | none=>False
     | _=>False
    | .pe id esz i k=>match getO L id with
     | .row e n f=>match (match Nat.beq e esz with|true=>Nat.ble ro id|false=>false) with
      | true=>match toCs xs with
       | some cs=>match Nat.ble (k+(tb t).sz) esz with
        | true=>K (setO L id (.row e n (updF f i ((f i).take k++cs++(f i).drop (k+(tb t).sz)))))
        | false=>False
       | none=>False
      | false=>False
     | .box ys=>match Nat.ble ro id with
      | false=>False
      | true=>match layA ys (i*esz+k) xs with
       | some zs=>K (setO L id (.box zs))
       | none=>False
     | _=>False
    | _=>False
def flatF (g:Nat→List C):Nat→Nat→List AV
 | 0,_=>[]
 | n+1,i=>appA (g i) (flatF g n (i+1))
where appA:List C→List AV→List AV
 | [],r=>r
 | x::xs,r=> .c x::appA xs r
def putF (off m:Nat) (f g:Nat→List C) (j:Nat):List C:=if off≤j∧j<off+m then g (j-off) else f j
inductive MinOr (m len:Nat) (F:Nat→Prop):Prop
 | l (h:m≤len∧F m):MinOr m len F
 | r (h:len≤m∧F len):MinOr m len F
theorem MinOr.get {m len:Nat}{F:Nat→Prop}(h:MinOr m len F):∃ k,k≤m∧k≤len∧m.min len=k∧F k:=by
 rcases h with ⟨h,hF⟩|⟨h,hF⟩
 ·exact ⟨m,Nat.le_refl _,h,Nat.min_eq_left h,hF⟩
 ·exact ⟨len,h,Nat.le_refl _,Nat.min_eq_right h,hF⟩
def opCopy (tb:TB) (ro:Nat) (L:List AO) (t:TypeId) (x y:AV) (K:Nat→List AO→Prop):Prop :=
 match (tb t).k with
 | .slice e=>match (tb e).k.isOther with
  | true=>False
  | false=>srcK L y (tb e).sz fun m g=>match x with
   | .own id esz off len=>match (match Nat.beq esz (tb e).sz with|true=>Nat.ble ro id|false=>false) with
    | false=>False
    | true=>MinOr m len fun m=>match getO L id with
     | .row e2 n f=>match Nat.beq e2 esz with
      | true=>K m (setO L id (.row e2 n (putF off m f g)))
      | false=>False
     | .box ys=>match layA ys (off*esz) (flatF g m 0) with
      | some zs=>K m (setO L id (.box zs))
      | none=>False
     | _=>False
   | _=>False
 | _=>False
def frzK (ro:Nat) (L:List AO) (x:AV) (K:AV→List AO→Prop):Prop:=match x with
 | .own id esz off len=>match getO L id with
  | .row e n f=>match (match Nat.beq e esz with|true=>Nat.ble ro id|false=>false) with
   | true=>K (.c (.sl false esz len (fun i=>f (off+i)))) (setO L id (.frz e n f))
   | false=>K x L
  | .frz e _ f=>match Nat.beq e esz with
   | true=>K (.c (.sl false esz len (fun i=>f (off+i)))) L
   | false=>K x L
  | .box ys=>match (match Nat.beq 1 esz with|true=>Nat.ble ro id|false=>false) with
   | true=>match toCs ys with
    | some cs=>K (.c (.sl false 1 len (fun i=>[nthCC cs (off+i)]))) (setO L id .dead)
    | none=>K x L
   | false=>K x L
  | _=>K x L
 | x=>K x L
def frzVs (ro:Nat):List AO→List AV→(List AV→List AO→Prop)→Prop
 | L,[],K=>K [] L
 | L,x::r,K=>frzK ro L x fun y L=>frzVs ro L r fun ys L=>K (y::ys) L
def frzA (ro:Nat) (L:List AO) (x:AV) (K:AV→List AO→Prop):Prop:=match x with
 | .agx xs=>frzVs ro L xs fun ys L=>K (mkAgg ys) L
 | x=>frzK ro L x K
def frzPs (ro:Nat):List AO→List (Nat×AV)→(List (Nat×AV)→List AO→Prop)→Prop
 | L,[],K=>K [] L
 | L,(i,x)::r,K=>frzA ro L x fun y L=>frzPs ro L r fun ys L=>K ((i,y)::ys) L
def opMakeSlice (tb:TB) (L:List AO) (t:TypeId) (l c:AV) (K:AV→List AO→Prop):Prop :=
 match (tb t).k with
 | .slice e=>match (tb e).k.isOther with
  | true=>False
  | false=>match l,c with
   | .c (.v (.int _ n)),.c (.v (.int _ m))=>(0≤n∧n≤m∧m≤140737488355328∧m*((tb e).bytes:Int)≤140737488355328) ∧
     appK L (.row (tb e).sz n.toNat (fun _=>zeroC (tb e).zero)) 0 fun id L=>K (.own id (tb e).sz 0 n.toNat) L
   | _,_=>False
 | _=>False
def opMapPut (P:Program) (tb:TB) (ro:Nat) (L:List AO) (t:TypeId) (x k y:AV) (K:List AO→Prop):Prop :=
 match (tb t).k with
 | .map kt _=>match x with
  | .mpv id=>match Nat.ble ro id with
   | false=>False
   | true=>frzA ro L y fun y L=>match y.closed with
    | true=>match getO L id with
     | .mp m=>match keyV k with
      | some kv=>kOkP P tb kt kv∧mOkP tb kt kv m∧K (setO L id (.mp (mPut kv y m)))
      | none=>False
     | _=>False
    | false=>False
  | _=>False
 | _=>False
def opDelete (P:Program) (tb:TB) (ro:Nat) (L:List AO) (t:TypeId) (x k:AV) (K:List AO→Prop):Prop :=
 match (tb t).k with
 | .map kt _=>match x with
  | .mpv id=>match Nat.ble ro id with
   | false=>False
   | true=>match getO L id with
     | .mp m=>match keyV k with
      | some kv=>kOk (tb kt).k kv=true∧mOk (tb kt).k m=true∧K (setO L id (.mp (mDel kv m)))
      | none=>False
     | _=>False
  | _=>False
 | _=>False
inductive OwnOr (A B:Prop):Prop
 | l (a:A):OwnOr A B
 | r (b:B):OwnOr A B
inductive NilOr (A B:Prop):Prop
 | l (a:A):NilOr A B
 | r (b:B):NilOr A B
def opBuildOwn (tb:TB) (L:List AO) (t:TypeId) (len:Nat) (parts:List (Nat×AV)) (K:AV→List AO→Prop):Prop :=
 match (tb t).k with
 | .slice e=>match (tb e).k.isOther with
  | true=>False
  | false=>match Nat.ble (len*((tb e).sz+1)) 16777216 with
   | false=>False
   | true=>match inTurn parts 0 with
    | none=>False
    | some xs=>match Nat.beq xs.length len with
     | false=>False
     | true=>match rowsC xs with
      | none=>False
      | some l=>match allLen (tb e).sz l with
       | true=>appK L (.row (tb e).sz len (nthC l)) 0 fun id L=>K (.own id (tb e).sz 0 len) L
       | false=>False
 | _=>False
def oneCs:List AV→Bool
 | []=>true
 | x::r=>match x with
  | .c _=>oneCs r
  | .ptr .. =>oneCs r
  | .pe .. =>oneCs r
  | .sp .. =>oneCs r
  | .own .. =>oneCs r
  | .mpv _=>oneCs r
  | _=>false
def opBuildBox (tb:TB) (L:List AO) (t:TypeId) (len:Nat) (parts:List (Nat×AV)) (K:AV→List AO→Prop):Prop :=
 match (tb t).k with
 | .slice e=>match (tb e).k.isOther with
  | true=>False
  | false=>match Nat.beq (tb e).sz 1 with
   | false=>False
   | true=>match Nat.ble (len*((tb e).sz+1)) 16777216 with
    | false=>False
    | true=>match inTurn parts 0 with
     | none=>False
     | some xs=>match Nat.beq xs.length len with
      | false=>False
      | true=>match oneCs xs with
       | true=>appK L (.box xs) 0 fun id L=>K (.own id 1 0 len) L
       | false=>False
 | _=>False
def opConvRow (P:Program) (tb:TB) (gl:Gl) (ro:Nat) (env:Env) (L:List AO) (src dst e:TypeId) (x:Operand) (K:AV→Env→List AO→Prop):Prop :=
 match evO gl env .no .no x with
 | .c (.v (.string s))=>OwnOr (opPure P tb gl env .no L (.convert src dst x) fun x=>K x env L) (match (tb e).k with
  | .int .u8=>match (tb src).k with
   | .str=>(s.size≤140737488355328)∧appK L (.row 1 s.size (strCells s)) 0 fun id L=>K (.own id 1 0 s.size) env L
   | _=>False
  | _=>False)
 | .own id esz off len=>match getO L id with
  | .row e2 _ _=>match (match Nat.beq e2 1 with|false=>false|true=>match Nat.beq src dst with|false=>false|true=>match Nat.blt 0 len with|true=>Nat.ble ro id|false=>false) with
   | false=>False
   | true=>match (tb e).k with
    | .int .u8=>K (.own id esz off len) env L
    | _=>False
  | _=>False
 | _=>opPure P tb gl env .no L (.convert src dst x) fun x=>K x env L
def spV (id:Nat) (cs:List C):AV→AV
 | .ptr i off=>match Nat.beq i id with
  | true=> .sp false cs off
  | false=> .ptr i off
 | x=>x
def spEnv (id:Nat) (cs:List C):Env→Env
 | []=>[]
 | (s,x)::r=>(s,spV id cs x)::spEnv id cs r
inductive FzOr (A B:Prop):Prop
 | l (a:A):FzOr A B
 | r (b:B):FzOr A B
def fzK (ro id:Nat) (x:AV) (env:Env) (L:List AO) (K:AV→Env→List AO→Prop):Prop :=
 FzOr (K x env L) (match getO L id with
  | .box ys=>match Nat.ble ro id with
   | true=>match toCs ys with
    | some cs=>K (spV id cs x) (spEnv id cs env) (setO L id .dead)
    | none=>False
   | false=>False
  | _=>False)
def stepE (P:Program) (tb:TB) (gl:Gl) (ro:Nat) (env:Env) (L:List AO) (o:Op) (ty:TypeId) (K:AV→Env→List AO→Prop):Prop :=
 match o with
 | .alloc t=>match (tb t).k.isOther with
  | true=>False
  | false=>appK L (.box (boxC (tb t).zero)) 0 fun id L=>K (.ptr id 0) env L
 | .box t x=>match cellsA (evO gl env .no .no x) with
  | some xs=>match Nat.beq xs.length (tb t).sz with
   | true=>appK L (.box xs) 0 fun id L=>match Nat.ble 20 (tb t).sz with
    | true=>fzK ro id (.ptr id 0) env L K
    | false=>K (.ptr id 0) env L
   | false=>False
  | none=>False
 | .store t p x=>opStore tb ro L t (evO gl env .no .no p) (evO gl env .no .no x) fun L'=>match Nat.ble 20 (tb t).sz with
  | true=>match evO gl env .no .no p with
   | .ptr id 0=>fzK ro id .any env L' K
   | _=>K .any env L'
  | false=>K .any env L'
 | .assign (.const (.slice none 0 0))=>match (tb ty).k with
  | .slice e=>NilOr (appK L (.row (tb e).sz 0 (fun _=>[])) 0 fun id L=>K (.own id (tb e).sz 0 0) env L)
   (opPure P tb gl env .no L (.assign (.const (.slice none 0 0))) fun x=>K x env L)
  | _=>False
 | .makeSlice t l c=>opMakeSlice tb L t (evO gl env .no .no l) (evO gl env .no .no c) fun x L'=>K x env L'
 | .makeMap t r=>match r with
  | none=>appK L (.mp []) 0 fun id L=>K (.mpv id) env L
  | some _=>False
 | .mapUpdate t m k x=>opMapPut P tb ro L t (evO gl env .no .no m) (evO gl env .no .no k) (evO gl env .no .no x) fun L'=>K .any env L'
 | .call c=>match c.callee with
  | .builtin .append=>match c.args.toList with
   | [x,y]=>match c.argTypes.toList with
    | [t,t2]=>opAppend tb ro env L t t2 (evO gl env .no .no x) (evO gl env .no .no y) K
    | _=>False
   | _=>False
  | .builtin .copy=>match c.args.toList with
   | [x,y]=>match c.argTypes.toList with
    | t::_=>opCopy tb ro L t (evO gl env .no .no x) (evO gl env .no .no y) fun m L'=>K (intA .i64 m) env L'
    | _=>False
   | _=>False
  | .builtin .delete=>match c.args.toList with
   | [x,k]=>match c.argTypes.toList with
    | t::_=>opDelete P tb ro L t (evO gl env .no .no x) (evO gl env .no .no k) fun L'=>K (.tup []) env L'
    | _=>False
   | _=>False
  | .value f=>XCall P gl ro (evO gl env .no .no f) (c.args.toList.map (evO gl env .no .no)) env L K
  | _=>opPure P tb gl env .no L (.call c) fun x=>K x env L
 | .buildSlice t n ps=>OwnOr (OwnOr (frzPs ro L (ps.toList.map fun p=>(p.1,evO gl env .no .no p.2)) fun ps L=>opBuildSlice tb t n ps fun x=>K x env L)
   (opBuildBox tb L t n (ps.toList.map fun p=>(p.1,evO gl env .no .no p.2)) fun x L=>K x env L))
   (frzPs ro L (ps.toList.map fun p=>(p.1,evO gl env .no .no p.2)) fun ps L=>opBuildOwn tb L t n ps fun x L=>K x env L)
 | .convert src dst x=>match (tb dst).k with
  | .slice e=>opConvRow P tb gl ro env L src dst e x K
  | _=>opPure P tb gl env .no L (.convert src dst x) fun x=>K x env L
 | o=>opPure P tb gl env .no L o fun x=>K x env L
def strip:AV→AV
 | .gd .. => .any
 | x=>x
def stripK:AV→(AV→Prop)→Prop
 | .any,K=>K .any
 | .c x,K=>K (.c x)
 | .ag xs,K=>K (.ag xs)
 | .agx xs,K=>K (.agx xs)
 | .ptr id off,K=>K (.ptr id off)
 | .pe id esz i k,K=>K (.pe id esz i k)
 | .sp t xs k,K=>K (.sp t xs k)
 | .own id esz off len,K=>K (.own id esz off len)
 | .tup xs,K=>K (.tup xs)
 | .fn f xs ys,K=>K (.fn f xs ys)
 | .gd ..,K=>K .any
 | .mpv id,K=>K (.mpv id)
 | .ub p,K=>K (.ub p)
theorem stripK_eq (x:AV)(K:AV→Prop):stripK x K=K (strip x):=by cases x<;>rfl
def gdK (s:Nat) (w:Bool):AV→(AV→Prop)→Prop
 | .any,K=>K (.gd s w .any)
 | .c x,K=>K (.gd s w (.c x))
 | .ag xs,K=>K (.gd s w (.ag xs))
 | .agx xs,K=>K (.gd s w (.agx xs))
 | .ptr id off,K=>K (.gd s w (.ptr id off))
 | .pe id esz i k,K=>K (.gd s w (.pe id esz i k))
 | .sp t xs k,K=>K (.gd s w (.sp t xs k))
 | .own id esz off len,K=>K (.gd s w (.own id esz off len))
 | .tup xs,K=>K (.gd s w (.tup xs))
 | .fn f xs ys,K=>K (.gd s w (.fn f xs ys))
 | .gd a b x,K=>K (.gd s w (.gd a b x))
 | .mpv id,K=>K (.gd s w (.mpv id))
 | .ub p,K=>K (.gd s w (.ub p))
theorem gdK_eq (s:Nat)(w:Bool)(x:AV)(K:AV→Prop):gdK s w x K=K (.gd s w x):=by cases x<;>rfl
def forceL:List AO→(List AO→Prop)→Prop
 | [],K=>K []
 | x::r,K=>match x with
  | .box xs=>forceL r fun r=>K (.box xs::r)
  | .row e n f=>forceL r fun r=>K (.row e n f::r)
  | .frz e n f=>forceL r fun r=>K (.frz e n f::r)
  | .mp m=>forceL r fun r=>K (.mp m::r)
  | .amb vs xs=>forceL r fun r=>K (.amb vs xs::r)
  | .dead=>forceL r fun r=>K (.dead::r)
theorem forceL_eq:∀ (L:List AO) (K:List AO→Prop),forceL L K=K L
 | [],_=>rfl
 | x::r,K=>by cases x<;>simp only [forceL]<;>rw [forceL_eq r]
def putE (d:Option Nat) (x:AV) (env:Env):Env:=match d with
 | none=>env
 | some d=>(d,x)::env
def memN (d:Nat):List Nat→Bool
 | []=>false
 | x::r=>match Nat.beq x d with|true=>true|false=>memN d r
def dstOk (d:Option Nat) (seen:List Nat):Bool:=match d with
 | none=>true
 | some d=>match memN d seen with|true=>false|false=>true
def addD (d:Option Nat) (seen:List Nat):List Nat:=match d with
 | none=>seen
 | some d=>d::seen
def dstOf:List Oper→Nat→Option Nat
 | [],_=>none
 | o::_,0=>o.dst
 | _::r,n+1=>dstOf r n
inductive GOr (A B:Prop):Prop
 | l (a:A):GOr A B
 | r (b:B):GOr A B
def isCallV:Op→Bool
 | .call c=>match c.callee with
  | .value _=>true
  | _=>false
 | _=>false
def openE (s:Nat) (w:Bool):Env→Env
 | []=>[]
 | (t,x)::r=>match x with
  | .gd s' w' y=>match Nat.beq s s'&&(w==w') with
   | true=>(t,strip y)::openE s w r
   | false=>(t,.gd s' w' y)::openE s w r
  | x=>(t,x)::openE s w r
def seqOps (P:Program) (tb:TB) (gl:Gl) (ro:Nat) (all:List Oper):List Oper→List Nat→Env→List AO→(Env→List AO→Prop)→Prop
 | [],_,env,L,K=>K env L
 | o::r,seen,env,L,K=>match dstOk o.dst seen with
  | false=>False
  | true=>match o.guard with
   | none=>stepE P tb gl ro env L o.op o.type fun x env' L'=>stripK x fun x=>seqOps P tb gl ro all r (addD o.dst seen) (putE o.dst x env') L' K
   | some (g,w)=>match dstOf all g with
    | none=>False
    | some s=>match memN s seen with
     | false=>False
     | true=>match isCallV o.op with
      | false=>opPure P tb gl env (.at s w) L o.op fun x=>gdK s w x fun x=>seqOps P tb gl ro all r (addD o.dst seen) (putE o.dst x env) L K
      | true=>GOr (opPure P tb gl env (.at s w) L o.op fun x=>gdK s w x fun x=>seqOps P tb gl ro all r (addD o.dst seen) (putE o.dst x env) L K)
       (match get env s with
       | .c (.v (.bool b))=>(b=w→stepE P tb gl ro (openE s w env) L o.op o.type fun x env' L'=>stripK x fun x=>seqOps P tb gl ro all r (addD o.dst seen) (putE o.dst x env') L' K) ∧
         (b= !w→seqOps P tb gl ro all r (addD o.dst seen) (putE o.dst .any env) L K)
       | _=>False)
def pureOp:Op→Bool
 | .move _| .assign _| .pick .. | .load .. | .nilCheck _| .binOp .. | .unOp .. | .convert .. | .slice .. | .fieldAddr .. | .field .. | .indexAddr .. | .index ..
 | .extract .. | .build .. | .buildSlice .. | .makeFunc .. | .lookup .. =>true
 | .call c=>match c.callee with
  | .value _=>true
  | .builtin .len=>true
  | .builtin .max=>true
  | .builtin .min=>true
  | _=>false
 | _=>false
def frontOps (P:Program) (tb:TB) (gl:Gl) (ro:Nat) (all:List Oper):List Oper→List Nat→Env→List AO→(Env→List AO→Prop)→Prop
 | [],_,env,L,K=>K env L
 | o::r,seen,env,L,K=>match pureOp o.op with
  | false=>seqOps P tb gl ro all (o::r) seen env L K
  | true=>match dstOk o.dst seen with
   | false=>False
   | true=>match o.guard with
    | none=>opPure P tb gl env .no L o.op fun x=>stripK x fun x=>frontOps P tb gl ro all r (addD o.dst seen) (putE o.dst x env) L K
    | some (g,w)=>match dstOf all g with
     | none=>False
     | some s=>match memN s seen with
      | false=>False
      | true=>opPure P tb gl env (.at s w) L o.op fun x=>gdK s w x fun x=>frontOps P tb gl ro all r (addD o.dst seen) (putE o.dst x env) L K
def edgesIn (done:List Nat):List Edge→Bool
 | []=>true
 | e::es=>match Region.binds .any e with
  | true=>match memN e.on done with
   | true=>edgesIn done es
   | false=>false
  | false=>edgesIn done es
def readyL (done:List Nat):List Oper→Nat→List Nat
 | [],_=>[]
 | o::r,i=>match memN i done with
  | true=>readyL done r (i+1)
  | false=>match edgesIn done o.after.toList with
   | true=>i::readyL done r (i+1)
   | false=>readyL done r (i+1)
def isMove:Op→Bool
 | .move _=>true
 | .assign _=>true
 | .nilCheck _=>true
 | .fieldAddr .. =>true
 | .binOp .. =>true
 | .unOp .. =>true
 | .indexAddr .. =>true
 | .extract .. =>true
 | .call c=>match c.callee with
  | .builtin b=>match b with
   | .len=>true
   | _=>false
  | _=>false
 | _=>false
def hasEdge (i:Nat):List Edge→Bool
 | []=>false
 | e::es=>match (match Region.binds .any e with|true=>Nat.beq e.on i|false=>false) with
  | true=>true
  | false=>hasEdge i es
def slotsOf:List Operand→List Nat
 | []=>[]
 | x::r=>match x with
  | .tmp t=>t::slotsOf r
  | _=>slotsOf r
def beqO (a b:Option Nat):Bool:=match a with
 | none=>false
 | some x=>match b with
  | none=>false
  | some y=>Nat.beq x y
def getN:List Oper→Nat→Option Oper
 | [],_=>none
 | o::_,0=>some o
 | _::r,n+1=>getN r n
def gdSlot (l:List Oper) (d:Nat) (g:Option (Nat×Bool)):Bool:=match g with
 | none=>false
 | some (i,_)=>match dstOf l i with
  | none=>false
  | some s=>Nat.beq s d
def apartF (l:List Oper) (x y:Oper):Bool:=match (match x.dst with
  | none=>true
  | some d=>match memN d (slotsOf y.op.operands.toList) with
   | true=>false
   | false=>match gdSlot l d y.guard with
    | true=>false
    | false=>match beqO (some d) y.dst with
     | true=>false
     | false=>true) with
 | false=>false
 | true=>match y.dst with
  | none=>true
  | some d=>match memN d (slotsOf x.op.operands.toList) with
   | true=>false
   | false=>true
def freeRow (l0:List Oper) (o:Oper) (i:Nat) (done:List Nat):List Oper→Nat→Bool
 | [],_=>true
 | y::r,j=>match Nat.beq j i with
  | true=>freeRow l0 o i done r (j+1)
  | false=>match memN j done with
   | true=>freeRow l0 o i done r (j+1)
   | false=>match hasEdge i y.after.toList with
    | true=>freeRow l0 o i done r (j+1)
    | false=>match apartF l0 o y with
     | true=>freeRow l0 o i done r (j+1)
     | false=>false
def firstFree (l:List Oper) (done:List Nat):List Nat→Option (Nat×Oper)
 | []=>none
 | i::r=>match getN l i with
  | none=>none
  | some o=>match isMove o.op with
   | false=>firstFree l done r
   | true=>match o.guard with
    | some _=>firstFree l done r
    | none=>match freeRow l o i done l 0 with
     | true=>some (i,o)
     | false=>firstFree l done r
def allSc:List AV→Bool
 | []=>true
 | x::r=>match x with
  | .c y=>match y with
   | .v _=>allSc r
   | _=>false
  | _=>false
def oneSc:List AV→Bool
 | []=>false
 | x::r=>match r with
  | []=>allSc [x]
  | _=>false
def ldAt (tb:TB) (env:Env) (L:List AO) (o:Op):Option (Nat×Nat×AV×AO):=match o with
 | .load t x=>match x with
  | .tmp s=>match (tb t).k.isOther with
   | true=>none
   | false=>match get env s with
    | .ptr id off=>match getO L id with
     | .box ys=>match cut ys off (tb t).sz with
      | some zs=>match (match (tb t).k.agg with|true=>allSc zs|false=>oneSc zs) with
       | true=>some (s,id,.ptr id off,.box ys)
       | false=>none
      | none=>none
     | _=>none
    | _=>none
  | _=>none
 | _=>none
abbrev RdL:=List (Nat×Nat×AV×AO)
def rdS:RdL→List Nat
 | []=>[]
 | q::r=>q.1::rdS r
def rdK:RdL→Env→List AO→Prop→Prop
 | [],_,_,K=>K
 | q::r,env,L,K=>((get env q.1,getO L q.2.1)=q.2.2)∧rdK r env L K
def firstLd (tb:TB) (env:Env) (L:List AO) (l:List Oper) (done rs:List Nat):List Nat→Option (Nat×Oper×Nat×Nat×AV×AO)
 | []=>none
 | i::r=>match getN l i with
  | none=>none
  | some o=>match o.guard with
   | some _=>firstLd tb env L l done rs r
   | none=>match ldAt tb env L o.op with
    | none=>firstLd tb env L l done rs r
    | some q=>match dstOk o.dst (q.1::rs) with
     | false=>firstLd tb env L l done rs r
     | true=>match freeRow l o i done l 0 with
      | true=>some (i,o,q)
      | false=>firstLd tb env L l done rs r
def gdMet (l:List Oper) (env:Env) (g:Option (Nat×Bool)):Option (Nat×Bool):=match g with
 | none=>none
 | some (i,w)=>match dstOf l i with
  | none=>none
  | some s=>match get env s with
   | .c (.v (.bool b))=>match b with
    | true=>match w with
     | true=>some (s,true)
     | false=>none
    | false=>match w with
     | true=>none
     | false=>some (s,false)
   | _=>none
def firstGd (env:Env) (l:List Oper) (done rs:List Nat):List Nat→Option (Nat×Oper×Nat×Bool)
 | []=>none
 | i::r=>match getN l i with
  | none=>none
  | some o=>match isMove o.op with
   | false=>firstGd env l done rs r
   | true=>match gdMet l env o.guard with
    | none=>firstGd env l done rs r
    | some q=>match dstOk o.dst (q.1::rs) with
     | false=>firstGd env l done rs r
     | true=>match freeRow l { o with guard:=none } i done l 0 with
      | true=>some (i,o,q)
      | false=>firstGd env l done rs r
def gdRd (s:Nat) (b:Bool) (rd:RdL):RdL:=match memN s (rdS rd) with
 | true=>rd
 | false=>(s,1000,.c (.v (.bool b)),.dead)::rd
def gdRdK (s:Nat) (b:Bool) (rd:RdL) (K:RdL→Prop):Prop:=match memN s (rdS rd) with
 | true=>K rd
 | false=>K ((s,1000,.c (.v (.bool b)),.dead)::rd)
def guardK (l:List Oper) (env:Env) (g:Option (Nat×Bool)) (Y N:Prop):Prop:=match g with
 | none=>Y
 | some (i,w)=>match dstOf l i with
  | none=>False
  | some s=>match get env s with
   | .c (.v (.bool b))=>match b with
    | true=>match w with
     | true=>Y
     | false=>N
    | false=>match w with
     | true=>N
     | false=>Y
   | _=>False
def guardsNo:List Oper→Bool
 | []=>true
 | o::r=>match o.guard with|none=>guardsNo r|some _=>false
def noSel:List Oper→Bool
 | []=>true
 | o::r=>match o.op with| .select .. =>false|_=>noSel r
structure Both (a b:Prop):Prop where
 fst:a
 snd:b
def eachK (l:List Oper) (F:Nat→Oper→Prop):List Nat→Prop
 | []=>True
 | i::r=>match getN l i with
  | none=>False
  | some o=>match r with
   | []=>F i o
   | r=>Both (F i o) (eachK l F r)
def allOps (P:Program) (tb:TB) (gl:Gl) (ro:Nat) (ops:Array Oper):Nat→RdL→List Nat→List Nat→Env→List AO→(Env→List AO→Prop)→Prop
 | 0,_,_,_,_,_,_=>False
 | n+1,rd,done,seen,env,L,K=>rdK rd env L (match readyL done ops.toList 0 with
  | []=>K env L
  | i::r=>match firstFree ops.toList done (i::r) with
   | some (j,o)=>match (match dstOk o.dst seen with|false=>false|true=>dstOk o.dst (rdS rd)) with
    | false=>False
    | true=>opPure P tb gl env .no L o.op fun x=>stripK x fun x=>allOps P tb gl ro ops n rd (j::done) (addD o.dst seen) (putE o.dst x env) L K
   | none => match firstGd env ops.toList done (rdS rd) (i :: r) with
      | some (j,o,q)=>match dstOk o.dst seen with
       | false=>False
       | true=>opPure P tb gl env .no L o.op fun x=>stripK x fun x=>gdRdK q.1 q.2 rd fun rd=>allOps P tb gl ro ops n rd (j::done) (addD o.dst seen) (putE o.dst x env) L K
      | none=>match firstLd tb env L ops.toList done (rdS rd) (i::r) with
     | some (j,o,q)=>match dstOk o.dst seen with
      | false=>False
      | true=>opPure P tb gl env .no L o.op fun x=>stripK x fun x=>allOps P tb gl ro ops n (q::rd) (j::done) (addD o.dst seen) (putE o.dst x env) L K
     | none=>eachK ops.toList (fun j o=>match dstOk o.dst seen with
      | false=>False
      | true=>guardK ops.toList env o.guard
       (stepE P tb gl ro env L o.op o.type fun x env' L'=>stripK x fun x=>allOps P tb gl ro ops n rd (j::done) (addD o.dst seen) (putE o.dst x env') L' K)
       (allOps P tb gl ro ops n rd (j::done) (addD o.dst seen) (putE o.dst .any env) L K)) (i::r))
def unN:List Nat→List Nat→List Nat
 | [],acc=>acc
 | x::r,acc=>match memN x acc with
  | true=>unN r acc
  | false=>unN r (x::acc)
def nthN:List (List Nat)→Nat→List Nat
 | [],_=>[]
 | x::_,0=>x
 | _::r,n+1=>nthN r n
def ancEs (as:List (List Nat)):List Edge→List Nat→List Nat
 | [],acc=>acc
 | e::es,acc=>match Region.binds .any e with
  | true=>match memN e.on acc with
   | true=>ancEs as es acc
   | false=>ancEs as es (unN (nthN as e.on) (e.on::acc))
  | false=>ancEs as es acc
def lenN:List Nat→Nat
 | []=>0
 | _::r=>lenN r+1
def snocN:List (List Nat)→List Nat→List (List Nat)
 | [],x=>[x]
 | y::r,x=>y::snocN r x
def hintTail:List Oper→Nat→Bool
 | [],_=>true
 | o::r,j=>match hasEdge (j-1) o.after.toList with
  | true=>hintTail r (j+1)
  | false=>false
def hintHead:List Oper→Nat→List (List Nat)→Bool
 | [],_,_=>true
 | o::r,j,as=>match pureOp o.op with
  | true=>hintHead r (j+1) (snocN as (ancEs as o.after.toList []))
  | false=>match Nat.beq (lenN (ancEs as o.after.toList [])) j with
   | true=>hintTail r (j+1)
   | false=>false
def allPure:List Oper→Bool
 | []=>true
 | o::r=>match pureOp o.op with
  | true=>allPure r
  | false=>false
def hintGo (l:List Oper):Bool:=match allPure l with
 | true=>true
 | false=>hintHead l 0 []
def hasCallV:List Oper→Bool
 | []=>false
 | o::r=>match isCallV o.op with|true=>true|false=>hasCallV r
def anyOk (l:List Oper):Bool:=match hasCallV l with
 | false=>false
 | true=>match guardsNo l with
  | false=>false
  | true=>noSel l
def anyGd (l:List Oper):Bool:=match hasCallV l with
 | false=>false
 | true=>noSel l
inductive DOg (A B:Prop):Prop
 | l (a:A):DOg A B
 | r (b:B):DOg A B
inductive DOr (A B:Prop):Prop
 | l (a:A):DOr A B
 | r (b:B):DOr A B
inductive Ex where
 | normal
 | exit (id:Nat)
 | ret
mutual
def AV.lt (n:Nat):AV→Bool
 | .own i .. =>Nat.blt i n
 | .pe i .. =>Nat.blt i n
 | .ptr i _=>Nat.blt i n
 | .mpv i=>Nat.blt i n
 | .agx xs=>AV.lts n xs
 | .tup xs=>AV.lts n xs
 | .fn _ xs ys=>match AV.lts n xs with|true=>AV.lts n ys|false=>false
 | .gd .. =>false
 | _=>true
def AV.lts (n:Nat):List AV→Bool
 | []=>true
 | x::xs=>match AV.lt n x with|true=>AV.lts n xs|false=>false
end
def NoGdE:Env→Bool
 | []=>true
 | (_,x)::r=>match x with| .gd .. =>false|_=>NoGdE r
def RefE (env':Env) (k n:Nat):Env→Prop
 | []=>True
 | (t,x)::r=>(LeE k n (get env' t) x∧x.lt n=true)∧RefE env' k n r
def LeCs (xs ys:List C):Prop:=ys.length=xs.length∧∀ S R o,RepCs S R o xs→RepCs S R o ys
theorem LeCs.refl (xs:List C):LeCs xs xs:=⟨rfl,fun _ _ _ h=>h⟩
theorem LeCs.of_eq {xs ys:List C}(h:xs=ys):LeCs xs ys:=h ▸ LeCs.refl xs
def LeAs (k n:Nat):List AV→List AV→Prop
 | [],[]=>True
 | x::xs,y::ys=>(LeE k n x y∧y.lt n=true)∧LeAs k n xs ys
 | _,_=>False
def LeMs:List (Value×AV)→List (Value×AV)→Prop
 | [],[]=>True
 | x::xs,y::ys=>(x.1=y.1∧Le 0 x.2 y.2)∧LeMs xs ys
 | _,_=>False
theorem LeMs.refl:∀ m,LeMs m m
 | []=>trivial
 | _::r=>⟨⟨rfl,Le.refl _⟩,LeMs.refl r⟩
def LeO (q n:Nat) (x' x:AO):Prop:=match x with
 | .dead=>True
 | .box ys=>match x' with
  | .box xs=>LeAs q n xs ys
  | _=>False
 | .row e k g=>match x' with
  | .row e' k' f=>e'=e∧k'=k∧∀ i,i<k→LeCs (f i) (g i)
  | _=>False
 | .frz e k g=>match x' with
  | .frz e' k' f=>e'=e∧k'=k∧∀ i,i<k→LeCs (f i) (g i)
  | _=>False
 | .mp m=>match x' with
  | .mp m'=>LeMs m' m
  | _=>False
 | .amb vs ys=>match x' with
  | .amb vs' xs=>vs'=vs∧LeAs q n xs ys
  | _=>False
def padO:AO→Prop
 | .dead=>True
 | .row _ k _=>k=0
 | _=>False
def RefL (q n:Nat) (L':List AO):List AO→Prop
 | []=>True
 | x::r=>match L' with
  | []=>padO x∧RefL q n [] r
  | x'::r'=>LeO q n x' x∧RefL q n r' r
def RefR:Nat→List AO→List AO→Prop
 | 0,_,_=>True
 | k+1,x'::r',x::r=>x'.live=x.live∧RefR k r' r
 | _+1,_,_=>False
def Ref (ro n0:Nat) (env':Env) (L':List AO) (s:Env×List AO):Prop:=RefE env' L'.length s.2.length s.1∧RefL L'.length s.2.length L' s.2∧RefR ro L' s.2∧Nat.ble n0 s.2.length=true
def wrOs:List Oper→List Nat→List Nat
 | [],l=>l
 | o::r,l=>match o.dst with
  | none=>wrOs r l
  | some d=>wrOs r (d::l)
def wrC:Code→List Nat→List Nat
 | .region _ ops _,l=>wrOs ops.toList l
 | .seq x y,l=>wrC x (wrC y l)
 | .cond _ x y,l=>wrC x (wrC y l)
 | .block _ b,l=>wrC b l
 | .loop b,l=>wrC b l
 | .scope b,l=>wrC b l
 | _,l=>l
def dropE:List Nat→Env→Env
 | _,[]=>[]
 | ws,(s,x)::r=>match memN s ws with
  | true=>dropE ws r
  | false=>match x with
   | .any=>dropE (s::ws) r
   | x=>(s,x)::dropE (s::ws) r
def dropK:List Nat→Env→(Env→Prop)→Prop
 | _,[],K=>K []
 | ws,(s,x)::r,K=>match memN s ws with
  | true=>dropK ws r K
  | false=>match x with
   | .any=>dropK (s::ws) r K
   | x=>dropK (s::ws) r fun e=>K ((s,x)::e)
def loopK (N:Env→List AO→Prop) (K:Ex→Env→List AO→Prop) (x:Ex) (env:Env) (L:List AO):Prop:=match x with
 | .normal=>N env L
 | .exit i=>K (.exit i) env L
 | .ret=>K .ret env L
structure LoopEv (_base:Env) (ro n0:Nat) (V:Env→List AO→(Ex→Env→List AO→Prop)→Prop) (env:Env) (L:List AO) (K:Ex→Env→List AO→Prop):Prop where
 h:∃ (σ:Type) (I:σ→Prop) (inv:σ→Env×List AO) (m:σ→Nat),(∃ s,I s∧Ref ro n0 env L (inv s)) ∧
  ∀ s,I s→NoGdE (inv s).1=true∧V (inv s).1 (inv s).2 (loopK (fun env' L'=>∃ s',I s'∧Ref ro n0 env' L' (inv s')∧m s'<m s) K)
theorem dropK_eq:∀ (ws:List Nat) (env:Env) (K:Env→Prop),dropK ws env K=K (dropE ws env)
 | _,[],_=>rfl
 | ws,(s,x)::r,K=>by
  simp only [dropK,dropE]
  split
  ·exact dropK_eq ws r K
  ·cases x<;>simp only<;>rw [dropK_eq (s::ws) r]
def addN (x:Nat) (l:List Nat):List Nat:=match memN x l with|true=>l|false=>x::l
def addNs:List Nat→List Nat→List Nat
 | [],acc=>acc
 | x::r,acc=>addNs r (addN x acc)
def beyond (ws:List Nat):List Nat→List Nat→List Nat
 | [],acc=>acc
 | x::r,acc=>match memN x ws with
  | true=>beyond ws r acc
  | false=>beyond ws r (addN x acc)
def isAssign:Op→Bool
 | .assign _=>true
 | _=>false
def beyondOs (ws:List Nat):List Oper→List Nat→List Nat
 | [],acc=>acc
 | o::r,acc=>match isAssign o.op with
  | true=>match o.dst with
   | none=>beyondOs ws r (beyond ws (slotsOf o.op.operands.toList) acc)
   | some d=>beyondOs ws r (addN d (beyond ws (slotsOf o.op.operands.toList) acc))
  | false=>beyondOs ws r (beyond ws (slotsOf o.op.operands.toList) acc)
def crossC:Code→List Nat→List Nat
 | .region _ ops _,acc=>beyondOs (wrOs ops.toList []) ops.toList acc
 | .seq x y,acc=>crossC x (crossC y acc)
 | .cond c x y,acc=>crossC x (crossC y (addNs (slotsOf [c]) acc))
 | .block _ b,acc=>crossC b acc
 | .loop b,acc=>crossC b acc
 | .scope b,acc=>crossC b acc
 | _,acc=>acc
def slotsR:List ResultVar→List Nat
 | []=>[]
 | r::rs=>match r with
  | .tmp t=>t::slotsR rs
  | .cell a _=>a::slotsR rs
def listK:List Nat→(List Nat→Prop)→Prop
 | [],K=>K []
 | x::r,K=>listK r fun r=>K (x::r)
theorem listK_eq:∀ (l:List Nat) (K:List Nat→Prop),listK l K=K l
 | [],_=>rfl
 | x::r,K=>by simp only [listK]; rw [listK_eq r]
def crossK (rs:List ResultVar) (c:Code) (K:List Nat→Prop):Prop:=listK (crossC c (addNs (slotsR rs) [])) K
theorem crossK_eq (rs:List ResultVar)(c:Code)(K:List Nat→Prop):crossK rs c K=K (crossC c (addNs (slotsR rs) [])):=listK_eq _ _
def keepE (U:List Nat):List Nat→Env→Env
 | _,[]=>[]
 | ws,(s,x)::r=>match memN s U with
  | false=>keepE U ws r
  | true=>match memN s ws with
   | true=>keepE U ws r
   | false=>match x with
    | .any=>keepE U (s::ws) r
    | .gd .. =>keepE U (s::ws) r
    | x=>(s,x)::keepE U (s::ws) r
def keepK (U:List Nat):List Nat→Env→(Env→Prop)→Prop
 | _,[],K=>K []
 | ws,(s,x)::r,K=>match memN s U with
  | false=>keepK U ws r K
  | true=>match memN s ws with
   | true=>keepK U ws r K
   | false=>match x with
    | .any=>keepK U (s::ws) r K
    | .gd .. =>keepK U (s::ws) r K
    | x=>keepK U (s::ws) r fun e=>K ((s,x)::e)
theorem keepK_eq (U:List Nat):∀ (ws:List Nat) (env:Env) (K:Env→Prop),keepK U ws env K=K (keepE U ws env)
 | _,[],K=>rfl
 | ws,(s,x)::r,K=>by
  simp only [keepK,keepE]
  split
  ·exact keepK_eq U ws r K
  ·split
   ·exact keepK_eq U ws r K
   ·cases x<;>simp only<;>rw [keepK_eq U (s::ws) r]
structure RefS (ro n0:Nat) (env:Env) (L:List AO) (s:Env×List AO):Prop where
 h:Ref ro n0 env L s
 g:NoGdE s.1=true
structure Then (s:Env×List AO) (K:Env→List AO→Prop):Prop where
 h:K s.1 s.2
structure Drawn (A:(Env→List AO→Prop)→Prop) (ro n0:Nat) (K:Env→List AO→Prop):Prop where
 h:A K∨∃ s,A (fun env L=>RefS ro n0 env L s)∧K s.1 s.2
theorem Drawn.all {A:(Env→List AO→Prop)→Prop}{ro n0:Nat}{K:Env→List AO→Prop}(h:A K):Drawn A ro n0 K:=⟨.inl h⟩
theorem Drawn.one {A:(Env→List AO→Prop)→Prop}{ro n0:Nat}{K:Env→List AO→Prop}{s:Env×List AO}(h:A (fun env L=>RefS ro n0 env L s))(k:Then s K):Drawn A ro n0 K:=⟨.inr ⟨s,h,k.h⟩⟩
def nodupE:List Nat→Env→Bool
 | _,[]=>true
 | ws,(s,_)::r=>match memN s ws with|true=>false|false=>nodupE (s::ws) r
def allLtE (n:Nat):Env→Bool
 | []=>true
 | (_,x)::r=>match x.lt n with|true=>allLtE n r|false=>false
def allLtO (n:Nat):List AO→Bool
 | []=>true
 | x::r=>match (match x with| .box xs=>AV.lts n xs| .amb _ xs=>AV.lts n xs|_=>true) with|true=>allLtO n r|false=>false
def lenL:List AO→Nat
 | []=>0
 | _::r=>lenL r+1
def selfOk (ro n0:Nat) (env:Env) (L:List AO):Bool:=match nodupE [] env with
 | false=>false
 | true=>match NoGdE env with
  | false=>false
  | true=>match allLtE (lenL L) env with
   | false=>false
   | true=>match allLtO (lenL L) L with
    | false=>false
    | true=>match Nat.ble ro (lenL L) with
     | false=>false
     | true=>Nat.ble n0 (lenL L)
def condA (x:AV) (X Y:Prop):Prop:=match x with
 | .c (.v (.bool b))=>(b=true→X)∧(b=false→Y)
 | .ub p=>(p true→X)∧(p false→Y)
 | _=>False
def vc (P:Program) (tb:TB) (gl:Gl) (ro n0:Nat) (U:List Nat):Code→Env→List AO→(Ex→Env→List AO→Prop)→Prop
 | .skip,env,L,K=>K .normal env L
 | .region _ ops draw,env,L,K=>match draw with
  | false=>seqOps P tb gl ro ops.toList ops.toList [] env L fun env L=>keepK U [] env fun env=>forceL L fun L=>K .normal env L
  | true=>match hintGo ops.toList with
   | true=>match anyOk ops.toList with
    | false=>match anyGd ops.toList with
     | false=>frontOps P tb gl ro ops.toList ops.toList [] env L fun env L=>keepK U [] env fun env=>forceL L fun L=>K .normal env L
     | true=>DOg (frontOps P tb gl ro ops.toList ops.toList [] env L fun env L=>keepK U [] env fun env=>forceL L fun L=>K .normal env L)
      (Drawn (fun K'=>allOps P tb gl ro ops (ops.toList.length+1) [] [] [] env L fun env L=>keepK U [] env fun env=>forceL L fun L=>K' env L) ro n0 fun env L=>K .normal env L)
    | true=>DOr (frontOps P tb gl ro ops.toList ops.toList [] env L fun env L=>keepK U [] env fun env=>forceL L fun L=>K .normal env L)
     (Drawn (fun K'=>allOps P tb gl ro ops (ops.toList.length+1) [] [] [] env L fun env L=>keepK U [] env fun env=>forceL L fun L=>K' env L) ro n0 fun env L=>K .normal env L)
   | false=>Drawn (fun K'=>allOps P tb gl ro ops (ops.toList.length+1) [] [] [] env L fun env L=>keepK U [] env fun env=>forceL L fun L=>K' env L) ro n0 fun env L=>K .normal env L
 | .seq x y,env,L,K=>vc P tb gl ro n0 U x env L fun e env L=>match e with
  | .normal=>vc P tb gl ro n0 U y env L K
  | e=>K e env L
 | .cond c x y,env,L,K=>condA (evO gl env .no .no c) (vc P tb gl ro n0 U x env L K) (vc P tb gl ro n0 U y env L K)
 | .block id b,env,L,K=>vc P tb gl ro n0 U b env L fun e env L=>match e with
  | .exit i=>match Nat.beq i id with
   | true=>K .normal env L
   | false=>K (.exit i) env L
  | e=>K e env L
 | .loop b,env,L,K=>dropK (wrC b []) env fun base=>LoopEv base ro n0 (vc P tb gl ro n0 U b) env L K
 | .exit id,env,L,K=>K (.exit id) env L
 | .ret,env,L,K=>K .ret env L
 | .scope b,env,L,K=>vc P tb gl ro n0 U b env L K
 | .label _,env,L,K=>K .normal env L
 | _,_,_,_=>False
def viewR (ro:Nat) (L:List AO) (id esz off len:Nat):Option C:=match getO L id with
 | .row e _ f=>match Nat.beq e esz with
  | true=>match Nat.ble ro id with
   | true=>some (.sl false esz len (fun i=>f (off+i)))
   | false=>some (.sl true esz len (fun i=>f (off+i)))
  | false=>none
 | .frz e _ f=>match Nat.beq e esz with
  | true=>some (.sl false esz len (fun i=>f (off+i)))
  | false=>none
 | _=>none
def viewRs (ro:Nat) (L:List AO):List AV→Option (List C)
 | []=>some []
 | x::r=>match viewRs ro L r with
  | none=>none
  | some xs=>match x with
   | .c y=>some (y::xs)
   | .own id esz off len=>match viewR ro L id esz off len with
    | some y=>some (y::xs)
    | none=>none
   | _=>none
def resV (ro:Nat) (L:List AO):AV→Option AV
 | .c x=>some (.c x)
 | .ag xs=>some (.ag xs)
 | .sp t xs k=>some (.sp t xs k)
 | .own id esz off len=>match viewR ro L id esz off len with
  | some y=>some (.c y)
  | none=>none
 | .agx ys=>match viewRs ro L ys with
  | some xs=>some (.ag xs)
  | none=>none
 | .ptr id off=>match getO L id with
  | .box ys=>match Nat.ble ro id with
   | true=>match viewRs ro L ys with
    | some xs=>some (.sp false xs off)
    | none=>none
   | false=>none
  | _=>none
 | _=>none
def resK (ro:Nat) (env:Env) (tb:TB) (L:List AO):List ResultVar→(List AV→Prop)→Prop
 | [],K=>K []
 | r::rs,K=>match r with
  | .tmp t=>match resV ro L (get env t) with
   | some x=>resK ro env tb L rs fun xs=>K (x::xs)
   | none=>False
  | .cell a t=>opLoad tb L t (get env a) fun y=>match resV ro L y with
   | some x=>resK ro env tb L rs fun xs=>K (x::xs)
   | none=>False
def retA (xs:List AV):AV:=match xs with
 | [x]=>x
 | xs=> .tup xs
def EndK (ro:Nat) (tb:TB) (rs:List ResultVar) (r:AV) (x:Ex) (env:Env) (L:List AO):Prop:=match x with
 | .exit _=>False
 | _=>resK ro env tb L rs fun xs=>Le 0 (retA xs) r
theorem RepCs.nth {S:Rd}{R:Nat→Value→Prop}:∀ (xs:List C) (o j:Nat) (x:C),RepCs S R o xs→xs[j]? =some x→∃ u,R (o+j) u∧RepC S x u
 | [],_,_,_,_,h=>by simp at h
 | y::ys,o,0,x,hr,h=>by
  simp only [RepCs] at hr
  simp at h
  subst h
  simpa using hr.1
 | y::ys,o,j+1,x,hr,h=>by
  simp only [RepCs] at hr
  have:=RepCs.nth ys (o+1) j x hr.2 (by simpa using h)
  rwa [show o+1+j=o+(j+1) from by omega] at this
theorem RepCs.mk {S:Rd}{R:Nat→Value→Prop}:∀ (xs:List C) (o:Nat),(∀ j x,xs[j]? =some x→∃ u,R (o+j) u∧RepC S x u)→RepCs S R o xs
 | [],_,_=>by simp [RepCs]
 | y::ys,o,h=>by
  simp only [RepCs]
  refine ⟨by simpa using h 0 y (by simp),RepCs.mk ys (o+1) fun j x hx=> ?_⟩
  have:=h (j+1) x (by simpa using hx)
  rwa [show o+(j+1)=o+1+j from by omega] at this
theorem RepCs.drop {S:Rd}{R:Nat→Value→Prop}(xs:List C)(o k:Nat)(h:RepCs S R o xs):RepCs S R (o+k) (xs.drop k) :=
 RepCs.mk _ _ fun j x hx=>by
  rw [List.getElem?_drop] at hx
  have:=RepCs.nth xs o (k+j) x h hx
  rwa [show o+k+j=o+(k+j) from by omega]
theorem RepCs.take {S:Rd}{R:Nat→Value→Prop}(xs:List C)(o k:Nat)(h:RepCs S R o xs):RepCs S R o (xs.take k) :=
 RepCs.mk _ _ fun j x hx=>by
  rw [List.getElem?_take] at hx
  split at hx
  ·exact RepCs.nth xs o j x h hx
  ·simp at hx
theorem RepCs.vals {S:Rd}{R:Nat→Value→Prop}:∀ (xs:List C) (o:Nat),RepCs S R o xs →
  ∃ us:List Value,us.length=xs.length∧(∀ j v,us[j]? =some v→R (o+j) v)∧RepVs S xs us
 | [],_,_=>⟨[],rfl,by simp,by simp [RepVs]⟩
 | x::xs,o,h=>by
  simp only [RepCs] at h
  obtain ⟨⟨u,h1,h2⟩,h3⟩:=h
  obtain ⟨us,k1,k2,k3⟩:=RepCs.vals xs (o+1) h3
  refine ⟨u::us,by simp [k1],fun j v hv=> ?_,?_⟩
  ·cases j with
   | zero=>simp at hv; subst hv; simpa using h1
   | succ j =>
    have:=k2 j v (by simpa using hv)
    rwa [show o+(j+1)=o+1+j from by omega]
  ·simp only [RepVs]
   exact ⟨u,us,rfl,h2,k3⟩
theorem RepVs.length {S:Rd}:∀ (xs:List C) (us:List Value),RepVs S xs us→us.length=xs.length
 | [],us,h=>by simp [RepVs] at h; simp [h]
 | x::xs,us,h=>by
  simp only [RepVs] at h
  obtain ⟨u,r,rfl,_,h2⟩:=h
  simp [RepVs.length xs r h2]
theorem RepVs.nth {S:Rd}:∀ (xs:List C) (us:List Value) (j:Nat) (x:C),RepVs S xs us→xs[j]? =some x→∃ u,us[j]? =some u∧RepC S x u
 | [],_,_,_,_,h=>by simp at h
 | y::ys,us,j,x,hr,h=>by
  simp only [RepVs] at hr
  obtain ⟨u,r,rfl,h1,h2⟩:=hr
  cases j with
  | zero=>simp at h; subst h; exact ⟨u,by simp,h1⟩
  | succ j=>simpa using RepVs.nth ys r j x h2 (by simpa using h)
theorem RepVs.drop {S:Rd}:∀ (k:Nat) (xs:List C) (us:List Value),RepVs S xs us→RepVs S (xs.drop k) (us.drop k)
 | 0,_,_,h=>by simpa using h
 | k+1,[],us,h=>by simp [RepVs] at h; subst h; simp [RepVs]
 | k+1,x::xs,us,h=>by
  simp only [RepVs] at h
  obtain ⟨u,r,rfl,_,h2⟩:=h
  simpa using RepVs.drop k xs r h2
theorem RepVs.take {S:Rd}:∀ (k:Nat) (xs:List C) (us:List Value),RepVs S xs us→RepVs S (xs.take k) (us.take k)
 | 0,_,_,_=>by simp [RepVs]
 | k+1,[],us,h=>by simp [RepVs] at h; subst h; simp [RepVs]
 | k+1,x::xs,us,h=>by
  simp only [RepVs] at h
  obtain ⟨u,r,rfl,h1,h2⟩:=h
  simp only [List.take_succ_cons,RepVs]
  exact ⟨u,_,rfl,h1,RepVs.take k xs r h2⟩
theorem RelVs.length {B:List (Option BI)}{S:Rd}:∀ (xs:List AV) (us:List Value),RelVs B S xs us→us.length=xs.length
 | [],us,h=>by simp [RelVs] at h; simp [h]
 | x::xs,us,h=>by
  simp only [RelVs] at h
  obtain ⟨u,r,rfl,_,h2⟩:=h
  simp [RelVs.length xs r h2]
theorem RelVs.nth {B:List (Option BI)}{S:Rd}:∀ (xs:List AV) (us:List Value) (j:Nat) (x:AV),RelVs B S xs us→xs[j]? =some x→∃ u,us[j]? =some u∧RelV B S x u
 | [],_,_,_,_,h=>by simp at h
 | y::ys,us,j,x,hr,h=>by
  simp only [RelVs] at hr
  obtain ⟨u,r,rfl,h1,h2⟩:=hr
  cases j with
  | zero=>simp at h; subst h; exact ⟨u,by simp,h1⟩
  | succ j=>simpa using RelVs.nth ys r j x h2 (by simpa using h)
theorem RelVs.drop {B:List (Option BI)}{S:Rd}:∀ (k:Nat) (xs:List AV) (us:List Value),RelVs B S xs us→RelVs B S (xs.drop k) (us.drop k)
 | 0,_,_,h=>by simpa using h
 | k+1,[],us,h=>by simp [RelVs] at h; subst h; simp [RelVs]
 | k+1,x::xs,us,h=>by
  simp only [RelVs] at h
  obtain ⟨u,r,rfl,_,h2⟩:=h
  simpa using RelVs.drop k xs r h2
theorem RelVs.take {B:List (Option BI)}{S:Rd}:∀ (k:Nat) (xs:List AV) (us:List Value),RelVs B S xs us→RelVs B S (xs.take k) (us.take k)
 | 0,_,_,_=>by simp [RelVs]
 | k+1,[],us,h=>by simp [RelVs] at h; subst h; simp [RelVs]
 | k+1,x::xs,us,h=>by
  simp only [RelVs] at h
  obtain ⟨u,r,rfl,h1,h2⟩:=h
  simp only [List.take_succ_cons,RelVs]
  exact ⟨u,_,rfl,h1,RelVs.take k xs r h2⟩
theorem RelVs.append {B:List (Option BI)}{S:Rd}:∀ (xs ys:List AV) (us vs:List Value),RelVs B S xs us→RelVs B S ys vs→RelVs B S (xs++ys) (us++vs)
 | [],ys,us,vs,h,k=>by simp [RelVs] at h; subst h; simpa using k
 | x::xs,ys,us,vs,h,k=>by
  simp only [RelVs] at h
  obtain ⟨u,r,rfl,h1,h2⟩:=h
  simp only [List.cons_append,RelVs]
  exact ⟨u,_,rfl,h1,RelVs.append xs ys r vs h2 k⟩
theorem RelVs.of_RepVs {B:List (Option BI)}{S:Rd}:∀ (xs:List C) (us:List Value),RepVs S xs us→RelVs B S (xs.map AV.c) us
 | [],us,h=>by simpa [RepVs,RelVs] using h
 | x::xs,us,h=>by
  simp only [RepVs] at h
  obtain ⟨u,r,rfl,h1,h2⟩:=h
  simp only [List.map_cons,RelVs,RelV]
  exact ⟨u,r,rfl,h1,RelVs.of_RepVs xs r h2⟩
theorem toCs_sound {B:List (Option BI)}{S:Rd}:∀ (ys:List AV) (xs:List C) (us:List Value),toCs ys=some xs→RelVs B S ys us→RepVs S xs us
 | [],xs,us,h,hr=>by
  simp [toCs] at h; subst h; simpa [RepVs,RelVs] using hr
 | y::ys,xs,us,h,hr=>by
  simp only [RelVs] at hr
  obtain ⟨u,r,rfl,h1,h2⟩:=hr
  cases y<;>simp only [toCs,reduceCtorEq] at h
  rename_i x
  cases hq:toCs ys with
  | none=>simp [hq] at h
  | some zs =>
   simp only [hq,Option.some.injEq] at h
   subst h
   simp only [RepVs]
   exact ⟨u,r,rfl,by simpa [RelV] using h1,toCs_sound ys zs r hq h2⟩
theorem mkC_sound {B:List (Option BI)}{S:Rd}(agg:Bool)(xs:List C)(us:List Value)(h:RepVs S xs us)(u:Value)
  (hu:agg=true→u= .agg us.toArray) (hs:agg=false→us=[u]):RelV B S (mkC agg xs) u:=by
 cases agg with
 | true=>simp only [mkC,RelV]; exact ⟨_,hu rfl,by simpa using h⟩
 | false =>
  have:=hs rfl
  subst this
  cases xs with
  | nil=>simp [RepVs] at h
  | cons x r =>
   cases r with
   | nil =>
    simp only [RepVs] at h
    obtain ⟨v,r,h1,h2,h3⟩:=h
    simp only [List.cons.injEq] at h1
    simp only [mkC,RelV]
    rw [h1.1]; exact h2
   | cons _ _=>simp [mkC,RelV]
theorem mkA_sound {B:List (Option BI)}{S:Rd}(agg:Bool)(ys:List AV)(us:List Value)(h:RelVs B S ys us)(h1:∀ v ∈ us,v.oneCell'=true)(u:Value)
  (hu:agg=true→u= .agg us.toArray) (hs:agg=false→us=[u]):RelV B S (mkA agg ys) u:=by
 cases agg with
 | true =>
  simp only [mkA]
  cases hq:toCs ys with
  | some xs=>simp only [RelV]; exact ⟨_,hu rfl,by simpa using toCs_sound ys xs us hq h⟩
  | none=>simp only [RelV]; exact ⟨_,hu rfl,by simpa using h1,by simpa using h⟩
 | false =>
  have:=hs rfl
  subst this
  cases ys with
  | nil=>simp [RelVs] at h
  | cons x r =>
   cases r with
   | nil =>
    simp only [RelVs] at h
    obtain ⟨v,r,h1',h2,h3⟩:=h
    simp only [List.cons.injEq] at h1'
    simp only [mkA]
    rw [h1'.1]; exact h2
   | cons _ _=>simp [mkA,RelV]
def TKok (P:Program):TK→TypeDesc→Prop
 | .other,_=>True
 | .int k,d=>d= .int k
 | .bool,d=>d= .bool
 | .str,d=>d= .string
 | .ptr e,d=>d= .pointer e
 | .func,d=>∃ ps rs v,d= .func ps rs v
 | .slice e,d=>d= .slice e
 | .struct fs,d=>∃ fields:Array Field,d= .struct fields∧fields.toList.map (fun f=>(f.offset,f.type))=fs∧(∀ f ∈ fields.toList,∃ i,P.info? f.type=some i)
 | .array n e,d=>d= .array n e
 | .map k e,d=>d= .map k e
structure TIok (P:Program) (t:TypeId) (x:TI):Prop where
 ok:x.k.isOther=false→∃ i d z,P.info? t=some i∧P.underlying t=some d∧TKok P x.k d∧i.size=x.sz∧i.bytes=x.bytes∧i.zero=some z∧z.cells.toList=x.zero ∧
  x.zero.length=x.sz∧(∀ v ∈ x.zero,v.oneCell'=true)∧(x.k.agg=true→z= .agg x.zero.toArray)∧(x.k.agg=false→x.sz=1)
def TbOk (P:Program) (tb:TB):Prop:=∀ t,TIok P t (tb t)
section
variable {P:Program} {tb:TB} {t:TypeId}
theorem TIok.size (h:TIok P t (tb t))(ho:(tb t).k.isOther=false)(w:World):(sizeOf t).run P w= .ok (tb t).sz w:=by
 obtain ⟨i,d,z,h1,h2,h3,h4,_⟩:=h.ok ho
 simp [sizeOf,typeInfo,h1,h4]
theorem TIok.under (h:TIok P t (tb t))(ho:(tb t).k.isOther=false):∃ d,P.underlying t=some d∧TKok P (tb t).k d:=by
 obtain ⟨i,d,z,h1,h2,h3,h4,_⟩:=h.ok ho
 exact ⟨d,h2,h3⟩
theorem TIok.isAgg (h:TIok P t (tb t))(ho:(tb t).k.isOther=false)(w:World):(isAgg t).run P w= .ok (tb t).k.agg w:=by
 obtain ⟨d,h2,h3⟩:=h.under ho
 unfold Go.isAgg
 rw [Sem.run_bind,run_underlying h2 w]
 cases hk:(tb t).k<;>rw [hk] at h3 ho<;>simp only [TKok,TK.isOther,reduceCtorEq] at h3 ho
 case struct fs=>obtain ⟨f,rfl,_⟩:=h3; simp [TK.agg]
 case func=>obtain ⟨a,b,c,rfl⟩:=h3; simp [TK.agg]
 all_goals (subst h3; simp [TK.agg])
theorem TIok.info (h:TIok P t (tb t))(ho:(tb t).k.isOther=false):∃ i,P.info? t=some i∧i.size=(tb t).sz∧i.bytes=(tb t).bytes:=by
 obtain ⟨i,d,z,h1,h2,h3,h4,h5,_⟩:=h.ok ho
 exact ⟨i,h1,h4,h5⟩
end
theorem block_lt {w:World}{b o:Nat}{u:Value}(h:w.cell? ⟨b,o,none⟩=some u):b<w.heap.size:=World.block_lt_of_cell? w ⟨b,o,none⟩ h
theorem Sr_ext {M:Mz}{B:List (Option BI)}{L:List AO}{w w':World}(h:Below w.heap.size w w'):(Sr M B L w).le (Sr M B L w'):=by
 intro t b o u ⟨h1,h2⟩
 refine ⟨h1,?_⟩
 rw [h.cell (p:=⟨b,o,none⟩) (block_lt h2)]
 exact h2
theorem RelO_ext {B:List (Option BI)}{S S':Rd}{w w':World}(hS:S.le S')(h:Below w.heap.size w w')(x:AO)(bo:Option BI)
  (hb:∀ bi,bo=some bi→bi.b<w.heap.size) (hr:RelO B S w x bo):RelO B S' w' x bo:=by
 cases x with
 | box xs =>
  obtain ⟨bi,cs,ty,rfl,h1,h2,h3,h5,h4⟩:=hr
  exact ⟨bi,cs,ty,rfl,by rw [h.block _ (hb bi rfl)]; exact h1,h2,h3,h5,RelVs.mono (Ble.refl B) hS _ _ h4⟩
 | row esz n f =>
  cases bo with
  | none=>exact hr
  | some bi =>
   obtain ⟨h0,cs,ty,h1,h2,h3,h4⟩:=hr
   exact ⟨h0,cs,ty,by unfold RowAt; rw [h.block _ (hb bi rfl)]; exact h1,h2,h3,fun i hi=>⟨(h4 i hi).1,RepCs.mono hS (fun _ _ x=>x) _ _ (h4 i hi).2⟩⟩
 | frz esz n f =>
  cases bo with
  | none=>exact hr
  | some bi =>
   obtain ⟨h0,h4⟩:=hr
   exact ⟨h0,fun i hi=>⟨(h4 i hi).1,RepCs.mono hS (hS false bi.b) _ _ (h4 i hi).2⟩⟩
 | mp m =>
  obtain ⟨bi,es,clock,rfl,h1,h2,h3⟩:=hr
  exact ⟨bi,es,clock,rfl,by rw [h.block _ (hb bi rfl)]; exact h1,RelM.mono hS _ _ h2,h3⟩
 | amb vs xs=>exact RelVs.mono (Ble.refl B) hS _ _ hr
 | dead=>trivial
theorem RelL_ext {M:Mz}{B:List (Option BI)}{L:List AO}{w w':World}(h:Below w.heap.size w w')(hr:RelL M B L w):RelL M B L w' where
 len:=hr.len
 bnd id bi hb:=Nat.lt_of_lt_of_le (hr.bnd id bi hb) h.size
 mbnd b hb:=Nat.lt_of_lt_of_le (hr.mbnd b hb) h.size
 notM:=hr.notM
 dist:=hr.dist
 obj id bo hb:=RelO_ext (Sr_ext h) h _ _ (fun bi e=>hr.bnd id bi (e ▸ hb)) (hr.obj id bo hb)
theorem GlOk.mono {gl:Gl}{S S':Rd}(h:S.le S')(hg:GlOk gl S):GlOk gl S':=fun g=>RepCs.mono h (h false g) _ _ (hg g)
def KeyH (a:Act):Key→Prop
 | .no=>True
 | .at s w=>a.tmps.getD s undef= .bool w
theorem RelSl.mono {B B':List (Option BI)}{S S':Rd}(hB:Ble B B')(h:S.le S'){a:Act}(x:AV)(u:Value)(hh:RelSl B S a x u):RelSl B' S' a x u:=by
 cases x<;>simp only [RelSl] at hh ⊢
 case gd s w x=>exact ⟨fun e=>RelV.mono hB h _ _ (hh.1 e),hh.2⟩
 all_goals exact RelV.mono hB h _ _ hh
theorem RelE.mono {B B':List (Option BI)}{S S':Rd}(hB:Ble B B')(h:S.le S'){env:Env}{a:Act}(hh:RelE B S env a):RelE B' S' env a :=
 fun t=>RelSl.mono hB h _ _ (hh t)
theorem Nat.beq_spec {a b:Nat}(h:Nat.beq a b=true):a=b:=Nat.eq_of_beq_eq_true h
theorem beqB_spec {a b:Bool}(h:beqB a b=true):a=b:=by
 cases a<;>cases b<;>simp_all [beqB]
theorem Key.is_spec {key:Key}{s:Nat}{w:Bool}(h:key.is s w=true):key= .at s w:=by
 cases key with
 | no=>simp [Key.is] at h
 | _ s' w' =>
  simp only [Key.is] at h
  split at h
  ·rename_i hs
   rw [Nat.beq_spec hs,beqB_spec h]
  ·simp at h
theorem useK_sound {B:List (Option BI)}{S:Rd}{a:Act}{key key2:Key}(hk:KeyH a key)(hk2:KeyH a key2)(x:AV)(u:Value)(h:RelSl B S a x u) :
  RelV B S (useK key key2 x) u:=by
 cases x<;>simp only [useK]<;>try exact h
 rename_i s w x
 split
 ·rename_i e
  rw [Key.is_spec e] at hk
  exact h.1 hk
 ·split
  ·rename_i e
   rw [Key.is_spec e] at hk2
   exact h.1 hk2
  ·simp [RelV]
theorem RepVs.consts {S:Rd}:∀ (us:List Value),(∀ v ∈ us,v.oneCell'=true)→RepVs S (us.map C.v) us
 | [],_=>by simp [RepVs]
 | u::us,h=>by
  simp only [List.map_cons,RepVs,RepC]
  exact ⟨u,us,rfl,⟨rfl,h u (by simp)⟩,RepVs.consts us fun v hv=>h v (by simp [hv])⟩
theorem allOne_spec:∀ (us:List Value),allOne us=true→∀ v ∈ us,v.oneCell'=true
 | [],_,_,h=>by simp at h
 | u::us,h,v,hv=>by
  simp only [allOne] at h
  split at h
  ·rename_i h1
   rcases List.mem_cons.1 hv with rfl|hv
   ·exact h1
   ·exact allOne_spec us h v hv
  ·simp at h
theorem evO_sound {gl:Gl}{B:List (Option BI)}{S:Rd}{env:Env}{a:Act}{key key2:Key}(hg:GlOk gl S)(he:RelE B S env a)(hk:KeyH a key)(hk2:KeyH a key2)
  (x:Operand):RelV B S (evO gl env key key2 x) (a.eval x):=by
 cases x with
 | tmp t=>exact useK_sound hk hk2 _ _ (he t)
 | const v =>
  cases v
  case agg cs =>
   simp only [evO]
   split
   ·rename_i h1
    simp only [Act.eval,RelV]
    exact ⟨cs,rfl,RepVs.consts _ (allOne_spec _ h1)⟩
   ·simp [RelV]
  case tuple vs=>simp [evO,RelV]
  all_goals simp [evO,Act.eval,RelV,RepC,Value.oneCell']
 | global g =>
  simp only [evO,Act.eval,RelV]
  exact ⟨g,0,rfl,hg g⟩
 | func f =>
  simp only [evO,Act.eval,RelV]
  exact ⟨#[],#[],rfl,by simp [RelVs],by simp [RelVs]⟩
theorem chain_sound {B:List (Option BI)}{S:Rd}{env:Env}{a:Act}(he:RelE B S env a):∀ (n:Nat) (key:Key) (p:Prop),KeyH a key→chain env n key p→p
 | 0,_,_,_,h=>h
 | _+1,.no,_,_,h=>h
 | n+1,.at s w,p,hk,h=>by
  simp only [chain] at h
  have hs:=he s
  simp only [KeyH] at hk
  split at h
  ·rename_i b e
   rw [e] at hs
   simp only [RelSl,RelV,RepC,hk] at hs
   exact h (by simpa using hs.1.symm)
  ·rename_i s' w' b e
   rw [e] at hs
   simp only [RelSl] at hs
   by_cases hq:a.tmps.getD s' undef= .bool w'
   ·have h2:=chain_sound he n (.at s' w') _ hq h
    have h3:=hs.1 hq
    simp only [RelV,RepC,hk] at h3
    exact h2 (by simpa using h3.1.symm)
   ·have h3:=hs.2 hq
    rw [hk] at h3
    simp [undef] at h3
  ·exact h
end Go.VA
namespace Go.VA
open Go Go.RowKit
section
variable {P:Program} {tb:TB}
theorem beqK {k k':IntKind}(h:Nat.beq (kindNo k) (kindNo k')=true):k=k':=by
 cases k<;>cases k'<;>first|rfl|(simp [kindNo] at h)
def BinTo (P:Program) (op:BinOp) (t:TypeId) (u v r:Value):Prop :=
 ∀ (xo yo:Operand) (w:World),(do eqGuard op t xo yo u v; binOp op t u v:Sem Value).run P w= .ok r w
theorem intA_rel {B:List (Option BI)}{S:Rd}(k:IntKind)(n:Int):RelV B S (intA k n) (.int k n):=by simp [intA,RelV,RepC,Value.oneCell']
theorem boolA_rel {B:List (Option BI)}{S:Rd}(b:Bool):RelV B S (boolA b) (.bool b):=by simp [boolA,RelV,RepC,Value.oneCell']
theorem opInt_sound {ch:Prop→Prop}{op:BinOp}{k k':IntKind}{a b:Int}{K:AV→Prop}(t:TypeId)(h:opInt ch op k a k' b K) :
  ∃ z,K z∧∀ (B:List (Option BI)) (S:Rd),(∀ p,ch p→p)→∃ r,BinTo P op t (.int k a) (.int k' b) r∧RelV B S z r:=by
 unfold opInt at h
 cases op
 case shl =>
  refine ⟨_,h.2,fun B S hc=>⟨_,fun xo yo w=> ?_,intA_rel _ _⟩⟩
  have h0:=hc _ h.1
  simp [eqGuard,binOp,Op.shift,show ¬ b<0 by omega,shlI]
 case shr =>
  refine ⟨_,h.2,fun B S hc=>⟨_,fun xo yo w=> ?_,intA_rel _ _⟩⟩
  have h0:=hc _ h.1
  simp [eqGuard,binOp,Op.shift,show ¬ b<0 by omega,shrI]
 all_goals
  simp only at h
  split at h
  ·exact h.elim
  ·rename_i hk
   obtain rfl:=beqK hk
   first
    | (refine ⟨_, h, fun B S hc => ⟨.int k _, fun xo yo w => ?_, intA_rel _ _⟩⟩
       simp [eqGuard,binOp,Op.intArith]
       done)
    | (refine ⟨_, h, fun B S hc => ⟨.bool _, fun xo yo w => ?_, boolA_rel _⟩⟩
       simp [eqGuard,binOp,Op.intCmp]
       done)
    | (refine ⟨_, h, fun B S hc => ⟨.int k _, fun xo yo w => ?_, intA_rel _ _⟩⟩
       simp only [eqGuard,binOp,Op.intBits,Sem.run_bind,bitsI,ne_eq,not_true_eq_false,if_false,Sem.run_pure,Bool.not_false,ite_true,Result.andThen_ok]
       done)
    | (refine ⟨_, h.2, fun B S hc => ⟨.int k _, fun xo yo w => ?_, intA_rel _ _⟩⟩
       have h0:=hc _ h.1
       simp [eqGuard,binOp,Op.intDiv,h0]
       done)
theorem opStr_sound {ch:Prop→Prop}{op:BinOp}{a b:ByteArray}{K:AV→Prop}(t:TypeId)(h:opStr ch op a b K) :
  ∃ z,K z∧∀ (B:List (Option BI)) (S:Rd),(∀ p,ch p→p)→∃ r,BinTo P op t (.string a) (.string b) r∧RelV B S z r:=by
 unfold opStr at h
 cases op<;>simp only at h
 case add =>
  refine ⟨_,h.2,fun B S hc=>⟨.string (a++b),fun xo yo w=> ?_,by simp [RelV,RepC,Value.oneCell']⟩⟩
  have h0:=hc _ h.1
  have h1:¬ ((a.size+b.size:Nat):Int)>IntKind.i64.max:=by
   have:IntKind.i64.max=9223372036854775807:=rfl
   omega
  simp only [eqGuard,binOp,Op.stringOp,h1,Sem.run_bind,if_false,Sem.run_pure,Bool.not_false,ite_true,Result.andThen_ok]
 case eql|neq|lss|leq|gtr|geq =>
  exact ⟨_,h,fun B S hc=>⟨.bool _,fun xo yo w=>by simp [eqGuard,binOp,Op.stringOp],boolA_rel _⟩⟩
theorem eqC_sound {S:Rd}{x y:C}{u v:Value}{q:Bool}(h:eqC x y=some q)(hu:RepC S x u)(hv:RepC S y v):eqV u v=some q:=by
 cases x<;>cases y<;>simp only [eqC,reduceCtorEq] at h
 rename_i a b
 simp only [RepC] at hu hv
 rw [hu.1,hv.1]
 cases a<;>cases b<;>simp_all [eqV]
theorem eqCs_sound {S:Rd}:∀ (xs ys:List C) (us vs:List Value) (q:Bool),eqCs xs ys=some q→RepVs S xs us→RepVs S ys vs→eqVs us vs=some q
 | [],[],us,vs,q,h,hu,hv=>by
  simp only [RepVs] at hu hv
  subst hu; subst hv
  simpa [eqCs,eqVs] using h
 | x::xs,y::ys,us,vs,q,h,hu,hv=>by
  simp only [RepVs] at hu hv
  obtain ⟨u,r,rfl,h1,h2⟩:=hu
  obtain ⟨v,r',rfl,h3,h4⟩:=hv
  simp only [eqCs] at h
  cases hq:eqC x y with
  | none=>simp [hq] at h
  | some a =>
   simp only [hq] at h
   have e1:=eqC_sound hq h1 h3
   cases ys with
   | nil =>
    cases xs with
    | nil =>
     simp only [RepVs] at h2 h4
     subst h2; subst h4
     simpa [eqVs,e1] using h
    | cons _ _=>simp at h
   | cons y2 ys2 =>
    simp only at h
    cases hq2:eqCs xs (y2::ys2) with
    | none=>simp [hq2] at h
    | some b =>
     simp only [hq2,Option.some.injEq] at h
     have e2:=eqCs_sound xs (y2::ys2) r r' b hq2 h2 h4
     simp [eqVs,e1,e2,h]
 | [],_::_,_,_,_,h,_,_=>by simp [eqCs] at h
 | _::_,[],_,_,_,h,_,_=>by simp [eqCs] at h
theorem beqNs_spec:∀ {xs ys:List Nat},beqNs xs ys=true→xs=ys
 | [],[],_=>rfl
 | x::xs,y::ys,h=>by
  simp only [beqNs] at h
  split at h
  ·rename_i hx; rw [Nat.eq_of_beq_eq_true hx,beqNs_spec h]
  ·simp at h
 | [],_::_,h=>by simp [beqNs] at h
 | _::_,[],h=>by simp [beqNs] at h
theorem eqC_sh {S:Rd}{x y:C}{u v:Value}{q:Bool}(h:eqC x y=some q)(hu:RepC S x u)(hv:RepC S y v):shV u=shC x∧shV v=shC y:=by
 cases x<;>cases y<;>simp only [eqC,reduceCtorEq] at h
 simp only [RepC] at hu hv
 rw [hu.1,hv.1]
 exact ⟨rfl,rfl⟩
theorem eqCs_sh {S:Rd}:∀ (xs ys:List C) (us vs:List Value) (q:Bool),eqCs xs ys=some q→RepVs S xs us→RepVs S ys vs→us.map shV=shCs xs∧vs.map shV=shCs ys
 | [],[],us,vs,q,h,hu,hv=>by
  simp only [RepVs] at hu hv
  subst hu; subst hv
  simp [shCs]
 | x::xs,y::ys,us,vs,q,h,hu,hv=>by
  simp only [RepVs] at hu hv
  obtain ⟨u,r,rfl,h1,h2⟩:=hu
  obtain ⟨v,r',rfl,h3,h4⟩:=hv
  simp only [eqCs] at h
  cases hq:eqC x y with
  | none=>simp [hq] at h
  | some a =>
   simp only [hq] at h
   have e1:=eqC_sh hq h1 h3
   cases ys with
   | nil =>
    cases xs with
    | nil =>
     simp only [RepVs] at h2 h4
     subst h2; subst h4
     simp [shCs,e1]
    | cons _ _=>simp at h
   | cons y2 ys2 =>
    simp only at h
    cases hq2:eqCs xs (y2::ys2) with
    | none=>simp [hq2] at h
    | some b =>
     have e2:=eqCs_sh xs (y2::ys2) r r' b hq2 h2 h4
     simp [shCs,e1,e2]
 | [],_::_,_,_,_,h,_,_=>by simp [eqCs] at h
 | _::_,[],_,_,_,h,_,_=>by simp [eqCs] at h
theorem equalIn_bool {t:TypeId}(hd:P.underlying t=some .bool)(d:Nat)(a b:Bool)(w:World):(Op.equalIn (d+1) t (.bool a) (.bool b)).run P w= .ok (a==b) w:=by
 simp [Op.equalIn,run_underlying hd]
theorem equal_bool {t:TypeId}(hd:P.underlying t=some .bool)(a b:Bool)(w:World):(Op.equal t (.bool a) (.bool b)).run P w= .ok (a==b) w :=
 equalIn_bool hd 9999 a b w
theorem equalIn_ptr {t e:TypeId}(hd:P.underlying t=some (.pointer e))(d:Nat)(same:Bool)(u v:Value)
  (huv:(same=true∧u= .pointer none∧v= .pointer none)∨(same=false∧((∃ a,u= .pointer (some a))∧v= .pointer none∨u= .pointer none∧∃ a,v= .pointer (some a)))) (w:World) :
  (Op.equalIn (d+1) t u v).run P w= .ok same w:=by
 rcases huv with ⟨rfl,rfl,rfl⟩|⟨rfl,⟨⟨a,rfl⟩,rfl⟩|⟨rfl,a,rfl⟩⟩<;>simp [Op.equalIn,run_underlying hd]
theorem opPtrNil_sound (htb:TbOk P tb){t:TypeId}{op:BinOp}{same:Bool}{K:AV→Prop}(h:opPtrNil tb t op same K) :
  ∃ z,K z∧∀ (B:List (Option BI)) (S:Rd) (u v:Value),((same=true∧u= .pointer none∧v= .pointer none)∨(same=false∧((∃ a,u= .pointer (some a))∧v= .pointer none∨u= .pointer none∧∃ a,v= .pointer (some a)))) →
   ∃ r,BinTo P op t u v r∧RelV B S z r:=by
 unfold opPtrNil at h
 split at h
 ·rename_i e hk
  obtain ⟨d,hd,hT⟩:=(htb t).under (by simp [hk,TK.isOther])
  rw [hk] at hT
  simp only [TKok] at hT
  subst hT
  have hrun:∀ (u v:Value),((same=true∧u= .pointer none∧v= .pointer none)∨(same=false∧((∃ a,u= .pointer (some a))∧v= .pointer none∨u= .pointer none∧∃ a,v= .pointer (some a)))) →
    ∀ w,(Op.equal t u v).run P w= .ok same w:=by
   intro u v huv w
   exact equalIn_ptr hd 9999 same u v huv w
  cases op<;>simp only at h
  case eql =>
   refine ⟨_,h,fun B S u v huv=>⟨.bool same,fun xo yo w=> ?_,boolA_rel _⟩⟩
   have:=hrun u v huv w
   rcases huv with ⟨rfl,rfl,rfl⟩|⟨rfl,⟨⟨a,rfl⟩,rfl⟩|⟨rfl,a,rfl⟩⟩<;>simp [eqGuard,binOp,this]
  case neq =>
   refine ⟨_,h,fun B S u v huv=>⟨.bool (!same),fun xo yo w=> ?_,boolA_rel _⟩⟩
   have:=hrun u v huv w
   rcases huv with ⟨rfl,rfl,rfl⟩|⟨rfl,⟨⟨a,rfl⟩,rfl⟩|⟨rfl,a,rfl⟩⟩<;>simp [eqGuard,binOp,this]
 ·exact h.elim
theorem equalIn_slNil {t e:TypeId}(hd:P.underlying t=some (.slice e))(d:Nat)(a:Option Addr)(n cap:Nat)(w:World) :
  (Op.equalIn (d+1) t (.slice a n cap) (.slice none 0 0)).run P w= .ok (a.isNone) w:=by
 cases a<;>simp [Op.equalIn,run_underlying hd]
theorem opSlNil_sound (htb:TbOk P tb){t:TypeId}{op:BinOp}{p:Bool→Prop}{K:AV→Prop}(h:opSlNil tb t op p K) :
  ∃ z,K z∧∀ (B:List (Option BI)) (S:Rd) (a:Option Addr) (n cap:Nat),p a.isNone→∃ r,BinTo P op t (.slice a n cap) (.slice none 0 0) r∧RelV B S z r:=by
 unfold opSlNil at h
 split at h
 ·rename_i e hk
  obtain ⟨d,hd,hT⟩:=(htb t).under (by simp [hk,TK.isOther])
  rw [hk] at hT
  simp only [TKok] at hT
  subst hT
  have hrun:∀ (a:Option Addr) (n cap:Nat) (w:World),(Op.equal t (.slice a n cap) (.slice none 0 0)).run P w= .ok a.isNone w:=fun a n cap w=>equalIn_slNil hd _ a n cap w
  cases op<;>simp only at h<;>try exact h.elim
  case eql =>
   refine ⟨_,h,fun B S a n cap hp=>⟨.bool a.isNone,fun xo yo w=> ?_,?_⟩⟩
   ·simp [eqGuard,binOp,hrun]
   ·simp only [RelV]; exact ⟨_,rfl,hp⟩
  case neq =>
   refine ⟨_,h,fun B S a n cap hp=>⟨.bool (!a.isNone),fun xo yo w=> ?_,?_⟩⟩
   ·simp [eqGuard,binOp,hrun]
   ·simp only [RelV]; exact ⟨_,rfl,by simpa using hp⟩
 ·exact h.elim
theorem opBin_sound (htb:TbOk P tb){ch:Prop→Prop}{op:BinOp}{t:TypeId}{x y:AV}{K:AV→Prop}(h:opBin P tb ch op t x y K) :
  ∃ z,K z∧∀ (B:List (Option BI)) (S:Rd) (u v:Value),(∀ p,ch p→p)→RelV B S x u→RelV B S y v→∃ r,BinTo P op t u v r∧RelV B S z r:=by
 unfold opBin at h
 split at h
 ·rename_i k a
  split at h
  ·rename_i k' b
   obtain ⟨z,hz,hh⟩:=opInt_sound (P:=P) t h
   refine ⟨z,hz,fun B S u v hc hu hv=> ?_⟩
   simp only [RelV,RepC] at hu hv
   rw [hu.1,hv.1]
   exact hh B S hc
  ·exact h.elim
 ·rename_i a
  split at h
  ·rename_i b
   split at h
   ·rename_i hk
    obtain ⟨d,hd,hT⟩:=(htb t).under (by simp [hk,TK.isOther])
    rw [hk] at hT
    simp only [TKok] at hT
    subst hT
    cases op<;>simp only at h
    case eql =>
     refine ⟨_,h,fun B S u v hc hu hv=>⟨.bool (a==b),fun xo yo w=> ?_,boolA_rel _⟩⟩
     simp only [RelV,RepC] at hu hv
     rw [hu.1,hv.1]
     simp [eqGuard,binOp,equal_bool hd]
    case neq =>
     refine ⟨_,h,fun B S u v hc hu hv=>⟨.bool (!(a==b)),fun xo yo w=> ?_,boolA_rel _⟩⟩
     simp only [RelV,RepC] at hu hv
     rw [hu.1,hv.1]
     simp [eqGuard,binOp,equal_bool hd]
   ·exact h.elim
  ·exact h.elim
 ·rename_i a
  split at h
  ·rename_i b
   obtain ⟨z,hz,hh⟩:=opStr_sound (P:=P) t h
   refine ⟨z,hz,fun B S u v hc hu hv=> ?_⟩
   simp only [RelV,RepC] at hu hv
   rw [hu.1,hv.1]
   exact hh B S hc
  ·exact h.elim
 ·rename_i xs
  split at h
  ·rename_i ys
   split at h
   ·exact h.elim
   rename_i q hq
   split at h
   ·exact h.elim
   ·rename_i hsh
    have hsh:=beqNs_spec hsh
    cases op<;>simp only at h
    case eql =>
     refine ⟨_,h.2,fun B S u v hc hu hv=>⟨.bool q,fun xo yo w=> ?_,boolA_rel _⟩⟩
     simp only [RelV] at hu hv
     obtain ⟨us,rfl,h1⟩:=hu
     obtain ⟨vs,rfl,h2⟩:=hv
     exact (h.1 xo yo us vs q (eqCs_sh xs ys _ _ q hq h1 h2).1 (by rw [hsh]; exact (eqCs_sh xs ys _ _ q hq h1 h2).2) (eqCs_sound xs ys _ _ q hq h1 h2) w).1
    case neq =>
     refine ⟨_,h.2,fun B S u v hc hu hv=>⟨.bool (!q),fun xo yo w=> ?_,boolA_rel _⟩⟩
     simp only [RelV] at hu hv
     obtain ⟨us,rfl,h1⟩:=hu
     obtain ⟨vs,rfl,h2⟩:=hv
     exact (h.1 xo yo us vs q (eqCs_sh xs ys _ _ q hq h1 h2).1 (by rw [hsh]; exact (eqCs_sh xs ys _ _ q hq h1 h2).2) (eqCs_sound xs ys _ _ q hq h1 h2) w).2
  ·exact h.elim
 ·split at h
  ·obtain ⟨z,hz,hh⟩:=opPtrNil_sound htb h
   refine ⟨z,hz,fun B S u v hc hu hv=>hh B S u v ?_⟩
   simp only [RelV,RepC] at hu hv
   obtain ⟨bi,_,rfl⟩:=hu
   exact .inr ⟨rfl,.inl ⟨⟨_,rfl⟩,hv.1⟩⟩
  ·exact h.elim
 ·split at h
  ·obtain ⟨z,hz,hh⟩:=opPtrNil_sound htb h
   refine ⟨z,hz,fun B S u v hc hu hv=>hh B S u v ?_⟩
   simp only [RelV,RepC] at hu hv
   obtain ⟨b,o,rfl,_⟩:=hu
   exact .inr ⟨rfl,.inl ⟨⟨_,rfl⟩,hv.1⟩⟩
  ·exact h.elim
 ·split at h
  ·obtain ⟨z,hz,hh⟩:=opSlNil_sound htb h
   refine ⟨z,hz,fun B S u v hc hu hv=> ?_⟩
   simp only [RelV,RepC] at hu hv
   obtain ⟨a,cap,rfl,_,hu⟩:=hu
   rw [hv.1]
   refine hh B S a _ cap fun ha=> ?_
   rcases hu with hu|⟨b,o,rfl,_⟩
   ·exact hu
   ·simp at ha
  ·exact h.elim
 ·split at h
  ·obtain ⟨z,hz,hh⟩:=opSlNil_sound htb h
   refine ⟨z,hz,fun B S u v hc hu hv=> ?_⟩
   simp only [RelV,RepC] at hu hv
   rw [hv.1]
   rcases hu with ⟨bi,cap,_,rfl,_⟩|⟨h0,⟨a,rfl⟩,_⟩
   ·exact hh B S _ _ cap fun ha=>by simp at ha
   ·exact hh B S a _ 0 fun _=>h0
  ·exact h.elim
 ·split at h
  ·obtain ⟨z,hz,hh⟩:=opSlNil_sound htb h
   refine ⟨z,hz,fun B S u v hc hu hv=> ?_⟩
   simp only [RelV,RepC] at hu hv
   obtain ⟨a,rfl⟩:=hu
   rw [hv.1]
   exact hh B S a _ _ trivial
  ·exact h.elim
 ·split at h
  ·obtain ⟨z,hz,hh⟩:=opSlNil_sound htb h
   refine ⟨z,hz,fun B S u v hc hu hv=> ?_⟩
   simp only [RelV,RepC] at hu hv
   rw [hu.1,hv.1]
   exact hh B S none _ _ rfl
  ·exact h.elim
 ·split at h
  ·obtain ⟨z,hz,hh⟩:=opPtrNil_sound htb h
   refine ⟨z,hz,fun B S u v hc hu hv=>hh B S u v ?_⟩
   simp only [RelV,RepC] at hu hv
   exact .inl ⟨rfl,hu.1,hv.1⟩
  ·obtain ⟨z,hz,hh⟩:=opPtrNil_sound htb h
   refine ⟨z,hz,fun B S u v hc hu hv=>hh B S u v ?_⟩
   simp only [RelV,RepC] at hu hv
   obtain ⟨bi,_,rfl⟩:=hv
   exact .inr ⟨rfl,.inr ⟨hu.1,_,rfl⟩⟩
  ·obtain ⟨z,hz,hh⟩:=opPtrNil_sound htb h
   refine ⟨z,hz,fun B S u v hc hu hv=>hh B S u v ?_⟩
   simp only [RelV,RepC] at hu hv
   obtain ⟨b,o,rfl,_⟩:=hv
   exact .inr ⟨rfl,.inr ⟨hu.1,_,rfl⟩⟩
  ·exact h.elim
 ·exact h.elim
theorem opUn_sound {op:UnOp}{x:AV}{K:AV→Prop}(h:opUn op x K) :
  ∃ z,K z∧∀ (B:List (Option BI)) (S:Rd) (u:Value),RelV B S x u→∃ r,(∀ w,(Op.unary op u).run P w= .ok r w)∧RelV B S z r:=by
 unfold opUn at h
 split at h
 ·rename_i b
  refine ⟨_,h,fun B S u hu=>⟨.bool (!b),fun w=> ?_,boolA_rel _⟩⟩
  simp only [RelV,RepC] at hu
  rw [hu.1]; simp [Op.unary]
 ·rename_i k n
  refine ⟨_,h,fun B S u hu=>⟨.int k _,fun w=> ?_,intA_rel _ _⟩⟩
  simp only [RelV,RepC] at hu
  rw [hu.1]; simp [Op.unary,Op.intArith]
 ·rename_i k n
  refine ⟨_,h,fun B S u hu=>⟨.int k _,fun w=> ?_,intA_rel _ _⟩⟩
  simp only [RelV,RepC] at hu
  rw [hu.1]; simp only [Op.unary,Op.intBits,bitsI,Sem.run_pure]
 ·exact h.elim
end
end Go.VA
namespace Go.VA
open Go Go.RowKit
section
variable {P:Program} {tb:TB}
theorem cut_spec {α:Type}:∀ (xs:List α) (k n:Nat) (ys:List α),cut xs k n=some ys→ys=(xs.drop k).take n∧ys.length=n
 | xs,0,0,ys,h=>by
  have:ys=[]:=by cases xs<;>simpa [cut] using h.symm
  subst this; simp
 | [],0,_+1,ys,h=>by simp [cut] at h
 | x::r,0,n+1,ys,h=>by
  simp only [cut] at h
  split at h
  ·rename_i zs hz
   obtain ⟨h1,h2⟩:=cut_spec r 0 n zs hz
   simp only [Option.some.injEq] at h
   subst h
   simp only [List.drop_zero] at h1 ⊢
   simp only [List.take_succ_cons,List.length_cons,h2,and_true]
   rw [← h1]
  ·simp at h
 | [],_+1,_,ys,h=>by simp [cut] at h
 | _::r,k+1,n,ys,h=>by
  simp only [cut] at h
  have:=cut_spec r k n ys h
  simpa using this
theorem addr_add (b o j:Nat):(⟨b,o,none⟩:Addr).add j=⟨b,o+j,none⟩:=Addr.add_mid b o j
theorem run_load (htb:TbOk P tb){t:TypeId}(ho:(tb t).k.isOther=false)(w:World)(b o:Nat)(us:List Value)(hl:us.length=(tb t).sz)
  (hc:∀ j v,us[j]? =some v→w.cell? ⟨b,o+j,none⟩=some v) :
  ∃ u,(Instr.loadAt t (.pointer (some ⟨b,o,none⟩))).run P w= .ok u w∧((tb t).k.agg=true→u= .agg us.toArray)∧((tb t).k.agg=false→us=[u]):=by
 have h1:(loadCells ⟨b,o,none⟩ us.length).run P w= .ok us.toArray w :=
  run_loadCells_list w ⟨b,o,none⟩ us fun j v hv=>by rw [addr_add]; exact hc j v hv
 have ha:=(htb t).isAgg ho w
 have hs:=(htb t).size ho w
 cases hk:(tb t).k.agg with
 | true =>
  refine ⟨.agg us.toArray,?_,fun _=>rfl,fun h=>by simp at h⟩
  rw [hk] at ha
  rw [← hl] at hs
  simp [Instr.loadAt,Instr.sureAddr,loadVar,ha,hs,h1]
 | false =>
  obtain ⟨_,_,_,_,_,_,_,_,_,_,_,_,_,h11⟩:=(htb t).ok ho
  have hone:=h11 hk
  rw [hone] at hl
  match us,hl with
  | [u],_ =>
   refine ⟨u,?_,fun h=>by simp at h,fun _=>rfl⟩
   rw [hk] at ha
   have:=hc 0 u (by simp)
   simp only [Nat.add_zero] at this
   simp [Instr.loadAt,Instr.sureAddr,loadVar,ha,Go.run_load,this]
theorem getO_eq:∀ (L:List AO) (id:Nat),getO L id=(L[id]?).getD .dead
 | [],id=>by cases id<;>simp [getO]
 | x::r,0=>by simp [getO]
 | x::r,n+1=>by simp [getO,getO_eq r n]
theorem opLoad_sound (htb:TbOk P tb){L:List AO}{t:TypeId}{x:AV}{K:AV→Prop}(h:opLoad tb L t x K) :
  ∃ y,K y∧∀ (M:Mz) (B:List (Option BI)) (w:World) (u:Value),RelL M B L w→RelV B (Sr M B L w) x u →
   ∃ v,(Instr.loadAt t u).run P w= .ok v w∧RelV B (Sr M B L w) y v:=by
 unfold opLoad at h
 have ho:(tb t).k.isOther=false:=by
  cases hk:(tb t).k<;>simp_all [TK.isOther]
 split at h
 ·exact h.elim
 split at h
 ·
  rename_i g xs k
  unfold cutC at h
  split at h
  ·rename_i ys hy
   obtain ⟨e1,e2⟩:=cut_spec _ _ _ _ hy
   refine ⟨_,h,fun M B w u hL hu=> ?_⟩
   simp only [RelV] at hu
   obtain ⟨b,o,rfl,hu⟩:=hu
   have h1:RepCs (Sr M B L w) (Sr M B L w g b) (o+k) ys:=by rw [e1]; exact RepCs.take _ _ _ (RepCs.drop _ _ _ hu)
   obtain ⟨us,g1,g2,g3⟩:=RepCs.vals _ _ h1
   obtain ⟨v,r1,r2,r3⟩:=run_load htb ho w b (o+k) us (by omega) (fun j v hv=>(g2 j v hv).2)
   exact ⟨v,r1,mkC_sound _ _ us g3 v r2 r3⟩
  ·exact h.elim
 ·
  rename_i id off
  split at h
  ·rename_i ys hO
   unfold cutA at h
   split at h
   ·rename_i zs hz
    obtain ⟨e1,e2⟩:=cut_spec _ _ _ _ hz
    refine ⟨_,h,fun M B w u hL hu=> ?_⟩
    simp only [RelV] at hu
    obtain ⟨bi,hb,rfl⟩:=hu
    have hob:=hL.obj id _ hb
    rw [hO] at hob
    obtain ⟨bi',cs,ty,he,h1,h2,h3,h0,h4⟩:=hob
    simp only [Option.some.injEq] at he
    subst he
    have h5:RelVs B (Sr M B L w) zs ((cs.toList.drop off).take (tb t).sz):=by rw [e1]; exact RelVs.take _ _ _ (RelVs.drop _ _ _ h4)
    have h6:=RelVs.length _ _ h5
    obtain ⟨v,r1,r2,r3⟩:=run_load htb ho w bi.b (bi.o+off) ((cs.toList.drop off).take (tb t).sz) (by omega) (fun j v hv=>by
     rw [List.getElem?_take] at hv
     split at hv
     ·rw [List.getElem?_drop] at hv
      simp only [World.cell?,h1,h2,Nat.zero_add,Option.isSome_none,Bool.false_eq_true,if_false]
      simpa using hv
     ·simp at hv)
    exact ⟨v,r1,mkA_sound _ _ _ h5 (fun v hv=>h0 v (List.mem_of_mem_drop (List.mem_of_mem_take hv))) v r2 r3⟩
   ·exact h.elim
  ·exact h.elim
 ·
  rename_i id esz i k
  split at h
  ·rename_i e n f hO
   split at h
   ·rename_i hes
    obtain rfl:=Nat.beq_spec hes
    unfold cutC at h
    split at h
    ·rename_i ys hy
     obtain ⟨e1,e2⟩:=cut_spec _ _ _ _ hy
     refine ⟨_,h,fun M B w u hL hu=> ?_⟩
     simp only [RelV] at hu
     obtain ⟨bi,hb,rfl,hi⟩:=hu
     have hob:=hL.obj id _ hb
     rw [hO] at hob
     obtain ⟨h0,cs,ty,h1,h2,h3,h4⟩:=hob
     have h5:RepCs (Sr M B L w) (fun o u=>cs[o]? =some u) (bi.o+i*e+k) ys:=by
      rw [e1]; exact RepCs.take _ _ _ (RepCs.drop _ _ _ (h4 i (by omega)).2)
     obtain ⟨us,g1,g2,g3⟩:=RepCs.vals _ _ h5
     obtain ⟨v,r1,r2,r3⟩:=run_load htb ho w bi.b (bi.o+i*e+k) us (by omega) (fun j v hv=>by
      rw [h1.cell]
      exact g2 j v hv)
     exact ⟨v,r1,mkC_sound _ _ us g3 v r2 r3⟩
    ·exact h.elim
   ·exact h.elim
  ·rename_i e n f hO
   split at h
   ·rename_i hes
    obtain rfl:=Nat.beq_spec hes
    unfold cutC at h
    split at h
    ·rename_i ys hy
     obtain ⟨e1,e2⟩:=cut_spec _ _ _ _ hy
     refine ⟨_,h,fun M B w u hL hu=> ?_⟩
     simp only [RelV] at hu
     obtain ⟨bi,hb,rfl,hi⟩:=hu
     have hob:=hL.obj id _ hb
     rw [hO] at hob
     obtain ⟨h0,h4⟩:=hob
     have h5:RepCs (Sr M B L w) (Sr M B L w false bi.b) (bi.o+i*e+k) ys:=by
      rw [e1]; exact RepCs.take _ _ _ (RepCs.drop _ _ _ (h4 i (by omega)).2)
     obtain ⟨us,g1,g2,g3⟩:=RepCs.vals _ _ h5
     obtain ⟨v,r1,r2,r3⟩:=run_load htb ho w bi.b (bi.o+i*e+k) us (by omega) (fun j v hv=>(g2 j v hv).2)
     exact ⟨v,r1,mkC_sound _ _ us g3 v r2 r3⟩
    ·exact h.elim
   ·exact h.elim
  ·rename_i ys hO
   unfold cutA at h
   split at h
   ·rename_i zs hz
    obtain ⟨e1,e2⟩:=cut_spec _ _ _ _ hz
    refine ⟨_,h,fun M B w u hL hu=> ?_⟩
    simp only [RelV] at hu
    obtain ⟨bi,hb,rfl,hi⟩:=hu
    have hob:=hL.obj id _ hb
    rw [hO] at hob
    obtain ⟨bi',cs,ty,he,h1,h2,h3,h0,h4⟩:=hob
    simp only [Option.some.injEq] at he
    subst he
    have h5:RelVs B (Sr M B L w) zs ((cs.toList.drop (i*esz+k)).take (tb t).sz):=by rw [e1]; exact RelVs.take _ _ _ (RelVs.drop _ _ _ h4)
    have h6:=RelVs.length _ _ h5
    obtain ⟨v,r1,r2,r3⟩:=run_load htb ho w bi.b (bi.o+i*esz+k) ((cs.toList.drop (i*esz+k)).take (tb t).sz) (by omega) (fun j v hv=>by
     rw [List.getElem?_take] at hv
     split at hv
     ·rw [List.getElem?_drop] at hv
      simp only [World.cell?,h1,h2,Nat.zero_add,Option.isSome_none,Bool.false_eq_true,if_false]
      simpa using hv
     ·simp at hv)
    exact ⟨v,r1,mkA_sound _ _ _ h5 (fun v hv=>h0 v (List.mem_of_mem_drop (List.mem_of_mem_take hv))) v r2 r3⟩
   ·exact h.elim
  ·exact h.elim
 ·exact h.elim
theorem run_part (htb:TbOk P tb){t:TypeId}(ho:(tb t).k.isOther=false)(w:World)(cs:Array Value)(off:Nat)(hl:((cs.toList.drop off).take (tb t).sz).length=(tb t).sz) :
  ∃ u,(part t cs off).run P w= .ok u w∧((tb t).k.agg=true→u= .agg ((cs.toList.drop off).take (tb t).sz).toArray)∧((tb t).k.agg=false→(cs.toList.drop off).take (tb t).sz=[u]):=by
 have ha:=(htb t).isAgg ho w
 have hs:=(htb t).size ho w
 cases hk:(tb t).k.agg with
 | true =>
  rw [hk] at ha
  refine ⟨_,by simp only [part,Sem.run_bind,ha,Result.andThen_ok,if_true,hs,Sem.run_pure]; rfl,fun _=> ?_,fun h=>by simp at h⟩
  congr 1
  apply Array.ext'
  simp [Array.toList_extract,List.extract,Nat.add_sub_cancel_left]
 | false =>
  obtain ⟨_,_,_,_,_,_,_,_,_,_,_,_,_,h11⟩:=(htb t).ok ho
  have hone:=h11 hk
  rw [hone] at hl ⊢
  rw [hk] at ha
  have h1:off<cs.size:=by
   rcases Nat.lt_or_ge off cs.size with h|h
   ·exact h
   ·rw [List.drop_eq_nil_of_le (by simpa using h)] at hl; simp at hl
  refine ⟨cs[off],by simp [part,ha,h1],fun h=>by simp at h,fun _=> ?_⟩
  have:cs.toList.drop off=cs[off]::cs.toList.drop (off+1):=by
   rw [List.drop_eq_getElem_cons (by simpa using h1)]; simp
  rw [this]; simp
theorem fieldAt_eq:∀ (fs:List (Nat×Nat)) (i:Nat),fieldAt fs i=fs[i]?
 | [],i=>by cases i<;>simp [fieldAt]
 | x::r,0=>by simp [fieldAt]
 | x::r,n+1=>by simp [fieldAt,fieldAt_eq r n]
theorem struct_field {fields:Array Field}{fs:List (Nat×Nat)}(h:fields.toList.map (fun f=>(f.offset,f.type))=fs){i o ty:Nat}(hf:fieldAt fs i=some (o,ty)) :
  ∃ f,fields[i]? =some f∧f.offset=o∧f.type=ty:=by
 rw [fieldAt_eq,← h,List.getElem?_map] at hf
 cases hq:fields.toList[i]? with
 | none=>simp [hq] at hf
 | some f =>
  simp [hq] at hf
  exact ⟨f,by simpa using hq,hf.1,hf.2⟩
theorem opField_sound (htb:TbOk P tb){t:TypeId}{x:AV}{i:Nat}{K:AV→Prop}(h:opField tb t x i K) :
  ∃ y,K y∧∀ (B:List (Option BI)) (S:Rd) (w:World) (u:Value),RelV B S x u→∃ v,(Instr.field t u i).run P w= .ok v w∧RelV B S y v:=by
 unfold opField at h
 split at h
 ·rename_i fs hk
  obtain ⟨d,hd,hT⟩:=(htb t).under (by simp [hk,TK.isOther])
  rw [hk] at hT
  obtain ⟨fields,rfl,hfs,_⟩:=hT
  split at h
  ·exact h.elim
  ·rename_i o ty hf
   obtain ⟨f,hf1,hf2,hf3⟩:=struct_field hfs hf
   split at h
   ·exact h.elim
   rename_i hoth
   have ho:(tb ty).k.isOther=false:=by simpa using hoth
   split at h
   ·rename_i xs
    unfold cutC at h
    split at h
    ·rename_i ys hy
     obtain ⟨e1,e2⟩:=cut_spec _ _ _ _ hy
     refine ⟨_,h,fun B S w u hu=> ?_⟩
     simp only [RelV] at hu
     obtain ⟨arr,rfl,hu⟩:=hu
     have h5:RepVs S ys ((arr.toList.drop o).take (tb ty).sz):=by rw [e1]; exact RepVs.take _ _ _ (RepVs.drop _ _ _ hu)
     have h6:=RepVs.length _ _ h5
     obtain ⟨v,r1,r2,r3⟩:=run_part htb ho w arr o (by omega)
     exact ⟨v,by simp [Instr.field,run_underlying hd,hf1,asAgg,hf2,hf3,r1],mkC_sound _ _ _ h5 v r2 r3⟩
    ·exact h.elim
   ·rename_i xs
    unfold cutA at h
    split at h
    ·rename_i ys hy
     obtain ⟨e1,e2⟩:=cut_spec _ _ _ _ hy
     refine ⟨_,h,fun B S w u hu=> ?_⟩
     simp only [RelV] at hu
     obtain ⟨arr,rfl,h0,hu⟩:=hu
     have h5:RelVs B S ys ((arr.toList.drop o).take (tb ty).sz):=by rw [e1]; exact RelVs.take _ _ _ (RelVs.drop _ _ _ hu)
     have h6:=RelVs.length _ _ h5
     obtain ⟨v,r1,r2,r3⟩:=run_part htb ho w arr o (by omega)
     exact ⟨v,by simp [Instr.field,run_underlying hd,hf1,asAgg,hf2,hf3,r1],mkA_sound _ _ _ h5 (fun v hv=>h0 v (List.mem_of_mem_drop (List.mem_of_mem_take hv))) v r2 r3⟩
    ·exact h.elim
   ·exact h.elim
 ·exact h.elim
theorem opFieldAddr_sound (htb:TbOk P tb){t:TypeId}{x:AV}{i:Nat}{K:AV→Prop}(h:opFieldAddr tb t x i K) :
  ∃ y,K y∧∀ (B:List (Option BI)) (S:Rd) (u:Value),RelV B S x u→∃ v,(∀ w,(Instr.fieldAt t u i).run P w= .ok v w)∧RelV B S y v:=by
 unfold opFieldAddr at h
 split at h
 ·rename_i fs hk
  obtain ⟨d,hd,hT⟩:=(htb t).under (by simp [hk,TK.isOther])
  rw [hk] at hT
  obtain ⟨fields,rfl,hfs,_⟩:=hT
  split at h
  ·exact h.elim
  ·rename_i o ty hf
   obtain ⟨f,hf1,hf2,hf3⟩:=struct_field hfs hf
   split at h
   ·exact h.elim
   rename_i hz
   split at h
   ·exact h.elim
   rename_i hoth
   have ho:(tb ty).k.isOther=false:=by simpa using hoth
   have hsz:(tb ty).sz≠0:=fun e=>by rw [e] at hz; simp at hz
   have key:∀ (b q:Nat) (w:World),(Instr.fieldAt t (.pointer (some ⟨b,q,none⟩)) i).run P w= .ok (.pointer (some ⟨b,q+o,none⟩)) w:=by
    intro b q w
    have hs:=(htb ty).size ho w
    simp [Instr.fieldAt,run_underlying hd,hf1,Instr.sureAddr,fieldPlace,hf3,hs,hsz,hf2,addr_add]
   split at h
   ·refine ⟨_,h,fun B S u hu=> ?_⟩
    simp only [RelV] at hu ⊢
    obtain ⟨bi,h1,rfl⟩:=hu
    exact ⟨_,key _ _,bi,h1,by simp [Nat.add_assoc]⟩
   ·refine ⟨_,h,fun B S u hu=> ?_⟩
    simp only [RelV] at hu ⊢
    obtain ⟨bi,h1,rfl,h2⟩:=hu
    exact ⟨_,key _ _,bi,h1,by simp [Nat.add_assoc],h2⟩
   ·refine ⟨_,h,fun B S u hu=> ?_⟩
    simp only [RelV] at hu ⊢
    obtain ⟨b,o',rfl,h2⟩:=hu
    exact ⟨_,key _ _,b,o',by simp [Nat.add_assoc],h2⟩
   ·exact h.elim
 ·exact h.elim
end
end Go.VA
namespace Go.VA
open Go Go.RowKit
section
variable {P:Program} {tb:TB}
theorem opIndexAddr_sound (htb:TbOk P tb){ch:Prop→Prop}{t:TypeId}{x i:AV}{K:AV→Prop}(h:opIndexAddr tb ch t x i K) :
  ∃ y,K y∧∀ (B:List (Option BI)) (S:Rd) (u v:Value),(∀ p,ch p→p)→RelV B S x u→RelV B S i v →
   ∃ r,(∀ w,(Instr.indexAt t u v).run P w= .ok r w)∧RelV B S y r:=by
 unfold opIndexAddr at h
 split at h
 ·rename_i k z
  split at h
  ·rename_i e hk
   obtain ⟨d,hd,hT⟩:=(htb t).under (by simp [hk,TK.isOther])
   rw [hk] at hT
   simp only [TKok] at hT
   subst hT
   split at h
   ·exact h.elim
   rename_i ho
   have key:∀ (b o l c:Nat) (w:World),0≤z→z<(l:Int)→(Instr.indexAt t (.slice (some ⟨b,o,none⟩) l c) (.int k z)).run P w= .ok (.pointer (some ⟨b,o+z.toNat*(tb e).sz,none⟩)) w:=by
    intro b o l c w h1 h2
    have hs:=(htb e).size ho w
    simp [Instr.indexAt,asIntOf,run_underlying hd,h1,h2,hs,addr_add]
   split at h
   ·rename_i g esz n f
    split at h
    ·rename_i he
     obtain rfl:=Nat.beq_spec he
     refine ⟨_,h.2,fun B S u v hc hu hv=> ?_⟩
     obtain ⟨hz0,hz1⟩:=hc _ h.1
     simp only [RelV,RepC] at hu hv
     obtain ⟨rfl,_⟩:=hv
     obtain ⟨a,cap,rfl,hcap,h1⟩:=hu
     rcases h1 with h1|⟨b,o,rfl,h1⟩
     ·omega
     ·refine ⟨_,fun w=>key b o n cap w hz0 hz1,?_⟩
      simp only [RelV,Nat.add_zero]
      exact ⟨b,_,rfl,(h1 z.toNat (by omega)).2⟩
    ·exact h.elim
   ·rename_i id esz off len
    split at h
    ·rename_i he
     obtain rfl:=Nat.beq_spec he
     refine ⟨_,h.2,fun B S u v hc hu hv=> ?_⟩
     obtain ⟨hz0,hz1⟩:=hc _ h.1
     simp only [RelV,RepC] at hu hv
     obtain ⟨rfl,_⟩:=hv
     rcases hu with ⟨bi,cap,hb,rfl,g1,g2,g3⟩|⟨hl,_⟩
     ·refine ⟨_,fun w=>key bi.b _ len cap w hz0 hz1,?_⟩
      simp only [RelV,Nat.add_zero]
      refine ⟨bi,hb,?_,by omega⟩
      rw [Nat.add_mul,Nat.add_assoc]
     ·omega
    ·exact h.elim
   ·exact h.elim
  ·rename_i n e hk
   obtain ⟨d,hd,hT⟩:=(htb t).under (by simp [hk,TK.isOther])
   rw [hk] at hT
   simp only [TKok] at hT
   subst hT
   split at h
   ·exact h.elim
   rename_i ho
   have key:∀ (b o:Nat) (w:World),0≤z→z<(n:Int)→(Instr.indexAt t (.pointer (some ⟨b,o,none⟩)) (.int k z)).run P w= .ok (.pointer (some ⟨b,o+z.toNat*(tb e).sz,none⟩)) w:=by
    intro b o w h1 h2
    have hs:=(htb e).size ho w
    simp [Instr.indexAt,asIntOf,run_underlying hd,Instr.sureAddr,h1,h2,hs,addr_add]
   split at h
   ·refine ⟨_,h.2,fun B S u v hc hu hv=> ?_⟩
    obtain ⟨hz0,hz1⟩:=hc _ h.1
    simp only [RelV,RepC] at hu hv ⊢
    obtain ⟨rfl,_⟩:=hv
    obtain ⟨bi,hb,rfl⟩:=hu
    exact ⟨_,fun w=>key _ _ w hz0 hz1,bi,hb,by simp [Nat.add_assoc]⟩
   ·refine ⟨_,h.2,fun B S u v hc hu hv=> ?_⟩
    obtain ⟨hz0,hz1⟩:=hc _ h.1
    simp only [RelV,RepC] at hu hv ⊢
    obtain ⟨rfl,_⟩:=hv
    obtain ⟨b,o,rfl,hu⟩:=hu
    exact ⟨_,fun w=>key _ _ w hz0 hz1,b,o,by simp [Nat.add_assoc],hu⟩
   ·exact h.elim
  ·exact h.elim
 ·exact h.elim
theorem opIndex_sound (htb:TbOk P tb){ch:Prop→Prop}{t:TypeId}{x i:AV}{K:AV→Prop}(h:opIndex tb ch t x i K) :
  ∃ y,K y∧∀ (B:List (Option BI)) (S:Rd) (w:World) (u v:Value),(∀ p,ch p→p)→RelV B S x u→RelV B S i v →
   ∃ r,(Instr.index t u v).run P w= .ok r w∧RelV B S y r:=by
 unfold opIndex at h
 split at h
 ·rename_i k z
  split at h
  ·rename_i hk
   obtain ⟨d,hd,hT⟩:=(htb t).under (by simp [hk,TK.isOther])
   rw [hk] at hT
   simp only [TKok] at hT
   subst hT
   split at h
   ·rename_i s
    refine ⟨_,h.2,fun B S w u v hc hu hv=> ?_⟩
    obtain ⟨hz0,hz1⟩:=hc _ h.1
    simp only [RelV,RepC] at hu hv
    obtain ⟨rfl,_⟩:=hv
    obtain ⟨rfl,_⟩:=hu
    have h1:z.toNat<s.size:=by omega
    have h2:s[z.toNat]? =some s[z.toNat]:=by simp [h1]
    refine ⟨.int .u8 (s[z.toNat].toNat:Int),by simp [Instr.index,asIntOf,run_underlying hd,hz0,h2],?_⟩
    have h3:s.data.toList[z.toNat]? =some s[z.toNat]:=by
     have:s.data.toList[z.toNat]? =s.data[z.toNat]? :=by simp
     rw [this,Array.getElem?_eq_getElem (by simpa using h1)]; rfl
    simp [RelV,RepC,h3,Value.oneCell']
   ·exact h.elim
  ·rename_i n e hk
   obtain ⟨d,hd,hT⟩:=(htb t).under (by simp [hk,TK.isOther])
   rw [hk] at hT
   simp only [TKok] at hT
   subst hT
   split at h
   ·exact h.elim
   rename_i ho
   split at h
   ·rename_i xs
    have h1:=h.1
    have h2:=h.2
    unfold cutC at h2
    split at h2
    ·rename_i ys hy
     obtain ⟨e1,e2⟩:=cut_spec _ _ _ _ hy
     refine ⟨_,h2,fun B S w u v hc hu hv=> ?_⟩
     obtain ⟨hz0,hz1⟩:=hc _ h1
     simp only [RelV,RepC] at hu hv
     obtain ⟨rfl,_⟩:=hv
     obtain ⟨arr,rfl,hu⟩:=hu
     have h5:RepVs S ys ((arr.toList.drop (z.toNat*(tb e).sz)).take (tb e).sz):=by rw [e1]; exact RepVs.take _ _ _ (RepVs.drop _ _ _ hu)
     have h6:=RepVs.length _ _ h5
     obtain ⟨r,r1,r2,r3⟩:=run_part htb ho w arr (z.toNat*(tb e).sz) (by omega)
     have hs:=(htb e).size ho w
     exact ⟨r,by simp [Instr.index,asIntOf,run_underlying hd,hz0,hz1,hs,r1],mkC_sound _ _ _ h5 r r2 r3⟩
    ·exact h2.elim
   ·exact h.elim
  ·exact h.elim
 ·exact h.elim
theorem lenK_sound {x:AV}{K:Nat→Prop}(h:lenK x K):∃ n,K n∧∀ (B:List (Option BI)) (S:Rd) (u:Value),RelV B S x u→∃ a c,u= .slice a n c:=by
 unfold lenK at h
 split at h
 ·refine ⟨_,h,fun B S u hu=> ?_⟩
  simp only [RelV,RepC] at hu
  obtain ⟨a,cap,rfl,_⟩:=hu
  exact ⟨a,cap,rfl⟩
 ·refine ⟨_,h,fun B S u hu=> ?_⟩
  simp only [RelV,RepC] at hu
  obtain ⟨a,rfl⟩:=hu
  exact ⟨a,0,rfl⟩
 ·refine ⟨_,h,fun B S u hu=> ?_⟩
  simp only [RelV,RepC] at hu
  exact ⟨_,_,hu.1⟩
 ·refine ⟨_,h,fun B S u hu=> ?_⟩
  simp only [RelV] at hu
  rcases hu with ⟨bi,cap,_,rfl,_⟩|⟨rfl,⟨a,rfl⟩,_⟩
  ·exact ⟨_,_,rfl⟩
  ·exact ⟨_,_,rfl⟩
 ·exact h.elim
theorem opLen_sound (htb:TbOk P tb){t:TypeId}{x:AV}{K:AV→Prop}(h:opLen tb t x K) :
  ∃ y,K y∧∀ (B:List (Option BI)) (S:Rd) (ty:TypeId) (u:Value),RelV B S x u→∃ r,(∀ w,(Builtin.len_ #[t] ty #[u]).run P w= .ok r w)∧RelV B S y r:=by
 unfold opLen at h
 split at h
 ·rename_i n e hk
  obtain ⟨d,hd,hT⟩:=(htb t).under (by simp [hk,TK.isOther])
  rw [hk] at hT
  simp only [TKok] at hT
  subst hT
  exact ⟨_,h,fun B S ty u hu=>⟨.int .i64 n,fun w=>by simp [Builtin.len_,run_underlying hd,goInt],intA_rel _ _⟩⟩
 ·rename_i e hk
  obtain ⟨d,hd,hT⟩:=(htb t).under (by simp [hk,TK.isOther])
  rw [hk] at hT
  simp only [TKok] at hT
  subst hT
  obtain ⟨n,h1,h2⟩:=lenK_sound h
  refine ⟨_,h1,fun B S ty u hu=> ?_⟩
  obtain ⟨a,c,rfl⟩:=h2 B S u hu
  exact ⟨.int .i64 n,fun w=>by simp [Builtin.len_,run_underlying hd,goInt],intA_rel _ _⟩
 ·rename_i hk
  obtain ⟨d,hd,hT⟩:=(htb t).under (by simp [hk,TK.isOther])
  rw [hk] at hT
  simp only [TKok] at hT
  subst hT
  split at h
  ·rename_i s
   refine ⟨_,h,fun B S ty u hu=> ?_⟩
   simp only [RelV,RepC] at hu
   obtain ⟨rfl,_⟩:=hu
   exact ⟨.int .i64 s.size,fun w=>by simp [Builtin.len_,run_underlying hd,goInt],intA_rel _ _⟩
  ·exact h.elim
 ·exact h.elim
theorem boundK_sound {ch:Prop→Prop}{x:Option AV}{dflt most:Nat}{K:Nat→Prop}(h:boundK ch x dflt most K) :
  ∃ n,K n∧∀ (B:List (Option BI)) (S:Rd),(∀ p,ch p→p)→(x=none→n=dflt)∧(x≠none→n≤most)∧∀ (y:AV),x=some y→∀ u,RelV B S y u→∃ k,u= .int k (n:Int):=by
 unfold boundK at h
 split at h
 ·exact ⟨_,h,fun B S hc=>⟨fun _=>rfl,fun h=>absurd rfl h,fun y e=>by simp at e⟩⟩
 ·rename_i k z
  refine ⟨_,h.2,fun B S hc=> ?_⟩
  obtain ⟨h0,h1⟩:=hc _ h.1
  refine ⟨fun e=>by simp at e,fun _=>by omega,fun y e u hu=> ?_⟩
  simp only [Option.some.injEq] at e
  subst e
  simp only [RelV,RepC] at hu
  refine ⟨k,?_⟩
  rw [hu.1,Int.toNat_of_nonneg h0]
 ·exact h.elim
theorem run_sliceBounds (isSlice:Bool)(len cap:Nat)(lo hi:Option Value)(l h:Nat)(w:World)(hh:(hi=none→h=len)∧(hi≠none→h≤cap)∧∀ v,hi=some v→∃ k,v= .int k (h:Int))
  (hl:(lo=none→l=0)∧(lo≠none→l≤h)∧∀ v,lo=some v→∃ k,v= .int k (l:Int)) :
  (Instr.sliceBounds isSlice len cap lo hi none).run P w= .ok (l,h,cap) w:=by
 have hb:∀ (k:IntKind) (n y:Nat) (c:BoundsCode),n≤y→(Instr.sliceBound (.int k (n:Int)) y c).run P w= .ok n w:=by
  intro k n y c hn
  have h1:(0:Int)≤(n:Int)∧(n:Int)≤(y:Int):=by omega
  simp [Instr.sliceBound,asIntOf,h1]
 cases hi with
 | none =>
  obtain rfl:=hh.1 rfl
  cases lo with
  | none=>obtain rfl:=hl.1 rfl; simp [Instr.sliceBounds]
  | some v =>
   obtain ⟨k,rfl⟩:=hl.2.2 v rfl
   simp [Instr.sliceBounds,hb k l _ _ (hl.2.1 (by simp))]
 | some v =>
  obtain ⟨k,rfl⟩:=hh.2.2 v rfl
  have e1:=fun c=>hb k h cap c (hh.2.1 (by simp))
  cases lo with
  | none=>obtain rfl:=hl.1 rfl; simp [Instr.sliceBounds,e1]
  | some v =>
   obtain ⟨k',rfl⟩:=hl.2.2 v rfl
   simp [Instr.sliceBounds,e1,hb k' l _ _ (hl.2.1 (by simp))]
theorem optmap_none {x:Option Operand}{f:Operand→AV}(h:x.map f=none):x=none:=by cases x<;>simp_all
theorem bound_val {ρ:Operand→Value}{ev:Operand→AV}{x:Option Operand}{B:List (Option BI)}{S:Rd}{n dflt most:Nat}
  (hx:∀ o,x=some o→RelV B S (ev o) (ρ o))
  (h:(x.map ev=none→n=dflt)∧(x.map ev≠none→n≤most)∧∀ (y:AV),x.map ev=some y→∀ u,RelV B S y u→∃ k,u= .int k (n:Int)) :
  (x.map ρ=none→n=dflt)∧(x.map ρ≠none→n≤most)∧∀ v,x.map ρ=some v→∃ k,v= .int k (n:Int):=by
 cases x with
 | none=>exact ⟨fun _=>h.1 rfl,fun e=>absurd rfl e,fun v e=>by simp at e⟩
 | some o =>
  refine ⟨fun e=>by simp at e,fun _=>h.2.1 (by simp),fun v e=> ?_⟩
  simp only [Option.map_some,Option.some.injEq] at e
  subst e
  exact h.2.2 (ev o) rfl _ (hx o rfl)
def MostOk (B:List (Option BI)) (L:List AO):Prop :=
 (∀ (id:Nat) (bi:BI) (off len:Nat),B[id]? =some (some bi)→off+len≤bi.n→off+mostO L id off len≤bi.n∧mostO L id off len≤max len 140737488355328) ∧
 (∀ (id:Nat) (bo:Option BI) (off:Nat),B[id]? =some bo→(∀ bi,bo=some bi→bi.n≤off)→mostO L id off 0=0) ∧
 (∀ (id:Nat) (bi:BI) (ys:List AV),B[id]? =some (some bi)→getO L id= .box ys→bi.o=0∧bi.n=ys.length∧bi.sz=ys.length)
theorem lenA_eq:∀ l:List AV,lenA l=l.length
 | []=>rfl
 | _::r=>by simp [lenA,lenA_eq r]
theorem RelL.most {M:Mz}{B:List (Option BI)}{L:List AO}{w:World}(h:RelL M B L w):MostOk B L:=by
 have key:∀ (id:Nat) (bo:Option BI),B[id]? =some bo→∀ e n f,(getO L id= .row e n f∨getO L id= .frz e n f)→(bo=none→n=0)∧∀ bi,bo=some bi→bi.n=n:=by
  intro id bo hb e n f hr
  have:=h.obj id bo hb
  rcases hr with hr|hr<;>rw [hr] at this<;>cases bo with
  | none=>exact ⟨fun _=>this,fun bi e=>by cases e⟩
  | some bi=>exact ⟨(fun e=>by cases e),(fun bi' e=>by cases e; exact this.1)⟩
 refine ⟨fun id bi off len hb hl=> ?_,fun id bo off hb hz=> ?_,fun id bi ys hb hO=> ?_⟩
 rotate_left 2
 ·have hob:=h.obj id _ hb
  rw [hO] at hob
  obtain ⟨bi',cs,ty,he,h1,h2,h3,h0,h4⟩:=hob
  simp only [Option.some.injEq] at he
  subst he
  have:=RelVs.length _ _ h4
  simp only [Array.length_toList] at this
  exact ⟨h2,by omega,by omega⟩
 ·unfold mostO
  split
  ·rename_i e n f hO
   have:=(key id _ hb e n f (.inl hO)).2 bi rfl
   omega
  ·rename_i e n f hO
   have:=(key id _ hb e n f (.inr hO)).2 bi rfl
   omega
  ·exact ⟨hl,by omega⟩
 ·have fin:∀ e n f,(getO L id= .row e n f∨getO L id= .frz e n f)→max 0 (min (n-off) 140737488355328)=0:=by
   intro e n f hr
   have:=key id _ hb e n f hr
   cases bo with
   | none=>have:=this.1 rfl; omega
   | some bi=>have h1:=this.2 bi rfl; have h2:=hz bi rfl; omega
  unfold mostO
  split
  ·rename_i e n f hO; exact fin e n f (.inl hO)
  ·rename_i e n f hO; exact fin e n f (.inr hO)
  ·rfl
theorem opSlice_sound (htb:TbOk P tb){ch:Prop→Prop}{t:TypeId}{x:AV}{ev:Operand→AV}{lo hi mx:Option Operand}{L:List AO}{K:AV→Prop}(h:opSlice tb ch L t x (lo.map ev) (hi.map ev) (mx.map ev) K) :
  ∃ y,K y∧∀ (B:List (Option BI)) (S:Rd) (w:World) (u:Value) (ρ:Operand→Value),MostOk B L→(∀ p,ch p→p)→RelV B S x u →
   (∀ o,lo=some o∨hi=some o∨mx=some o→RelV B S (ev o) (ρ o)) →
   ∃ r,(Instr.sliceAt t u (lo.map ρ) (hi.map ρ) (mx.map ρ)).run P w= .ok r w∧RelV B S y r:=by
 unfold opSlice at h
 split at h
 ·rename_i n e hk
  obtain ⟨d,hd,hT⟩:=(htb t).under (by simp [hk,TK.isOther])
  rw [hk] at hT
  simp only [TKok] at hT
  subst hT
  split at h
  ·rename_i hmx
   obtain rfl:=optmap_none hmx
   split at h
   ·exact h.elim
   rename_i hcond
   split at hcond
   ·simp at hcond
   rename_i ho
   split at hcond
   ·rename_i hes
    have hes:=Nat.beq_spec hes
    have hbig:=Nat.le_of_ble_eq_true hcond
    split at h
    ·rename_i id
     split at h
     ·rename_i ys hO
      split at h
      ·rename_i hly
       have hly:=Nat.beq_spec hly
       rw [lenA_eq] at hly
       obtain ⟨hh,h1,g1⟩:=boundK_sound h
       obtain ⟨ll,h2,g2⟩:=boundK_sound h1
       refine ⟨_,h2,fun B S w u ρ hM hc hu hx=> ?_⟩
       have b1:=bound_val (ρ:=ρ) (fun o e=>hx o (.inr (.inl e))) (g1 B S hc)
       have b2:=bound_val (ρ:=ρ) (fun o e=>hx o (.inl e)) (g2 B S hc)
       have hhn:hh≤n:=by
        by_cases hq:hi.map ρ=none
        ·exact Nat.le_of_eq (b1.1 hq)
        ·exact b1.2.1 hq
       have hlh:ll≤hh:=by
        by_cases hq:lo.map ρ=none
        ·rw [b2.1 hq]; exact Nat.zero_le _
        ·exact b2.2.1 hq
       simp only [RelV] at hu ⊢
       obtain ⟨bi,hb,rfl⟩:=hu
       obtain ⟨q1,q2,q3⟩:=hM.2.2 id bi ys hb hO
       have hs:=(htb e).size ho w
       have hrun:=run_sliceBounds (P:=P) false n n (lo.map ρ) (hi.map ρ) ll hh w b1 b2
       refine ⟨.slice (some (if n=ll then ⟨bi.b,bi.o+0,none⟩ else (Addr.mk bi.b (bi.o+0) none).add (ll*(tb e).sz))) (hh-ll) (n-ll),?_,?_⟩
       ·simp [Instr.sliceAt,run_underlying hd,Instr.sureAddr,hrun,hs]
       ·by_cases hz:n=ll
        ·refine .inr ⟨by omega,⟨some ⟨bi.b,bi.o+0,none⟩,?_⟩,_,hb,fun bi' e=> ?_⟩
         ·rw [if_pos hz,show hh-ll=0 by omega,show n-ll=0 by omega]
         ·cases e; omega
        ·refine .inl ⟨bi,n-ll,hb,?_,by omega,by omega,by omega,by omega⟩
         rw [if_neg hz]; simp [addr_add,hes]
      ·exact h.elim
     ·exact h.elim
    ·rename_i g xs k
     split at h
     ·rename_i hkn
      have hkn:=Nat.le_of_ble_eq_true hkn
      obtain ⟨hh,h1,g1⟩:=boundK_sound h
      obtain ⟨ll,h2,g2⟩:=boundK_sound h1
      refine ⟨_,h2,fun B S w u ρ hM hc hu hx=> ?_⟩
      have b1:=bound_val (ρ:=ρ) (fun o e=>hx o (.inr (.inl e))) (g1 B S hc)
      have b2:=bound_val (ρ:=ρ) (fun o e=>hx o (.inl e)) (g2 B S hc)
      have hhn:hh≤n:=by
       by_cases hq:hi.map ρ=none
       ·exact Nat.le_of_eq (b1.1 hq)
       ·exact b1.2.1 hq
      have hlh:ll≤hh:=by
       by_cases hq:lo.map ρ=none
       ·rw [b2.1 hq]; exact Nat.zero_le _
       ·exact b2.2.1 hq
      simp only [RelV] at hu ⊢
      obtain ⟨b,o,rfl,hr⟩:=hu
      have hs:=(htb e).size ho w
      have hrun:=run_sliceBounds (P:=P) false n n (lo.map ρ) (hi.map ρ) ll hh w b1 b2
      refine ⟨.slice (some (if n=ll then ⟨b,o+k,none⟩ else (Addr.mk b (o+k) none).add (ll*(tb e).sz))) (hh-ll) (n-ll),?_,?_⟩
      ·simp [Instr.sliceAt,run_underlying hd,Instr.sureAddr,hrun,hs]
      ·simp only [RepC]
       refine ⟨_,n-ll,rfl,by omega,?_⟩
       by_cases hz:hh-ll=0
       ·exact .inl hz
       ·refine .inr ⟨b,o+k+ll,?_,fun i hi=>⟨rfl,?_⟩⟩
        ·rw [if_neg (by omega)]; simp [addr_add,hes]
        ·have hlt:k+(ll+i)<xs.length:=by omega
         obtain ⟨u,r1,r2⟩:=RepCs.nth xs o (k+(ll+i)) xs[k+(ll+i)] hr (List.getElem?_eq_getElem hlt)
         have e1:∀ (l:List C) (j:Nat) (h:j<l.length),nthCC l j=l[j]:=by
          intro l
          induction l with
          | nil=>intro j h; simp at h
          | cons y r ih =>
           intro j h
           cases j with
           | zero=>rfl
           | succ j=>simp only [nthCC]; rw [ih j (by simpa using h)]; rfl
         rw [e1 xs _ hlt]
         simp only [RepCs,and_true]
         refine ⟨u,?_,r2⟩
         rw [show o+k+ll+i*1=o+(k+(ll+i)) from by omega]
         exact r1
     ·exact h.elim
    ·exact h.elim
   ·simp at hcond
  ·exact h.elim
 ·rename_i hk
  obtain ⟨d,hd,hT⟩:=(htb t).under (by simp [hk,TK.isOther])
  rw [hk] at hT
  simp only [TKok] at hT
  subst hT
  split at h
  ·rename_i hmx
   obtain rfl:=optmap_none hmx
   split at h
   ·rename_i s
    obtain ⟨hh,h1,g1⟩:=boundK_sound h
    obtain ⟨ll,h2,g2⟩:=boundK_sound h1
    refine ⟨_,h2,fun B S w u ρ hM hc hu hx=> ?_⟩
    have b1:=bound_val (ρ:=ρ) (fun o e=>hx o (.inr (.inl e))) (g1 B S hc)
    have b2:=bound_val (ρ:=ρ) (fun o e=>hx o (.inl e)) (g2 B S hc)
    simp only [RelV,RepC] at hu
    obtain ⟨rfl,_⟩:=hu
    refine ⟨.string (s.extract ll hh),?_,by simp [RelV,RepC,Value.oneCell']⟩
    have:=run_sliceBounds (P:=P) false s.size s.size (lo.map ρ) (hi.map ρ) ll hh w b1 b2
    simp [Instr.sliceAt,Instr.slice,run_underlying hd,this]
   ·exact h.elim
  ·exact h.elim
 ·rename_i e hk
  obtain ⟨d,hd,hT⟩:=(htb t).under (by simp [hk,TK.isOther])
  rw [hk] at hT
  simp only [TKok] at hT
  subst hT
  split at h
  ·exact h.elim
  rename_i ho
  split at h
  ·rename_i hmx
   obtain rfl:=optmap_none hmx
   have key:∀ (a:Option Addr) (len cap ll hh:Nat) (lo' hi':Option Value) (w:World),(Instr.sliceBounds true len cap lo' hi' none).run P w= .ok (ll,hh,cap) w →
     (Instr.sliceAt t (.slice a len cap) lo' hi' none).run P w= .ok (.slice (if cap=ll then a else a.map (·.add (ll*(tb e).sz))) (hh-ll) (cap-ll)) w:=by
    intro a len cap ll hh lo' hi' w hrun
    have hs:=(htb e).size ho w
    simp [Instr.sliceAt,Instr.slice,run_underlying hd,hrun,hs]
   split at h
   ·rename_i g esz n f
    split at h
    ·rename_i he
     obtain rfl:=Nat.beq_spec he
     obtain ⟨hh,h1,g1⟩:=boundK_sound h
     obtain ⟨ll,h2,g2⟩:=boundK_sound h1
     refine ⟨_,h2,fun B S w u ρ hM hc hu hx=> ?_⟩
     have b1:=bound_val (ρ:=ρ) (fun o e=>hx o (.inr (.inl e))) (g1 B S hc)
     have b2:=bound_val (ρ:=ρ) (fun o e=>hx o (.inl e)) (g2 B S hc)
     simp only [RelV,RepC] at hu
     obtain ⟨a,cap,rfl,hcap,hu⟩:=hu
     have hhn:hh≤n:=by
      by_cases hq:hi.map ρ=none
      ·exact Nat.le_of_eq (b1.1 hq)
      ·exact b1.2.1 hq
     have hlh:ll≤hh:=by
      by_cases hq:lo.map ρ=none
      ·rw [b2.1 hq]; exact Nat.zero_le _
      ·exact b2.2.1 hq
     refine ⟨_,key a n cap ll hh _ _ w (run_sliceBounds true n cap _ _ ll hh w ⟨b1.1,fun e=>Nat.le_trans (b1.2.1 e) hcap.1,b1.2.2⟩ b2),?_⟩
     simp only [RelV,RepC]
     refine ⟨_,_,rfl,by omega,?_⟩
     rcases hu with hu|⟨b,o,rfl,hu⟩
     ·exact .inl (by omega)
     ·by_cases hz:hh-ll=0
      ·exact .inl hz
      ·refine .inr ⟨b,o+ll*(tb e).sz,?_,fun i hi=> ?_⟩
       ·rw [if_neg (by omega)]; simp [addr_add]
       ·have:=hu (ll+i) (by omega)
        refine ⟨this.1,?_⟩
        rw [show o+ll*(tb e).sz+i*(tb e).sz=o+(ll+i)*(tb e).sz from by rw [Nat.add_mul]; omega]
        exact this.2
    ·exact h.elim
   ·rename_i id esz off len
    split at h
    ·rename_i he
     obtain rfl:=Nat.beq_spec he
     obtain ⟨hh,h1,g1⟩:=boundK_sound h
     obtain ⟨ll,h2,g2⟩:=boundK_sound h1
     refine ⟨_,h2,fun B S w u ρ hM hc hu hx=> ?_⟩
     have b1:=bound_val (ρ:=ρ) (fun o e=>hx o (.inr (.inl e))) (g1 B S hc)
     have b2:=bound_val (ρ:=ρ) (fun o e=>hx o (.inl e)) (g2 B S hc)
     have hlh:ll≤hh:=by
      by_cases hq:lo.map ρ=none
      ·rw [b2.1 hq]; exact Nat.zero_le _
      ·exact b2.2.1 hq
     simp only [RelV] at hu ⊢
     rcases hu with ⟨bi,cap,hb,rfl,q1,q2,q3⟩|⟨rfl,⟨a,rfl⟩,bo,hbo,hz⟩
     ·have hhn:off+hh≤bi.n∧hh≤140737488355328:=by
       by_cases hq:hi.map ρ=none
       ·have:=b1.1 hq; omega
       ·have:=b1.2.1 hq
        have:=hM.1 id bi off len hb q3.1
        omega
      refine ⟨_,key _ len cap ll hh _ _ w (run_sliceBounds true len cap _ _ ll hh w ⟨b1.1,fun e=>by omega,b1.2.2⟩ b2),?_⟩
      by_cases hz:cap=ll
      ·refine .inr ⟨by omega,⟨some ⟨bi.b,bi.o+off*(tb e).sz,none⟩,?_⟩,_,hb,fun bi' e=> ?_⟩
       ·rw [if_pos hz,show hh-ll=0 by omega,show cap-ll=0 by omega]
       ·cases e; omega
      ·refine .inl ⟨bi,cap-ll,hb,?_,by omega,?_,by omega,by omega⟩
       ·rw [if_neg hz]; simp [addr_add,Nat.add_mul,Nat.add_assoc]
       ·rw [show off+ll+(cap-ll)=off+cap by omega]; exact q2
     ·have hm:=hM.2.1 id bo off hbo hz
      have hhn:hh≤0:=by
       by_cases hq:hi.map ρ=none
       ·exact Nat.le_of_eq (b1.1 hq)
       ·have:=b1.2.1 hq; omega
      have e1:ll=0:=by omega
      have e2:hh=0:=by omega
      subst e1; subst e2
      refine ⟨_,key _ 0 0 0 0 _ _ w (run_sliceBounds true 0 0 _ _ 0 0 w ⟨b1.1,fun _=>Nat.le_refl _,b1.2.2⟩ b2),.inr ⟨rfl,⟨a,by simp⟩,bo,hbo,fun bi e=>by have:=hz bi e; omega⟩⟩
    ·exact h.elim
   ·obtain ⟨hh,h1,g1⟩:=boundK_sound h
    obtain ⟨ll,h2,g2⟩:=boundK_sound h1
    refine ⟨_,h2,fun B S w u ρ hM hc hu hx=> ?_⟩
    have b1:=bound_val (ρ:=ρ) (fun o e=>hx o (.inr (.inl e))) (g1 B S hc)
    have b2:=bound_val (ρ:=ρ) (fun o e=>hx o (.inl e)) (g2 B S hc)
    simp only [RelV,RepC] at hu
    obtain ⟨rfl,_⟩:=hu
    have e1:hh=0:=by
     by_cases hq:hi.map ρ=none
     ·exact b1.1 hq
     ·exact Nat.le_zero.1 (b1.2.1 hq)
    subst e1
    have e2:ll=0:=by
     by_cases hq:lo.map ρ=none
     ·exact b2.1 hq
     ·exact Nat.le_zero.1 (b2.2.1 hq)
    subst e2
    exact ⟨_,key none 0 0 0 0 _ _ w (run_sliceBounds true 0 0 _ _ 0 0 w b1 b2),by simp [RelV,RepC,Value.oneCell']⟩
   ·exact h.elim
  ·rename_i k hmx
   split at h
   ·rename_i k' hhi
    split at h
    ·rename_i hlo
     obtain rfl:=optmap_none hlo
     have key:∀ (a:Option Addr) (len cap:Nat) (B:List (Option BI)) (S:Rd) (ρ:Operand→Value) (w:World),(∀ o,(none:Option Operand)=some o∨hi=some o∨mx=some o→RelV B S (ev o) (ρ o)) →
       (Instr.sliceAt t (.slice a len cap) none (hi.map ρ) (mx.map ρ)).run P w= .ok (.slice a 0 0) w:=by
      intro a len cap B S ρ w hx
      cases hi with
      | none=>simp at hhi
      | some hi =>
       cases mx with
       | none=>simp at hmx
       | some mx =>
        simp only [Option.map_some,Option.some.injEq] at hhi hmx
        have h1:=hx hi (.inr (.inl rfl))
        have h2:=hx mx (.inr (.inr rfl))
        rw [hhi] at h1
        rw [hmx] at h2
        simp only [RelV,RepC] at h1 h2
        have hs:=(htb e).size ho w
        simp [Instr.sliceAt,Instr.slice,Instr.sliceBounds,Instr.sliceBound,asIntOf,run_underlying hd,h1.1,h2.1,hs]
     split at h
     ·refine ⟨_,h,fun B S w u ρ hM hc hu hx=> ?_⟩
      simp only [RelV,RepC] at hu
      obtain ⟨a,cap,rfl,_⟩:=hu
      exact ⟨_,key a _ cap B S ρ w hx,by simp [RelV,RepC]⟩
     ·refine ⟨_,h,fun B S w u ρ hM hc hu hx=> ?_⟩
      simp only [RelV,RepC] at hu
      obtain ⟨a,rfl⟩:=hu
      exact ⟨_,key a 0 0 B S ρ w hx,by simp [RelV,RepC]⟩
     ·refine ⟨_,h,fun B S w u ρ hM hc hu hx=> ?_⟩
      simp only [RelV] at hu
      rcases hu with ⟨bi,cap,_,rfl,_⟩|⟨rfl,⟨a,rfl⟩,_⟩
      ·exact ⟨_,key _ _ cap B S ρ w hx,by simp [RelV,RepC]⟩
      ·exact ⟨_,key a 0 0 B S ρ w hx,by simp [RelV,RepC]⟩
     ·refine ⟨_,h,fun B S w u ρ hM hc hu hx=> ?_⟩
      simp only [RelV,RepC] at hu
      obtain ⟨rfl,_⟩:=hu
      exact ⟨_,key none 0 0 B S ρ w hx,by simp [RelV,RepC,Value.oneCell']⟩
     ·exact h.elim
    ·exact h.elim
   ·exact h.elim
  ·exact h.elim
 ·exact h.elim
theorem nthA_eq:∀ (xs:List AV) (i:Nat),nthA xs i=(xs[i]?).getD .any
 | [],i=>by cases i<;>simp [nthA]
 | x::r,0=>by simp [nthA]
 | x::r,n+1=>by simp [nthA,nthA_eq r n]
theorem opExtract_sound {x:AV}{i:Nat}{K:AV→Prop}(h:opExtract x i K) :
  ∃ y,K y∧∀ (B:List (Option BI)) (S:Rd) (u:Value),RelV B S x u→∃ r,(∀ w,(Instr.extract u i).run P w= .ok r w)∧RelV B S y r:=by
 unfold opExtract at h
 split at h
 ·rename_i xs
  split at h
  ·rename_i hi
   refine ⟨_,h,fun B S u hu=> ?_⟩
   simp only [RelV] at hu
   obtain ⟨arr,rfl,hu⟩:=hu
   have hlt:i<xs.length:=by simpa [Nat.blt_eq] using hi
   obtain ⟨v,h1,h2⟩:=RelVs.nth xs _ i xs[i] hu (List.getElem?_eq_getElem hlt)
   have h3:arr[i]? =some v:=by simpa using h1
   refine ⟨v,fun w=>by simp [Instr.extract,h3],?_⟩
   rw [nthA_eq,List.getElem?_eq_getElem hlt]
   exact h2
  ·exact h.elim
 ·exact h.elim
end
end Go.VA
namespace Go.VA
open Go Go.RowKit
section
variable {P:Program} {tb:TB}
theorem RelVs.mk {B:List (Option BI)}{S:Rd}:∀ (xs:List AV) (us:List Value),us.length=xs.length→(∀ (j:Nat) (x:AV),xs[j]? =some x→∃ u,us[j]? =some u∧RelV B S x u)→RelVs B S xs us
 | [],us,h,_=>by simp at h; simp [RelVs,h]
 | x::xs,[],h,_=>by simp at h
 | x::xs,u::us,h,k=>by
  simp only [RelVs]
  have h0:=k 0 x (by simp)
  simp only [List.getElem?_cons_zero,Option.some.injEq,exists_eq_left'] at h0
  exact ⟨u,us,rfl,h0,RelVs.mk xs us (by simpa using h) fun j y hy=>by simpa using k (j+1) y (by simpa using hy)⟩
theorem layA_spec:∀ (ys:List AV) (o:Nat) (xs zs:List AV),layA ys o xs=some zs→o+xs.length≤ys.length∧zs.length=ys.length ∧
  ∀ i,zs[i]? =if o≤i∧i<o+xs.length then xs[i-o]? else ys[i]?
 | ys,0,[],zs,h=>by
  have:zs=ys:=by cases ys<;>simpa [layA] using h.symm
  subst this
  refine ⟨by simp,rfl,fun i=> ?_⟩
  rw [if_neg (by simp)]
 | [],0,_::_,zs,h=>by simp [layA] at h
 | y::r,0,x::xs,zs,h=>by
  simp only [layA] at h
  split at h
  ·rename_i z hz
   obtain ⟨h1,h2,h3⟩:=layA_spec r 0 xs z hz
   simp only [Option.some.injEq] at h
   subst h
   refine ⟨by simp; omega,by simp [h2],fun i=> ?_⟩
   cases i with
   | zero=>simp
   | succ i =>
    simp only [List.getElem?_cons_succ,h3 i,Nat.zero_le,true_and,Nat.zero_add,List.length_cons,Nat.sub_zero,Nat.add_lt_add_iff_right]
  ·simp at h
 | y::r,n+1,xs,zs,h=>by
  simp only [layA] at h
  split at h
  ·rename_i z hz
   obtain ⟨h1,h2,h3⟩:=layA_spec r n xs z hz
   simp only [Option.some.injEq] at h
   subst h
   refine ⟨by simp; omega,by simp [h2],fun i=> ?_⟩
   cases i with
   | zero=>simp
   | succ i =>
    simp only [List.getElem?_cons_succ,h3 i]
    by_cases hq:n≤i∧i<n+xs.length
    ·rw [if_pos hq,if_pos (by omega)]; congr 1; omega
    ·rw [if_neg hq,if_neg (by omega)]
  ·simp at h
 | [],_+1,_,zs,h=>by simp [layA] at h
theorem foldl_set:∀ (vs:List Value) (k off:Nat) (cs:Array Value),((vs.zipIdx k).foldl (fun cs p=>cs.setIfInBounds (off+p.2) p.1) cs).size=cs.size ∧
  ∀ i,((vs.zipIdx k).foldl (fun cs p=>cs.setIfInBounds (off+p.2) p.1) cs)[i]? =if off+k≤i∧i<off+k+vs.length∧i<cs.size then vs[i-(off+k)]? else cs[i]?
 | [],k,off,cs=>by
  refine ⟨by simp,fun i=> ?_⟩
  rw [if_neg (by simp; omega)]; simp
 | v::vs,k,off,cs=>by
  obtain ⟨h1,h2⟩:=foldl_set vs (k+1) off (cs.setIfInBounds (off+k) v)
  simp only [List.zipIdx_cons,List.foldl_cons]
  refine ⟨by rw [h1]; simp,fun i=> ?_⟩
  rw [h2]
  simp only [Array.size_setIfInBounds,List.length_cons]
  by_cases h3:off+(k+1)≤i∧i<off+(k+1)+vs.length∧i<cs.size
  ·rw [if_pos h3,if_pos (by omega)]
   rw [show i-(off+k)=(i-(off+(k+1)))+1 from by omega]
   simp
  ·rw [if_neg h3]
   by_cases h4:i=off+k
   ·subst h4
    by_cases h5:off+k<cs.size
    ·rw [if_pos (by omega)]; simp [h5]
    ·rw [if_neg (by omega)]
     simp [Array.setIfInBounds,h5]
   ·rw [if_neg (by omega),Array.getElem?_setIfInBounds_ne (by omega)]
theorem RepC.one {S:Rd}{x:C}{u:Value}(h:RepC S x u):u.oneCell'=true:=by
 cases x<;>simp only [RepC] at h
 case v=>rw [h.1]; exact h.2
 case sl=>obtain ⟨a,cap,rfl,_⟩:=h; rfl
 case emp=>obtain ⟨a,rfl⟩:=h; rfl
theorem RepVs.one {S:Rd}:∀ (xs:List C) (us:List Value),RepVs S xs us→∀ v ∈ us,v.oneCell'=true
 | [],us,h,v,hv=>by simp [RepVs] at h; subst h; simp at hv
 | x::xs,us,h,v,hv=>by
  simp only [RepVs] at h
  obtain ⟨u,r,rfl,h1,h2⟩:=h
  rcases List.mem_cons.1 hv with rfl|hv
  ·exact RepC.one h1
  ·exact RepVs.one xs r h2 v hv
theorem one_cells {u:Value}(h:u.oneCell'=true):u.cells= #[u]:=by cases u<;>simp_all [Value.cells,Value.oneCell']
theorem cells_rel {B:List (Option BI)}{S:Rd}{x:AV}{u:Value}{xs:List AV}(h:cellsA x=some xs)(hu:RelV B S x u):RelVs B S xs u.cells.toList∧∀ v ∈ u.cells.toList,v.oneCell'=true:=by
 cases x<;>simp only [cellsA,reduceCtorEq,Option.some.injEq] at h<;>subst h
 case ag xs =>
  simp only [RelV] at hu
  obtain ⟨arr,rfl,hu⟩:=hu
  exact ⟨RelVs.of_RepVs xs _ hu,RepVs.one xs _ hu⟩
 case agx xs =>
  simp only [RelV] at hu
  obtain ⟨arr,rfl,h0,hu⟩:=hu
  exact ⟨hu,h0⟩
 all_goals
  have h1:u.oneCell'=true:=by
   simp only [RelV] at hu
   first
    | exact RepC.one hu
    | (obtain ⟨_,rfl,_⟩:=hu; rfl)
    | (obtain ⟨_,_,rfl⟩:=hu; rfl)
    | (obtain ⟨_,_,rfl,_⟩:=hu; rfl)
    | (rcases hu with ⟨_,_,_,rfl,_⟩|⟨rfl,⟨_,rfl⟩,_⟩<;>rfl)
  rw [one_cells h1]
  refine ⟨?_,by simpa using h1⟩
  simp only [RelVs]
  exact ⟨u,[],rfl,hu,rfl⟩
theorem fillA_sound {place place':Nat→Option (Nat×Nat)}(hplace:∀ i r,place i=some r→place' i=some r){B:List (Option BI)}{S:Rd}:∀ (ps:List (Nat×AV)) (vs:List (Nat×Value)) (ys zs:List AV) (cs:Array Value),
  fillA place ys ps=some zs→RelVs B S ys cs.toList→(∀ v ∈ cs.toList,v.oneCell'=true)→ps.length=vs.length→(∀ (j:Nat) (p:Nat×AV) (q:Nat×Value),ps[j]? =some p→vs[j]? =some q→p.1=q.1∧RelV B S p.2 q.2) →
  ∃ cs':Array Value,Instr.fill place' cs vs=some cs'∧RelVs B S zs cs'.toList∧∀ v ∈ cs'.toList,v.oneCell'=true
 | [],[],ys,zs,cs,h,hr,h0,_,_=>by
  simp only [fillA,Option.some.injEq] at h
  subst h
  exact ⟨cs,rfl,hr,h0⟩
 | [],_::_,_,_,_,_,_,_,hl,_=>by simp at hl
 | _::_,[],_,_,_,_,_,_,hl,_=>by simp at hl
 | (i,x)::ps,(i',v)::vs,ys,zs,cs,h,hr,h0,hl,hp=>by
  obtain ⟨e1,e2⟩:=hp 0 (i,x) (i',v) (by simp) (by simp)
  simp only at e1 e2
  subst e1
  simp only [fillA] at h
  split at h
  ·simp at h
  ·rename_i o n hpl
   split at h
   ·simp at h
   ·rename_i xs hxs
    split at h
    ·simp at h
    ·rename_i hn
     have hn:=Nat.beq_spec hn
     split at h
     ·simp at h
     ·rename_i ws hws
      obtain ⟨hv,hv1⟩:=cells_rel hxs e2
      have hvl:=RelVs.length _ _ hv
      simp only [Array.length_toList] at hvl
      obtain ⟨g1,g2,g3⟩:=layA_spec ys o xs ws hws
      have hcl:=RelVs.length _ _ hr
      simp only [Array.length_toList] at hcl
      have hfold:v.cells.zipIdx.foldl (fun cs (x:Value×Nat)=>cs.setIfInBounds (o+x.2) x.1) cs=(v.cells.toList.zipIdx 0).foldl (fun cs p=>cs.setIfInBounds (o+p.2) p.1) cs:=by
       rw [← Array.foldl_toList]; simp
      obtain ⟨f1,f2⟩:=foldl_set v.cells.toList 0 o cs
      have hrel:RelVs B S ws (v.cells.zipIdx.foldl (fun cs (x:Value×Nat)=>cs.setIfInBounds (o+x.2) x.1) cs).toList:=by
       rw [hfold]
       refine RelVs.mk _ _ (by simp [f1,g2,hcl]) fun j y hy=> ?_
       rw [g3] at hy
       rw [Array.getElem?_toList,f2]
       simp only [Nat.add_zero,Array.length_toList,hvl]
       by_cases hq:o≤j∧j<o+xs.length
       ·rw [if_pos hq] at hy
        rw [if_pos (by omega)]
        exact RelVs.nth _ _ _ _ hv hy
       ·rw [if_neg hq] at hy
        rw [if_neg (by omega)]
        simpa using RelVs.nth _ _ _ _ hr hy
      have hone:∀ v' ∈ (v.cells.zipIdx.foldl (fun cs (x:Value×Nat)=>cs.setIfInBounds (o+x.2) x.1) cs).toList,v'.oneCell'=true:=by
       intro v' hv'
       rw [hfold] at hv'
       obtain ⟨j,hj⟩:=List.mem_iff_getElem?.1 hv'
       rw [Array.getElem?_toList,f2] at hj
       split at hj
       ·exact hv1 _ (List.mem_of_getElem? hj)
       ·exact h0 _ (by rw [← Array.getElem?_toList] at hj; exact List.mem_of_getElem? hj)
      obtain ⟨cs',k1,k2⟩:=fillA_sound hplace ps vs ws zs _ h hrel hone (by simpa using hl) (fun j p q hj hj'=>hp (j+1) p q (by simpa using hj) (by simpa using hj'))
      refine ⟨cs',?_,k2⟩
      simp only [Instr.fill,hplace _ _ hpl]
      rw [if_neg (by simp; omega)]
      exact k1
theorem mkAgg_sound {B:List (Option BI)}{S:Rd}{ys:List AV}{cs:Array Value}(h:RelVs B S ys cs.toList)(h0:∀ v ∈ cs.toList,v.oneCell'=true):RelV B S (mkAgg ys) (.agg cs):=by
 unfold mkAgg
 split
 ·rename_i xs hx
  simp only [RelV]
  exact ⟨cs,rfl,toCs_sound ys xs _ hx h⟩
 ·simp only [RelV]
  exact ⟨cs,rfl,h0,h⟩
theorem RelVs.consts {B:List (Option BI)}{S:Rd}(us:List Value)(h:∀ v ∈ us,v.oneCell'=true):RelVs B S (us.map fun v=> .c (.v v)) us:=by
 have:=RelVs.of_RepVs (B:=B) _ _ (RepVs.consts (S:=S) us h)
 simpa [List.map_map,Function.comp_def] using this
theorem run_mapM_list {α β:Type}(f:α→Sem β)(g:α→β)(w:World):∀ (l:List α),(∀ x ∈ l,(f x).run P w= .ok (g x) w)→(l.mapM f).run P w= .ok (l.map g) w
 | [],_=>by simp
 | x::l,h=>by
  have h1:=h x (by simp)
  have h2:=run_mapM_list f g w l fun y hy=>h y (by simp [hy])
  simp [List.mapM_cons,h1,h2]
theorem opBuild_sound (htb:TbOk P tb){t:TypeId}{ps:List (Nat×AV)}{K:AV→Prop}(h:opBuild tb t ps K) :
  ∃ y,K y∧∀ (B:List (Option BI)) (S:Rd) (w:World) (vs:Array (Nat×Value)),ps.length=vs.size→(∀ (j:Nat) (p:Nat×AV) (q:Nat×Value),ps[j]? =some p→vs[j]? =some q→p.1=q.1∧RelV B S p.2 q.2) →
   ∃ r,(Instr.build t vs).run P w= .ok r w∧RelV B S y r:=by
 unfold opBuild at h
 split at h
 ·rename_i fs hk
  obtain ⟨i,d,z,hi,hd,hT,hs1,hs2,hz1,hz2,hz3,hz4,hz5,_⟩:=(htb t).ok (by simp [hk,TK.isOther])
  rw [hk] at hT
  obtain ⟨fields,rfl,hfs,hin⟩:=hT
  split at h
  ·rename_i ys hy
   refine ⟨_,h,fun B S w vs hl hp=> ?_⟩
   have hpl:∀ i r,placeS tb fs i=some r→(fields.map fun f=>(f.offset,P.cellsOf f.type))[i]? =some r:=by
    intro i r hr
    unfold placeS at hr
    split at hr
    ·rename_i o ty hf
     split at hr
     ·simp at hr
     ·rename_i ho
      obtain ⟨f,hf1,hf2,hf3⟩:=struct_field hfs hf
      obtain ⟨j,hj1,hj2,_⟩:=(htb ty).info ho
      simp only [Option.some.injEq] at hr
      rw [← hr,Array.getElem?_map,hf1]
      simp [hf2,hf3,Program.cellsOf,hj1,hj2]
    ·simp at hr
   obtain ⟨cs',k1,k2,k3⟩:=fillA_sound (place':=fun i=>(fields.map fun f=>(f.offset,P.cellsOf f.type))[i]?) hpl (B:=B) (S:=S) ps vs.toList _ ys z.cells hy (by rw [hz2]; exact RelVs.consts _ hz4) (by rw [hz2]; exact hz4) (by simpa using hl) (fun j p q h1 h2=>hp j p q h1 (by simpa using h2))
   refine ⟨.agg cs',?_,mkAgg_sound k2 k3⟩
   have hm:(fields.mapM fun f=>(do pure (f.offset,← sizeOf f.type):Sem (Nat×Nat))).run P w= .ok (fields.map fun f=>(f.offset,P.cellsOf f.type)) w:=by
    rw [← Array.toArray_toList (xs:=fields),List.mapM_toArray,List.map_toArray]
    rw [Sem.run_map,run_mapM_list _ (fun f=>(f.offset,P.cellsOf f.type))]
    ·rfl
    ·intro f hf
     obtain ⟨j,hj⟩:=hin f hf
     simp [sizeOf,typeInfo,hj,Program.cellsOf]
   have hz:(zeroValue t).run P w= .ok z w:=by simp [zeroValue,typeInfo,hi,hz1]
   simp only [Instr.build,Sem.run_bind,hz,Result.andThen_ok,run_underlying hd w,hm,k1,Sem.run_pure]
  ·exact h.elim
 ·rename_i n e hk
  split at h
  ·exact h.elim
  rename_i ho
  obtain ⟨i,d,z,hi,hd,hT,hs1,hs2,hz1,hz2,hz3,hz4,hz5,_⟩:=(htb t).ok (by simp [hk,TK.isOther])
  rw [hk] at hT
  simp only [TKok] at hT
  subst hT
  split at h
  ·rename_i ys hy
   refine ⟨_,h,fun B S w vs hl hp=> ?_⟩
   obtain ⟨cs',k1,k2,k3⟩:=fillA_sound (fun i r h=>h) (B:=B) (S:=S) ps vs.toList _ ys z.cells hy (by rw [hz2]; exact RelVs.consts _ hz4) (by rw [hz2]; exact hz4) (by simpa using hl) (fun j p q h1 h2=>hp j p q h1 (by simpa using h2))
   refine ⟨.agg cs',?_,mkAgg_sound k2 k3⟩
   have hs:=(htb e).size ho w
   simp [Instr.build,zeroValue,typeInfo,hi,hz1,run_underlying hd,hs,k1]
  ·exact h.elim
 ·exact h.elim
end
end Go.VA
namespace Go.VA
open Go Go.RowKit
section
variable {P:Program} {tb:TB}
theorem run_newRow (e:TypeId)(cells:Array Value)(w:World):(newRow e cells).run P w= .ok ⟨w.heap.size,0,none⟩ (w.alloc (.cells cells e)):=rfl
theorem heap_alloc (w:World)(o:Obj):(w.alloc o).heap[w.heap.size]? =some o:=by
 show (w.heap.push o)[w.heap.size]? =_
 simp
theorem new_free {M:Mz}{B:List (Option BI)}{L:List AO}{w:World}(h:RelL M B L w)(t:Bool):¬ MU M B L t w.heap.size:=by
 intro hm
 have hm:=MU_le t _ hm
 revert hm
 rintro (h1|⟨id,bi,h1,h2,_⟩)
 ·exact absurd (h.mbnd _ h1) (Nat.lt_irrefl _)
 ·have:=h.bnd id bi h1
  omega
theorem ext_alloc (w:World)(o:Obj):Below w.heap.size w (w.alloc o):=(Below.refl _ _).alloc (Nat.le_refl _) _
theorem fill_rows (esz len:Nat):∀ (vs:List (Nat×Value)) (n:Nat) (cs:Array Value),cs.size=len*esz→(∀ (j:Nat) (q:Nat×Value),vs[j]? =some q→q.1=n+j∧q.2.cells.size=esz)→n+vs.length≤len →
  ∃ cs':Array Value,Instr.fill (fun i=>some (i*esz,esz)) cs vs=some cs'∧cs'.size=cs.size∧(∀ i,i<n*esz→cs'[i]? =cs[i]?) ∧
   ∀ (j:Nat) (q:Nat×Value),vs[j]? =some q→∀ m,m<esz→cs'[(n+j)*esz+m]? =q.2.cells[m]?
 | [],n,cs,_,_,_=>⟨cs,rfl,rfl,fun _ _=>rfl,fun j q h=>by simp at h⟩
 | (i,v)::vs,n,cs,hs,hq,hl=>by
  obtain ⟨e1,e2⟩:=hq 0 (i,v) (by simp)
  simp only [Nat.add_zero] at e1 e2
  subst e1
  simp only [List.length_cons] at hl
  have hle:(i+1)*esz≤len*esz:=Nat.mul_le_mul_right _ (by omega)
  rw [Nat.add_mul,Nat.one_mul] at hle
  have hfold:v.cells.zipIdx.foldl (fun cs (x:Value×Nat)=>cs.setIfInBounds (i*esz+x.2) x.1) cs=(v.cells.toList.zipIdx 0).foldl (fun cs p=>cs.setIfInBounds (i*esz+p.2) p.1) cs:=by
   rw [← Array.foldl_toList]; simp
  obtain ⟨f1,f2⟩:=foldl_set v.cells.toList 0 (i*esz) cs
  obtain ⟨cs',k1,k2,k3,k4⟩:=fill_rows esz len vs (i+1) (v.cells.zipIdx.foldl (fun cs (x:Value×Nat)=>cs.setIfInBounds (i*esz+x.2) x.1) cs) (by rw [hfold,f1,hs])
   (fun j q h=>by have:=hq (j+1) q (by simpa using h); exact ⟨by omega,this.2⟩) (by omega)
  refine ⟨cs',?_,by rw [k2,hfold,f1],fun m hm=> ?_,fun j q h m hm=> ?_⟩
  ·simp only [Instr.fill]
   rw [if_neg (by simp; omega)]
   exact k1
  ·rw [k3 m (by rw [Nat.add_mul]; omega),hfold,f2,if_neg (by omega)]
  ·cases j with
   | zero =>
    simp only [List.getElem?_cons_zero,Option.some.injEq] at h
    subst h
    simp only [Nat.add_zero]
    rw [k3 _ (by rw [Nat.add_mul]; omega),hfold,f2]
    simp only [Nat.add_zero,Array.length_toList]
    rw [if_pos (by omega)]
    simp
   | succ j =>
    have:=k4 j q (by simpa using h) m hm
    rwa [show i+1+j=i+(j+1) from by omega] at this
theorem inTurn_spec:∀ (ps:List (Nat×AV)) (n:Nat) (xs:List AV),inTurn ps n=some xs→xs.length=ps.length∧∀ (j:Nat) (p:Nat×AV),ps[j]? =some p→p.1=n+j∧xs[j]? =some p.2
 | [],n,xs,h=>by simp [inTurn] at h; subst h; simp
 | (i,x)::ps,n,xs,h=>by
  simp only [inTurn] at h
  split at h
  ·rename_i hi
   split at h
   ·rename_i l hl
    obtain ⟨h1,h2⟩:=inTurn_spec ps (n+1) l hl
    simp only [Option.some.injEq] at h
    subst h
    refine ⟨by simp [h1],fun j p hp=> ?_⟩
    cases j with
    | zero=>simp at hp; subst hp; exact ⟨by simpa using Nat.beq_spec hi,by simp⟩
    | succ j =>
     have:=h2 j p (by simpa using hp)
     exact ⟨by omega,by simpa using this.2⟩
   ·simp at h
  ·simp at h
theorem rowsC_spec {B:List (Option BI)}{S:Rd}:∀ (xs:List AV) (l:List (List C)),rowsC xs=some l→l.length=xs.length ∧
  ∀ (j:Nat) (x:AV),xs[j]? =some x→∃ row,l[j]? =some row∧∀ u,RelV B S x u→RepVs S row u.cells.toList
 | [],l,h=>by simp [rowsC] at h; subst h; simp
 | x::r,l,h=>by
  have aux:∀ (row:List C) (l':List (List C)),rowsC r=some l'→l=row::l'→(∀ u,RelV B S x u→RepVs S row u.cells.toList)→l.length=(x::r).length ∧
    ∀ (j:Nat) (y:AV),(x::r)[j]? =some y→∃ row,l[j]? =some row∧∀ u,RelV B S y u→RepVs S row u.cells.toList:=by
   intro row l' hl he hrow
   obtain ⟨h1,h2⟩:=rowsC_spec (B:=B) (S:=S) r l' hl
   subst he
   refine ⟨by simp [h1],fun j y hy=> ?_⟩
   cases j with
   | zero=>simp at hy; subst hy; exact ⟨row,by simp,hrow⟩
   | succ j=>simpa using h2 j y (by simpa using hy)
  cases x<;>simp only [rowsC,reduceCtorEq] at h
  case c y =>
   split at h
   ·rename_i l' hl
    simp only [Option.some.injEq] at h
    refine aux [y] l' hl h.symm fun u hu=> ?_
    have:=(cells_rel (B:=B) (S:=S) (x:= .c y) rfl hu).1
    simp only [RelVs] at this
    obtain ⟨v,r',e1,e2,e3⟩:=this
    simp only [RelV] at e2
    simp only [RepVs]
    exact ⟨v,r',e1,e2,e3⟩
   ·simp at h
  case ag ys =>
   split at h
   ·rename_i l' hl
    simp only [Option.some.injEq] at h
    refine aux ys l' hl h.symm fun u hu=> ?_
    simp only [RelV] at hu
    obtain ⟨arr,rfl,hu⟩:=hu
    exact hu
   ·simp at h
theorem allLen_spec {n:Nat}:∀ (l:List (List C)),allLen n l=true→∀ x ∈ l,x.length=n
 | [],_,_,h=>by simp at h
 | y::l,h,x,hx=>by
  simp only [allLen] at h
  split at h
  ·rename_i h1
   rcases List.mem_cons.1 hx with rfl|hx
   ·exact Nat.beq_spec h1
   ·exact allLen_spec l h x hx
  ·simp at h
theorem RepVs.toRepCs {S:Rd}{R:Nat→Value→Prop}:∀ (xs:List C) (us:List Value) (o:Nat),RepVs S xs us→(∀ j v,us[j]? =some v→R (o+j) v)→RepCs S R o xs:=by
 intro xs us o h k
 refine RepCs.mk xs o fun j x hx=> ?_
 obtain ⟨u,h1,h2⟩:=RepVs.nth xs us j x h hx
 exact ⟨u,k j u h1,h2⟩
theorem rep_new {M:Mz}{B:List (Option BI)}{L:List AO}{w:World}(hL:RelL M B L w)(cells:Array Value)(ty:TypeId)(fz:Nat×Nat)(w':World)
  (hw:w'.heap[w.heap.size]? =some (.cells cells ty fz)) (j:Nat) (v:Value) (hv:cells[j]? =some v):Sr M B L w' false w.heap.size j v :=
 ⟨new_free hL false,by simp [World.cell?,hw,hv]⟩
theorem opBuildSlice_sound (htb:TbOk P tb){t:TypeId}{len:Nat}{ps:List (Nat×AV)}{K:AV→Prop}(h:opBuildSlice tb t len ps K) :
  ∃ y,K y∧∀ (M:Mz) (B:List (Option BI)) (L:List AO) (w:World) (vs:Array (Nat×Value)),RelL M B L w→ps.length=vs.size →
   (∀ (j:Nat) (p:Nat×AV) (q:Nat×Value),ps[j]? =some p→vs[j]? =some q→p.1=q.1∧RelV B (Sr M B L w) p.2 q.2) →
   ∃ r w',(Instr.buildSlice t len vs).run P w= .ok r w'∧Below w.heap.size w w'∧RelV B (Sr M B L w') y r:=by
 unfold opBuildSlice at h
 split at h
 ·rename_i e hk
  obtain ⟨d,hd,hT⟩:=(htb t).under (by simp [hk,TK.isOther])
  rw [hk] at hT
  simp only [TKok] at hT
  subst hT
  split at h
  ·exact h.elim
  rename_i ho
  split at h
  ·exact h.elim
  rename_i hsz
  split at h
  ·exact h.elim
  rename_i xs hxs
  split at h
  ·exact h.elim
  rename_i hlen
  split at h
  ·exact h.elim
  rename_i l hl
  split at h
  ·rename_i hall
   refine ⟨_,h,fun M B L w vs hL hn hp=> ?_⟩
   have hsz0:len*((tb e).sz+1)≤16777216:=Nat.le_of_ble_eq_true hsz
   rw [Nat.mul_add,Nat.mul_one] at hsz0
   have hsz:len*(tb e).sz≤16777216:=by omega
   have hlen:=Nat.beq_spec hlen
   obtain ⟨a1,a2⟩:=inTurn_spec _ _ _ hxs
   obtain ⟨b1,b2⟩:=rowsC_spec (B:=B) (S:=Sr M B L w) xs l hl
   have hs:=(htb e).size ho w
   obtain ⟨i,d',z,hi,_,_,hs1,_,hz1,hz2,hz3,_⟩:=(htb e).ok ho
   have hq:∀ (j:Nat) (q:Nat×Value),vs.toList[j]? =some q→∃ row,l[j]? =some row∧q.1=j∧RepVs (Sr M B L w) row q.2.cells.toList:=by
    intro j q hj
    have hj':j<ps.length:=by
     have:=(List.getElem?_eq_some_iff.1 hj).1
     simp at this; omega
    obtain ⟨g1,g2⟩:=hp j ps[j] q (List.getElem?_eq_getElem hj') (by simpa using hj)
    obtain ⟨k1,k2⟩:=a2 j ps[j] (List.getElem?_eq_getElem hj')
    obtain ⟨row,r1,r2⟩:=b2 j _ k2
    exact ⟨row,r1,by omega,r2 _ g2⟩
   let init:Array Value:=(Array.range (len*(tb e).sz)).map (fun x=>(if len*(tb e).sz=0 then #[] else z.cells)[x%(if len*(tb e).sz=0 then #[] else z.cells).size]!)
   obtain ⟨cs',k1,k2,_,k4⟩:=fill_rows (tb e).sz len vs.toList 0 init (by simp [init]) (fun j q hj=>by
    obtain ⟨row,r1,r2,r3⟩:=hq j q hj
    have:=RepVs.length _ _ r3
    have h2:=allLen_spec l hall row (List.mem_of_getElem? r1)
    simp at this
    exact ⟨by omega,by omega⟩) (by simp; omega)
   refine ⟨.slice (some ⟨w.heap.size,0,none⟩) len len,w.alloc (.cells cs' e),?_,ext_alloc _ _,?_⟩
   ·have hz:(zeroValue e).run P w= .ok z w:=by simp [zeroValue,typeInfo,hi,hz1]
    have hnot:¬ len*(tb e).sz>2 ^ 24:=by omega
    simp only [Instr.buildSlice,Sem.run_bind,run_underlying hd w,Result.andThen_ok,hs,hnot,if_false]
    by_cases h0:len*(tb e).sz=0
    ·simp only [h0,if_true,Sem.run_pure,Result.andThen_ok,Sem.run_bind]
     simp only [init,h0,if_true] at k1
     rw [k1]
     simp only [Sem.run_bind,run_newRow,Result.andThen_ok,Sem.run_pure]
    ·simp only [h0,if_false,Sem.run_bind,hz,Result.andThen_ok,Sem.run_pure]
     simp only [init,h0,if_false] at k1
     rw [k1]
     simp only [Sem.run_bind,run_newRow,Result.andThen_ok,Sem.run_pure]
   ·split
    ·simp only [RelV,RepC]; exact ⟨_,rfl⟩
    rename_i hl0
    simp only [RelV,RepC]
    refine ⟨_,_,rfl,⟨Nat.le_refl _,by omega⟩,?_⟩
    by_cases h0:len=0
    ·exact .inl h0
    ·refine .inr ⟨w.heap.size,0,rfl,fun i hi=> ?_⟩
     have hvl:i<vs.toList.length:=by simp; omega
     obtain ⟨row,r1,r2,r3⟩:=hq i vs.toList[i] (List.getElem?_eq_getElem hvl)
     have hrow:nthC l i=row:=by simp [nthC,List.getD,r1]
     have h2:=allLen_spec l hall row (List.mem_of_getElem? r1)
     have h3:=RepVs.length _ _ r3
     rw [hrow]
     refine ⟨h2,RepVs.toRepCs row _ _ (RepVs.mono (Sr_ext (ext_alloc _ _)) _ _ r3) fun j v hv=> ?_⟩
     have hj:j<(tb e).sz:=by
      have:=(List.getElem?_eq_some_iff.1 hv).1
      omega
     have:=k4 i vs.toList[i] (List.getElem?_eq_getElem hvl) j hj
     refine rep_new hL cs' e (0,0) _ (heap_alloc w _) _ v ?_
     simp only [Nat.zero_add] at this ⊢
     rw [this]
     simpa using hv
  ·exact h.elim
 ·exact h.elim
end
end Go.VA
namespace Go.VA
open Go Go.RowKit
section
variable {P:Program} {tb:TB} {gl:Gl}
def Fr (b:Bool) (S:Rd) (w:World):Rd:=fun t=>match t with
 | false=>S false
 | true=>match b with
  | false=>S true
  | true=>fun b o u=>w.cell? ⟨b,o,none⟩=some u
theorem Sr_le_Fr {M:Mz}{B:List (Option BI)}{L:List AO}{w:World}(b:Bool):(Sr M B L w).le (Fr b (Sr M B L w) w):=by
 intro t b' o u h
 cases t with
 | false=>exact h
 | true=>cases b with
  | false=>exact h
  | true=>exact h.2
theorem Fr_le_Fr {M:Mz}{B:List (Option BI)}{L:List AO}{w:World}(b b':Bool)(hb:b=true→b'=true):(Fr b (Sr M B L w) w).le (Fr b' (Sr M B L w) w):=by
 intro t q o u h
 cases t with
 | false=>exact h
 | true=>cases b with
  | false=>cases b' with
   | false=>exact h
   | true=>exact h.2
  | true=>rw [hb rfl]; exact h
theorem nthCC_get:∀ (cs:List C) (i:Nat) (x:C),cs[i]? =some x→nthCC cs i=x
 | [],i,x,h=>by simp at h
 | y::r,0,x,h=>by simpa [nthCC] using h
 | y::r,i+1,x,h=>by simp only [nthCC]; exact nthCC_get r i x (by simpa using h)
theorem box_row {M:Mz}{B:List (Option BI)}{L:List AO}{w:World}(hL:RelL M B L w){id:Nat}{ys:List AV}{cs:List C}(hO:getO L id= .box ys)(hcs:toCs ys=some cs){bi:BI}(hb:B[id]? =some (some bi)) :
  bi.n=cs.length∧∀ i,i<bi.n→RepCs (Sr M B L w) (fun q u=>w.cell? ⟨bi.b,q,none⟩=some u) (bi.o+i*1) [nthCC cs i]:=by
 have hob:=hL.obj id _ hb
 rw [hO] at hob
 obtain ⟨bi',vs,ty,he,h1,h2,h3,h0,h4⟩:=hob
 simp only [Option.some.injEq] at he
 subst he
 have h5:=toCs_sound ys cs _ hcs h4
 have h6:=RepVs.length _ _ h5
 simp only [Array.length_toList] at h6
 refine ⟨by omega,fun i hi=> ?_⟩
 have hic:i<cs.length:=by omega
 obtain ⟨u,k1,k2⟩:=RepVs.nth _ _ i cs[i] h5 (List.getElem?_eq_getElem hic)
 rw [nthCC_get cs i _ (List.getElem?_eq_getElem hic)]
 simp only [RepCs,and_true]
 refine ⟨u,?_,k2⟩
 simp only [World.cell?,h1,h2,Nat.zero_add,Nat.mul_one,Option.isSome_none,Bool.false_eq_true,if_false]
 rw [← Array.getElem?_toList]; exact k1
theorem viewO_sound {M:Mz}{B:List (Option BI)}{L:List AO}{w:World}(hL:RelL M B L w){id esz off len:Nat}{y:C}{b:Bool}(h:viewO L id esz off len=some (y,b)){u:Value}
  (hu:RelV B (Sr M B L w) (.own id esz off len) u):RepC (Fr b (Sr M B L w) w) y u:=by
 unfold viewO at h
 have fin:∀ (t:Bool) (f:Nat→List C),y= .sl t esz len (fun i=>f (off+i)) →
   (∀ bi,B[id]? =some (some bi)→∀ i,i<bi.n→(f i).length=esz∧RepCs (Fr b (Sr M B L w) w) (Fr b (Sr M B L w) w t bi.b) (bi.o+i*esz) (f i))→RepC (Fr b (Sr M B L w) w) y u:=by
  intro t f hy hf
  subst hy
  simp only [RelV] at hu
  simp only [RepC]
  rcases hu with ⟨bi,cap,hb,rfl,h1,h2,h3⟩|⟨rfl,⟨a,rfl⟩,_⟩
  ·refine ⟨_,cap,rfl,h1,?_⟩
   by_cases h0:len=0
   ·exact .inl h0
   ·refine .inr ⟨bi.b,_,rfl,fun i hi=> ?_⟩
    have:=hf bi hb (off+i) (by omega)
    refine ⟨this.1,?_⟩
    rw [show bi.o+off*esz+i*esz=bi.o+(off+i)*esz from by rw [Nat.add_mul]; omega]
    exact this.2
  ·exact ⟨a,0,rfl,⟨Nat.le_refl _,Nat.zero_le _⟩,.inl rfl⟩
 split at h
 ·rename_i e n f hO
  split at h
  ·rename_i he
   obtain rfl:=Nat.beq_spec he
   simp only [Option.some.injEq,Prod.mk.injEq] at h
   obtain ⟨rfl,rfl⟩:=h
   refine fin true f rfl fun bi hb i hi=> ?_
   have:=hL.obj id _ hb
   rw [hO] at this
   obtain ⟨h0,cs,ty,h1,h2,h3,h4⟩:=this
   have:=h4 i (by omega)
   refine ⟨this.1,RepCs.mono (Sr_le_Fr _) (fun o u hh=> ?_) _ _ this.2⟩
   simpa [Fr,h1.cell] using hh
  ·simp at h
 ·rename_i e n f hO
  split at h
  ·rename_i he
   obtain rfl:=Nat.beq_spec he
   simp only [Option.some.injEq,Prod.mk.injEq] at h
   obtain ⟨rfl,rfl⟩:=h
   refine fin false f rfl fun bi hb i hi=> ?_
   have:=hL.obj id _ hb
   rw [hO] at this
   obtain ⟨h0,h4⟩:=this
   exact ⟨(h4 i (by omega)).1,RepCs.mono (Sr_le_Fr _) (fun o u hh=>hh) _ _ (h4 i (by omega)).2⟩
  ·simp at h
 ·rename_i ys hO
  split at h
  ·rename_i he
   obtain rfl:=Nat.beq_spec he
   split at h
   ·rename_i cs hcs
    simp only [Option.some.injEq,Prod.mk.injEq] at h
    obtain ⟨rfl,rfl⟩:=h
    refine fin true (fun i=>[nthCC cs i]) rfl fun bi hb i hi=> ?_
    obtain ⟨k1,k2⟩:=box_row hL hO hcs hb
    exact ⟨rfl,RepCs.mono (Sr_le_Fr _) (fun o u hh=>hh) _ _ (k2 i hi)⟩
   ·simp at h
  ·simp at h
 ·simp at h
theorem Fr_false0 (S:Rd)(w:World):(Fr false S w).le S:=fun t b o u h=>by cases t<;>exact h
theorem frzV_sound {M:Mz}{B:List (Option BI)}{L:List AO}{w:World}(hL:RelL M B L w){x:AV}{u:Value}(hu:RelV B (Sr M B L w) x u):RelV B (Sr M B L w) (frzV L x) u:=by
 unfold frzV
 split
 ·rename_i id esz off len
  split
  ·rename_i e n f hO
   split
   ·rename_i he
    obtain rfl:=Nat.beq_spec he
    have hv:viewO L id e off len=some (.sl false e len (fun i=>f (off+i)),false):=by
     unfold viewO
     rw [hO]
     simp [he]
    have:=viewO_sound hL hv hu
    simp only [RelV]
    exact RepC.mono (Fr_false0 _ _) _ _ this
   ·exact hu
  ·exact hu
 ·exact hu
theorem viewCs_sound {M:Mz}{B:List (Option BI)}{L:List AO}{w:World}(hL:RelL M B L w):∀ (ys:List AV) (xs:List C) (b:Bool) (us:List Value),viewCs L ys=some (xs,b) →
  RelVs B (Sr M B L w) ys us→RepVs (Fr b (Sr M B L w) w) xs us
 | [],xs,b,us,h,hu=>by
  simp only [viewCs,Option.some.injEq,Prod.mk.injEq] at h
  obtain ⟨rfl,rfl⟩:=h
  simpa [RelVs,RepVs] using hu
 | y::ys,xs,b,us,h,hu=>by
  simp only [RelVs] at hu
  obtain ⟨u,r,rfl,h1,h2⟩:=hu
  simp only [viewCs] at h
  split at h
  ·simp at h
  ·rename_i zs b' hz
   have ih:=viewCs_sound hL ys zs b' r hz h2
   cases y<;>simp only [reduceCtorEq] at h
   case c x =>
    simp only [Option.some.injEq,Prod.mk.injEq] at h
    obtain ⟨rfl,rfl⟩:=h
    simp only [RepVs]
    simp only [RelV] at h1
    exact ⟨u,r,rfl,RepC.mono (Sr_le_Fr _) _ _ h1,ih⟩
   case own id esz off len =>
    split at h
    ·rename_i x hx
     simp only [Option.some.injEq,Prod.mk.injEq] at h
     obtain ⟨rfl,rfl⟩:=h
     simp only [RepVs]
     exact ⟨u,r,rfl,viewO_sound hL hx h1,RepVs.mono (Fr_le_Fr _ _ (fun _=>rfl)) _ _ ih⟩
    ·rename_i x hx
     simp only [Option.some.injEq,Prod.mk.injEq] at h
     obtain ⟨rfl,rfl⟩:=h
     simp only [RepVs]
     exact ⟨u,r,rfl,RepC.mono (Fr_le_Fr _ _ (by simp)) _ _ (viewO_sound hL hx h1),ih⟩
    ·simp at h
theorem box_rowX {M:Mz}{B:List (Option BI)}{L:List AO}{w:World}(hL:RelL M B L w){id:Nat}{ys:List AV}{cs:List C}{b:Bool}(hO:getO L id= .box ys)(hcs:viewCs L ys=some (cs,b)){bi:BI}(hb:B[id]? =some (some bi)) :
  ∀ i,i<bi.n→RepCs (Fr true (Sr M B L w) w) (Fr true (Sr M B L w) w true bi.b) (bi.o+i*1) [nthCC cs i]:=by
 have hob:=hL.obj id _ hb
 rw [hO] at hob
 obtain ⟨bi',vs,ty,he,h1,h2,h3,h0,h4⟩:=hob
 simp only [Option.some.injEq] at he
 subst he
 have h5:=RepVs.mono (Fr_le_Fr b true (fun _=>rfl)) _ _ (viewCs_sound hL _ _ _ _ hcs h4)
 have h6:=RepVs.length _ _ h5
 simp only [Array.length_toList] at h6
 intro i hi
 have hic:i<cs.length:=by omega
 obtain ⟨u,k1,k2⟩:=RepVs.nth _ _ i cs[i] h5 (List.getElem?_eq_getElem hic)
 rw [nthCC_get cs i _ (List.getElem?_eq_getElem hic)]
 simp only [RepCs,and_true]
 refine ⟨u,?_,k2⟩
 simp only [Fr,World.cell?,h1,h2,Nat.zero_add,Nat.mul_one,Option.isSome_none,Bool.false_eq_true,if_false]
 rw [← Array.getElem?_toList]; exact k1
theorem viewX_sound {M:Mz}{B:List (Option BI)}{L:List AO}{w:World}(hL:RelL M B L w){id esz off len:Nat}{y:C}{b:Bool}(h:viewX L id esz off len=some (y,b)){u:Value}
  (hu:RelV B (Sr M B L w) (.own id esz off len) u):RepC (Fr b (Sr M B L w) w) y u:=by
 unfold viewX at h
 split at h
 ·rename_i r hr
  simp only [Option.some.injEq] at h
  subst h
  exact viewO_sound hL hr hu
 split at h
 ·simp at h
 rename_i he
 obtain rfl:=Nat.beq_spec he
 split at h
 ·rename_i ys hO
  split at h
  ·rename_i cs b' hcs
   simp only [Option.some.injEq,Prod.mk.injEq] at h
   obtain ⟨rfl,rfl⟩:=h
   simp only [RelV] at hu
   simp only [RepC]
   rcases hu with ⟨bi,cap,hb,rfl,h1,h2,h3⟩|⟨rfl,⟨a,rfl⟩,_⟩
   ·refine ⟨_,cap,rfl,h1,?_⟩
    by_cases h0:len=0
    ·exact .inl h0
    ·refine .inr ⟨bi.b,_,rfl,fun i hi=>⟨rfl,?_⟩⟩
     have:=box_rowX hL hO hcs hb (off+i) (by omega)
     rw [show bi.o+off*1+i*1=bi.o+(off+i)*1 from by omega]
     exact this
   ·exact ⟨a,0,rfl,⟨Nat.le_refl _,Nat.zero_le _⟩,.inl rfl⟩
  ·simp at h
 ·simp at h
theorem toArg0_sound {M:Mz}{B:List (Option BI)}{L:List AO}{w:World}(hL:RelL M B L w){x y:AV}{b:Bool}{u:Value}(h:toArg0 L x=some (y,b))
  (hu:RelV B (Sr M B L w) x u):RelV [] (Fr b (Sr M B L w) w) y u:=by
 cases x
 all_goals simp only [toArg0,reduceCtorEq] at h
 case c x =>
  simp only [Option.some.injEq,Prod.mk.injEq] at h
  obtain ⟨rfl,rfl⟩:=h
  simp only [RelV] at hu ⊢
  exact RepC.mono (Sr_le_Fr _) _ _ hu
 case ag x =>
  simp only [Option.some.injEq,Prod.mk.injEq] at h
  obtain ⟨rfl,rfl⟩:=h
  simp only [RelV] at hu ⊢
  obtain ⟨arr,e,hu⟩:=hu; exact ⟨arr,e,RepVs.mono (Sr_le_Fr _) _ _ hu⟩
 case sp x k =>
  simp only [Option.some.injEq,Prod.mk.injEq] at h
  obtain ⟨rfl,rfl⟩:=h
  simp only [RelV] at hu ⊢
  obtain ⟨b,o,e,hu⟩:=hu; exact ⟨b,o,e,RepCs.mono (Sr_le_Fr _) (Sr_le_Fr _ _ _) _ _ hu⟩
 case own id esz off len =>
  split at h
  ·rename_i y b hy
   simp only [Option.some.injEq,Prod.mk.injEq] at h
   obtain ⟨rfl,rfl⟩:=h
   simp only [RelV]
   exact viewX_sound hL hy hu
  ·simp at h
 case agx ys =>
  split at h
  ·rename_i xs b hy
   simp only [Option.some.injEq,Prod.mk.injEq] at h
   obtain ⟨rfl,rfl⟩:=h
   simp only [RelV] at hu ⊢
   obtain ⟨arr,rfl,_,hu⟩:=hu
   exact ⟨arr,rfl,viewCs_sound hL _ _ _ _ hy hu⟩
  ·simp at h
 case ptr id off =>
  split at h
  ·rename_i ys hO
   split at h
   ·rename_i xs b' hy
    simp only [Option.some.injEq,Prod.mk.injEq] at h
    obtain ⟨rfl,rfl⟩:=h
    simp only [RelV] at hu ⊢
    obtain ⟨bi,hb,rfl⟩:=hu
    have hr:=hL.obj id _ hb
    rw [hO] at hr
    obtain ⟨bi',cs,ty,e,h1,h2,h3,h4,h5⟩:=hr
    simp only [Option.some.injEq] at e
    subst e
    refine ⟨bi.b,bi.o,rfl,?_⟩
    rw [h2]
    refine RepVs.toRepCs _ _ 0 (RepVs.mono (Fr_le_Fr _ _ fun _=>rfl) _ _ (viewCs_sound hL _ _ _ _ hy h5)) fun j v hv=> ?_
    simp only [Fr,World.cell?,h1,Nat.zero_add]
    simpa using hv
   ·simp at h
  ·simp at h
theorem toArgs0_sound {M:Mz}{B:List (Option BI)}{L:List AO}{w:World}(hL:RelL M B L w):∀ (xs ys:List AV) (b:Bool) (us:List Value),toArgs0 L xs=some (ys,b) →
  RelVs B (Sr M B L w) xs us→RelVs [] (Fr b (Sr M B L w) w) ys us
 | [],ys,b,us,h,hu=>by
  simp only [toArgs0,Option.some.injEq,Prod.mk.injEq] at h
  obtain ⟨rfl,rfl⟩:=h
  simpa [RelVs] using hu
 | x::xs,ys,b,us,h,hu=>by
  simp only [RelVs] at hu
  obtain ⟨u,r,rfl,h1,h2⟩:=hu
  simp only [toArgs0] at h
  split at h
  ·simp at h
  ·rename_i y hy
   split at h
   ·rename_i zs b' hz
    simp only [Option.some.injEq,Prod.mk.injEq] at h
    obtain ⟨rfl,rfl⟩:=h
    simp only [RelVs]
    exact ⟨u,r,rfl,toArg0_sound hL hy h1,RelVs.mono (Ble.refl _) (Fr_le_Fr _ _ (fun _=>rfl)) _ _ (toArgs0_sound hL xs zs b' r hz h2)⟩
   ·simp at h
  ·rename_i y hy
   split at h
   ·rename_i zs b' hz
    simp only [Option.some.injEq,Prod.mk.injEq] at h
    obtain ⟨rfl,rfl⟩:=h
    simp only [RelVs]
    exact ⟨u,r,rfl,RelV.mono (Ble.refl _) (Fr_le_Fr _ _ (by simp)) _ _ (toArg0_sound hL hy h1),toArgs0_sound hL xs zs _ r hz h2⟩
   ·simp at h
theorem toArg_sound {M:Mz}{B:List (Option BI)}{L:List AO}{w:World}(hL:RelL M B L w){x y:AV}{b:Bool}{u:Value}(h:toArg L x=some (y,b))
  (hu:RelV B (Sr M B L w) x u):RelV [] (Fr b (Sr M B L w) w) y u:=by
 cases x
 case fn f first cap =>
  simp only [toArg] at h
  split at h
  ·simp at h
  ·rename_i xs b1 hx
   split at h
   ·simp at h
   ·rename_i ys b2 hy
    simp only [Option.some.injEq,Prod.mk.injEq] at h
    obtain ⟨rfl,rfl⟩:=h
    simp only [RelV] at hu ⊢
    obtain ⟨a1,a2,e,h1,h2⟩:=hu
    refine ⟨a1,a2,e,RelVs.mono (Ble.refl _) (Fr_le_Fr _ _ fun e=> ?_) _ _ (toArgs0_sound hL _ _ _ _ hx h1),RelVs.mono (Ble.refl _) (Fr_le_Fr _ _ fun e=> ?_) _ _ (toArgs0_sound hL _ _ _ _ hy h2)⟩
    ·subst e; rfl
    ·subst e; cases b1<;>rfl
 all_goals exact toArg0_sound hL (by simpa only [toArg] using h) hu
theorem toArgs_sound {M:Mz}{B:List (Option BI)}{L:List AO}{w:World}(hL:RelL M B L w):∀ (xs ys:List AV) (b:Bool) (us:List Value),toArgs L xs=some (ys,b) →
  RelVs B (Sr M B L w) xs us→RelVs [] (Fr b (Sr M B L w) w) ys us
 | [],ys,b,us,h,hu=>by
  simp only [toArgs,Option.some.injEq,Prod.mk.injEq] at h
  obtain ⟨rfl,rfl⟩:=h
  simpa [RelVs] using hu
 | x::xs,ys,b,us,h,hu=>by
  simp only [RelVs] at hu
  obtain ⟨u,r,rfl,h1,h2⟩:=hu
  simp only [toArgs] at h
  split at h
  ·simp at h
  ·rename_i y hy
   split at h
   ·rename_i zs b' hz
    simp only [Option.some.injEq,Prod.mk.injEq] at h
    obtain ⟨rfl,rfl⟩:=h
    simp only [RelVs]
    exact ⟨u,r,rfl,toArg_sound hL hy h1,RelVs.mono (Ble.refl _) (Fr_le_Fr _ _ (fun _=>rfl)) _ _ (toArgs_sound hL xs zs b' r hz h2)⟩
   ·simp at h
  ·rename_i y hy
   split at h
   ·rename_i zs b' hz
    simp only [Option.some.injEq,Prod.mk.injEq] at h
    obtain ⟨rfl,rfl⟩:=h
    simp only [RelVs]
    exact ⟨u,r,rfl,RelV.mono (Ble.refl _) (Fr_le_Fr _ _ (by simp)) _ _ (toArg_sound hL hy h1),toArgs_sound hL xs zs _ r hz h2⟩
   ·simp at h
theorem C.scalar_rel {S S':Rd}{x:C}{u:Value}(h:x.scalar=true)(hu:RepC S x u):RepC S' x u:=by
 cases x<;>simp only [C.scalar,reduceCtorEq] at h
 simpa [RepC] using hu
theorem allScalar_rel {S S':Rd}:∀ (xs:List C) (us:List Value),allScalar xs=true→RepVs S xs us→RepVs S' xs us
 | [],us,_,hu=>by simpa [RepVs] using hu
 | x::xs,us,h,hu=>by
  simp only [allScalar] at h
  split at h
  ·rename_i h1
   simp only [RepVs] at hu ⊢
   obtain ⟨u,r,rfl,k1,k2⟩:=hu
   exact ⟨u,r,rfl,C.scalar_rel h1 k1,allScalar_rel xs r h k2⟩
  ·simp at h
mutual
theorem AV.scalar_rel {B B':List (Option BI)}{S S':Rd}:∀ (x:AV) (u:Value),x.scalar=true→RelV B S x u→RelV B' S' x u
 | .c x,u,h,hu=>by
  simp only [AV.scalar] at h
  simp only [RelV] at hu ⊢
  exact C.scalar_rel h hu
 | .ag xs,u,h,hu=>by
  simp only [AV.scalar] at h
  simp only [RelV] at hu ⊢
  obtain ⟨arr,e,hu⟩:=hu
  exact ⟨arr,e,allScalar_rel xs _ h hu⟩
 | .tup xs,u,h,hu=>by
  simp only [AV.scalar] at h
  simp only [RelV] at hu ⊢
  obtain ⟨arr,e,hu⟩:=hu
  exact ⟨arr,e,AV.scalars_rel xs _ h hu⟩
 | .any,_,h,_=>by simp [AV.scalar] at h
 | .agx _,_,h,_=>by simp [AV.scalar] at h
 | .ptr ..,_,h,_=>by simp [AV.scalar] at h
 | .pe ..,_,h,_=>by simp [AV.scalar] at h
 | .sp ..,_,h,_=>by simp [AV.scalar] at h
 | .own ..,_,h,_=>by simp [AV.scalar] at h
 | .fn ..,_,h,_=>by simp [AV.scalar] at h
 | .gd ..,_,h,_=>by simp [AV.scalar] at h
theorem AV.scalars_rel {B B':List (Option BI)}{S S':Rd}:∀ (xs:List AV) (us:List Value),AV.scalar.go xs=true→RelVs B S xs us→RelVs B' S' xs us
 | [],us,_,hu=>by simpa [RelVs] using hu
 | x::xs,us,h,hu=>by
  simp only [AV.scalar.go] at h
  split at h
  ·rename_i h1
   simp only [RelVs] at hu ⊢
   obtain ⟨u,r,rfl,k1,k2⟩:=hu
   exact ⟨u,r,rfl,AV.scalar_rel x u h1 k1,AV.scalars_rel xs r h k2⟩
  ·simp at h
end
theorem Ble.nil (B:List (Option BI)):Ble [] B:=fun id x h=>by simp at h
theorem MU_nil {M:Mz}{t b}:MU M [] [] t b ↔ (match t with|false=>M.f b|true=>M.t b):=by
 cases t<;>simp [MU]
theorem RelL_nil {M:Mz}{w:World}(h:∀ b,M.f b→b<w.heap.size):RelL M [] [] w where
 len:=rfl
 bnd id bi h:=by simp at h
 mbnd:=h
 notM id bi h:=by simp at h
 dist i j bi bj _ h:=by simp at h
 obj id bo h:=by simp at h
theorem MU_lt {M:Mz}{B:List (Option BI)}{L:List AO}{w:World}(h:RelL M B L w)(t:Bool)(b:Nat)(hb:MU M B L t b):b<w.heap.size:=by
 have hb:=MU_le t _ hb
 rcases hb with h1|⟨id,bi,h1,h2,_⟩
 ·exact h.mbnd _ h1
 ·have:=h.bnd id bi h1
  omega
theorem NoTag.of_scalar {r:AV}(h:r.scalar=true):NoTag r:=⟨fun _ _ _ _ _ hu=>AV.scalar_rel r _ h hu⟩
def Mz.callee (M:Mz) (B:List (Option BI)) (L:List AO) (b:Bool):Mz where
 ro:=0
 f:=MU M B L false
 t q:=b=false∧MU M B L true q
 le _ h:=MU_le true _ h.2
theorem acall_use {f:Nat}{xs:List AV}{b:Bool}{r:AV}(hA:ACall P gl f xs [] r)(hb:b=true→NoTag r){M:Mz}{B:List (Option BI)}{L:List AO}{w:World}
  (hL:RelL M B L w) (hG:GlOk gl (Sr M B L w)) {vals:Array Value} (hv:RelVs [] (Fr b (Sr M B L w) w) xs vals.toList) :
  Calls P f vals w fun e w'=>∃ u,e= .returned u∧Below w.heap.size w w'∧RelV B (Sr M B L w') r u:=by
 have e1:∀ w,Fr b (Sr M B L w) w=Sr (M.callee B L b) [] [] w:=by
  intro w; funext t q o u
  cases t with
  | false=>simp [Fr,Sr,MU_nil,Mz.callee]
  | true=>cases b<;>simp [Fr,Sr,MU_nil,Mz.callee]
 refine (hA.run w (M.callee B L b) [] vals rfl (RelL_nil (MU_lt hL false)) (by rw [← e1]; exact hG.mono (Sr_le_Fr b)) (by rw [← e1]; exact hv)).mono ?_
 rintro e w' ⟨u,rfl,h1,h2⟩
 rw [← e1] at h2
 refine ⟨u,rfl,h1,?_⟩
 cases b with
 | false =>
  refine RelV.mono (Ble.nil B) (fun t q o u h=> ?_) _ _ h2
  cases t<;>exact h
 | true=>exact RelV.mono (Ble.nil B) (Rd.le_refl _) _ _ ((hb rfl).h [] (Fr true (Sr M B L w') w') (Sr M B L w') u (fun q o v h=>h) h2)
end
end Go.VA
namespace Go.VA
open Go Go.RowKit
section
variable {P:Program} {tb:TB} {gl:Gl}
def Runs (P:Program) (o:Oper) (a:Act) (w:World) (R:Value→World→Prop):Prop :=
 ∀ (next:Act→World→Prop) (Q:Exit→Act→World→Prop),(∀ u w',R u w'→next (a.put o.dst u) w')→o.wp P a w next Q
theorem Runs.value {o:Oper}{a:Act}{w w':World}{u:Value}{R:Value→World→Prop}(h:(execOp a.eval o).run P w= .ok (.value u) w')(hR:R u w'):Runs P o a w R:=by
 intro next Q hn
 unfold Oper.wp
 rw [h,Oper.upon_value]
 exact hn _ _ hR
theorem Runs.mono {o:Oper}{a:Act}{w:World}{R R':Value→World→Prop}(h:Runs P o a w R)(hR:∀ u w',R u w'→R' u w'):Runs P o a w R' :=
 fun next Q hn=>h next Q fun u w' hu=>hn u w' (hR u w' hu)
theorem intsOf {f:Nat→List C}{n b o:Nat}{S:Rd}{t:Bool}(h:∀ i,i<n→∃ x:UInt8,f i=[.v (.int .u8 (x.toNat:Int))])(hr:∀ i,i<n→RepCs S (S t b) (o+i*1) (f i)) :
  ∀ i,i<n→S t b (o+i) (.int .u8 ((byteC (f i)).toNat:Int)):=by
 intro i hi
 obtain ⟨x,hx⟩:=h i hi
 have:=hr i hi
 rw [hx] at this
 simp only [RepCs,RepC,Nat.mul_one] at this
 obtain ⟨⟨u,h1,rfl,_⟩,_⟩:=this
 rw [hx]
 simpa [byteC] using h1
theorem run_bytesToString_f {w:World}{a:Option Addr}{n cap:Nat}{f:Nat→List C}{S:Rd}{t:Bool}(hS:∀ t b o u,S t b o u→w.cell? ⟨b,o,none⟩=some u)(hb:isBytes n f)
  (hu:RepC S (.sl t 1 n f) (.slice a n cap)):(Conv.bytesToString (.slice a n cap)).run P w= .ok (.string (bytesOf n f)) w:=by
 simp only [RepC] at hu
 obtain ⟨a',cap',he,_,hu⟩:=hu
 simp only [Value.slice.injEq] at he
 obtain ⟨rfl,_,rfl⟩:=he
 cases a with
 | none =>
  rcases hu with rfl|⟨b,o,h,_⟩
  ·rfl
  ·simp at h
 | some ad =>
  have hl:(loadCells ad n).run P w= .ok (((List.range n).map fun i=>((byteC (f i)).toNat:Int)).map (Value.int .u8)).toArray w:=by
   rcases hu with rfl|⟨b,o,h,hr⟩
   ·rfl
   ·simp only [Option.some.injEq] at h
    subst h
    rw [run_loadCells w ⟨b,o,none⟩ n (fun i=> .int .u8 ((byteC (f i)).toNat:Int)) fun j hj=>by
     rw [addr_add]
     exact hS _ _ _ _ (intsOf hb (fun i hi=>(hr i hi).2) j hj)]
    simp [List.map_map,Function.comp_def]
  rw [run_bytesToString w ad n cap _ hl]
  congr 2
  have:∀ (l:List Nat) (s:ByteArray),(l.map fun i=>((byteC (f i)).toNat:Int)).foldl (fun r n=>r.push (UInt8.ofNat n.toNat)) s=⟨s.data++(l.map fun i=>byteC (f i)).toArray⟩:=by
   intro l
   induction l with
   | nil=>intro s; simp
   | cons i l ih =>
    intro s
    simp only [List.map_cons,List.foldl_cons,ih]
    have e:(s.push (UInt8.ofNat ((byteC (f i)).toNat:Int).toNat)).data=s.data.push (byteC (f i)):=by simp [ByteArray.push]
    rw [e]
    congr 1
    apply Array.ext'
    simp
  rw [this]
  unfold bytesOf
  congr 1
  apply Array.ext'
  simp only [Array.toList_append,ByteArray.empty,ByteArray.emptyWithCapacity]
  rfl
theorem cell_freeze (w:World)(p a:Addr)(n:Nat):(w.freeze p n).cell? a=w.cell? a:=by
 unfold World.freeze
 split
 ·rfl
 ·unfold World.cell?
  simp only [Array.getElem?_modify]
  by_cases h:p.block=a.block
  ·simp only [h,if_true]
   cases w.heap[a.block]? with
   | none=>rfl
   | some ob=>cases ob<;>rfl
  ·simp only [h,if_false]
theorem opConv_sound (htb:TbOk P tb){ch:Prop→Prop}{L:List AO}{src dst:TypeId}{x:AV}{K:AV→Prop}(h:opConv tb ch L src dst x K) :
  ∃ y,K y∧∀ (M:Mz) (B:List (Option BI)) (w:World) (u:Value),(∀ p,ch p→p)→RelL M B L w→RelV B (Sr M B L w) x u →
   ∃ r w',(convert src dst u).run P w= .ok r w'∧Below w.heap.size w w'∧RelV B (Sr M B L w') y r:=by
 unfold opConv at h
 split at h
 ·exact h.elim
 rename_i hso
 obtain ⟨ds,hds,hsT⟩:=(htb src).under hso
 split at h
 ·rename_i k hk
  obtain ⟨d,hd,hT⟩:=(htb dst).under (by simp [hk,TK.isOther])
  rw [hk] at hT
  simp only [TKok] at hT
  subst hT
  split at h
  ·rename_i k' n
   refine ⟨_,h,fun M B w u hc hL hu=> ?_⟩
   simp only [RelV,RepC] at hu
   obtain ⟨rfl,_⟩:=hu
   exact ⟨.int k (k.wrap n),w,by simp [convert,run_underlying hds,run_underlying hd,Conv.intToInt],Below.refl _ _,intA_rel _ _⟩
  ·exact h.elim
 ·rename_i hk
  obtain ⟨d,hd,hT⟩:=(htb dst).under (by simp [hk,TK.isOther])
  rw [hk] at hT
  simp only [TKok] at hT
  subst hT
  split at h
  ·rename_i s
   refine ⟨_,h,fun M B w u hc hL hu=> ?_⟩
   have hu':=hu
   simp only [RelV,RepC] at hu
   obtain ⟨rfl,_⟩:=hu
   exact ⟨.string s,w,by simp [convert,run_underlying hds,run_underlying hd],Below.refl _ _,hu'⟩
  ·rename_i g e n f
   split at h
   ·rename_i b hkb
    rw [hkb] at hsT
    simp only [TKok] at hsT
    subst hsT
    split at h
    ·rename_i hk8
     obtain ⟨d8,hd8,hT8⟩:=(htb b).under (by simp [hk8,TK.isOther])
     rw [hk8] at hT8
     simp only [TKok] at hT8
     subst hT8
     split at h
     ·rename_i he
      obtain rfl:=Nat.beq_spec he
      refine ⟨_,h.2,fun M B w u hc hL hu=> ?_⟩
      have hb:=hc _ h.1
      simp only [RelV] at hu
      have hu':=hu
      simp only [RepC] at hu'
      obtain ⟨a,cap,rfl,_⟩:=hu'
      refine ⟨.string (bytesOf n f),w,?_,Below.refl _ _,?_⟩
      ·rw [run_convert_bytes_string w src dst b a n cap hds hd8 hd]
       exact run_bytesToString_f (fun _ _ _ _ h=>h.2) hb hu
      ·simp [RelV,RepC,Value.oneCell']
     ·exact h.elim
    ·exact h.elim
   ·exact h.elim
  ·rename_i id e off len
   split at h
   ·rename_i b hkb
    rw [hkb] at hsT
    simp only [TKok] at hsT
    subst hsT
    split at h
    ·rename_i hk8
     obtain ⟨d8,hd8,hT8⟩:=(htb b).under (by simp [hk8,TK.isOther])
     rw [hk8] at hT8
     simp only [TKok] at hT8
     subst hT8
     split at h
     ·rename_i he
      obtain rfl:=Nat.beq_spec he
      split at h
      ·rename_i g e' n f bb hv
       have he':e'=1:=by
        unfold viewO at hv
        split at hv<;>(try split at hv)<;>(try split at hv)<;>simp_all
       subst he'
       refine ⟨_,h.2,fun M B w u hc hL hu=> ?_⟩
       have hb:=hc _ h.1
       have hu':=viewO_sound hL hv hu
       have hu2:=hu'
       simp only [RepC] at hu2
       obtain ⟨a,cap,rfl,_⟩:=hu2
       refine ⟨.string (bytesOf n f),w,?_,Below.refl _ _,?_⟩
       ·rw [run_convert_bytes_string w src dst b a n cap hds hd8 hd]
        refine run_bytesToString_f ?_ hb hu'
        intro t b o u hh
        cases t with
        | false=>exact hh.2
        | true=>cases bb with
         | false=>exact hh.2
         | true=>exact hh
       ·simp [RelV,RepC,Value.oneCell']
      ·exact h.elim
     ·exact h.elim
    ·exact h.elim
   ·exact h.elim
  ·exact h.elim
 ·rename_i b hk
  obtain ⟨d,hd,hT⟩:=(htb dst).under (by simp [hk,TK.isOther])
  rw [hk] at hT
  simp only [TKok] at hT
  subst hT
  split at h
  ·rename_i hk8
   obtain ⟨d8,hd8,hT8⟩:=(htb b).under (by simp [hk8,TK.isOther])
   rw [hk8] at hT8
   simp only [TKok] at hT8
   subst hT8
   split at h
   ·rename_i s
    split at h
    ·rename_i hks
     rw [hks] at hsT
     simp only [TKok] at hsT
     subst hsT
     refine ⟨_,h.2,fun M B w u hc hL hu=> ?_⟩
     have hsz:=hc _ h.1
     simp only [RelV,RepC] at hu
     obtain ⟨rfl,_⟩:=hu
     let c:=(Question.appendCap s.size 0 b).cut (w.tape w.drawn (.appendCap s.size 0 b))
     have hc0:s.size≤c:=Nat.le_add_right _ _
     let cells:Array Value:=s.data.map (fun x=>Value.int .u8 (x.toNat:Int))++Array.replicate (c-s.size) (.int .u8 0)
     have hcs:cells.size=c:=by simp only [cells,Array.size_append,Array.size_map,Array.size_replicate]; have:s.data.size=s.size:=rfl; omega
     have hext:Below w.heap.size w ((w.drew).alloc (.cells cells b)):=(Below.refl _ _).drew.alloc (Nat.le_refl _) _
     have hext2:Below w.heap.size w (((w.drew).alloc (.cells cells b)).freeze ⟨w.heap.size,c,none⟩ 1):=Lib.below_freeze hext (Nat.le_refl _) 1
     refine ⟨.slice (some ⟨w.heap.size,0,none⟩) s.size c,(((w.drew).alloc (.cells cells b)).freeze ⟨w.heap.size,c,none⟩ 1),?_,hext2,?_⟩
     ·have hch:(choose (.appendCap s.size 0 b)).run P w= .ok c w.drew:=by simp [choose,Sem.run,Question.forced,c]
      have hsh:((w.drew).alloc (.cells cells b)).shape? w.heap.size=some (b,c):=by
       have:=heap_alloc w.drew (.cells cells b)
       simp only [World.size_drew] at this
       simp only [World.shape?,this,hcs]
      simp only [convert,Sem.run_bind,run_underlying hds w,run_underlying hd w,run_underlying hd8 w,Result.andThen_ok,Conv.stringToBytes,hch,run_newRow,Sem.run_pure]
      have hms:(markStringish ⟨w.heap.size,0,none⟩).run P ((w.drew).alloc (.cells cells b))= .ok () (((w.drew).alloc (.cells cells b)).freeze ⟨w.heap.size,c,none⟩ 1):=by
       simp [markStringish,hsh]
      simp only [World.size_drew]
      rw [hms]
      rfl
     ·simp only [RelV,RepC]
      refine ⟨_,_,rfl,⟨hc0,hsz⟩,.inr ⟨_,_,rfl,fun i hi=>⟨by simp [strCells],?_⟩⟩⟩
      simp only [strCells,RepCs,RepC,Value.oneCell',and_true,Nat.mul_one,Nat.zero_add]
      refine ⟨_,⟨new_free hL false,?_⟩,rfl⟩
      rw [cell_freeze]
      have:=heap_alloc w.drew (.cells cells b)
      simp only [World.size_drew] at this
      have hi2:i<s.data.size:=hi
      simp only [World.cell?,this,Option.isSome_none,Bool.false_eq_true,if_false]
      simp only [cells]
      rw [Array.getElem?_append_left (by simpa using hi2)]
      rw [Array.getElem?_map,Array.getElem?_toList,Array.getElem?_eq_getElem hi2]
      rfl
    ·exact h.elim
   ·exact h.elim
  ·exact h.elim
 ·exact h.elim
end
end Go.VA
