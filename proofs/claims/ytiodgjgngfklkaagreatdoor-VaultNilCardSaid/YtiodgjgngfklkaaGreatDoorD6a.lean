/- Contracts of functions of the program,and the laws that stand on them: what each function answers,whatever its arguments. -/
import Derived.Test.YtiodgjgngfklkaaGreatDoorD3
import Derived.Test.YtiodgjgngfklkaaGreatDoorVD
set_option linter.all false
set_option maxRecDepth 100000
set_option maxHeartbeats 8000000
namespace Go.Proofs.YtiodgjgngfklkaaGreatDoor
open Go Go.VA Go.RowKit
theorem aEqualD (t u:Bool)(n m:Nat)(f g:Nat→List C)(hf:isBytes n f)(hg:isBytes m g):ACall Tryz.prog glD 32 [.c (.sl t 1 n f),.c (.sl u 1 m g)] [] (boolA ((bytesOf n f).toList==(bytesOf m g).toList)):=by
 refine acall_of_vc htb hmix (f:=32) rfl rfl rfl (by kernel_rfl) rfl rfl ?_; conv=>whnf
 repeat' (first|(refine And.intro ?_ ?_; (focus (first|(first|assumption)|fail)); conv=>whnf)|fail)
 exact Go.VA.leB rfl
theorem aEqB (t u:Bool)(n m:Nat)(f g:Nat→List C)(hf:isBytes n f)(hg:isBytes m g)(q:Bool)(h:((bytesOf n f).toList==(bytesOf m g).toList)=q):ACall Tryz.prog glD 32 [.c (.sl t 1 n f),.c (.sl u 1 m g)] [] (boolA q):=h ▸ aEqualD t u n m f g hf hg
open Go Go.VA Go.RowKit Go.Maps Go.Sort Go.Shelf
open Go.Proofs (encStr)
open Go.WideElems (Fit rd rg pl rd_key rd_val rg_of)
abbrev Fl:=ByteArray×C×C×C
def mm (l:List Fl) (pre:List (List UInt8)):List (Value×AV):=l.map fun e=>(Value.string e.1,if e.1.data.toList ∈ pre then fl e.2.2.2 e.2.2.2 else fl e.2.1 e.2.2.1)
theorem bytes_inj {a b:ByteArray}(h:a.data.toList=b.data.toList):a=b:=by
 cases a; cases b; simpa using Array.ext' h
theorem ba_beq (a b:ByteArray):(a==b)=decide (a=b):=by
 cases a with|mk a=>cases b with|mk b =>
 show (a==b)=_
 rw [Bool.eq_iff_iff]
 simp
theorem mm_put {e:Fl}{pre:List (List UInt8)}:∀ (l:List Fl),e ∈ l→(l.map (·.1)).Nodup→mPut (.string e.1) (fl e.2.2.2 e.2.2.2) (mm l pre)=mm l (pre++[e.1.data.toList])
 | [],h,_=>by cases h
 | a::r,h,hn=>by
  have hn':=List.nodup_cons.1 (by simpa using hn:(a.1::r.map (·.1)).Nodup)
  rcases List.mem_cons.1 h with rfl|h
  ·have e1:mm r (pre++[e.1.data.toList])=mm r pre:=by
    refine List.map_congr_left fun b hb=> ?_
    have hne:b.1.data.toList≠e.1.data.toList:=fun h=>hn'.1 (bytes_inj h ▸ List.mem_map_of_mem hb)
    simp [hne]
   show mPut _ _ ((Value.string e.1,_)::mm r pre)=(Value.string e.1,_)::mm r (pre++[e.1.data.toList])
   rw [e1]
   simp [mPut,keqV,ba_beq]
  ·have hne:e.1≠a.1:=fun h'=>hn'.1 (h' ▸ List.mem_map_of_mem h)
   have hne2:a.1.data.toList≠e.1.data.toList:=fun h'=>hne (bytes_inj h').symm
   have hk:keqV (.string e.1) (.string a.1)=false:=by simp [keqV,ba_beq,hne]
   show mPut _ _ ((Value.string a.1,_)::mm r pre)=(Value.string a.1,_)::mm r (pre++[e.1.data.toList])
   rw [← mm_put r h hn'.2]
   simp [mPut,hk,hne2]
theorem mm_ok (l:List Fl)(pre:List (List UInt8)):mOk (tb 9).k (mm l pre)=true:=by
 induction l with
 | nil=>rfl
 | cons a r ih=>exact ih
theorem relM_get {S:Rd}:∀ (m:List (Value×AV)) (es:List MapEntry),RelM S m es→es.length=m.length∧∀ e ∈ es,∃ p ∈ m,e.key=p.1∧RelV [] S p.2 e.val
 | [],es,h=>by simp only [RelM] at h; subst h; simp
 | p::r,es,h=>by
  simp only [RelM] at h
  obtain ⟨e,t,rfl,h1,h2,h3⟩:=h
  obtain ⟨h4,h5⟩:=relM_get r t h3
  refine ⟨by simp [h4],fun e' he=> ?_⟩
  rcases List.mem_cons.1 he with rfl|he
  ·exact ⟨p,by simp,h1,h2⟩
  ·obtain ⟨q,hq,h6⟩:=h5 e' he
   exact ⟨q,by simp [hq],h6⟩
theorem relM_keys {S:Rd}:∀ (m:List (Value×AV)) (es:List MapEntry),RelM S m es→es.map (·.key)=m.map (·.1)
 | [],es,h=>by simp only [RelM] at h; subst h; rfl
 | p::r,es,h=>by
  simp only [RelM] at h
  obtain ⟨e,t,rfl,h1,h2,h3⟩:=h
  simp [h1,relM_keys r t h3]
def isSl:C→Bool
 | .sl .. =>true
 | .v (.slice none 0 0)=>true
 | _=>false
theorem isSl_val {x:C}(h:isSl x=true){S:Rd}{u:Value}(hu:RepC S x u):∃ s:SV,u=svV s:=by
 unfold isSl at h
 split at h
 ·simp only [RepC] at hu
  obtain ⟨a,cap,rfl,_⟩:=hu
  exact ⟨(a,_,cap),rfl⟩
 ·simp only [RepC] at hu
  obtain ⟨rfl,_⟩:=hu
  exact ⟨(none,0,0),rfl⟩
 ·cases h
theorem fl_val {x z:C}(hx:isSl x=true)(hz:isSl z=true){B:List (Option BI)}{S:Rd}{u:Value}(hu:RelV B S (fl x z) u):∃ p:SV×SV,u=flV p∧RepC S x (svV p.1)∧RepC S z (svV p.2):=by
 simp only [RelV,RepVs] at hu
 obtain ⟨arr,rfl,u1,r,e1,h1,u2,r2,rfl,h2,rfl⟩:=hu
 obtain ⟨s,rfl⟩:=isSl_val hx h1
 obtain ⟨t,rfl⟩:=isSl_val hz h2
 exact ⟨(s,t),by rw [show arr= #[svV s,svV t] from Array.ext' e1],h1,h2⟩
structure OkL (l:List Fl):Prop where
 nodup:(l.map (·.1)).Nodup
 small:∀ e ∈ l,e.1.size≤maxLen
 len:l.length<maxLen
 sl:∀ e ∈ l,isSl e.2.1=true∧isSl e.2.2.1=true∧isSl e.2.2.2=true
theorem mm_entry {l:List Fl}(ok:OkL l){S:Rd}{es:List MapEntry}(h:RelM S (mm l []) es){e:MapEntry}(he:e ∈ es):∃ f ∈ l,e.key= .string f.1∧∃ p,e.val=flV p∧RepC S f.2.1 (svV p.1)∧RepC S f.2.2.1 (svV p.2):=by
 obtain ⟨q,hq,h1,h2⟩:=(relM_get _ _ h).2 e he
 obtain ⟨f,hf,rfl⟩:=List.mem_map.1 hq
 obtain ⟨p,h3⟩:=fl_val (ok.sl f hf).1 (ok.sl f hf).2.1 (by simpa using h2)
 exact ⟨f,hf,h1,p,h3⟩
theorem mm_fit {l:List Fl}(ok:OkL l){S:Rd}{es:Array MapEntry}{clock:Nat}(h:RelM S (mm l []) es.toList)(hb:Bst es clock):Fit Tryz.prog 9 rF es clock where
 size:=by have:=(relM_get _ _ h).1; have:=ok.len; simp [mm] at *; omega
 stamped:=⟨hb.1,hb.2,by
  rw [relM_keys _ _ h]
  have e:(mm l []).map (·.1)=(l.map (·.1)).map Value.string:=by simp [mm]
  rw [e]
  show List.Pairwise _ _
  rw [List.pairwise_map]
  exact ok.nodup.imp (fun h h'=>h (by cases h'; rfl))⟩
 reads:=fun x hx=>by
  obtain ⟨f,hf,hk,p,hv,_⟩:=mm_entry ok h hx
  refine ⟨(.string f.1.data.toList,.held (flV p)),?_⟩
  have hkey:keyOf Tryz.prog 9 x.key=some (.string f.1.data.toList):=by
   rw [hk]
   have:=ok.small f hf
   simp [keyOf,Tryz.underlying9,mapKey,this]
  simp [rd,hkey,hv,rF_of]
noncomputable abbrev dOf (es:Array MapEntry):DataW Value:= .map ((es.toList.map (rg Tryz.prog 9 rF)).foldr DataW.insert [])
theorem rg_file {l:List Fl}(ok:OkL l){S:Rd}{es:Array MapEntry}(h:RelM S (mm l []) es.toList){e:MapEntry}(he:e ∈ es.toList):∃ f ∈ l,∃ p,e.key= .string f.1∧rg Tryz.prog 9 rF e=(.string f.1.data.toList,.held (flV p))∧RepC S f.2.1 (svV p.1)∧RepC S f.2.2.1 (svV p.2):=by
 obtain ⟨f,hf,hk,p,hv,h1⟩:=mm_entry ok h he
 refine ⟨f,hf,p,hk,?_,h1⟩
 have hkey:keyOf Tryz.prog 9 e.key=some (.string f.1.data.toList):=by
  rw [hk]
  have:=ok.small f hf
  simp [keyOf,Tryz.underlying9,mapKey,this]
 have:rd Tryz.prog 9 rF e=some (.string f.1.data.toList,.held (flV p)):=by simp [rd,hkey,hv,rF_of]
 exact rg_of this
theorem same_str {a:Lit}{b:List UInt8}(h:a.sameKey (.string b)=true):a= .string b:=by
 cases a<;>simp_all [Lit.sameKey]
theorem ent_file {l:List Fl}(ok:OkL l){S:Rd}{es:Array MapEntry}(h:RelM S (mm l []) es.toList)(x:Ent (dOf es)):∃ f ∈ l,x.1.1=f.1.data.toList∧RepC S f.2.1 (svV x.1.2.1)∧RepC S f.2.2.1 (svV x.1.2.2):=by
 have hat:=x.2.2 .nil
 simp only [dOf,DataW.atKey] at hat
 split at hat
 ·rename_i p hp
  have hk0:p.1.sameKey (.string x.1.1)=true:=by simpa using List.find?_some hp
  have hk:=same_str hk0
  have hm:=mem_sorted.1 (List.mem_of_find?_eq_some hp)
  obtain ⟨e,he,rfl⟩:=List.mem_map.1 hm
  obtain ⟨f,hf,q,_,hr,h1,h2⟩:=rg_file ok h he
  rw [hr] at hk hat
  have e1:q=x.1.2:=flV_inj (by simpa using hat)
  subst e1
  exact ⟨f,hf,by simpa using hk.symm,h1,h2⟩
 ·cases hat
theorem has_file {l:List Fl}(ok:OkL l){S:Rd}{es:Array MapEntry}(h:RelM S (mm l []) es.toList){f:Fl}(hf:f ∈ l):has (dOf es) (.string f.1.data.toList)=true:=by
 have hk:Value.string f.1 ∈ es.toList.map (·.key):=by
  rw [relM_keys _ _ h]
  simp only [mm,List.map_map]
  exact List.mem_map.2 ⟨f,hf,rfl⟩
 obtain ⟨e,he,hek⟩:=List.mem_map.1 hk
 obtain ⟨g,_,p,hgk,hr,_⟩:=rg_file ok h he
 have e1:g.1=f.1:=by
  have:=hgk.symm.trans hek
  simpa using this
 rw [has_eq,List.any_eq_true]
 refine ⟨(.string f.1.data.toList,.held (flV p)),mem_sorted.2 (List.mem_map.2 ⟨e,he,by rw [hr,e1]⟩),?_⟩
 simp [Lit.sameKey]
theorem runPut (w:World)(b:Nat)(es:Array MapEntry)(clock:Nat)(hb:w.heap[b]? =some (.map es clock))(k:ByteArray)(val:Value)(m:List (Value×AV)){S:Rd}(hm:RelM S m es.toList)(hmo:mOk (tb 9).k m=true)(y:AV)(hy:∀ S',S.le S'→RelV [] S' y val)(hst:Bst es clock) :
  ∃ es' clock',(Instr.mapUpdate 76 (.map (some b)) (.string k) val).run Tryz.prog w= .ok () { w with heap:=w.heap.setIfInBounds b (.map es' clock') }∧(∀ S',S.le S'→RelM S' (mPut (.string k) y m) es'.toList)∧Bst es' clock':=by
 have hu:Tryz.prog.underlying 76=some (.map 9 83):=Tryz.underlying76
 have hKL:KeyL Tryz.prog 9 (.string k) m:=keyL_of htb rfl hmo
 have hgo:(getObj b).run Tryz.prog w= .ok (.map es clock) w:=by simp [getObj,Sem.run,hb]
 have hset:=fun ob=>MapKept.run_setObj_map (P:=Tryz.prog) (w:=w) ob hb
 have hck:=hKL.check false w
 rcases hKL.find es.toList w hm with ⟨_,k2,k3⟩|⟨j,e,_,_,k2,k3,_,k5,k6⟩
 ·refine ⟨es.push { key:= .string k,val:=val,born:=clock },clock+1,by simp [Instr.mapUpdate,run_underlying hu,hgo,hck,k2,hset],fun S' hS=> ?_,hst.push _ _⟩
  rw [Array.toList_push]
  rcases hKL.find es.toList w (RelM.mono hS _ _ hm) with ⟨_,_,q3⟩|⟨_,_,_,_,q2,_⟩
  ·exact q3 _ _ _ (hy S' hS)
  ·rw [k2] at q2; simp at q2
 ·have hge:es[j]? =some e:=by simpa using k3
  refine ⟨es.modify j fun e=>{ e with key:= .string k,val:=val },clock,by simp [Instr.mapUpdate,run_underlying hu,hgo,hck,k2,hset,hge,k5,Instr.keyThatStays,hKL.stays],fun S' hS=> ?_,hst.modify _ _ _⟩
  rw [Array.toList_modify]
  rcases hKL.find es.toList w (RelM.mono hS _ _ hm) with ⟨_,q2,_⟩|⟨j',_,_,_,q2,_,_,_,q6⟩
  ·rw [k2] at q2; simp at q2
  ·rw [k2] at q2
   simp only [Result.ok.injEq,Option.some.injEq,Prod.mk.injEq] at q2
   obtain rfl:j=j':=q2.1.1
   exact q6 _ _ (hy S' hS)
def Sees (S:Rd) (W:World):Prop:=∀ t b o u,S t b o u→W.cell? ⟨b,o,none⟩=some u
theorem Sees.le {S:Rd}{W:World}(h:Sees S W):S.le (Sr M0 [] [] W):=fun t b o u hs=>⟨fun hm=>by
 have:=MU_nil.1 hm
 cases t<;>exact this,h t b o u hs⟩
def TornC (x z:C) (keep:Int) (y:C):Prop:=∀ (W:World) (S:Rd) (v1 v2:Value),Sees S W→RepC S x v1→RepC S z v2 →
 Calls Tryz.prog 33 #[.agg #[v1,v2],.int .i64 keep] W fun e W'=>∃ u,e= .returned u∧Below W.heap.size W W'∧∀ S',RepC S' x v1→RepC S' y u
def Bt (keep:Int) (f:Fl):Prop:=(ACall Tryz.prog glD 32 [.c f.2.1,.c f.2.2.1] [] (boolA true)∧f.2.2.2=f.2.1)∨(ACall Tryz.prog glD 32 [.c f.2.1,.c f.2.2.1] [] (boolA false)∧TornC f.2.1 f.2.2.1 keep f.2.2.2)
theorem eqCall {q:Bool}{x z:C}(h:ACall Tryz.prog glD 32 [.c x,.c z] [] (boolA q)){W:World}{S:Rd}{v1 v2:Value}(hS:Sees S W)(h1:RepC S x v1)(h2:RepC S z v2) :
  Calls Tryz.prog 32 #[v1,v2] W fun e W'=>e= .returned (.bool q)∧Below W.heap.size W W':=by
 have hv:RelVs [] (Sr M0 [] [] W) [.c x,.c z] (#[v1,v2]:Array Value).toList:=by
  simp only [RelVs,RelV]
  exact ⟨_,_,rfl,RepC.mono hS.le _ _ h1,_,_,rfl,RepC.mono hS.le _ _ h2,rfl⟩
 refine (h.run W M0 [] #[v1,v2] rfl (RelL_nil (fun b h=>h.elim)) (fun g=>trivial) hv).mono ?_
 rintro e W' ⟨u,rfl,hb,hu⟩
 obtain ⟨rfl,_⟩:u= .bool q∧_:=hu
 exact ⟨rfl,hb⟩
end Go.Proofs.YtiodgjgngfklkaaGreatDoor
