/- An executor of the model over symbolic values,and the proof that what it shows of a function holds of every call: no condition. -/
import Derived.Test.YtiodgjgngfklkaaGreatDoorVA
import Derived.MapKept
import Derived.WideKeyRuns
set_option linter.all false
namespace Go.VA
open Go Go.RowKit
section
variable {P:Program} {tb:TB} {gl:Gl}
theorem scVs_rel {S:Rd}:∀ {xs:List C} {vs:List Value},scVs xs=some vs→∀ us,RepVs S xs us→us=vs
 | [],vs,h,us,hr=>by
  simp only [scVs,Option.some.injEq] at h
  subst h
  simpa [RepVs] using hr
 | x::r,vs,h,us,hr=>by
  simp only [RepVs] at hr
  obtain ⟨u,l,rfl,h1,h2⟩:=hr
  cases x<;>simp only [scVs,reduceCtorEq] at h
  split at h
  ·rename_i ws hw
   simp only [Option.some.injEq] at h
   subst h
   simp only [RepC] at h1
   rw [h1.1,scVs_rel hw l h2]
  ·simp at h
theorem keyV_rel {B:List (Option BI)}{S:Rd}{x:AV}{kv u:Value}(h:keyV x=some kv)(hu:RelV B S x u):u=kv:=by
 unfold keyV at h
 split at h
 ·simp only [Option.some.injEq] at h; subst h; simp only [RelV,RepC] at hu; exact hu.1
 ·simp only [Option.some.injEq] at h; subst h; simp only [RelV,RepC] at hu; exact hu.1
 ·simp only [Option.some.injEq] at h; subst h; simp only [RelV,RepC] at hu; exact hu.1
 ·split at h
  ·rename_i vs hvs
   simp only [Option.some.injEq] at h
   subst h
   simp only [RelV] at hu
   obtain ⟨arr,rfl,hr⟩:=hu
   rw [← scVs_rel hvs _ hr]
  ·simp at h
 ·simp at h
theorem sameNow_kOk {tk:TK}{d:TypeDesc}(hd:TKok P tk d){a b:Value}(ha:kOk tk a=true)(hb:kOk tk b=true):Instr.sameNow d a b=some (keqV a b):=by
 cases tk<;>simp only [kOk,Bool.false_eq_true] at ha
 all_goals
  cases a<;>simp only [Bool.false_eq_true] at ha
  cases b<;>simp only [kOk,Bool.false_eq_true] at hb
  simp only [TKok] at hd
  subst hd
 ·have e1:=beqK ha
  have e2:=beqK hb
  subst e1
  subst e2
  simp [Instr.sameNow,keqV]
 ·simp [Instr.sameNow,keqV]
 ·simp [Instr.sameNow,keqV]
theorem checkKey_kOk {kt:TypeId}{d:TypeDesc}(hu:P.underlying kt=some d){tk:TK}(hd:TKok P tk d){k:Value}(hk:kOk tk k=true)(e:Bool)(n:Nat)(w:World) :
  (Instr.checkKey e (n+1) kt k).run P w= .ok () w:=by
 unfold Instr.checkKey
 simp only [Sem.run_bind,run_underlying hu,Result.andThen]
 cases tk<;>simp only [kOk,Bool.false_eq_true] at hk
 all_goals
  cases k<;>simp only [Bool.false_eq_true] at hk
  simp only [TKok] at hd
  subst hd
  simp
theorem ba_beq {a b:ByteArray}:(a==b)=true ↔ a=b:=by
 have e:(a==b)=(a.data==b.data):=rfl
 rw [e,beq_iff_eq]
 exact ⟨fun h=>by cases a; cases b; simpa using h,fun h=>by rw [h]⟩
theorem keqV_eq {tk:TK}{a b:Value}(ha:kOk tk a=true)(hb:kOk tk b=true)(h:keqV a b=true):a=b:=by
 cases tk<;>simp only [kOk,Bool.false_eq_true] at ha
 all_goals
  cases a<;>simp only [Bool.false_eq_true] at ha
  cases b<;>simp only [kOk,Bool.false_eq_true] at hb
  simp only [keqV] at h
 ·rw [← beqK ha,← beqK hb,eq_of_beq h]
 ·rw [eq_of_beq h]
 ·rw [ba_beq.1 h]
theorem sameBits_kOk {tk:TK}{a:Value}(ha:kOk tk a=true)(n:Nat):Instr.sameBits n a a=true:=by
 cases tk<;>simp only [kOk,Bool.false_eq_true] at ha
 all_goals
  cases a<;>simp only [Bool.false_eq_true] at ha
  cases n<;>simp [Instr.sameBits,ba_beq]
theorem findNow_rel {S:Rd}{tk:TK}{d:TypeDesc}(hd:TKok P tk d){kv:Value}(hk:kOk tk kv=true):∀ (m:List (Value×AV)) (es:List MapEntry) (i:Nat),RelM S m es→mOk tk m=true →
  (mFind kv m=none∧Instr.findNow d kv es i=some none∧∀ y u b,RelV [] S y u→RelM S (mPut kv y m) (es++[{ key:=kv,val:=u,born:=b }])) ∨
   ∃ j e y,mFind kv m=some y∧Instr.findNow d kv es i=some (some (i+j,e.val))∧es[j]? =some e∧RelV [] S y e.val∧e.key=kv ∧
    ∀ y u,RelV [] S y u→RelM S (mPut kv y m) (es.modify j fun e=>{ e with key:=kv,val:=u })
 | [],es,i,hm,_=>by
  simp only [RelM] at hm
  subst hm
  exact .inl ⟨rfl,rfl,fun y u b hu=>by simp only [mPut,RelM,List.nil_append]; exact ⟨_,[],rfl,rfl,hu,rfl⟩⟩
 | p::r,es,i,hm,ho=>by
  simp only [RelM] at hm
  obtain ⟨e,l,rfl,h1,h2,h3⟩:=hm
  simp only [mOk] at ho
  split at ho
  ·rename_i hp
   have hs:=sameNow_kOk hd hk (h1 ▸ hp:kOk tk e.key=true)
   rw [h1] at hs
   simp only [mFind,mPut,Instr.findNow,h1,hs]
   cases hq:keqV kv p.1 with
   | true =>
    refine .inr ⟨0,e,p.2,rfl,by simp,rfl,h2,h1.trans (keqV_eq hk hp hq).symm,fun y u hu=> ?_⟩
    simp only [RelM,List.modify_zero_cons]
    exact ⟨_,_,rfl,rfl,hu,h3⟩
   | false =>
    simp only
    rcases findNow_rel hd hk r l (i+1) h3 ho with ⟨k1,k2,k3⟩|⟨j,e',y,k1,k2,k3,k4,k5,k6⟩
    ·refine .inl ⟨k1,k2,fun y u b hu=> ?_⟩
     simp only [RelM,List.cons_append]
     exact ⟨_,_,rfl,h1,h2,k3 y u b hu⟩
    ·refine .inr ⟨j+1,e',y,k1,by rw [k2]; congr 3; omega,by simpa using k3,k4,k5,fun y u hu=> ?_⟩
     simp only [RelM,List.modify_succ_cons]
     exact ⟨_,_,rfl,h1,h2,k6 y u hu⟩
  ·simp at ho
theorem findNow_del {S:Rd}{tk:TK}{d:TypeDesc}(hd:TKok P tk d){kv:Value}(hk:kOk tk kv=true):∀ (m:List (Value×AV)) (es:List MapEntry) (i:Nat),RelM S m es→mOk tk m=true →
  (Instr.findNow d kv es i=some none∧RelM S (mDel kv m) es) ∨
   ∃ j e,Instr.findNow d kv es i=some (some (i+j,e.val))∧es[j]? =some e∧RelM S (mDel kv m) (es.eraseIdx j)
 | [],es,i,hm,_=>by
  simp only [RelM] at hm
  subst hm
  exact .inl ⟨rfl,by simp [mDel,RelM]⟩
 | p::r,es,i,hm,ho=>by
  simp only [RelM] at hm
  obtain ⟨e,l,rfl,h1,h2,h3⟩:=hm
  simp only [mOk] at ho
  split at ho
  ·rename_i hp
   have hs:=sameNow_kOk hd hk (h1 ▸ hp:kOk tk e.key=true)
   rw [h1] at hs
   simp only [mDel,Instr.findNow,h1,hs]
   cases hq:keqV kv p.1 with
   | true=>exact .inr ⟨0,e,by simp,rfl,by simpa using h3⟩
   | false =>
    simp only
    rcases findNow_del hd hk r l (i+1) h3 ho with ⟨k1,k2⟩|⟨j,e',k1,k2,k3⟩
    ·refine .inl ⟨k1,?_⟩
     simp only [RelM]
     exact ⟨_,_,rfl,h1,h2,k2⟩
    ·refine .inr ⟨j+1,e',by rw [k1]; congr 3; omega,by simpa using k2,?_⟩
     simp only [RelM,List.eraseIdx_cons_succ]
     exact ⟨_,_,rfl,h1,h2,k3⟩
  ·simp at ho
theorem delK (htb:TbOk P tb){kt:TypeId}{kv:Value}{m:List (Value×AV)}(hk:kOk (tb kt).k kv=true)(hm:mOk (tb kt).k m=true){S:Rd}(es:List MapEntry)(w:World)(hr:RelM S m es) :
  ((Instr.findKey kt kv es).run P w= .ok none w∧RelM S (mDel kv m) es)∨∃ j e,(Instr.findKey kt kv es).run P w= .ok (some (j,e.val)) w∧es[j]? =some e∧RelM S (mDel kv m) (es.eraseIdx j):=by
 have hkt:(tb kt).k.isOther=false:=by
  cases hq:(tb kt).k<;>rw [hq] at hk<;>first|rfl|(simp [kOk] at hk)
 obtain ⟨dk,huk,hTk⟩:=(htb kt).under hkt
 rcases findNow_del hTk hk m es 0 hr hm with ⟨k1,k2⟩|⟨j,e,k1,k2,k3⟩
 ·exact .inl ⟨Go.MapKept.run_findKey (w:=w) huk k1,k2⟩
 ·have:=Go.MapKept.run_findKey (w:=w) huk k1
  rw [Nat.zero_add] at this
  exact .inr ⟨j,e,this,k2,k3⟩
theorem beqNs_eq:∀ {a b:List Nat},beqNs a b=true→a=b
 | [],[],_=>rfl
 | x::xs,y::ys,h=>by
  simp only [beqNs] at h
  split at h
  ·rename_i hx
   rw [Nat.eq_of_beq_eq_true hx,beqNs_eq h]
  ·simp at h
 | [],_::_,h=>by simp [beqNs] at h
 | _::_,[],h=>by simp [beqNs] at h
theorem sc_cases {v:Value}(h:shV v≠10):(∃ k n,v= .int k n)∨(∃ s,v= .string s)∨∃ b,v= .bool b:=by
 cases v<;>first|exact .inl ⟨_,_,rfl⟩|exact .inr (.inl ⟨_,rfl⟩)|exact .inr (.inr ⟨_,rfl⟩)|(simp [shV] at h)
theorem kindNo_injE {k k':IntKind}(h:kindNo k=kindNo k'):k=k':=by cases k<;>cases k'<;>first|rfl|(simp [kindNo] at h)
theorem kindNo_ne8 (k:IntKind):kindNo k≠8∧kindNo k≠9:=by cases k<;>simp [kindNo]
theorem eqVs_some:∀ {xs ys:List Value},xs.map shV=ys.map shV→(∀ c ∈ xs.map shV,c≠10)→∃ q,eqVs xs ys=some q∧(q=true→xs=ys)
 | [],[],_,_=>⟨true,rfl,fun _=>rfl⟩
 | [],_::_,h,_=>by simp at h
 | _::_,[],h,_=>by simp at h
 | x::xs,y::ys,h,hn=>by
  simp only [List.map_cons,List.cons.injEq] at h
  have hx:shV x≠10:=hn _ (by simp)
  have hy:shV y≠10:=h.1 ▸ hx
  obtain ⟨q,h1,h2⟩:=eqVs_some h.2 fun c hc=>hn c (by simp only [List.map_cons,List.mem_cons]; exact .inr hc)
  rcases sc_cases hx with ⟨k,n,rfl⟩|⟨a,rfl⟩|⟨a,rfl⟩<;>rcases sc_cases hy with ⟨k',n',rfl⟩|⟨b,rfl⟩|⟨b,rfl⟩
  ·refine ⟨n==n'&&q,by simp [eqVs,eqV,h1],fun e=> ?_⟩
   rw [Bool.and_eq_true,beq_iff_eq] at e
   have hkk:k=k':=kindNo_injE (by simpa [shV] using h.1)
   rw [hkk,e.1,h2 e.2]
  ·have:=(kindNo_ne8 k).1; exact absurd h.1 (by simpa [shV] using this)
  ·have:=(kindNo_ne8 k).2; exact absurd h.1 (by simpa [shV] using this)
  ·have:=(kindNo_ne8 k').1; exact absurd h.1 (by simpa [shV] using fun e=>this e.symm)
  ·refine ⟨a==b&&q,by simp [eqVs,eqV,h1],fun e=> ?_⟩
   rw [Bool.and_eq_true] at e
   rw [ba_beq.1 e.1,h2 e.2]
  ·simp [shV] at h
  ·have:=(kindNo_ne8 k').2; exact absurd h.1 (by simpa [shV] using fun e=>this e.symm)
  ·simp [shV] at h
  ·refine ⟨a==b&&q,by simp [eqVs,eqV,h1],fun e=> ?_⟩
   rw [Bool.and_eq_true,beq_iff_eq] at e
   rw [e.1,h2 e.2]
theorem sameBits_sc {v:Value}(h:shV v≠10)(n:Nat):Instr.sameBits n v v=true:=by
 rcases sc_cases h with ⟨k,m,rfl⟩|⟨s,rfl⟩|⟨b,rfl⟩<;>cases n<;>simp [Instr.sameBits,ba_beq]
structure KeyL (P:Program) (kt:TypeId) (kv:Value) (m:List (Value×AV)):Prop where
 check:∀ (e:Bool) (w:World),(Instr.checkKey e 10000 kt kv).run P w= .ok () w
 find:∀ {S:Rd} (es:List MapEntry) (w:World),RelM S m es →
  (mFind kv m=none∧(Instr.findKey kt kv es).run P w= .ok none w∧∀ y u b,RelV [] S y u→RelM S (mPut kv y m) (es++[{ key:=kv,val:=u,born:=b }])) ∨
   ∃ j e y,mFind kv m=some y∧(Instr.findKey kt kv es).run P w= .ok (some (j,e.val)) w∧es[j]? =some e∧RelV [] S y e.val∧e.key=kv ∧
    ∀ y u,RelV [] S y u→RelM S (mPut kv y m) (es.modify j fun e=>{ e with key:=kv,val:=u })
 stays:Instr.sameBits 10000 kv kv=true
theorem keyL_scalar (htb:TbOk P tb){kt:TypeId}{kv:Value}{m:List (Value×AV)}(hk:kOk (tb kt).k kv=true)(hm:mOk (tb kt).k m=true):KeyL P kt kv m:=by
 have hkt:(tb kt).k.isOther=false:=by
  cases hq:(tb kt).k<;>rw [hq] at hk<;>first|rfl|(simp [kOk] at hk)
 obtain ⟨dk,huk,hTk⟩:=(htb kt).under hkt
 refine ⟨fun e w=>checkKey_kOk huk hTk hk e 9999 w,fun es w hr=> ?_,sameBits_kOk hk 10000⟩
 rcases findNow_rel hTk hk m es 0 hr hm with ⟨k1,k2,k3⟩|⟨j,e,y,k1,k2,k3,k4,k5,k6⟩
 ·exact .inl ⟨k1,Go.MapKept.run_findKey (w:=w) huk k2,k3⟩
 ·refine .inr ⟨j,e,y,k1,?_,k3,k4,k5,k6⟩
  have:=Go.MapKept.run_findKey (w:=w) huk k2
  rwa [Nat.zero_add] at this
theorem findAsk_rel {S:Rd}{kt:TypeId}{a:Array Value}(hk:KeyS P kt (a.toList.map shV))(w:World):∀ (m:List (Value×AV)) (es:List MapEntry) (i:Nat),RelM S m es→mOkS (a.toList.map shV) m=true →
  (mFind (.agg a) m=none∧(Instr.findAsking kt (.agg a) es i).run P w= .ok none w∧∀ y u b,RelV [] S y u→RelM S (mPut (.agg a) y m) (es++[{ key:= .agg a,val:=u,born:=b }])) ∨
   ∃ j e y,mFind (.agg a) m=some y∧(Instr.findAsking kt (.agg a) es i).run P w= .ok (some (i+j,e.val)) w∧es[j]? =some e∧RelV [] S y e.val∧e.key= .agg a ∧
    ∀ y u,RelV [] S y u→RelM S (mPut (.agg a) y m) (es.modify j fun e=>{ e with key:= .agg a,val:=u })
 | [],es,i,hm,_=>by
  simp only [RelM] at hm
  subst hm
  exact .inl ⟨rfl,by simp [Instr.findAsking],fun y u b hu=>by simp only [mPut,RelM,List.nil_append]; exact ⟨_,[],rfl,rfl,hu,rfl⟩⟩
 | p::r,es,i,hm,ho=>by
  simp only [RelM] at hm
  obtain ⟨e,l,rfl,h1,h2,h3⟩:=hm
  simp only [mOkS] at ho
  split at ho
  ·rename_i b hb
   split at ho
   ·rename_i hsh
    have hsh:=beqNs_eq hsh
    obtain ⟨q,hq,hqe⟩:=eqVs_some hsh.symm hk.sc
    have hrun:=hk.eq a b q rfl hsh hq w
    have hkq:keqV (.agg a) p.1=q:=by rw [hb]; simp only [keqV,hq]
    have hrun2:(Op.equal kt (.agg a) e.key).run P w= .ok q w:=by rw [h1,hb]; exact hrun
    simp only [mFind,mPut,hkq]
    cases q with
    | true =>
     have hab:p.1= .agg a:=by
      rw [hb]
      have:=hqe rfl
      cases a; cases b
      simp only at this
      rw [this]
     refine .inr ⟨0,e,p.2,rfl,by simp [Instr.findAsking,hrun2],rfl,h2,h1.trans hab,fun y u hu=> ?_⟩
     simp only [RelM,List.modify_zero_cons]
     exact ⟨_,_,rfl,rfl,hu,h3⟩
    | false =>
     rcases findAsk_rel hk w r l (i+1) h3 ho with ⟨k1,k2,k3⟩|⟨j,e',y,k1,k2,k3,k4,k5,k6⟩
     ·refine .inl ⟨k1,by simp [Instr.findAsking,hrun2,k2],fun y u b' hu=> ?_⟩
      simp only [RelM,List.cons_append]
      exact ⟨_,_,rfl,h1,h2,k3 y u b' hu⟩
     ·refine .inr ⟨j+1,e',y,k1,by simp [Instr.findAsking,hrun2,k2,Nat.add_assoc,Nat.add_comm 1 j],by simpa using k3,k4,k5,fun y u hu=> ?_⟩
      simp only [RelM,List.modify_succ_cons]
      exact ⟨_,_,rfl,h1,h2,k6 y u hu⟩
   ·simp at ho
  ·simp at ho
theorem keyL_agg {kt:TypeId}{a:Array Value}{m:List (Value×AV)}(hk:KeyS P kt (a.toList.map shV))(hm:mOkS (a.toList.map shV) m=true):KeyL P kt (.agg a) m where
 check:=fun e w=>hk.check e a w rfl
 find:=fun es w hr=>by
  rw [run_findKey_eq w hk.wide]
  rcases findAsk_rel hk w m es 0 hr hm with h|⟨j,e,y,k1,k2,k3⟩
  ·exact .inl h
  ·exact .inr ⟨j,e,y,k1,by rwa [Nat.zero_add] at k2,k3⟩
 stays:=by
  show Instr.sameBits (9999+1) (.agg a) (.agg a)=true
  simp only [Instr.sameBits,beq_self_eq_true,Bool.true_and]
  have:∀ l:List Value,(∀ c ∈ l.map shV,c≠10)→((l.zip l).all fun (x,y)=>Instr.sameBits 9999 x y)=true:=by
   intro l
   induction l with
   | nil=>intro _; rfl
   | cons x l ih =>
    intro h
    simp only [List.zip_cons_cons,List.all_cons]
    rw [sameBits_sc (h _ (by simp)) 9999,ih fun c hc=>h c (by simp only [List.map_cons,List.mem_cons]; exact .inr hc)]
    rfl
  exact this _ hk.sc
theorem keyL_of (htb:TbOk P tb){kt:TypeId}{kv:Value}{m:List (Value×AV)}(hk:kOkP P tb kt kv)(hm:mOkP tb kt kv m):KeyL P kt kv m:=by
 cases kv
 case agg a=>exact keyL_agg hk hm
 all_goals exact keyL_scalar htb hk hm
theorem repVs_consts (S:Rd):∀ (l:List Value),(∀ v ∈ l,v.oneCell'=true)→RepVs S (consC l) l
 | [],_=>by simp [consC,RepVs]
 | v::r,h=>by
  simp only [consC,RepVs,RepC]
  exact ⟨v,r,rfl,⟨rfl,h v (by simp)⟩,repVs_consts S r fun x hx=>h x (by simp [hx])⟩
theorem opLookup_sound (htb:TbOk P tb){L:List AO}{t:TypeId}{x k:AV}{ok:Bool}{K:AV→Prop}(h:opLookup P tb L t x k ok K) :
  ∃ y,K y∧∀ (M:Mz) (B:List (Option BI)) (w:World) (u v:Value),RelL M B L w→RelV B (Sr M B L w) x u→RelV B (Sr M B L w) k v →
   ∃ r,(Instr.lookup t u v ok).run P w= .ok r w∧RelV B (Sr M B L w) y r:=by
 unfold opLookup at h
 simp only at h
 split at h
 ·rename_i kt et ht
  split at h
  ·rename_i id
   split at h
   ·rename_i m hO
    split at h
    ·rename_i kv hkv
     obtain ⟨hk,hm,h⟩:=h
     obtain ⟨d,hu,hT⟩:=(htb t).under (by simp [ht,TK.isOther])
     rw [ht] at hT
     simp only [TKok] at hT
     subst hT
     have hKL:=keyL_of htb hk hm
     have main:∀ (z:AV) (zv:Value) (q:AV×Bool),MFind kv z m q→(∀ S,RelV [] S z zv)→(∀ w,(zeroValue et).run P w= .ok zv w) →
       ∀ (M:Mz) (B:List (Option BI)) (w:World) (u v:Value),RelL M B L w→RelV B (Sr M B L w) (.mpv id) u→RelV B (Sr M B L w) k v →
        ∃ r,(Instr.lookup t u v ok).run P w= .ok (if ok then .tuple #[r,.bool q.2] else r) w∧RelV B (Sr M B L w) q.1 r:=by
      intro z zv q hq hz hzr M B w u v hL hx hkr
      obtain rfl:=keyV_rel hkv hkr
      simp only [RelV] at hx
      obtain ⟨bi,hb,rfl⟩:=hx
      have hob:=hL.obj id _ hb
      rw [hO] at hob
      simp only [RelO] at hob
      obtain ⟨bi',es,clock,e1,e2,e3,_⟩:=hob
      simp only [Option.some.injEq] at e1
      subst e1
      have hck:=fun e=>hKL.check e w
      have hgo:(getObj bi.b).run P w= .ok (.map es clock) w:=by simp [getObj,Sem.run,e2]
      unfold MFind at hq
      rcases hKL.find es.toList w e3 with ⟨k1,k2,_⟩|⟨j,e,y,k1,k2,_,k4,_⟩
      ·rw [k1] at hq
       refine ⟨zv,?_,RelV.mono (fun i x hx=>by simp at hx) (Rd.le_refl _) _ _ (hq.1.h [] _ _ (Nat.zero_le _) (hz _))⟩
       have hf:=k2
       rw [hq.2]
       cases ok<;>simp [Instr.lookup,run_underlying hu,hgo,hck,hf,hzr]
      ·rw [k1] at hq
       refine ⟨e.val,?_,RelV.mono (fun i x hx=>by simp at hx) (Rd.le_refl _) _ _ (hq.1.h [] _ _ (Nat.zero_le _) k4)⟩
       have hf:=k2
       rw [hq.2]
       cases ok<;>simp [Instr.lookup,run_underlying hu,hgo,hck,hf]
     have fin:∀ (q:AV×Bool) (z:AV) (zv:Value),MFind kv z m q→(∀ S,RelV [] S z zv)→(∀ w,(zeroValue et).run P w= .ok zv w) →
       (ok=true→K (.tup [q.1,boolA q.2]))→(ok=false→K q.1) →
       ∃ y,K y∧∀ (M:Mz) (B:List (Option BI)) (w:World) (u v:Value),RelL M B L w→RelV B (Sr M B L w) (.mpv id) u→RelV B (Sr M B L w) k v →
        ∃ r,(Instr.lookup t u v ok).run P w= .ok r w∧RelV B (Sr M B L w) y r:=by
      intro q z zv hq hz hzr hK hK2
      have:=main z zv q hq hz hzr
      obtain ⟨y,b⟩:=q
      cases ok with
      | true =>
       refine ⟨_,hK rfl,fun M B w u v hL hx hk=> ?_⟩
       obtain ⟨r,h1,h2⟩:=this M B w u v hL hx hk
       refine ⟨_,h1,?_⟩
       simp only [if_true,RelV,RelVs]
       exact ⟨_,rfl,_,_,rfl,h2,_,_,rfl,boolA_rel _,rfl⟩
      | false =>
       refine ⟨_,hK2 rfl,fun M B w u v hL hx hk=> ?_⟩
       obtain ⟨r,h1,h2⟩:=this M B w u v hL hx hk
       exact ⟨_,h1,h2⟩
     split at h
     ·exact h.elim
     rename_i hoe
     obtain ⟨i,de,z,hi,_,_,_,_,hz1,hz2,_,hz4,hz5,_⟩:=(htb et).ok hoe
     split at h
     ·rename_i hagg
      obtain ⟨q,hq,hK⟩:=h
      refine fin q _ z hq (fun S=> ?_) (fun w=>by simp [zeroValue,typeInfo,hi,hz1]) (fun e=>by subst e; exact hK) (fun e=>by subst e; exact hK)
      rw [hz5 hagg]
      simp only [RelV]
      exact ⟨_,rfl,by simpa using repVs_consts S _ hz4⟩
     ·split at h
      ·rename_i v hv
       obtain ⟨⟨i',hi',hz'⟩,q,hq,hK⟩:=h
       refine fin q _ v hq (fun S=> ?_) (fun w=>by simp [zeroValue,typeInfo,hi',hz']) (fun e=>by subst e; exact hK) (fun e=>by subst e; exact hK)
       simp only [RelV,RepC]
       exact ⟨trivial,hz4 v (by rw [hv]; simp)⟩
      ·exact h.elim
    ·exact h.elim
   ·exact h.elim
  ·exact h.elim
 ·exact h.elim
theorem opMinMax_sound {big:Bool}{xs:List AV}{K:AV→Prop}(h:opMinMax big xs K) :
  ∃ y,K y∧∀ (B:List (Option BI)) (S:Rd) (us:Array Value),RelVs B S xs us.toList →
   ∃ r,(∀ (ts:Array TypeId) (t:TypeId) (w:World),(if big then Builtin.max_ ts t us else Builtin.min_ ts t us).run P w= .ok r w)∧RelV B S y r:=by
 unfold opMinMax at h
 split at h
 ·rename_i k a k' b
  split at h
  ·rename_i hk
   obtain rfl:=beqK hk
   have aux:∀ (B:List (Option BI)) (S:Rd) (us:Array Value),RelVs B S [.c (.v (.int k a)),.c (.v (.int k b))] us.toList→us.toList=[.int k a,.int k b]:=by
    intro B S us hu
    simp only [RelVs,RelV,RepC] at hu
    obtain ⟨u,r,e,⟨rfl,_⟩,v,r',e',⟨rfl,_⟩,rfl⟩:=hu
    rw [e,e']
   cases big with
   | true =>
    refine ⟨_,h,fun B S us hu=>⟨.int k (if b>a then b else a),fun ts t w=> ?_,intA_rel _ _⟩⟩
    simp [Builtin.max_,aux B S us hu,Builtin.max2]
   | false =>
    refine ⟨_,h,fun B S us hu=>⟨.int k (if b<a then b else a),fun ts t w=> ?_,intA_rel _ _⟩⟩
    simp [Builtin.min_,aux B S us hu,Builtin.min2]
  ·exact h.elim
 ·exact h.elim
theorem opNil_sound {x:AV}{K:AV→Prop}(h:opNil x K) :
  ∃ y,K y∧∀ (B:List (Option BI)) (S:Rd) (a:Act) (o:Operand) (dst ty pos after g) (w:World),RelV B S x (a.eval o) →
   (execOp a.eval { dst:=dst,op:= .nilCheck o,type:=ty,pos:=pos,after:=after,guard:=g }).run P w= .ok (.value (a.eval o)) w∧RelV B S y (a.eval o):=by
 unfold opNil at h
 split at h
 ·refine ⟨_,h,fun B S a o dst ty pos after g w hu=>⟨?_,hu⟩⟩
  simp only [RelV] at hu
  obtain ⟨bi,_,e⟩:=hu
  simp [execOp,e]
 ·refine ⟨_,h,fun B S a o dst ty pos after g w hu=>⟨?_,hu⟩⟩
  simp only [RelV] at hu
  obtain ⟨bi,_,e,_⟩:=hu
  simp [execOp,e]
 ·refine ⟨_,h,fun B S a o dst ty pos after g w hu=>⟨?_,hu⟩⟩
  simp only [RelV] at hu
  obtain ⟨b,o',e,_⟩:=hu
  simp [execOp,e]
 ·refine ⟨_,h,fun B S a o dst ty pos after g w hu=>⟨?_,hu⟩⟩
  simp only [RelV] at hu
  obtain ⟨a1,a2,e,_⟩:=hu
  simp [execOp,e]
 ·exact h.elim
theorem opPick_sound {env:Env}{key:Key}{c x y:Operand}{K:AV→Prop}(h:opPick gl env key c x y K) :
  ∃ z,K z∧∀ (B:List (Option BI)) (S:Rd) (a:Act),GlOk gl S→RelE B S env a→KeyH a key →
   ∃ q,a.eval c= .bool q∧RelV B S z (if q then a.eval x else a.eval y):=by
 unfold opPick at h
 split at h
 ·rename_i q hq
  split at h
  ·rename_i t
   have hc:∀ (B:List (Option BI)) (S:Rd) (a:Act),GlOk gl S→RelE B S env a→KeyH a key→a.eval (.tmp t)= .bool q:=by
    intro B S a hg he hk
    have:=evO_sound (key2:= .no) hg he hk trivial (.tmp t)
    rw [hq] at this
    simp only [RelV,RepC] at this
    exact this.1
   split at h
   ·split at h
    ·rename_i yb hy
     refine ⟨_,h,fun B S a hg he hk=>⟨q,hc B S a hg he hk,?_⟩⟩
     cases q with
     | true=>simp only [if_true,Act.eval,Bool.true_or]; exact boolA_rel _
     | false =>
      have:=evO_sound (key2:= .at t false) hg he hk (hc B S a hg he hk) y
      rw [hy] at this
      simpa [boolA] using this
    ·split at h
     ·exact ⟨_,h,fun B S a hg he hk=>⟨true,hc B S a hg he hk,by simp only [if_true,Act.eval]; exact boolA_rel _⟩⟩
     ·exact h.elim
   ·split at h
    ·split at h
     ·rename_i xb hx
      refine ⟨_,h,fun B S a hg he hk=>⟨q,hc B S a hg he hk,?_⟩⟩
      cases q with
      | true =>
       have:=evO_sound (key2:= .at t true) hg he hk (hc B S a hg he hk) x
       rw [hx] at this
       simpa [boolA] using this
      | false=>simp only [Bool.false_and,Act.eval]; exact boolA_rel _
     ·split at h
      ·exact h.elim
      ·exact ⟨_,h,fun B S a hg he hk=>⟨false,hc B S a hg he hk,by simp only [Bool.false_eq_true,if_false,Act.eval]; exact boolA_rel _⟩⟩
    ·exact h.elim
  ·exact h.elim
 ·exact h.elim
theorem RelVs.map {B:List (Option BI)}{S:Rd}{ev:Operand→AV}{ρ:Operand→Value}:∀ (l:List Operand),(∀ o ∈ l,RelV B S (ev o) (ρ o))→RelVs B S (l.map ev) (l.map ρ)
 | [],_=>by simp [RelVs]
 | o::l,h=>by
  simp only [List.map_cons,RelVs]
  exact ⟨_,_,rfl,h o (by simp),RelVs.map l fun x hx=>h x (by simp [hx])⟩
theorem opCall_sound {ch:Prop→Prop}{L:List AO}{f:AV}{xs:List AV}{K:AV→Prop}(h:opCall P gl ch L f xs K) :
  ∃ y,K y∧∀ (M:Mz) (B:List (Option BI)) (o:Oper) (c:Call) (fo:Operand) (a:Act) (w:World),(∀ p,ch p→p)→RelL M B L w→GlOk gl (Sr M B L w)→o.op= .call c→c.callee= .value fo →
   RelV B (Sr M B L w) f (a.eval fo)→RelVs B (Sr M B L w) xs (c.args.map a.eval).toList →
   Runs P o a w fun u w'=>Below w.heap.size w w'∧RelV B (Sr M B L w') y u:=by
 unfold opCall at h
 split at h
 ·rename_i f first cap
  have main:∀ (ys:List AV) (b:Bool) (r:AV),toArgs L (first++xs++cap)=some (ys,b)→ch (ACall P gl f ys [] r)→(b=true→NoTag r)→∀ (M:Mz) (B:List (Option BI)) (o:Oper) (c:Call) (fo:Operand) (a:Act) (w:World),(∀ p,ch p→p)→RelL M B L w→GlOk gl (Sr M B L w)→o.op= .call c→c.callee= .value fo →
   RelV B (Sr M B L w) (.fn f first cap) (a.eval fo)→RelVs B (Sr M B L w) xs (c.args.map a.eval).toList →
   Runs P o a w fun u w'=>Below w.heap.size w w'∧RelV B (Sr M B L w') r u:=by
   intro ys b r hys hA hb M B o c fo a w hc hL hG ho hf hfr hxs
   simp only [RelV] at hfr
   obtain ⟨a1,a2,hfv,h1,h2⟩:=hfr
   have hA:=hc _ hA
   obtain ⟨fn,g1,g2,g3⟩:=hA.callable
   have hv:=toArgs_sound hL _ ys b _ hys (RelVs.append _ _ _ _ (RelVs.append _ _ _ _ h1 hxs) h2)
   have hcall:=acall_use hA hb hL hG (vals:=a1++c.args.map a.eval++a2) (by simpa using hv)
   intro next Q hn
   unfold Oper.wp
   have hrun:(execOp a.eval o).run P w= .ok (.enter f (a1++c.args.map a.eval++a2)) w:=by
    have g2':¬ fn.name= "runtime.NumGoroutine" :=by simpa using g2
    have g3':¬ fn.body=none:=fun e=>by simp [e] at g3
    simp [execOp,ho,resolve,hf,hfv,Deferred.ofValue,invoke,callFunc,program,Sem.run,g1,g2',g3']
   rw [hrun,Oper.upon_enter]
   refine hcall.mono ?_
   rintro e w' ⟨u,rfl,k1,k2⟩
   exact hn u w' ⟨k1,k2⟩
  split at h
  ·exact h.elim
  ·rename_i ys hys
   obtain ⟨r,hr,hK⟩:=h
   exact ⟨r,hK,main ys false r hys hr (by simp)⟩
  ·rename_i ys hys
   obtain ⟨r,hr,hs,hK⟩:=h
   exact ⟨r,hK,main ys true r hys hr (fun _=>hs)⟩
 ·exact h.elim
def PureTo (P:Program) (gl:Gl) (env:Env) (key:Key) (L:List AO) (o:Oper) (x:AV):Prop :=
 ∀ (M:Mz) (B:List (Option BI)) (a:Act) (w:World),RelL M B L w→GlOk gl (Sr M B L w)→RelE B (Sr M B L w) env a→KeyH a key →
  Runs P o a w fun u w'=>Below w.heap.size w w'∧RelV B (Sr M B L w') x u
theorem opPure_sound (htb:TbOk P tb){env:Env}{key:Key}{L:List AO}{o:Oper}{K:AV→Prop}(h:opPure P tb gl env key L o.op K) :
  ∃ x,K x∧PureTo P gl env key L o x:=by
 obtain ⟨dst,op,ty,pos,after,g⟩:=o
 simp only at h
 have hev:∀ {M:Mz} {B:List (Option BI)} {a:Act} {w:World},GlOk gl (Sr M B L w)→RelE B (Sr M B L w) env a→KeyH a key→∀ x,RelV B (Sr M B L w) (evO gl env key .no x) (a.eval x) :=
  fun hG hE hk x=>evO_sound (key2:= .no) hG hE hk trivial x
 have hch:∀ {M:Mz} {B:List (Option BI)} {a:Act} {w:World},RelE B (Sr M B L w) env a→KeyH a key→∀ p,chain env 20 key p→p :=
  fun hE hk p hp=>chain_sound hE 20 key p hk hp
 cases op<;>simp only [opPure] at h<;>try exact h.elim
 case move x=>exact ⟨_,h,fun M B a w hL hG hE hk=>Runs.value (u:=a.eval x) (by simp [execOp]) ⟨Below.refl _ _,hev hG hE hk x⟩⟩
 case assign x=>exact ⟨_,h,fun M B a w hL hG hE hk=>Runs.value (u:=a.eval x) (by simp [execOp]) ⟨Below.refl _ _,hev hG hE hk x⟩⟩
 case pick c x y =>
  obtain ⟨z,hz,hh⟩:=opPick_sound h
  refine ⟨z,hz,fun M B a w hL hG hE hk=> ?_⟩
  obtain ⟨q,h1,h2⟩:=hh B _ a hG hE hk
  exact Runs.value (u:=if q then a.eval x else a.eval y) (by simp [execOp,h1,asBool]) ⟨Below.refl _ _,h2⟩
 case load t x =>
  obtain ⟨y,hy,hh⟩:=opLoad_sound htb h
  refine ⟨y,hy,fun M B a w hL hG hE hk=> ?_⟩
  obtain ⟨v,h1,h2⟩:=hh M B w _ hL (hev hG hE hk x)
  exact Runs.value (by simp [execOp,h1]) ⟨Below.refl _ _,h2⟩
 case nilCheck x =>
  obtain ⟨y,hy,hh⟩:=opNil_sound (P:=P) h
  refine ⟨y,hy,fun M B a w hL hG hE hk=> ?_⟩
  obtain ⟨h1,h2⟩:=hh B _ a x dst ty pos after g w (hev hG hE hk x)
  exact Runs.value h1 ⟨Below.refl _ _,h2⟩
 case binOp op t x y t2 =>
  obtain ⟨z,hz,hh⟩:=opBin_sound htb h
  refine ⟨z,hz,fun M B a w hL hG hE hk=> ?_⟩
  obtain ⟨r,h1,h2⟩:=hh B _ _ _ (hch hE hk) (hev hG hE hk x) (hev hG hE hk y)
  have:=h1 x y w
  exact Runs.value (by simp only [execOp]; rw [Sem.run_bind,this]; rfl) ⟨Below.refl _ _,h2⟩
 case unOp op t x =>
  obtain ⟨z,hz,hh⟩:=opUn_sound (P:=P) h
  refine ⟨z,hz,fun M B a w hL hG hE hk=> ?_⟩
  obtain ⟨r,h1,h2⟩:=hh B _ _ (hev hG hE hk x)
  exact Runs.value (by simp [execOp,h1]) ⟨Below.refl _ _,h2⟩
 case convert s d x =>
  obtain ⟨z,hz,hh⟩:=opConv_sound htb h
  refine ⟨z,hz,fun M B a w hL hG hE hk=> ?_⟩
  obtain ⟨r,w',h1,h2,h3⟩:=hh M B w _ (hch hE hk) hL (hev hG hE hk x)
  exact Runs.value (by simp [execOp,h1]) ⟨h2,h3⟩
 case slice t x lo hi mx =>
  obtain ⟨z,hz,hh⟩:=opSlice_sound htb h
  refine ⟨z,hz,fun M B a w hL hG hE hk=> ?_⟩
  obtain ⟨r,h1,h2⟩:=hh B _ w _ a.eval hL.most (hch hE hk) (hev hG hE hk x) (fun o _=>hev hG hE hk o)
  exact Runs.value (by simp [execOp,h1]) ⟨Below.refl _ _,h2⟩
 case fieldAddr t x i =>
  obtain ⟨z,hz,hh⟩:=opFieldAddr_sound htb h
  refine ⟨z,hz,fun M B a w hL hG hE hk=> ?_⟩
  obtain ⟨r,h1,h2⟩:=hh B _ _ (hev hG hE hk x)
  exact Runs.value (by simp [execOp,h1]) ⟨Below.refl _ _,h2⟩
 case field t x i =>
  obtain ⟨z,hz,hh⟩:=opField_sound htb h
  refine ⟨z,hz,fun M B a w hL hG hE hk=> ?_⟩
  obtain ⟨r,h1,h2⟩:=hh B _ w _ (hev hG hE hk x)
  exact Runs.value (by simp [execOp,h1]) ⟨Below.refl _ _,h2⟩
 case indexAddr t x i =>
  obtain ⟨z,hz,hh⟩:=opIndexAddr_sound htb h
  refine ⟨z,hz,fun M B a w hL hG hE hk=> ?_⟩
  obtain ⟨r,h1,h2⟩:=hh B _ _ _ (hch hE hk) (hev hG hE hk x) (hev hG hE hk i)
  exact Runs.value (by simp [execOp,h1]) ⟨Below.refl _ _,h2⟩
 case index t x i =>
  obtain ⟨z,hz,hh⟩:=opIndex_sound htb h
  refine ⟨z,hz,fun M B a w hL hG hE hk=> ?_⟩
  obtain ⟨r,h1,h2⟩:=hh B _ w _ _ (hch hE hk) (hev hG hE hk x) (hev hG hE hk i)
  exact Runs.value (by simp [execOp,h1]) ⟨Below.refl _ _,h2⟩
 case extract x i =>
  obtain ⟨z,hz,hh⟩:=opExtract_sound (P:=P) h
  refine ⟨z,hz,fun M B a w hL hG hE hk=> ?_⟩
  obtain ⟨r,h1,h2⟩:=hh B _ _ (hev hG hE hk x)
  exact Runs.value (by simp [execOp,h1]) ⟨Below.refl _ _,h2⟩
 case build t ps =>
  obtain ⟨z,hz,hh⟩:=opBuild_sound htb h
  refine ⟨z,hz,fun M B a w hL hG hE hk=> ?_⟩
  obtain ⟨r,h1,h2⟩:=hh B (Sr M B L w) w (ps.map fun p=>(p.1,a.eval p.2)) (by simp) (fun j p q hp hq=>by
   simp only [List.getElem?_map,Array.getElem?_toList,Array.getElem?_map,Option.map_eq_some_iff] at hp hq
   obtain ⟨p',e1,rfl⟩:=hp
   obtain ⟨q',e2,rfl⟩:=hq
   rw [e1] at e2
   simp only [Option.some.injEq] at e2
   subst e2
   exact ⟨rfl,hev hG hE hk _⟩)
  exact Runs.value (by simp [execOp,h1]) ⟨Below.refl _ _,h2⟩
 case buildSlice t n ps =>
  obtain ⟨z,hz,hh⟩:=opBuildSlice_sound htb h
  refine ⟨z,hz,fun M B a w hL hG hE hk=> ?_⟩
  obtain ⟨r,w',h1,h2,h3⟩:=hh M B L w (ps.map fun p=>(p.1,a.eval p.2)) hL (by simp) (fun j p q hp hq=>by
   simp only [List.getElem?_map,Array.getElem?_toList,Array.getElem?_map,Option.map_eq_some_iff] at hp hq
   obtain ⟨p',e1,rfl⟩:=hp
   obtain ⟨q',e2,rfl⟩:=hq
   rw [e1] at e2
   simp only [Option.some.injEq] at e2
   subst e2
   exact ⟨rfl,frzV_sound hL (hev hG hE hk _)⟩)
  exact Runs.value (by simp [execOp,h1]) ⟨h2,h3⟩
 case makeFunc fn fs cs =>
  split at h
  ·rename_i f
   refine ⟨_,h,fun M B a w hL hG hE hk=>Runs.value (u:= .func (.func f) (fs.map a.eval) (cs.map a.eval)) (by simp [execOp,Instr.makeFunc]) ⟨Below.refl _ _,?_⟩⟩
   simp only [RelV]
   refine ⟨_,_,rfl,?_,?_⟩
   ·simpa using RelVs.map (ρ:=a.eval) fs.toList (fun o _=>hev hG hE hk o)
   ·simpa using RelVs.map (ρ:=a.eval) cs.toList (fun o _=>hev hG hE hk o)
  ·exact h.elim
 case lookup t x k ok =>
  obtain ⟨z,hz,hh⟩:=opLookup_sound htb h
  refine ⟨z,hz,fun M B a w hL hG hE hk=> ?_⟩
  obtain ⟨r,h1,h2⟩:=hh M B w _ _ hL (hev hG hE hk x) (hev hG hE hk k)
  exact Runs.value (by simp [execOp,h1]) ⟨Below.refl _ _,h2⟩
 case call c =>
  split at h
  ·rename_i fo hf
   obtain ⟨z,hz,hh⟩:=opCall_sound h
   refine ⟨z,hz,fun M B a w hL hG hE hk=> ?_⟩
   exact hh M B _ c fo a w (hch hE hk) hL hG rfl hf (hev hG hE hk fo) (by simpa using RelVs.map (ρ:=a.eval) c.args.toList (fun o _=>hev hG hE hk o))
  ·rename_i bt hb
   have hrun:∀ (a:Act) (w:World),(execOp a.eval { dst:=dst,op:= .call c,type:=ty,pos:=pos,after:=after,guard:=g }).run P w =
     (builtin bt c.argTypes ty (c.args.map fun| .const _=>true|_=>false) (c.args.map a.eval)).run P w:=by
    intro a w
    simp [execOp,resolve,hb,invoke]
    rfl
   split at h
   ·
    split at h
    ·rename_i x hx
     split at h
     ·rename_i t ht
      obtain ⟨z,hz,hh⟩:=opLen_sound htb h
      refine ⟨z,hz,fun M B a w hL hG hE hk=> ?_⟩
      obtain ⟨r,h1,h2⟩:=hh B _ ty _ (hev hG hE hk x)
      have e1:c.args.map a.eval= #[a.eval x]:=by apply Array.ext'; simp [hx]
      have e2:c.argTypes= #[t]:=by apply Array.ext'; simp [ht]
      exact Runs.value (by rw [hrun,e1,e2]; simp [builtin,h1]) ⟨Below.refl _ _,h2⟩
     ·exact h.elim
    ·exact h.elim
   ·
    split at h
    ·rename_i x hx
     split at h
     ·rename_i t ht
      unfold opCapNil at h
      split at h
      ·rename_i el hk
       obtain ⟨d,hd,hT⟩:=(htb t).under (by simp [hk,TK.isOther])
       rw [hk] at hT
       simp only [TKok] at hT
       subst hT
       split at h
       ·rename_i hxv
        refine ⟨_,h,fun M B a w hL hG hE hk=> ?_⟩
        have h2:=hev hG hE hk x
        rw [hxv] at h2
        simp only [RelV,RepC] at h2
        have e1:c.args.map a.eval= #[.slice none 0 0]:=by apply Array.ext'; simp [hx,h2.1]
        have e2:c.argTypes= #[t]:=by apply Array.ext'; simp [ht]
        exact Runs.value (by rw [hrun,e1,e2]; simp [builtin,Builtin.cap_,run_underlying hd]; rfl) ⟨Below.refl _ _,intA_rel _ _⟩
       ·exact h.elim
      ·exact h.elim
     ·exact h.elim
    ·exact h.elim
   ·obtain ⟨z,hz,hh⟩:=opMinMax_sound (P:=P) h
    refine ⟨z,hz,fun M B a w hL hG hE hk=> ?_⟩
    obtain ⟨r,h1,h2⟩:=hh B _ (c.args.map a.eval) (by simpa using RelVs.map (ρ:=a.eval) c.args.toList (fun o _=>hev hG hE hk o))
    have:=h1 c.argTypes ty w
    simp only [if_true] at this
    exact Runs.value (by rw [hrun]; simp [builtin,this]) ⟨Below.refl _ _,h2⟩
   ·obtain ⟨z,hz,hh⟩:=opMinMax_sound (P:=P) h
    refine ⟨z,hz,fun M B a w hL hG hE hk=> ?_⟩
    obtain ⟨r,h1,h2⟩:=hh B _ (c.args.map a.eval) (by simpa using RelVs.map (ρ:=a.eval) c.args.toList (fun o _=>hev hG hE hk o))
    have:=h1 c.argTypes ty w
    simp only [Bool.false_eq_true,if_false] at this
    exact Runs.value (by rw [hrun]; simp [builtin,this]) ⟨Below.refl _ _,h2⟩
   ·exact h.elim
  ·exact h.elim
end
end Go.VA
namespace Go.VA
open Go Go.RowKit
section
variable {P:Program} {tb:TB} {gl:Gl}
theorem getO_setO:∀ (L:List AO) (id j:Nat) (x:AO),id<L.length→getO (setO L id x) j=if j=id then x else getO L j
 | [],id,j,x,h=>by simp at h
 | y::r,0,0,x,_=>by simp [setO,getO]
 | y::r,0,j+1,x,_=>by simp [setO,getO]
 | y::r,id+1,0,x,_=>by simp [setO,getO]
 | y::r,id+1,j+1,x,h=>by simp [setO,getO,getO_setO r id j x (by simpa using h)]
theorem setO_length:∀ (L:List AO) (id:Nat) (x:AO),(setO L id x).length=L.length
 | [],_,_=>by simp [setO]
 | _::_,0,_=>by simp [setO]
 | _::r,id+1,x=>by simp [setO,setO_length r id x]
theorem getO_append (L:List AO)(x:AO)(j:Nat):getO (L++[x]) j=if j=L.length then x else getO L j:=by
 rw [getO_eq,getO_eq]
 by_cases h:j<L.length
 ·rw [List.getElem?_append_left h,if_neg (by omega)]
 ·by_cases h2:j=L.length
  ·subst h2; simp
  ·rw [if_neg h2,List.getElem?_eq_none (by simp; omega),List.getElem?_eq_none (by omega)]
theorem live_lt {L:List AO}{id:Nat}(h:(getO L id).live=true):id<L.length:=by
 rcases Nat.lt_or_ge id L.length with h1|h1
 ·exact h1
 ·rw [getO_eq,List.getElem?_eq_none h1] at h; simp [AO.live] at h
theorem app_get {α:Type}{B:List α}{x y:α}{j:Nat}(h:(B++[x])[j]? =some y):B[j]? =some y∨(j=B.length∧x=y):=by
 rcases Nat.lt_or_ge j B.length with h1|h1
 ·rw [List.getElem?_append_left h1] at h; exact .inl h
 ·rw [List.getElem?_append_right h1] at h
  cases hj:j-B.length with
  | zero=>rw [hj] at h; simp at h; exact .inr ⟨by omega,h⟩
  | succ n=>rw [hj] at h; simp at h
theorem Ble.app (B:List (Option BI))(x:Option BI):Ble B (B++[x]):=fun id y h=>by
 rw [List.getElem?_append_left (List.getElem?_eq_some_iff.1 h).1]; exact h
theorem RelL_push {M:Mz}{B:List (Option BI)}{L:List AO}{w w':World}(hL:RelL M B L w)(hro:M.ro≤L.length)(hext:Below w.heap.size w w')(bo:Option BI)(x:AO)
  (hbo:∀ bi,bo=some bi→w.heap.size≤bi.b∧bi.b<w'.heap.size)
  (hobj:(Sr M B L w).le (Sr M (B++[bo]) (L++[x]) w')→RelO (B++[bo]) (Sr M (B++[bo]) (L++[x]) w') w' x bo) :
  RelL M (B++[bo]) (L++[x]) w'∧(Sr M B L w).le (Sr M (B++[bo]) (L++[x]) w'):=by
 have hlen:=hL.len
 have hget:∀ j,j<L.length→getO (L++[x]) j=getO L j:=fun j hj=>by rw [getO_append,if_neg (by omega)]
 have hmu:∀ t b,b<w.heap.size→MU M (B++[bo]) (L++[x]) t b→MU M B L t b:=by
  intro t b hb h
  have fin:∀ (id:Nat) (bi:BI),(B++[bo])[id]? =some (some bi)→bi.b=b→(getO (L++[x]) id).live=true→B[id]? =some (some bi)∧(getO L id).live=true:=by
   intro id bi h1 h2 h3
   rcases app_get h1 with h4|⟨rfl,h4⟩
   ·have:id<B.length:=(List.getElem?_eq_some_iff.1 h4).1
    rw [hget id (by omega)] at h3
    exact ⟨h4,h3⟩
   ·have:=hbo bi h4
    omega
  cases t with
  | false =>
   rcases h with h|⟨id,bi,h1,h2,h3⟩
   ·exact .inl h
   ·obtain ⟨k1,k2⟩:=fin id bi h1 h2 h3
    exact .inr ⟨id,bi,k1,h2,k2⟩
  | true =>
   rcases h with h|⟨id,bi,h0,h1,h2,h3⟩
   ·exact .inl h
   ·obtain ⟨k1,k2⟩:=fin id bi h1 h2 h3
    exact .inr ⟨id,bi,h0,k1,h2,k2⟩
 have hS:(Sr M B L w).le (Sr M (B++[bo]) (L++[x]) w'):=by
  intro t b o u ⟨h1,h2⟩
  have hlt:=block_lt h2
  exact ⟨fun h=>h1 (hmu t b hlt h),by rw [hext.cell (p:=⟨b,o,none⟩) hlt]; exact h2⟩
 refine ⟨⟨by simp [hlen],fun id bi h=> ?_,fun b hb=>Nat.lt_of_lt_of_le (hL.mbnd b hb) hext.size,fun id bi h hl=> ?_,fun i j bi bj hne hi hj hli hlj=> ?_,fun id bo' h=> ?_⟩,hS⟩
 ·rcases app_get h with h|⟨_,h⟩
  ·exact Nat.lt_of_lt_of_le (hL.bnd id bi h) hext.size
  ·exact (hbo bi h).2
 ·rcases app_get h with h4|⟨_,h4⟩
  ·rw [hget id (by have:=(List.getElem?_eq_some_iff.1 h4).1; omega)] at hl
   exact hL.notM id bi h4 hl
  ·intro hm
   have:=hL.mbnd _ hm
   have:=(hbo bi h4).1
   omega
 ·rcases app_get hi with hi'|⟨hi1,hi'⟩<;>rcases app_get hj with hj'|⟨hj1,hj'⟩
  ·have h1:=(List.getElem?_eq_some_iff.1 hi').1
   have h2:=(List.getElem?_eq_some_iff.1 hj').1
   rw [hget i (by omega)] at hli
   rw [hget j (by omega)] at hlj
   exact hL.dist i j bi bj hne hi' hj' hli hlj
  ·have:=hL.bnd i bi hi'
   have:=(hbo bj hj').1
   omega
  ·have:=hL.bnd j bj hj'
   have:=(hbo bi hi').1
   omega
  ·omega
 ·rcases app_get h with h4|⟨h1,h4⟩
  ·have h5:=(List.getElem?_eq_some_iff.1 h4).1
   rw [hget id (by omega)]
   have:=RelO_ext hS hext _ _ (fun bi e=>hL.bnd id bi (e ▸ h4)) (hL.obj id bo' h4)
   cases hO:getO L id with
   | box xs =>
    rw [hO] at this
    obtain ⟨bi,cs,ty,e,k1,k2,k3,k4,k5⟩:=this
    exact ⟨bi,cs,ty,e,k1,k2,k3,k4,RelVs.mono (Ble.app B bo) (Rd.le_refl _) _ _ k5⟩
   | row e n f =>
    rw [hO] at this
    cases bo' with
    | none=>exact this
    | some bi=>exact this
   | frz e n f =>
    rw [hO] at this
    cases bo' with
    | none=>exact this
    | some bi=>exact this
   | mp m =>
    rw [hO] at this
    exact this
   | amb vs xs =>
    rw [hO] at this
    exact RelVs.mono (Ble.app B bo) (Rd.le_refl _) _ _ this
   | dead=>trivial
  ·subst h1
   rw [getO_append,if_pos hlen,← h4]
   exact hobj hS
theorem RelL_upd {M:Mz}{B:List (Option BI)}{L L':List AO}{w w':World}(hL:RelL M B L w){id:Nat}(hro:M.ro≤id){bo bo':Option BI}{x':AO}
  (hid:B[id]? =some bo) (hlive:(getO L id).live=true) (hlive':x'.live=true) (hlen:L'.length=L.length) (hx:getO L' id=x')
  (hoth:∀ j,j≠id→(getO L' j).live=(getO L j).live)
  (hsz:w.heap.size≤w'.heap.size) (hheap:∀ k,k<w.heap.size→(∀ bi,bo=some bi→k≠bi.b)→w'.heap[k]? =w.heap[k]?)
  (hb':∀ bi',bo'=some bi'→bi'.b<w'.heap.size∧((∃ bi,bo=some bi∧bi.b=bi'.b)∨w.heap.size≤bi'.b))
  (hV:(Sr M B L w).le (Sr M (B.set id bo') L' w')→∀ j,j≠id→∀ bj,RelO B (Sr M (B.set id bo') L' w') w' (getO L j) bj→RelO (B.set id bo') (Sr M (B.set id bo') L' w') w' (getO L' j) bj)
  (hobj:(Sr M B L w).le (Sr M (B.set id bo') L' w')→RelO (B.set id bo') (Sr M (B.set id bo') L' w') w' x' bo') :
  RelL M (B.set id bo') L' w'∧(Sr M B L w).le (Sr M (B.set id bo') L' w'):=by
 have hidl:id<B.length:=(List.getElem?_eq_some_iff.1 hid).1
 have hset:∀ (j:Nat) (y:Option BI),(B.set id bo')[j]? =some y→(j≠id∧B[j]? =some y)∨(j=id∧y=bo'):=by
  intro j y h
  by_cases hj:j=id
  ·subst hj; rw [List.getElem?_set_self hidl] at h; simp at h; exact .inr ⟨rfl,h.symm⟩
  ·rw [List.getElem?_set_ne (Ne.symm hj)] at h; exact .inl ⟨hj,h⟩
 have hold:∀ t bi,bo=some bi→MU M B L t bi.b:=by
  intro t bi e
  cases t with
  | false=>exact .inr ⟨id,bi,by rw [hid,e],rfl,hlive⟩
  | true=>exact .inr ⟨id,bi,hro,by rw [hid,e],rfl,hlive⟩
 have hmu:∀ t b,b<w.heap.size→¬ MU M B L t b→¬ MU M (B.set id bo') L' t b:=by
  intro t b hb hn h
  apply hn
  have fin:∀ (j:Nat) (bi:BI),(B.set id bo')[j]? =some (some bi)→bi.b=b→(getO L' j).live=true→j≠id∧B[j]? =some (some bi)∧(getO L j).live=true:=by
   intro j bi h1 h2 h3
   rcases hset j _ h1 with ⟨hj,h4⟩|⟨rfl,h4⟩
   ·rw [hoth j hj] at h3; exact ⟨hj,h4,h3⟩
   ·exfalso
    rcases (hb' bi h4.symm).2 with ⟨bi0,e0,e1⟩|h5
    ·exact hn (by rw [← h2,← e1]; exact hold t bi0 e0)
    ·omega
  cases t with
  | false =>
   rcases h with h|⟨j,bi,h1,h2,h3⟩
   ·exact .inl h
   ·obtain ⟨_,k1,k2⟩:=fin j bi h1 h2 h3
    exact .inr ⟨j,bi,k1,h2,k2⟩
  | true =>
   rcases h with h|⟨j,bi,h0,h1,h2,h3⟩
   ·exact .inl h
   ·obtain ⟨_,k1,k2⟩:=fin j bi h1 h2 h3
    exact .inr ⟨j,bi,h0,k1,h2,k2⟩
 have hS:(Sr M B L w).le (Sr M (B.set id bo') L' w'):=by
  intro t b o u ⟨h1,h2⟩
  have hlt:=block_lt h2
  refine ⟨hmu t b hlt h1,?_⟩
  rw [World.cell?_of_block (w:=w) (hheap b hlt fun bi e hb=>h1 (hb ▸ hold t bi e))]
  exact h2
 refine ⟨⟨by simp [hL.len,hlen],fun j bi h=> ?_,fun b hb=>Nat.lt_of_lt_of_le (hL.mbnd b hb) hsz,fun j bi h hl=> ?_,fun i j bi bj hne hi hj hli hlj=> ?_,fun j bj h=> ?_⟩,hS⟩
 ·rcases hset j _ h with ⟨_,h4⟩|⟨_,h4⟩
  ·exact Nat.lt_of_lt_of_le (hL.bnd j bi h4) hsz
  ·exact (hb' bi h4.symm).1
 ·rcases hset j _ h with ⟨hj,h4⟩|⟨rfl,h4⟩
  ·rw [hoth j hj] at hl; exact hL.notM j bi h4 hl
  ·rcases (hb' bi h4.symm).2 with ⟨bi0,e0,e1⟩|h5
   ·rw [← e1]; exact hL.notM j bi0 (by rw [hid,e0]) hlive
   ·intro hm; have:=hL.mbnd _ hm; omega
 ·rcases hset i _ hi with ⟨hi1,hi'⟩|⟨hi1,hi'⟩<;>rcases hset j _ hj with ⟨hj1,hj'⟩|⟨hj1,hj'⟩
  ·rw [hoth i hi1] at hli; rw [hoth j hj1] at hlj
   exact hL.dist i j bi bj hne hi' hj' hli hlj
  ·subst hj1
   rw [hoth i hi1] at hli
   rcases (hb' bj hj'.symm).2 with ⟨b0,e0,e1⟩|h5
   ·rw [← e1]; exact hL.dist i j bi b0 hne hi' (by rw [hid,e0]) hli hlive
   ·have:=hL.bnd i bi hi'; omega
  ·subst hi1
   rw [hoth j hj1] at hlj
   rcases (hb' bi hi'.symm).2 with ⟨b0,e0,e1⟩|h5
   ·rw [← e1]; exact hL.dist i j b0 bj hne (by rw [hid,e0]) hj' hlive hlj
   ·have:=hL.bnd j bj hj'; omega
  ·omega
 ·rcases hset j _ h with ⟨hj,h4⟩|⟨rfl,h4⟩
  ·refine hV hS j hj bj ?_
   have hr:=hL.obj j bj h4
   have hkeep:(getO L j).live=true→∀ b,bj=some b→w'.heap[b.b]? =w.heap[b.b]? :=by
    intro hl b e
    subst e
    exact hheap b.b (hL.bnd j b h4) fun bi e0 e1=>hL.dist j id b bi hj h4 (by rw [hid,e0]) hl hlive e1
   cases hO:getO L j with
   | box xs =>
    rw [hO] at hr hkeep
    obtain ⟨b,cs,ty,rfl,k1,k2,k3,k4,k5⟩:=hr
    exact ⟨b,cs,ty,rfl,by rw [hkeep rfl b rfl]; exact k1,k2,k3,k4,RelVs.mono (Ble.refl _) hS _ _ k5⟩
   | row e n f =>
    rw [hO] at hr hkeep
    cases bj with
    | none=>exact hr
    | some b =>
     obtain ⟨h0,cs,ty,k1,k2,k3,k4⟩:=hr
     exact ⟨h0,cs,ty,by unfold RowAt; rw [hkeep rfl b rfl]; exact k1,k2,k3,fun i hi=>⟨(k4 i hi).1,RepCs.mono hS (fun _ _ x=>x) _ _ (k4 i hi).2⟩⟩
   | frz e n f =>
    rw [hO] at hr
    cases bj with
    | none=>exact hr
    | some b =>
     obtain ⟨h0,k4⟩:=hr
     exact ⟨h0,fun i hi=>⟨(k4 i hi).1,RepCs.mono hS (hS false b.b) _ _ (k4 i hi).2⟩⟩
   | mp m =>
    rw [hO] at hr hkeep
    obtain ⟨b,es,clock,rfl,k1,k2,k3⟩:=hr
    exact ⟨b,es,clock,rfl,by rw [hkeep rfl b rfl]; exact k1,RelM.mono hS _ _ k2,k3⟩
   | amb vs xs =>
    rw [hO] at hr
    exact RelVs.mono (Ble.refl _) hS _ _ hr
   | dead=>trivial
  ·rw [hx,h4]; exact hobj hS
end
end Go.VA
namespace Go.VA
open Go Go.RowKit
section
variable {P:Program} {tb:TB} {gl:Gl}
structure Cells (S:Rd) (esz m:Nat) (g:Nat→List C) (cs:Array Value):Prop where
 size:cs.size=m*esz
 one:∀ v ∈ cs.toList,v.oneCell'=true
 rep:∀ i,i<m→(g i).length=esz∧RepCs S (fun o u=>cs[o]? =some u) (i*esz) (g i)
theorem Cells.mono {S S':Rd}(h:S.le S'){esz m:Nat}{g:Nat→List C}{cs:Array Value}(hc:Cells S esz m g cs):Cells S' esz m g cs :=
 ⟨hc.size,hc.one,fun i hi=>⟨(hc.rep i hi).1,RepCs.mono h (fun _ _ x=>x) _ _ (hc.rep i hi).2⟩⟩
theorem mul_lt_aux {i m e j:Nat}(hi:i<m)(hj:j<e):i*e+j<m*e:=by
 have:(i+1)*e≤m*e:=Nat.mul_le_mul_right _ hi
 rw [Nat.add_mul,Nat.one_mul] at this
 omega
theorem div_aux {j e m:Nat}(h:j<m*e):j/e<m∧j%e<e∧j/e*e+j%e=j:=by
 have he:0<e:=by
  rcases Nat.eq_zero_or_pos e with h0|h0
  ·subst h0; simp at h
  ·exact h0
 refine ⟨(Nat.div_lt_iff_lt_mul he).2 h,Nat.mod_lt _ he,?_⟩
 rw [Nat.mul_comm]; exact Nat.div_add_mod j e
theorem Cells.read {S:Rd}{esz m:Nat}{g:Nat→List C}(R:Nat→Option Value)(o:Nat)(h:∀ i,i<m→(g i).length=esz∧RepCs S (fun q u=>R q=some u) (o+i*esz) (g i)) :
  Cells S esz m g ((List.range (m*esz)).map fun j=>(R (o+j)).getD undef).toArray∧∀ j,j<m*esz→∃ u,R (o+j)=some u∧u.oneCell'=true:=by
 have hall:∀ j,j<m*esz→∃ u,R (o+j)=some u∧u.oneCell'=true:=by
  intro j hj
  obtain ⟨h1,h2,h3⟩:=div_aux hj
  obtain ⟨k1,k2⟩:=h (j/esz) h1
  have h4:j%esz<(g (j/esz)).length:=by omega
  obtain ⟨u,r1,r2⟩:=RepCs.nth _ _ (j%esz) _ k2 (List.getElem?_eq_getElem h4)
  refine ⟨u,?_,RepC.one r2⟩
  rw [← r1]; congr 1; omega
 refine ⟨⟨by simp,fun v hv=> ?_,fun i hi=>⟨(h i hi).1,RepCs.mk _ _ fun j x hx=> ?_⟩⟩,hall⟩
 ·simp only [List.mem_map,List.mem_range] at hv
  obtain ⟨j,hj,rfl⟩:=hv
  obtain ⟨u,e1,e2⟩:=hall j hj
  rw [e1]; exact e2
 ·obtain ⟨k1,k2⟩:=h i hi
  obtain ⟨u,r1,r2⟩:=RepCs.nth _ _ j x k2 hx
  have hj:j<esz:=by have:=(List.getElem?_eq_some_iff.1 hx).1; omega
  have hlt:=mul_lt_aux hi hj
  refine ⟨u,?_,r2⟩
  simp only [List.getElem?_toArray,List.getElem?_map,List.getElem?_range hlt,Option.map_some,Option.some.injEq]
  rw [show o+(i*esz+j)=o+i*esz+j from by omega,r1]
  rfl
structure Src (P:Program) (S:Rd) (esz m:Nat) (g:Nat→List C) (x:Value) (w:World) (cs:Array Value):Prop where
 cells:Cells S esz m g cs
 len:(Builtin.lenOf x).run P w= .ok m w
 first:(Builtin.firstCells esz m x).run P w= .ok cs w
 drew:(Builtin.firstCells esz m x).run P w.drew= .ok cs w.drew
 less:∀ k,k≤m→∃ cs',Cells S esz k g cs'∧(Builtin.firstCells esz k x).run P w= .ok cs' w
theorem Src.of_slice {S:Rd}{esz m cap:Nat}{g:Nat→List C}{b o:Nat}{w:World}(h:∀ i,i<m→(g i).length=esz∧RepCs S (fun q u=>w.cell? ⟨b,q,none⟩=some u) (o+i*esz) (g i)) :
  Src P S esz m g (.slice (some ⟨b,o,none⟩) m cap) w ((List.range (m*esz)).map fun j=>(w.cell? ⟨b,o+j,none⟩).getD undef).toArray:=by
 have core:∀ k,k≤m→Cells S esz k g ((List.range (k*esz)).map fun j=>(w.cell? ⟨b,o+j,none⟩).getD undef).toArray ∧
   ∀ w',(∀ a,w'.cell? a=w.cell? a)→(loadCells ⟨b,o,none⟩ (k*esz)).run P w'= .ok ((List.range (k*esz)).map fun j=>(w.cell? ⟨b,o+j,none⟩).getD undef).toArray w':=by
  intro k hk
  obtain ⟨h1,h2⟩:=Cells.read (m:=k) (fun q=>w.cell? ⟨b,q,none⟩) o (fun i hi=>h i (by omega))
  refine ⟨h1,fun w' hw'=> ?_⟩
  rw [run_loadCells w' ⟨b,o,none⟩ (k*esz) (fun j=>(w.cell? ⟨b,o+j,none⟩).getD undef) fun j hj=>by
   obtain ⟨u,e1,_⟩:=h2 j hj
   rw [addr_add,hw',e1]; rfl]
 obtain ⟨h1,hl⟩:=core m (Nat.le_refl _)
 exact ⟨h1,rfl,hl w fun _=>rfl,hl w.drew fun _=>rfl,fun k hk=>⟨_,(core k hk).1,(core k hk).2 w fun _=>rfl⟩⟩
theorem Src.none' {S:Rd}{esz:Nat}{g:Nat→List C}{x:Value}{w:World}(hx:∃ a c,x= .slice a 0 c):Src P S esz 0 g x w #[]:=by
 obtain ⟨a,c,rfl⟩:=hx
 refine ⟨⟨by simp,by simp,by simp⟩,rfl,?_,?_,fun k hk=> ?_⟩
 ·cases a<;>simp [Builtin.firstCells,loadCells,loadCellsFrom]
 ·cases a<;>simp [Builtin.firstCells,loadCells,loadCellsFrom]
 ·obtain rfl:k=0:=by omega
  exact ⟨#[],⟨by simp,by simp,by simp⟩,by cases a<;>simp [Builtin.firstCells,loadCells,loadCellsFrom]⟩
theorem Src.none {S:Rd}{esz:Nat}{g:Nat→List C}{x:Value}{w:World}(hx:∃ a,x= .slice a 0 0):Src P S esz 0 g x w #[]:=Src.none' (hx.elim fun a h=>⟨a,0,h⟩)
theorem viewO_sl {L:List AO}{id esz off len:Nat}{t:Bool}{e m:Nat}{g:Nat→List C}{bb:Bool}(hv:viewO L id esz off len=some (.sl t e m g,bb)) :
  e=esz∧m=len∧∃ n f,(getO L id= .row esz n f∨getO L id= .frz esz n f∨∃ ys cs,getO L id= .box ys∧toCs ys=some cs∧esz=1∧n=cs.length∧f=fun i=>[nthCC cs i])∧g=fun i=>f (off+i):=by
 unfold viewO at hv
 split at hv
 ·rename_i e' n f hO
  split at hv
  ·rename_i he
   obtain rfl:=Nat.beq_spec he
   simp only [Option.some.injEq,Prod.mk.injEq,C.sl.injEq] at hv
   obtain ⟨⟨_,rfl,rfl,rfl⟩,_⟩:=hv
   exact ⟨rfl,rfl,n,f,.inl hO,rfl⟩
  ·simp at hv
 ·rename_i e' n f hO
  split at hv
  ·rename_i he
   obtain rfl:=Nat.beq_spec he
   simp only [Option.some.injEq,Prod.mk.injEq,C.sl.injEq] at hv
   obtain ⟨⟨_,rfl,rfl,rfl⟩,_⟩:=hv
   exact ⟨rfl,rfl,n,f,.inr (.inl hO),rfl⟩
  ·simp at hv
 ·rename_i ys hO
  split at hv
  ·rename_i he
   obtain rfl:=Nat.beq_spec he
   split at hv
   ·rename_i cs hcs
    simp only [Option.some.injEq,Prod.mk.injEq,C.sl.injEq] at hv
    obtain ⟨⟨_,rfl,rfl,rfl⟩,_⟩:=hv
    exact ⟨rfl,rfl,cs.length,_,.inr (.inr ⟨ys,cs,hO,hcs,rfl,rfl,rfl⟩),rfl⟩
   ·simp at hv
  ·simp at hv
 ·simp at hv
theorem row_read {M:Mz}{B:List (Option BI)}{L:List AO}{w:World}(hL:RelL M B L w){id esz n:Nat}{f:Nat→List C}(hO:getO L id= .row esz n f∨getO L id= .frz esz n f∨∃ ys cs,getO L id= .box ys∧toCs ys=some cs∧esz=1∧n=cs.length∧f=fun i=>[nthCC cs i]){bi:BI}
  (hb:B[id]? =some (some bi)):bi.n=n∧∀ i,i<n→(f i).length=esz∧RepCs (Sr M B L w) (fun q u=>w.cell? ⟨bi.b,q,Option.none⟩=some u) (bi.o+i*esz) (f i):=by
 have hr:=hL.obj id _ hb
 rcases hO with hO|hO|⟨ys,cs,hO,hcs,rfl,rfl,rfl⟩
 rotate_left 2
 ·obtain ⟨k1,k2⟩:=box_row hL hO hcs hb
  exact ⟨k1,fun i hi=>⟨rfl,k2 i (by omega)⟩⟩
 ·rw [hO] at hr
  obtain ⟨h0,cs,ty,h1,h2,h3,h4⟩:=hr
  refine ⟨h0,fun i hi=>⟨(h4 i hi).1,RepCs.mono (Rd.le_refl _) (fun o u hh=> ?_) _ _ (h4 i hi).2⟩⟩
  simpa [h1.cell] using hh
 ·rw [hO] at hr
  obtain ⟨h0,h4⟩:=hr
  exact ⟨h0,fun i hi=>⟨(h4 i hi).1,RepCs.mono (Rd.le_refl _) (fun o u hh=>hh.2) _ _ (h4 i hi).2⟩⟩
theorem srcK_sound {L:List AO}{y:AV}{esz:Nat}{K:Nat→(Nat→List C)→Prop}(h:srcK L y esz K) :
  ∃ m g,K m g∧∀ (M:Mz) (B:List (Option BI)) (w:World) (u:Value),RelL M B L w→RelV B (Sr M B L w) y u→∃ cs,Src P (Sr M B L w) esz m g u w cs:=by
 unfold srcK at h
 split at h
 ·rename_i t e m g
  split at h
  ·rename_i he
   obtain rfl:=Nat.beq_spec he
   refine ⟨m,g,h,fun M B w u hL hu=> ?_⟩
   simp only [RelV,RepC] at hu
   obtain ⟨a,cap,rfl,_,hu⟩:=hu
   rcases hu with rfl|⟨b,o,rfl,hu⟩
   ·exact ⟨#[],Src.none' ⟨_,_,rfl⟩⟩
   ·exact ⟨_,Src.of_slice fun i hi=>⟨(hu i hi).1,RepCs.mono (Rd.le_refl _) (fun o u hh=>hh.2) _ _ (hu i hi).2⟩⟩
  ·exact h.elim
 ·rename_i id e off len
  split at h
  ·rename_i t e' m g bb hv
   split at h
   ·rename_i he
    obtain rfl:=Nat.beq_spec he
    obtain ⟨rfl,rfl,n,f,hO,rfl⟩:=viewO_sl hv
    refine ⟨_,_,h,fun M B w u hL hu=> ?_⟩
    simp only [RelV] at hu
    rcases hu with ⟨bi,cap,hb,rfl,h1,h2,h3⟩|⟨rfl,hx,_⟩
    ·obtain ⟨k1,k2⟩:=row_read hL hO hb
     refine ⟨_,Src.of_slice fun i hi=> ?_⟩
     have:=k2 (off+i) (by omega)
     refine ⟨this.1,?_⟩
     rw [show bi.o+off*e'+i*e'=bi.o+(off+i)*e' from by rw [Nat.add_mul]; omega]
     exact this.2
    ·exact ⟨_,Src.none hx⟩
   ·exact h.elim
  ·exact h.elim
 ·exact ⟨0,_,h,fun M B w u hL hu=>⟨_,Src.none (by simpa [RelV,RepC] using hu)⟩⟩
 ·refine ⟨0,_,h,fun M B w u hL hu=>⟨_,Src.none ?_⟩⟩
  simp only [RelV,RepC] at hu
  exact ⟨_,hu.1⟩
 ·rename_i s
  split at h
  ·rename_i he
   obtain rfl:=Nat.beq_spec he
   refine ⟨_,_,h,fun M B w u hL hu=> ?_⟩
   simp only [RelV,RepC] at hu
   obtain ⟨rfl,_⟩:=hu
   have hsz:s.data.size=s.size:=rfl
   have core:∀ k,k≤s.size→Cells (Sr M B L w) 1 k (strCells s) ((s.extract 0 k).data.map fun b=> .int .u8 (b.toNat:Int)):=by
    intro k hk
    have hz:(s.extract 0 k).data.size=k:=by
     have:(s.extract 0 k).size=k:=by rw [ByteArray.size_extract]; omega
     exact this
    refine ⟨by rw [Array.size_map,hz,Nat.mul_one],fun v hv=> ?_,fun i hi=>⟨by simp [strCells],?_⟩⟩
    ·simp only [Array.toList_map,List.mem_map] at hv
     obtain ⟨b,_,rfl⟩:=hv
     rfl
    ·have hi2:i<s.data.size:=by omega
     simp only [strCells,RepCs,RepC,Value.oneCell',and_true,Nat.mul_one]
     refine ⟨_,?_,rfl⟩
     have he:(s.extract 0 k).data=s.data.extract 0 k:=by simp [ByteArray.extract,ByteArray.copySlice]
     rw [Array.getElem?_map,he,Array.getElem?_extract,if_pos (by omega),Nat.zero_add,Array.getElem?_toList,Array.getElem?_eq_getElem hi2]
     rfl
   have h1:=core s.size (Nat.le_refl _)
   refine ⟨_,h1,rfl,?_,?_,fun k hk=>⟨_,core k hk,?_⟩⟩
   ·simp only [Builtin.firstCells,Sem.run_pure]
   ·simp only [Builtin.firstCells,Sem.run_pure]
   ·simp only [Builtin.firstCells,Sem.run_pure]
  ·exact h.elim
 ·exact h.elim
theorem run_askRoom (n:Nat)(w:World):(askRoom n).run P w= .ok () w:=by
 unfold askRoom
 split<;>rfl
section
variable {t t2 e:TypeId} {ty:TypeId}
theorem seq_under (htb:TbOk P tb)(hk2:(tb t2).k.seq=true):P.underlying t2=some .string∨∃ e,P.underlying t2=some (.slice e):=by
 cases hk3:(tb t2).k<;>rw [hk3] at hk2<;>simp only [TK.seq,reduceCtorEq] at hk2
 all_goals
  obtain ⟨d2,hd2,hT2⟩:=(htb t2).under (by simp [hk3,TK.isOther])
  rw [hk3] at hT2
  simp only [TKok] at hT2
  subst hT2
 ·exact .inl hd2
 ·exact .inr ⟨_,hd2⟩
theorem RowAt.open_ {w:World}{b:Nat}{cs:Array Value}{ty:TypeId}{e:Nat}(h:RowAt w b cs ty e){o:Nat}(ho:o<cs.size):w.frozen? ⟨b,o,none⟩=false:=by
 obtain ⟨⟨lo,hi⟩,h,hf⟩:=h
 unfold World.frozen?
 simp only [h]
 rcases hf with hf|hf
 ·simp only [Prod.mk.injEq] at hf
  obtain ⟨rfl,rfl⟩:=hf
  simp
 ·have hf:cs.size≤lo:=hf.2
  have:¬ lo≤o:=by omega
  simp [this]
theorem RowAt.set {w:World}{b:Nat}{cs:Array Value}{ty:TypeId}{e:Nat}(h:RowAt w b cs ty e)(cur:Array Value)(hc:cur.size=cs.size):RowAt (w.setRow b cur) b cur ty e:=by
 obtain ⟨fz,h,hf⟩:=h
 exact ⟨fz,setRow_heap w b cs cur ty fz h,by rw [hc]; exact hf⟩
theorem storeCells_row {P:Program}{q:Nat}(b o:Nat)(ty:TypeId):∀ (vs:List Value) (k:Nat) (cs:Array Value) (w:World),RowAt w b cs ty q→o+k+vs.length≤cs.size→(∀ v ∈ vs,v.oneCell'=true) →
  (storeCells ⟨b,o,none⟩ vs k).run P w= .ok () (w.setRow b (cs.toList.take (o+k)++vs++cs.toList.drop (o+k+vs.length)).toArray)
 | [],k,cs,w,hr,_,_=>by
  obtain ⟨fz,h,_⟩:=hr
  have:(cs.toList.take (o+k)++[]++cs.toList.drop (o+k+([]:List Value).length)).toArray=cs:=by simp
  rw [this,setRow_self w b cs ty fz h]
  rfl
 | v::r,k,cs,w,hr,hl,h1=>by
  have hlt:o+k<cs.size:=by simp at hl; omega
  have e1:(⟨b,o,none⟩:Addr).add k=⟨b,o+k,none⟩:=addr_add _ _ _
  have e2:=hr.cell (o+k)
  rw [Array.getElem?_eq_getElem hlt] at e2
  have e3:=hr.open_ hlt
  obtain ⟨fz,h,_⟩:=id hr
  have e4:(store ((⟨b,o,none⟩:Addr).add k) v).run P w= .ok () (w.setRow b (cs.setIfInBounds (o+k) v)):=by
   rw [e1,run_store P w _ v _ (h1 v (by simp)),e2]
   simp [e3,setCell_eq_setRow w b (o+k) cs ty fz v h]
  have e5:=storeCells_row (P:=P) b o ty r (k+1) (cs.setIfInBounds (o+k) v) _ (hr.set _ (by simp)) (by simp at hl ⊢; omega) (fun x hx=>h1 x (by simp [hx]))
  simp only [storeCells,Sem.run_bind,e4,Result.andThen_ok,e5,setRow_setRow]
  congr 3
  have e:=list_seg_step cs.toList (o+k) v r (by simp at hl ⊢; omega)
  simpa [Array.toList_setIfInBounds,Nat.add_assoc] using e
theorem run_append_room (htb:TbOk P tb)(hk:(tb t).k= .slice e)(ho:(tb e).k.isOther=false)(hk2:(tb t2).k.seq=true){x:Value}{w:World}{S:Rd}{m:Nat}{g:Nat→List C}{cs:Array Value}
  (hs:Src P S (tb e).sz m g x w cs) (b o len cap:Nat) (cur:Array Value) (fty:TypeId) {q:Nat} (hh:RowAt w b cur fty q) (hroom:len+m≤cap) (hsz:o+(len+m)*(tb e).sz≤cur.size) :
  (Builtin.append_ #[t,t2] ty #[.slice (some ⟨b,o,none⟩) len cap,x]).run P w =
   .ok (.slice (some ⟨b,o,none⟩) (len+m) cap) (w.setRow b (cur.toList.take (o+len*(tb e).sz)++cs.toList++cur.toList.drop (o+len*(tb e).sz+cs.size)).toArray):=by
 obtain ⟨d,hd,hT⟩:=(htb t).under (by simp [hk,TK.isOther])
 rw [hk] at hT
 simp only [TKok] at hT
 subst hT
 have hse:=(htb e).size ho w
 have hst:=storeCells_row (P:=P) b (o+len*(tb e).sz) fty cs.toList 0 cur w hh (by have:=hs.cells.size; simp [Nat.add_mul] at hsz ⊢; omega) hs.cells.one
 simp only [Nat.add_zero,Array.length_toList] at hst
 rcases seq_under htb hk2 with hd2|⟨e2,hd2⟩ <;>
  simp [Builtin.append_,run_underlying hd,run_underlying hd2,hse,hs.len,hs.first,hroom,addr_add,hst]
theorem run_append_grow (htb:TbOk P tb)(hk:(tb t).k= .slice e)(ho:(tb e).k.isOther=false)(hk2:(tb t2).k.seq=true)(hby:1≤(tb e).bytes){x:Value}{w:World}{S:Rd}{m:Nat}{g:Nat→List C}{cs:Array Value}
  (hs:Src P S (tb e).sz m g x w cs) (a:Option Addr) (len cap:Nat) (old:Array Value) (hold:(Builtin.firstCells (tb e).sz len (.slice a len cap)).run P w.drew= .ok old w.drew)
  (hroom:cap<len+m) (hsz:(len+m)*(tb e).bytes≤140737488355328) :
  ∃ (newCap:Nat) (rest:Array Value),len+m≤newCap∧rest.size=(newCap-(len+m))*(tb e).sz∧(Builtin.append_ #[t,t2] ty #[.slice a len cap,x]).run P w =
   .ok (.slice (some ⟨w.heap.size,0,none⟩) (len+m) newCap) ((w.drew).alloc (.cells (old++cs++rest) e)):=by
 obtain ⟨d,hd,hT⟩:=(htb t).under (by simp [hk,TK.isOther])
 rw [hk] at hT
 simp only [TKok] at hT
 subst hT
 have hse:=(htb e).size ho w
 obtain ⟨i,d',z,hi,_,_,hs1,hs2,hz1,hz2,hz3,_⟩:=(htb e).ok ho
 have hlen:len+m≤140737488355328:=Nat.le_trans (Nat.le_mul_of_pos_right _ hby) hsz
 have hroom':¬ len+m≤cap:=by omega
 have h63:¬ (9223372036854775807<(len:Int)+(m:Int)):=by omega
 have h48:¬ 281474976710656<Builtin.nextslicecap (len+m) cap*i.bytes:=by
  have h1:=Nat.mul_le_mul_right i.bytes (nextslicecap_le (need:=len+m) (old:=cap) (by omega))
  rw [hs2] at h1 ⊢
  have:2*(len+m)*(tb e).bytes=2*((len+m)*(tb e).bytes):=by rw [Nat.mul_assoc]
  omega
 have hc:len+m≤grownCap w (len+m) cap e:=Nat.le_add_right _ _
 refine ⟨grownCap w (len+m) cap e,Builtin.zeroCells z.cells (grownCap w (len+m) cap e-(len+m)),hc,?_,?_⟩
 ·have:z.cells.size=(tb e).sz:=by rw [← Array.length_toList,hz2,hz3]
  simp [Builtin.zeroCells,this]
 rcases seq_under htb hk2 with hd2|⟨e2,hd2⟩
 ·simp [Builtin.append_,run_underlying hd,run_underlying hd2,hse,typeInfo,zeroValue,hi,hz1,hs.len,hs.drew,hold,hroom',h63,h48,Question.forced,newRow,grownCap,run_askRoom]
 ·simp [Builtin.append_,run_underlying hd,run_underlying hd2,hse,typeInfo,zeroValue,hi,hz1,hs.len,hs.drew,hold,hroom',h63,h48,Question.forced,newRow,grownCap,run_askRoom]
theorem run_append_zeros (htb:TbOk P tb)(hk:(tb t).k= .slice e)(ho:(tb e).k.isOther=false){k2:IntKind}(hk2:(tb t2).k= .int k2){k:IntKind}{n:Int}{w:World}(h0:0<n)(h1:n≤140737488355328)(hsz:n*((tb e).bytes:Int)≤140737488355328) :
  ∃ (newCap:Nat) (z:Value) (rest:Array Value),n.toNat≤newCap∧z.cells.toList=(tb e).zero∧rest.size=(newCap-n.toNat)*(tb e).sz∧(Builtin.append_ #[t,t2] ty #[.slice none 0 0,.int k n]).run P w =
   .ok (.slice (some ⟨w.heap.size,0,none⟩) n.toNat newCap) ((w.drew).alloc (.cells (Builtin.zeroCells z.cells n.toNat++rest) e)):=by
 obtain ⟨d,hd,hT⟩:=(htb t).under (by simp [hk,TK.isOther])
 rw [hk] at hT
 simp only [TKok] at hT
 subst hT
 obtain ⟨d2,hd2,hT2⟩:=(htb t2).under (by simp [hk2,TK.isOther])
 rw [hk2] at hT2
 simp only [TKok] at hT2
 subst hT2
 have hse:=(htb e).size ho w
 obtain ⟨i,d',z,hi,_,_,hs1,hs2,hz1,hz2,hz3,_⟩:=(htb e).ok ho
 have hw:IntKind.i64.wrap n=n:=IntWalk.i64_in _ (by omega)
 have hneg:¬ n<0:=by omega
 have hbig:¬ 281474976710656<n*(i.bytes:Int):=by rw [hs2]; omega
 have hroom:¬ n.toNat≤0:=by omega
 have hroom':¬ n≤0:=by omega
 have h63:¬ (9223372036854775807<(n.toNat:Int)):=by omega
 have h48:¬ 281474976710656<Builtin.nextslicecap n.toNat 0*i.bytes:=by
  have h1:=Nat.mul_le_mul_right i.bytes (nextslicecap_le (need:=n.toNat) (old:=0) (by omega))
  have h2:(n.toNat*(tb e).bytes:Nat)≤140737488355328:=by
   have:((n.toNat*(tb e).bytes:Nat):Int)=n*((tb e).bytes:Int):=by push_cast; rw [Int.toNat_of_nonneg (by omega)]
   omega
  rw [hs2] at h1 ⊢
  have:2*n.toNat*(tb e).bytes=2*(n.toNat*(tb e).bytes):=by rw [Nat.mul_assoc]
  omega
 have hc:n.toNat≤grownCap w n.toNat 0 e:=Nat.le_add_right _ _
 refine ⟨grownCap w n.toNat 0 e,z,Builtin.zeroCells z.cells (grownCap w n.toNat 0 e-n.toNat),hc,hz2,?_,?_⟩
 ·have:z.cells.size=(tb e).sz:=by rw [← Array.length_toList,hz2,hz3]
  simp [Builtin.zeroCells,this]
 have hne:¬ (n.toNat*(tb e).sz=0)∨n.toNat*(tb e).sz=0:=by omega
 have happ:(if n.toNat*(tb e).sz=0 then (pure #[]:Sem (Array Value)) else do pure (Builtin.zeroCells (← zeroValue e).cells n.toNat)).run P w.drew= .ok (Builtin.zeroCells z.cells n.toNat) w.drew:=by
  by_cases hz:n.toNat*(tb e).sz=0
  ·rw [if_pos hz]
   have:z.cells.size=(tb e).sz:=by rw [← Array.length_toList,hz2,hz3]
   simp only [Builtin.zeroCells,this,hz]
   simp
  ·rw [if_neg hz]
   simp [zeroValue,typeInfo,hi,hz1]
 have hai:∀ w:World,(asInt (.int k n)).run P w= .ok n w:=fun w=>rfl
 have hmx:max n 0=n:=by omega
 have h63':¬ 9223372036854775807<n:=by omega
 simp [Builtin.append_,run_underlying hd,run_underlying hd2,hse,typeInfo,hai,hmx,h63',hi,hw,hneg,hbig,hroom,hroom',h63,h48,Question.forced,newRow,grownCap,run_askRoom,Builtin.firstCells,zeroValue,hz1]
 intro hz
 have hzs:z.cells.size=(tb e).sz:=by rw [← Array.length_toList,hz2,hz3]
 have:Builtin.zeroCells z.cells n.toNat= #[]:=by
  simp [Builtin.zeroCells,hzs,hz]
 rw [this]
 simp
end
end
end Go.VA
namespace Go.VA
open Go Go.RowKit
section
variable {P:Program} {tb:TB}
theorem run_append_zero {t t2 e ty:TypeId}(htb:TbOk P tb)(hk:(tb t).k= .slice e)(ho:(tb e).k.isOther=false)(hk2:(tb t2).k.seq=true){x:Value}{w:World}{S:Rd}{g:Nat→List C}{cs:Array Value}
  (hs:Src P S (tb e).sz 0 g x w cs) (a:Option Addr):(Builtin.append_ #[t,t2] ty #[.slice a 0 0,x]).run P w= .ok (.slice a 0 0) w:=by
 obtain ⟨d,hd,hT⟩:=(htb t).under (by simp [hk,TK.isOther])
 rw [hk] at hT
 simp only [TKok] at hT
 subst hT
 have hse:=(htb e).size ho w
 have h0:cs.toList=[]:=by have:=hs.cells.size; simp at this; simp [this]
 rcases seq_under htb hk2 with hd2|⟨e2,hd2⟩<;>cases a <;>
  simp [Builtin.append_,run_underlying hd,run_underlying hd2,hse,hs.len,hs.first,h0,storeCells]
theorem Frm.refl (mt:Nat→Prop)(w:World):Frm mt w w:=⟨rfl,rfl,rfl,Nat.le_refl _,fun _ _ _=>rfl⟩
theorem Frm.ext {mt:Nat→Prop}{a b c:World}(h:Frm mt a b)(k:Below b.heap.size b c):Frm mt a c :=
 ⟨k.os.trans h.os,k.tape.trans h.tape,k.output.trans h.output,Nat.le_trans h.size k.size,fun i hi hm=>(k.block i (Nat.lt_of_lt_of_le hi h.size)).trans (h.block i hi hm)⟩
theorem Frm.below {a b:World}(h:Frm (fun _=>False) a b):Below a.heap.size a b:=⟨h.os,h.tape,h.output,h.size,fun k hk=>h.block k hk fun x=>x⟩
theorem St.ext {X:Fx}{B:List (Option BI)}{env:Env}{L:List AO}{a:Act}{w w':World}(h:St X B env L a w)(hext:Below w.heap.size w w'):St X B env L a w' where
 relL:=RelL_ext hext h.relL
 glob:=h.glob.mono (Sr_ext hext)
 relE:=h.relE.mono (Ble.refl B) (Sr_ext hext)
 below:=h.below.ext hext
 fresh:=h.fresh
 old:=h.old
 rol:=h.rol
 l0:=h.l0
 knd:=h.knd
 dfr:=h.dfr
 sz:=h.sz
theorem below_w0 {X:Fx}{B:List (Option BI)}{env:Env}{L:List AO}{a:Act}{w w':World}(h:St X B env L a w)(hext:Below w.heap.size w w'):Frm X.mt X.w0 w' :=
 h.below.ext hext
theorem St.push {X:Fx}{B:List (Option BI)}{env:Env}{L:List AO}{a:Act}{w w':World}(h:St X B env L a w)(hext:Below w.heap.size w w')(bo:Option BI)(x:AO)
  (hbo:∀ bi,bo=some bi→w.heap.size≤bi.b∧bi.b<w'.heap.size)
  (hobj:(Sr X.M B L w).le (Sr X.M (B++[bo]) (L++[x]) w')→RelO (B++[bo]) (Sr X.M (B++[bo]) (L++[x]) w') w' x bo) :
  St X (B++[bo]) env (L++[x]) a w'∧(Sr X.M B L w).le (Sr X.M (B++[bo]) (L++[x]) w'):=by
 obtain ⟨h1,h2⟩:=RelL_push h.relL h.rol hext bo x hbo hobj
 have hlen:=h.relL.len
 refine ⟨⟨h1,h.glob.mono h2,h.relE.mono (Ble.app B bo) h2,below_w0 h hext,fun id bi hr hb hl=> ?_,fun id hid=> ?_,?_,by rw [List.length_append]; have:=h.l0; omega,fun id h0 h1=> ?_,h.dfr,h.sz⟩,h2⟩
 ·rcases app_get hb with hb'|⟨_,hb'⟩
  ·have hlt:=(List.getElem?_eq_some_iff.1 hb').1
   rw [getO_append,if_neg (by omega)] at hl
   exact h.fresh id bi hr hb' hl
  ·exact .inl (Nat.le_trans h.below.size (hbo bi hb').1)
 ·have hlt:id<L.length:=Nat.lt_of_lt_of_le hid h.rol
  rw [getO_append,if_neg (by omega),List.getElem?_append_left (by omega)]
  exact h.old id hid
 ·simp; have:=h.rol; omega
 ·rw [List.length_append] at h1
  by_cases hid:id<L.length
  ·rw [getO_append,if_neg (by omega),List.getElem?_append_left (by omega)]
   exact h.knd id h0 hid
  ·have:=h.l0
   omega
theorem St.upd {X:Fx}{B:List (Option BI)}{env env':Env}{L L':List AO}{a:Act}{w w':World}(h:St X B env L a w){id:Nat}(hro:X.M.ro≤id){bo bo':Option BI}{x':AO}
  (hid:B[id]? =some bo) (hlive:(getO L id).live=true) (hlive':x'.live=true) (hlen:L'.length=L.length) (hx:getO L' id=x')
  (hoth:∀ j,j≠id→(getO L' j).live=(getO L j).live)
  (hothk:∀ j,j≠id→(getO L' j).kd=(getO L j).kd) (hkd:x'.kd=(getO L id).kd) (hkb:x'.kd≠3→bo'=bo)
  (hos:w'.os=w.os) (htape:w'.tape=w.tape) (hout:w'.output=w.output)
  (hsz:w.heap.size≤w'.heap.size) (hheap:∀ k,k<w.heap.size→(∀ bi,bo=some bi→k≠bi.b)→w'.heap[k]? =w.heap[k]?)
  (hb':∀ bi',bo'=some bi'→bi'.b<w'.heap.size∧((∃ bi,bo=some bi∧bi.b=bi'.b)∨w.heap.size≤bi'.b))
  (hV:(Sr X.M B L w).le (Sr X.M (B.set id bo') L' w')→∀ j,j≠id→∀ bj,RelO B (Sr X.M (B.set id bo') L' w') w' (getO L j) bj→RelO (B.set id bo') (Sr X.M (B.set id bo') L' w') w' (getO L' j) bj)
  (hE:(Sr X.M B L w).le (Sr X.M (B.set id bo') L' w')→RelE (B.set id bo') (Sr X.M (B.set id bo') L' w') env' a)
  (hobj:(Sr X.M B L w).le (Sr X.M (B.set id bo') L' w')→RelO (B.set id bo') (Sr X.M (B.set id bo') L' w') w' x' bo') :
  St X (B.set id bo') env' L' a w'∧(Sr X.M B L w).le (Sr X.M (B.set id bo') L' w'):=by
 obtain ⟨h1,h2⟩:=RelL_upd h.relL hro hid hlive hlive' hlen hx hoth hsz hheap hb' hV hobj
 have hidl:id<B.length:=(List.getElem?_eq_some_iff.1 hid).1
 refine ⟨⟨h1,h.glob.mono h2,hE h2,⟨hos.trans h.below.os,htape.trans h.below.tape,hout.trans h.below.output,Nat.le_trans h.below.size hsz,fun k hk hm=> ?_⟩,fun j bi hr hb hl=> ?_,fun j hj=> ?_,by rw [hlen]; exact h.rol,by rw [hlen]; exact h.l0,fun j h0 hj1=> ?_,h.dfr,h.sz⟩,h2⟩
 ·rw [← h.below.block k hk hm]
  refine hheap k (Nat.lt_of_lt_of_le hk h.below.size) fun bi e hkb=> ?_
  rcases h.fresh id bi hro (by rw [hid,e]) hlive with h6|h6
  ·omega
  ·exact hm (hkb ▸ h6)
 ·by_cases hj:j=id
  ·subst hj
   rw [List.getElem?_set_self hidl] at hb
   simp only [Option.some.injEq] at hb
   rcases (hb' bi hb).2 with ⟨b0,e0,e1⟩|h5
   ·rw [← e1]; exact h.fresh j b0 hro (by rw [hid,e0]) hlive
   ·exact .inl (Nat.le_trans h.below.size h5)
  ·rw [List.getElem?_set_ne (Ne.symm hj)] at hb
   rw [hoth j hj] at hl
   exact h.fresh j bi hr hb hl
 ·rw [List.getElem?_set_ne (by omega),hoth j (by omega)]
  exact h.old j hj
 ·rw [hlen] at hj1
  by_cases hj:j=id
  ·subst hj
   rw [hx,hkd,List.getElem?_set_self hidl]
   rcases h.knd j h0 hj1 with h3|⟨h3,h4⟩
   ·exact .inl h3
   ·refine .inr ⟨h3,fun h5=> ?_⟩
    rw [hkb (by rw [hkd]; exact h5),← hid]
    exact h4 h5
  ·rw [hothk j hj,List.getElem?_set_ne (Ne.symm hj)]
   exact h.knd j h0 hj1
end
end Go.VA
namespace Go.VA
open Go Go.RowKit
section
variable {P:Program} {tb:TB}
theorem StepTo.value {X:Fx}{o:Oper}{env env':Env}{K:AV→Env→List AO→Prop}{a:Act}{w w':World}{u:Value}{x:AV}{L':List AO}{B':List (Option BI)}(h:(execOp a.eval o).run P w= .ok (.value u) w')
  (hK:K x env' L') (hk:keysE env'=keysE env) (hS:St X B' env' L' a w') (hu:RelV B' (Sr X.M B' L' w') x u):StepTo P X o env K a w:=by
 intro next Q hn
 unfold Oper.wp
 rw [h,Oper.upon_value]
 exact hn _ _ _ _ _ _ hK hk hS hu
theorem StepTo.skip {X:Fx}{o:Oper}{env env':Env}{K:AV→Env→List AO→Prop}{a:Act}{w w':World}{L':List AO}{B':List (Option BI)}(h:(execOp a.eval o).run P w= .ok .skip w')
  (hK:K .any env' L') (hk:keysE env'=keysE env) (hS:St X B' env' L' a w'):StepTo P X o env K a w:=by
 intro next Q hn
 unfold Oper.wp
 rw [h,Oper.upon_skip]
 exact hn _ _ _ _ _ _ hK hk hS (by simp [RelV])
theorem St.box {X:Fx}{B:List (Option BI)}{env:Env}{L:List AO}{a:Act}{w:World}(h:St X B env L a w)(cells:Array Value)(ty:TypeId)(xs:List AV)
  (hone:∀ v ∈ cells.toList,v.oneCell'=true) (hr:RelVs B (Sr X.M B L w) xs cells.toList) :
  ∃ B',St X B' env (L++[.box xs]) a (w.alloc (.cells cells ty))∧RelV B' (Sr X.M B' (L++[.box xs]) (w.alloc (.cells cells ty))) (.ptr L.length 0) (.pointer (some ⟨w.heap.size,0,none⟩)):=by
 obtain ⟨h1,h2⟩:=h.push (ext_alloc w _) (some ⟨w.heap.size,0,cells.size,cells.size⟩) (.box xs) (fun bi e=>by simp only [Option.some.injEq] at e; subst e; simp) (fun hS =>
  ⟨_,cells,ty,rfl,heap_alloc w _,rfl,⟨rfl,rfl⟩,hone,RelVs.mono (Ble.app B _) hS _ _ hr⟩)
 refine ⟨_,h1,?_⟩
 simp only [RelV]
 refine ⟨⟨w.heap.size,0,cells.size,cells.size⟩,?_,rfl⟩
 rw [← h.relL.len]; simp
theorem alloc_sound (htb:TbOk P tb){X:Fx}{B:List (Option BI)}{env:Env}{L:List AO}{a:Act}{w:World}(h:St X B env L a w){o:Oper}{t:TypeId}(ho:o.op= .alloc t)(hk:(tb t).k.isOther=false)
  {K:AV→Env→List AO→Prop} (hK:K (.ptr L.length 0) env (L++[.box ((tb t).zero.map fun v=> .c (.v v))])):StepTo P X o env K a w:=by
 obtain ⟨i,d,z,hi,_,_,hs1,_,hz1,hz2,hz3,hz4,_⟩:=(htb t).ok hk
 obtain ⟨B',h1,h2⟩:=h.box z.cells t ((tb t).zero.map fun v=> .c (.v v)) (by rw [hz2]; exact hz4) (by rw [hz2]; exact RelVs.consts _ hz4)
 exact StepTo.value (by simp [execOp,ho,Instr.alloc,zeroValue,typeInfo,hi,hz1,newVar,run_newRow]) hK rfl h1 h2
theorem box_sound {gl:Gl}{X:Fx}(hgl:X.gl=gl){B:List (Option BI)}{env:Env}{L:List AO}{a:Act}{w:World}(h:St X B env L a w){o:Oper}{t:TypeId}{x:Operand}(ho:o.op= .box t x)
  {xs:List AV} (hx:cellsA (evO gl env .no .no x)=some xs) {K:AV→Env→List AO→Prop} (hK:K (.ptr L.length 0) env (L++[.box xs])):StepTo P X o env K a w:=by
 subst hgl
 obtain ⟨k1,k2⟩:=cells_rel hx (evO_sound (key:= .no) (key2:= .no) h.glob h.relE trivial trivial x)
 obtain ⟨B',h1,h2⟩:=h.box (a.eval x).cells t xs k2 k1
 exact StepTo.value (by simp [execOp,ho,Instr.box,newVar,run_newRow]) hK rfl h1 h2
theorem assignNil_sound {X:Fx}{B:List (Option BI)}{env:Env}{L:List AO}{a:Act}{w:World}(h:St X B env L a w){o:Oper}(ho:o.op= .assign (.const (.slice none 0 0)))(esz:Nat)
  {K:AV→Env→List AO→Prop} (hK:K (.own L.length esz 0 0) env (L++[.row esz 0 (fun _=>[])])):StepTo P X o env K a w:=by
 obtain ⟨h1,h2⟩:=h.push (Below.refl _ w) none (.row esz 0 (fun _=>[])) (fun bi e=>by simp at e) (fun _=>rfl)
 refine StepTo.value (u:= .slice none 0 0) (by simp [execOp,ho,Act.eval]) hK rfl h1 ?_
 simp only [RelV]
 refine .inr ⟨trivial,⟨_,rfl⟩,none,?_⟩
 rw [← h.relL.len]; simp
theorem St.row {X:Fx}{B:List (Option BI)}{env:Env}{L:List AO}{a:Act}{w w':World}(h:St X B env L a w)(hext:Below w.heap.size w w')(cells:Array Value)(ty:TypeId){q:Nat}(hw:RowAt w' w.heap.size cells ty q)
  (hsz:w.heap.size<w'.heap.size) (esz n cap:Nat) (f:Nat→List C) (hnc:n≤cap) (hbig:n≤140737488355328) (hcs:cap*esz≤cells.size)
  (hr:∀ i,i<n→(f i).length=esz∧RepCs (Sr X.M B L w) (fun o u=>cells[o]? =some u) (i*esz) (f i)) (he:q=esz:=by rfl) :
  ∃ B',St X B' env (L++[.row esz n f]) a w'∧RelV B' (Sr X.M B' (L++[.row esz n f]) w') (.own L.length esz 0 n) (.slice (some ⟨w.heap.size,0,none⟩) n cap):=by
 obtain ⟨h1,h2⟩:=h.push hext (some ⟨w.heap.size,0,cells.size,n⟩) (.row esz n f) (fun bi e=>by simp only [Option.some.injEq] at e; subst e; simp; omega) (fun hS =>
  ⟨rfl,cells,ty,he ▸ hw,rfl,by have:=Nat.mul_le_mul_right esz hnc; simp; omega,fun i hi=>⟨(hr i hi).1,by simpa using RepCs.mono hS (fun _ _ x=>x) _ _ (hr i hi).2⟩⟩)
 refine ⟨_,h1,?_⟩
 simp only [RelV]
 refine .inl ⟨⟨w.heap.size,0,cells.size,n⟩,cap,?_,?_,⟨hnc,hbig⟩,?_,?_⟩
 ·rw [← h.relL.len]; simp
 ·simp
 ·simpa using hcs
 ·simp; exact hnc
theorem makeSlice_sound (htb:TbOk P tb){gl:Gl}{X:Fx}(hgl:X.gl=gl){B:List (Option BI)}{env:Env}{L:List AO}{a:Act}{w:World}(h:St X B env L a w){o:Oper}{t:TypeId}{l c:Operand}(ho:o.op= .makeSlice t l c)
  {K:AV→List AO→Prop} {K':AV→Env→List AO→Prop} (hKK:∀ x L',K x L'→K' x env L') (hK:opMakeSlice tb L t (evO gl env .no .no l) (evO gl env .no .no c) K):StepTo P X o env K' a w:=by
 subst hgl
 unfold opMakeSlice at hK
 split at hK
 ·rename_i e hk
  obtain ⟨d,hd,hT⟩:=(htb t).under (by simp [hk,TK.isOther])
  rw [hk] at hT
  simp only [TKok] at hT
  subst hT
  split at hK
  ·exact hK.elim
  rename_i hoth
  split at hK
  ·rename_i k n k' m hl hc
   obtain ⟨⟨h0,h1,h2,h3⟩,hK⟩:=hK
   rw [appK0] at hK
   have el:=evO_sound (key:= .no) (key2:= .no) h.glob h.relE trivial trivial l
   have ec:=evO_sound (key:= .no) (key2:= .no) h.glob h.relE trivial trivial c
   rw [hl] at el
   rw [hc] at ec
   simp only [RelV,RepC] at el ec
   obtain ⟨i,d,z,hi,_,_,hs1,hs2,hz1,hz2,hz3,hz4,_⟩:=(htb e).ok hoth
   have hzs:z.cells.size=(tb e).sz:=by rw [← Array.length_toList,hz2,hz3]
   have hwn:IntKind.i64.wrap n=n:=IntWalk.i64_in _ (by omega)
   have hwm:IntKind.i64.wrap m=m:=IntWalk.i64_in _ (by omega)
   have hrun:=run_make (P:=P) w t e i z hd hi hz1 k k' n m h0 h1 (by rw [hs2,Int.mul_comm]; omega) (by omega)
   let cells:=madeCells z.cells (m.toNat*i.size)
   have hcs:cells.size=m.toNat*(tb e).sz:=by rw [size_madeCells,hs1]
   obtain ⟨B',g1,g2⟩:=h.row (ext_alloc w (.cells cells e)) cells e (RowAt.of (heap_alloc w _)) (by simp) (tb e).sz n.toNat m.toNat (fun _=>zeroC (tb e).zero) (by omega) (by omega) (by omega) (fun i' hi'=>by
    have hzc:∀ (l:List Value),zeroC l=l.map C.v:=by
     intro l; induction l with
     | nil=>rfl
     | cons v r ih=>simp [zeroC,ih]
    refine ⟨by simp [hzc,hz3],RepCs.mk _ _ fun j x hx=> ?_⟩
    rw [hzc,List.getElem?_map] at hx
    cases hq:(tb e).zero[j]? with
    | none=>simp [hq] at hx
    | some v =>
     simp only [hq,Option.map_some,Option.some.injEq] at hx
     subst hx
     have hj:j<(tb e).sz:=by have:=(List.getElem?_eq_some_iff.1 hq).1; omega
     refine ⟨v,?_,by simp only [RepC]; exact ⟨trivial,hz4 v (List.mem_of_getElem? hq)⟩⟩
     have hlt:i'*(tb e).sz+j<m.toNat*i.size:=by rw [hs1]; exact mul_lt_aux (by omega) hj
     have hmod:(i'*(tb e).sz+j)%(tb e).sz=j:=by rw [Nat.mul_comm,Nat.mul_add_mod,Nat.mod_eq_of_lt hj]
     have hv:z.cells[j]? =some v:=by rw [← Array.getElem?_toList,hz2,hq]
     obtain ⟨p1,p2⟩:=(Array.getElem?_eq_some_iff.1 hv)
     simp only [cells,madeCells,Array.getElem?_map,Array.getElem?_range,hlt,if_true,Option.map_some,hzs,hmod]
     simp [p1,p2])
   refine StepTo.value (u:= .slice (some ⟨w.heap.size,0,none⟩) n.toNat m.toNat) (w':=w.alloc (.cells cells e)) ?_ (hKK _ _ hK) rfl g1 g2
   simp [execOp,ho,el.1,ec.1,hrun,cells]
  ·exact hK.elim
 ·exact hK.elim
end
end Go.VA
namespace Go.VA
open Go Go.RowKit
section
variable {P:Program} {tb:TB} {gl:Gl}
theorem set_same {α:Type}{B:List α}{id:Nat}{x:α}(h:B[id]? =some x):B.set id x=B:=by
 apply List.ext_getElem?
 intro j
 by_cases hj:j=id
 ·subst hj; rw [List.getElem?_set_self (List.getElem?_eq_some_iff.1 h).1,h]
 ·rw [List.getElem?_set_ne (Ne.symm hj)]
theorem St.upd_same {X:Fx}{B:List (Option BI)}{env:Env}{L:List AO}{a:Act}{w:World}(h:St X B env L a w){id:Nat}(hro:X.M.ro≤id){bi:BI}{x':AO}
  (hid:B[id]? =some (some bi)) (hlive:(getO L id).live=true) (hlive':x'.live=true) (hkd:x'.kd=(getO L id).kd) (cur:Array Value) {ty:TypeId} {old:Array Value} {q:Nat} (hh:RowAt w bi.b old ty q)
  (hobj:(Sr X.M B L w).le (Sr X.M B (setO L id x') (w.setRow bi.b cur))→RelO B (Sr X.M B (setO L id x') (w.setRow bi.b cur)) (w.setRow bi.b cur) x' (some bi)) :
  St X B env (setO L id x') a (w.setRow bi.b cur):=by
 have hB:=set_same hid
 have hlt:=live_lt hlive
 have hsz:(w.setRow bi.b cur).heap.size=w.heap.size:=by simp [World.setRow]
 have hbl:bi.b<w.heap.size:=h.relL.bnd id bi hid
 have:=(h.upd (env':=env) (L':=setO L id x') (w':=w.setRow bi.b cur) hro (bo:=some bi) (bo':=some bi) (x':=x') hid hlive hlive' (setO_length L id x') (by rw [getO_setO L id id x' hlt,if_pos rfl])
  (fun j hj=>by rw [getO_setO L id j x' hlt,if_neg hj]) (fun j hj=>by rw [getO_setO L id j x' hlt,if_neg hj]) hkd (fun _=>rfl) rfl rfl rfl (by rw [hsz]; exact Nat.le_refl _) (fun k hk hne=>setRow_other w bi.b k cur (hne bi rfl))
  (fun bi' e=>by simp only [Option.some.injEq] at e; subst e; exact ⟨by rw [hsz]; exact hbl,.inl ⟨bi,rfl,rfl⟩⟩)
  (fun hS j hj bj hr=>by rw [getO_setO L id j x' hlt,if_neg hj,hB]; rw [hB] at hr; exact hr)
  (fun hS=>by rw [hB] at hS ⊢; exact h.relE.mono (Ble.refl B) hS)
  (fun hS=>by rw [hB] at hS ⊢; exact hobj hS)).1
 rwa [hB] at this
theorem splice_get {cur vs:List Value}{o:Nat}(h:o+vs.length≤cur.length)(j:Nat) :
  (cur.take o++vs++cur.drop (o+vs.length))[j]? =if o≤j∧j<o+vs.length then vs[j-o]? else cur[j]? :=by
 by_cases h1:j<o
 ·rw [if_neg (by omega),List.append_assoc,List.getElem?_append_left (by simp; omega),List.getElem?_take,if_pos h1]
 ·by_cases h2:j<o+vs.length
  ·rw [if_pos (by omega),List.append_assoc,List.getElem?_append_right (by simp; omega),List.length_take,Nat.min_eq_left (by omega),List.getElem?_append_left (by omega)]
  ·rw [if_neg (by omega),List.getElem?_append_right (by simp; omega),List.length_append,List.length_take,Nat.min_eq_left (by omega),List.getElem?_drop]
   congr 1; omega
theorem splice_len {cur vs:List Value}{o:Nat}(h:o+vs.length≤cur.length):(cur.take o++vs++cur.drop (o+vs.length)).length=cur.length:=by
 simp; omega
theorem box_lay {B:List (Option BI)}{S S':Rd}{w:World}{bi:BI}{cs:Array Value}{ty:TypeId}{ys xs zs:List AV}{off:Nat}{vs:List Value}(hS:S.le S')(hsp:off+vs.length≤cs.toList.length)(hvx:vs.length=xs.length)
  (h1:w.heap[bi.b]? =some (.cells cs ty (0,0))) (h2:bi.o=0) (h3:bi.sz=cs.size∧bi.n=cs.size) (h0:∀ v ∈ cs.toList,v.oneCell'=true) (h4:RelVs B S ys cs.toList)
  (v1:RelVs B S xs vs) (v2:∀ v ∈ vs,v.oneCell'=true) (g1:zs.length=ys.length) (g3:∀ j,zs[j]? =if off≤j∧j<off+xs.length then xs[j-off]? else ys[j]?) :
  RelO B S' (w.setRow bi.b (cs.toList.take off++vs++cs.toList.drop (off+vs.length)).toArray) (.box zs) (some bi):=by
 have hgl:=splice_len hsp
 have hcl:=RelVs.length _ _ h4
 simp only [Array.length_toList] at hcl
 refine ⟨bi,_,ty,rfl,setRow_heap w bi.b cs _ ty (0,0) h1,h2,by simp only [List.size_toArray]; rw [hgl]; simpa using h3,fun v hv=> ?_,RelVs.mk _ _ ?_ fun j y hy=> ?_⟩
 ·obtain ⟨j,hj⟩:=List.mem_iff_getElem?.1 hv
  rw [splice_get hsp] at hj
  split at hj
  ·exact v2 _ (List.mem_of_getElem? hj)
  ·exact h0 _ (List.mem_of_getElem? hj)
 ·simp only []; rw [hgl]; simp; omega
 ·rw [g3] at hy
  simp only []
  rw [splice_get hsp]
  by_cases hq:off≤j∧j<off+xs.length
  ·rw [if_pos hq] at hy
   rw [if_pos (by rw [hvx]; exact hq)]
   obtain ⟨u,k1,k2⟩:=RelVs.nth _ _ _ _ v1 hy
   exact ⟨u,k1,RelV.mono (Ble.refl B) hS _ _ k2⟩
  ·rw [if_neg hq] at hy
   rw [if_neg (by rw [hvx]; exact hq)]
   obtain ⟨u,k1,k2⟩:=RelVs.nth _ _ _ _ h4 hy
   exact ⟨u,k1,RelV.mono (Ble.refl B) hS _ _ k2⟩
theorem store_sound (htb:TbOk P tb){X:Fx}(hgl:X.gl=gl){ro:Nat}(hro:X.M.ro=ro){B:List (Option BI)}{env:Env}{L:List AO}{a:Act}{w:World}(h:St X B env L a w){o:Oper}{t:TypeId}{p x:Operand}(ho:o.op= .store t p x)
  {K:List AO→Prop} {K':AV→Env→List AO→Prop} (hKK:∀ L',K L'→K' .any env L') (hK:opStore tb ro L t (evO gl env .no .no p) (evO gl env .no .no x) K):StepTo P X o env K' a w:=by
 subst hgl; subst hro
 unfold opStore at hK
 have hoth:(tb t).k.isOther=false:=by cases hk:(tb t).k<;>simp_all [TK.isOther]
 split at hK
 ·exact hK.elim
 split at hK
 ·exact hK.elim
 rename_i xs hxs
 split at hK
 ·exact hK.elim
 rename_i hlen
 have hlen:=Nat.beq_spec hlen
 obtain ⟨v1,v2⟩:=cells_rel hxs (evO_sound (key:= .no) (key2:= .no) h.glob h.relE trivial trivial x)
 have vl:=RelVs.length _ _ v1
 have ep:=evO_sound (key:= .no) (key2:= .no) h.glob h.relE trivial trivial p
 have hs:=(htb t).size hoth w
 have vsz:(a.eval x).cells.size=(tb t).sz:=by simp at vl; omega
 split at hK
 ·rename_i id off hp
  rw [hp] at ep
  simp only [RelV] at ep
  obtain ⟨bi,hb,ep⟩:=ep
  split at hK
  ·rename_i ys hO
   split at hK
   ·exact hK.elim
   rename_i hro
   have hro:=Nat.le_of_ble_eq_true hro
   split at hK
   ·rename_i zs hz
    obtain ⟨g1,g2,g3⟩:=layA_spec _ _ _ _ hz
    have hob:=h.relL.obj id _ hb
    rw [hO] at hob
    obtain ⟨bi',cs,ty,he,h1,h2,h3,h0,h4⟩:=hob
    simp only [Option.some.injEq] at he
    subst he
    have hcl:=RelVs.length _ _ h4
    simp only [Array.length_toList] at hcl vl
    have hsp:off+(a.eval x).cells.toList.length≤cs.toList.length:=by simp; omega
    have hst:=run_storeCells_at (P:=P) bi.b (bi.o+off) ty (a.eval x).cells.toList 0 cs w h1 (by simp; omega) v2
    simp only [Nat.add_zero,h2,Nat.zero_add] at hst
    have hrun:(execOp a.eval o).run P w= .ok .skip (w.setRow bi.b (cs.toList.take off++(a.eval x).cells.toList++cs.toList.drop (off+(a.eval x).cells.toList.length)).toArray):=by
     simp [execOp,ho,ep,h2,Instr.storeAt,Instr.sureAddr,storeVar,hs,vsz,hst]
    refine StepTo.skip hrun (hKK _ hK) rfl (h.upd_same hro hb (by rw [hO]; rfl) rfl (by rw [hO]; rfl) _ (RowAt.of (e:=1) h1) fun hS=> ?_)
    have hgl:=splice_len hsp
    refine ⟨bi,_,ty,rfl,setRow_heap w bi.b cs _ ty (0,0) h1,h2,by simp only [List.size_toArray]; rw [hgl]; simpa using h3,fun v hv=> ?_,RelVs.mk _ _ ?_ fun j y hy=> ?_⟩
    ·obtain ⟨j,hj⟩:=List.mem_iff_getElem?.1 hv
     rw [splice_get hsp] at hj
     split at hj
     ·exact v2 _ (List.mem_of_getElem? hj)
     ·exact h0 _ (List.mem_of_getElem? hj)
    ·simp only []; rw [hgl]; simp; omega
    ·rw [g3] at hy
     simp only []
     rw [splice_get hsp]
     have e2:(a.eval x).cells.toList.length=xs.length:=by simpa using vl
     by_cases hq:off≤j∧j<off+xs.length
     ·rw [if_pos hq] at hy
      rw [if_pos (by rw [e2]; exact hq)]
      obtain ⟨u,k1,k2⟩:=RelVs.nth _ _ _ _ v1 hy
      exact ⟨u,k1,RelV.mono (Ble.refl B) hS _ _ k2⟩
     ·rw [if_neg hq] at hy
      rw [if_neg (by rw [e2]; exact hq)]
      obtain ⟨u,k1,k2⟩:=RelVs.nth _ _ _ _ h4 hy
      exact ⟨u,k1,RelV.mono (Ble.refl B) hS _ _ k2⟩
   ·exact hK.elim
  ·exact hK.elim
 ·rename_i id esz i k hp
  rw [hp] at ep
  simp only [RelV] at ep
  obtain ⟨bi,hb,ep,hi⟩:=ep
  split at hK
  ·rename_i e n f hO
   split at hK
   ·rename_i hcond
    split at hcond
    ·rename_i hes
     obtain rfl:=Nat.beq_spec hes
     have hro:=Nat.le_of_ble_eq_true hcond
     split at hK
     ·rename_i cs hcs
      split at hK
      ·rename_i hke
       have hke:=Nat.le_of_ble_eq_true hke
       have rv:=toCs_sound xs cs _ hcs v1
       have rvl:=RepVs.length _ _ rv
       simp only [Array.length_toList] at rvl vl
       have hob:=h.relL.obj id _ hb
       rw [hO] at hob
       obtain ⟨h0,cur,ty,h1,h2,h3,h4⟩:=hob
       have hin:i*e+e≤n*e:=by
        have:=Nat.mul_le_mul_right e (show i+1≤n by omega)
        rw [Nat.add_mul,Nat.one_mul] at this
        exact this
       have hsp:(bi.o+i*e+k)+(a.eval x).cells.toList.length≤cur.toList.length:=by simp; omega
       have hst:=storeCells_row (P:=P) bi.b (bi.o+i*e+k) ty (a.eval x).cells.toList 0 cur w h1 (by simp; omega) v2
       simp only [Nat.add_zero] at hst
       have hrun:(execOp a.eval o).run P w= .ok .skip (w.setRow bi.b (cur.toList.take (bi.o+i*e+k)++(a.eval x).cells.toList++cur.toList.drop (bi.o+i*e+k+(a.eval x).cells.toList.length)).toArray):=by
        simp [execOp,ho,ep,Instr.storeAt,Instr.sureAddr,storeVar,hs,vsz,hst]
       refine StepTo.skip hrun (hKK _ hK) rfl (h.upd_same hro hb (by rw [hO]; rfl) rfl (by rw [hO]; rfl) _ h1 fun hS=> ?_)
       have hgl:=splice_len hsp
       refine ⟨h0,_,ty,h1.set _ (by simp only [List.size_toArray]; rw [hgl]; simp),by simp only [List.size_toArray]; rw [hgl]; simpa using h2,h3,fun q hq=> ?_⟩
       obtain ⟨fl,fr⟩:=h4 q hq
       have hget:∀ j,((cur.toList.take (bi.o+i*e+k)++(a.eval x).cells.toList++cur.toList.drop (bi.o+i*e+k+(a.eval x).cells.toList.length)).toArray)[j]? =
         if bi.o+i*e+k≤j∧j<bi.o+i*e+k+(tb t).sz then (a.eval x).cells.toList[j-(bi.o+i*e+k)]? else cur[j]? :=by
        intro j
        rw [List.getElem?_toArray,splice_get hsp]
        simp only [Array.length_toList,vsz,Array.getElem?_toList]
       by_cases hqi:q=i
       ·subst hqi
        simp only [updF,if_true]
        have hl1:((f q).take k).length=k:=by simp; omega
        refine ⟨by simp; omega,RepCs.mk _ _ fun j y hy=> ?_⟩
        rw [hget]
        by_cases j1:j<k
        ·rw [List.append_assoc,List.getElem?_append_left (by omega),List.getElem?_take,if_pos j1] at hy
         rw [if_neg (by omega)]
         obtain ⟨u,k1,k2⟩:=RepCs.nth _ _ _ _ fr hy
         exact ⟨u,k1,RepC.mono hS _ _ k2⟩
        ·by_cases j2:j<k+(tb t).sz
         ·rw [List.append_assoc,List.getElem?_append_right (by omega),hl1,List.getElem?_append_left (by omega)] at hy
          rw [if_pos (by omega)]
          obtain ⟨u,k1,k2⟩:=RepVs.nth _ _ _ _ rv hy
          refine ⟨u,?_,RepC.mono hS _ _ k2⟩
          rw [← k1]; congr 1; omega
         ·rw [List.getElem?_append_right (by simp; omega),List.getElem?_drop] at hy
          rw [if_neg (by omega)]
          have:k+(tb t).sz+(j-(List.take k (f q)++cs).length)=j:=by simp; omega
          rw [this] at hy
          obtain ⟨u,k1,k2⟩:=RepCs.nth _ _ _ _ fr hy
          exact ⟨u,k1,RepC.mono hS _ _ k2⟩
       ·simp only [updF,hqi,if_false]
        refine ⟨fl,RepCs.mk _ _ fun j y hy=> ?_⟩
        have hj:j<e:=by have:=(List.getElem?_eq_some_iff.1 hy).1; omega
        rw [hget,if_neg ?_]
        ·obtain ⟨u,k1,k2⟩:=RepCs.nth _ _ _ _ fr hy
         exact ⟨u,k1,RepC.mono hS _ _ k2⟩
        ·rcases Nat.lt_or_ge q i with hlt|hge
         ·have:=mul_lt_aux hlt hj
          omega
         ·have:=Nat.mul_le_mul_right e (show i+1≤q by omega)
          rw [Nat.add_mul,Nat.one_mul] at this
          omega
      ·exact hK.elim
     ·exact hK.elim
    ·simp at hcond
   ·exact hK.elim
  ·rename_i ys hO
   split at hK
   ·exact hK.elim
   rename_i hro
   have hro:=Nat.le_of_ble_eq_true hro
   split at hK
   ·rename_i zs hz
    obtain ⟨g1,g2,g3⟩:=layA_spec _ _ _ _ hz
    have hob:=h.relL.obj id _ hb
    rw [hO] at hob
    obtain ⟨bi',cs,ty,he,h1,h2,h3,h0,h4⟩:=hob
    simp only [Option.some.injEq] at he
    subst he
    have hcl:=RelVs.length _ _ h4
    simp only [Array.length_toList] at hcl vl
    have hsp:(i*esz+k)+(a.eval x).cells.toList.length≤cs.toList.length:=by simp; omega
    have hst:=run_storeCells_at (P:=P) bi.b (bi.o+(i*esz+k)) ty (a.eval x).cells.toList 0 cs w h1 (by simp; omega) v2
    simp only [Nat.add_zero,h2,Nat.zero_add] at hst
    have hrun:(execOp a.eval o).run P w= .ok .skip (w.setRow bi.b (cs.toList.take (i*esz+k)++(a.eval x).cells.toList++cs.toList.drop (i*esz+k+(a.eval x).cells.toList.length)).toArray):=by
     simp [execOp,ho,ep,h2,Instr.storeAt,Instr.sureAddr,storeVar,hs,vsz,hst]
    refine StepTo.skip hrun (hKK _ hK) rfl (h.upd_same hro hb (by rw [hO]; rfl) rfl (by rw [hO]; rfl) _ (RowAt.of (e:=1) h1) fun hS=> ?_)
    exact box_lay hS hsp (by simpa using vl) h1 h2 h3 h0 h4 v1 v2 g2 g3
   ·exact hK.elim
  ·exact hK.elim
 ·exact hK.elim
end
end Go.VA
namespace Go.VA
open Go Go.RowKit
section
variable {P:Program} {tb:TB} {gl:Gl}
mutual
theorem free_rel {B:List (Option BI)}{S S':Rd}{id:Nat}{bo:Option BI}(hS:S.le S'):∀ (x:AV) (u:Value),x.free id=true→RelV B S x u→RelV (B.set id bo) S' x u
 | .any,_,_,_=>by simp [RelV]
 | .c x,u,_,h=>by simp only [RelV] at h ⊢; exact RepC.mono hS _ _ h
 | .ag xs,u,_,h=>by
  simp only [RelV] at h ⊢
  obtain ⟨arr,e,h⟩:=h
  exact ⟨arr,e,RepVs.mono hS _ _ h⟩
 | .agx xs,u,hf,h=>by
  simp only [AV.free] at hf
  simp only [RelV] at h ⊢
  obtain ⟨arr,e,h0,h⟩:=h
  exact ⟨arr,e,h0,frees_rel hS xs _ hf h⟩
 | .ptr i off,u,hf,h=>by
  simp only [AV.free] at hf
  split at hf
  ·simp at hf
  ·rename_i hne
   have hne:i≠id:=fun e=>by subst e; simp at hne
   simp only [RelV] at h ⊢
   obtain ⟨bi,hb,e⟩:=h
   exact ⟨bi,by rw [List.getElem?_set_ne (Ne.symm hne)]; exact hb,e⟩
 | .pe i e j k,u,hf,h=>by
  simp only [AV.free] at hf
  split at hf
  ·simp at hf
  ·rename_i hne
   have hne:i≠id:=fun e=>by subst e; simp at hne
   simp only [RelV] at h ⊢
   obtain ⟨bi,hb,e⟩:=h
   exact ⟨bi,by rw [List.getElem?_set_ne (Ne.symm hne)]; exact hb,e⟩
 | .sp t xs k,u,_,h=>by
  simp only [RelV] at h ⊢
  obtain ⟨b,o,e,h⟩:=h
  exact ⟨b,o,e,RepCs.mono hS (hS t b) _ _ h⟩
 | .own i e off len,u,hf,h=>by
  simp only [AV.free] at hf
  split at hf
  ·simp at hf
  ·rename_i hne
   have hne:i≠id:=fun e=>by subst e; simp at hne
   simp only [RelV] at h ⊢
   rcases h with ⟨bi,cap,hb,h⟩|⟨h1,h2,b0,hb⟩
   ·exact .inl ⟨bi,cap,by rw [List.getElem?_set_ne (Ne.symm hne)]; exact hb,h⟩
   ·exact .inr ⟨h1,h2,b0,by rw [List.getElem?_set_ne (Ne.symm hne)]; exact hb⟩
 | .tup xs,u,hf,h=>by
  simp only [AV.free] at hf
  simp only [RelV] at h ⊢
  obtain ⟨arr,e,h⟩:=h
  exact ⟨arr,e,frees_rel hS xs _ hf h⟩
 | .fn f xs ys,u,hf,h=>by
  simp only [AV.free] at hf
  split at hf
  ·rename_i hf1
   simp only [RelV] at h ⊢
   obtain ⟨a1,a2,e,h1,h2⟩:=h
   exact ⟨a1,a2,e,frees_rel hS xs _ hf1 h1,frees_rel hS ys _ hf h2⟩
  ·simp at hf
 | .gd ..,_,hf,_=>by simp [AV.free] at hf
 | .mpv i,u,hf,h=>by
  simp only [AV.free] at hf
  split at hf
  ·simp at hf
  ·rename_i hne
   have hne:i≠id:=fun e=>by subst e; simp at hne
   simp only [RelV] at h ⊢
   obtain ⟨bi,hb,e⟩:=h
   exact ⟨bi,by rw [List.getElem?_set_ne (Ne.symm hne)]; exact hb,e⟩
 | .ub p,u,_,h=>by simpa only [RelV] using h
theorem frees_rel {B:List (Option BI)}{S S':Rd}{id:Nat}{bo:Option BI}(hS:S.le S'):∀ (xs:List AV) (us:List Value),AV.frees id xs=true→RelVs B S xs us→RelVs (B.set id bo) S' xs us
 | [],us,_,h=>by simpa [RelVs] using h
 | x::xs,us,hf,h=>by
  simp only [AV.frees] at hf
  split at hf
  ·rename_i hf1
   simp only [RelVs] at h ⊢
   obtain ⟨u,r,e,h1,h2⟩:=h
   exact ⟨u,r,e,free_rel hS x u hf1 h1,frees_rel hS xs r hf h2⟩
  ·simp at hf
end
theorem purge_rel {B:List (Option BI)}{S S':Rd}{id:Nat}{bo:Option BI}(hS:S.le S')(x:AV)(u:Value)(h:RelV B S x u):RelV (B.set id bo) S' (x.purge id) u:=by
 rw [AV.purge_eq]
 split
 ·rename_i hf; exact free_rel hS x u hf h
 ·simp [RelV]
theorem purge_gkey (id:Nat)(x:AV)(h:gkey x=none):gkey (x.purge id)=none:=by
 rw [AV.purge_eq]
 split
 ·exact h
 ·rfl
theorem purgeE_keys (id:Nat):∀ (env:Env),keysE (purgeE id env)=keysE env
 | []=>rfl
 | (s,x)::r=>by
  have ih:=purgeE_keys id r
  unfold keysE at ih ⊢
  cases x<;>simp only [purgeE,List.map_cons,ih,List.cons.injEq,and_true]
  case gd=>rfl
  all_goals exact purge_gkey id _ rfl
theorem relSl_iff {B:List (Option BI)}{S:Rd}{a:Act}{x:AV}{u:Value}(h:gkey x=none):RelSl B S a x u ↔ RelV B S x u:=by
 cases x<;>simp only [gkey,reduceCtorEq] at h<;>exact Iff.rfl
theorem purgeE_rel {B:List (Option BI)}{S S':Rd}{id:Nat}{bo:Option BI}{a:Act}(hS:S.le S'):∀ (env:Env) (t:Nat),RelSl B S a (get env t) (a.tmps.getD t undef)→RelSl (B.set id bo) S' a (get (purgeE id env) t) (a.tmps.getD t undef)
 | [],t,_=>by simp [purgeE,get,RelSl,RelV]
 | (s,x)::r,t,h=>by
  have ih:=purgeE_rel (B:=B) (S:=S) (S':=S') (id:=id) (bo:=bo) (a:=a) hS r t
  cases x
  case gd s' w y =>
   simp only [purgeE,get] at h ⊢
   split
   ·rename_i hs
    simp only [hs] at h
    simp only [RelSl] at h ⊢
    exact ⟨fun e=>purge_rel hS _ _ (h.1 e),h.2⟩
   ·rename_i hs
    simp only [hs] at h
    exact ih h
  all_goals
   simp only [purgeE,get] at h ⊢
   split
   ·rename_i hs
    simp only [hs,RelSl] at h
    exact (relSl_iff (purge_gkey id _ rfl)).2 (purge_rel hS _ _ h)
   ·rename_i hs
    simp only [hs] at h
    exact ih h
def purgeO (id:Nat):AO→AO
 | .box xs=> .box (xs.map (AV.purge id))
 | .amb vs xs=> .amb vs (xs.map (AV.purge id))
 | x=>x
theorem purgeL_get (id:Nat):∀ (L:List AO) (j:Nat),getO (purgeL id L) j=purgeO id (getO L j)
 | [],j=>by simp [purgeL,getO,purgeO]
 | x::r,0=>by cases x<;>simp [purgeL,getO,purgeO]
 | x::r,j+1=>by cases x<;>simp [purgeL,getO,purgeL_get id r j]
theorem purgeL_length (id:Nat):∀ (L:List AO),(purgeL id L).length=L.length
 | []=>rfl
 | x::r=>by cases x<;>simp [purgeL,purgeL_length id r]
theorem purgeO_live (id:Nat)(x:AO):(purgeO id x).live=x.live:=by cases x<;>rfl
theorem purgeO_kd (id:Nat)(x:AO):(purgeO id x).kd=x.kd:=by cases x<;>rfl
theorem purges_rel {B:List (Option BI)}{S S':Rd}{id:Nat}{bo:Option BI}(hS:S.le S'):∀ (xs:List AV) (us:List Value),RelVs B S xs us→RelVs (B.set id bo) S' (xs.map (AV.purge id)) us
 | [],us,h=>by simpa [RelVs] using h
 | x::xs,us,h=>by
  simp only [RelVs,List.map_cons] at h ⊢
  obtain ⟨u,r,e,h1,h2⟩:=h
  exact ⟨u,r,e,purge_rel hS x u h1,purges_rel hS xs r h2⟩
theorem purgeO_rel {B:List (Option BI)}{S:Rd}{w:World}{id:Nat}{bo:Option BI}(x:AO)(bj:Option BI)(h:RelO B S w x bj):RelO (B.set id bo) S w (purgeO id x) bj:=by
 cases x with
 | box xs =>
  obtain ⟨bi,cs,ty,e,h1,h2,h3,h4,h5⟩:=h
  exact ⟨bi,cs,ty,e,h1,h2,h3,h4,purges_rel (Rd.le_refl S) _ _ h5⟩
 | row e n f=>cases bj<;>exact h
 | frz e n f=>cases bj<;>exact h
 | mp m=>exact h
 | amb vs xs=>exact purges_rel (Rd.le_refl S) _ _ h
 | dead=>trivial
theorem St.rerow {X:Fx}{B:List (Option BI)}{env:Env}{L:List AO}{a:Act}{w w':World}(h:St X B env L a w){id:Nat}(hro:X.M.ro≤id){bo bo':Option BI}(esz n:Nat)(f:Nat→List C)
  (hid:B[id]? =some bo) (hlive:(getO L id).live=true) (hkd:(getO L id).kd=3) (hos:w'.os=w.os) (htape:w'.tape=w.tape) (hout:w'.output=w.output)
  (hsz:w.heap.size≤w'.heap.size) (hheap:∀ k,k<w.heap.size→(∀ bi,bo=some bi→k≠bi.b)→w'.heap[k]? =w.heap[k]?)
  (hb':∀ bi',bo'=some bi'→bi'.b<w'.heap.size∧((∃ bi,bo=some bi∧bi.b=bi'.b)∨w.heap.size≤bi'.b))
  (hobj:(Sr X.M B L w).le (Sr X.M (B.set id bo') (purgeL id (setO L id (.row esz n f))) w')→RelO (B.set id bo') (Sr X.M (B.set id bo') (purgeL id (setO L id (.row esz n f))) w') w' (.row esz n f) bo') :
  St X (B.set id bo') (purgeE id env) (purgeL id (setO L id (.row esz n f))) a w':=by
 have hlt:=live_lt hlive
 exact (h.upd (env':=purgeE id env) (L':=purgeL id (setO L id (.row esz n f))) hro hid hlive rfl (by rw [purgeL_length,setO_length]) (by rw [purgeL_get,getO_setO L id id _ hlt,if_pos rfl]; rfl)
  (fun j hj=>by rw [purgeL_get,purgeO_live,getO_setO L id j _ hlt,if_neg hj])
  (fun j hj=>by rw [purgeL_get,purgeO_kd,getO_setO L id j _ hlt,if_neg hj]) (by rw [hkd]; rfl) (fun h3=>absurd rfl h3) hos htape hout hsz hheap hb'
  (fun hS j hj bj hr=>by rw [purgeL_get,getO_setO L id j _ hlt,if_neg hj]; exact purgeO_rel _ _ hr)
  (fun hS t=>purgeE_rel hS env t (h.relE t)) hobj).1
end
end Go.VA
namespace Go.VA
open Go Go.RowKit
section
variable {P:Program} {tb:TB} {gl:Gl}
theorem catF_rep {S:Rd}{esz off len m o:Nat}{f g:Nat→List C}{R:Nat→Value→Prop}{cs:Array Value}(hg:Cells S esz m g cs)
  (hf:∀ i,i<len→(f (off+i)).length=esz∧RepCs S R (o+i*esz) (f (off+i))) (hR:∀ j u,cs[j]? =some u→R (o+len*esz+j) u) :
  ∀ i,i<len+m→(catF off len f g i).length=esz∧RepCs S R (o+i*esz) (catF off len f g i):=by
 intro i hi
 unfold catF
 by_cases h:i<len
 ·rw [if_pos h]; exact hf i h
 ·rw [if_neg h]
  obtain ⟨k1,k2⟩:=hg.rep (i-len) (by omega)
  refine ⟨k1,RepCs.mk _ _ fun j x hx=> ?_⟩
  obtain ⟨u,r1,r2⟩:=RepCs.nth _ _ _ _ k2 hx
  refine ⟨u,?_,r2⟩
  have:=hR _ u r1
  have e:o+len*esz+((i-len)*esz+j)=o+i*esz+j:=by
   have:i*esz=len*esz+(i-len)*esz:=by rw [← Nat.add_mul]; congr 1; omega
   omega
  rwa [e] at this
theorem below_drew_alloc (w:World)(o:Obj):Below w.heap.size w ((w.drew).alloc o):=(Below.refl _ _).drew.alloc (Nat.le_refl _) _
theorem heap_drew_alloc (w:World)(o:Obj):((w.drew).alloc o).heap[w.heap.size]? =some o:=by
 have:=heap_alloc w.drew o
 simpa using this
theorem appendZ_sound (htb:TbOk P tb){X:Fx}{B:List (Option BI)}{env:Env}{L:List AO}{a:Act}{w:World}(h:St X B env L a w){o:Oper}{t t2 e:TypeId}{k2:IntKind}{x y:AV}{u v:Value}(hk:(tb t).k= .slice e)(ho:(tb e).k.isOther=false)(hk2:(tb t2).k= .int k2)
  (hu:RelV B (Sr X.M B L w) x u) (hv:RelV B (Sr X.M B L w) y v) (hexec:∀ r w',(Builtin.append_ #[t,t2] o.type #[u,v]).run P w= .ok r w'→(execOp a.eval o).run P w= .ok (.value r) w')
  {K:AV→Env→List AO→Prop} (hK:opAppendZ tb env L e x y K):StepTo P X o env K a w:=by
 unfold opAppendZ at hK
 split at hK
 ·split at hK
  ·rename_i k n
   obtain ⟨⟨h0,h1,h2⟩,hK⟩:=hK
   rw [appK0] at hK
   simp only [RelV,RepC] at hu hv
   obtain ⟨rfl,_⟩:=hu
   obtain ⟨rfl,_⟩:=hv
   obtain ⟨newCap,z,rest,c1,c2,c3,hr⟩:=run_append_zeros (P:=P) (ty:=o.type) (k:=k) htb hk ho hk2 (w:=w) h0 h1 h2
   have hzs:z.cells.size=(tb e).sz:=by
    obtain ⟨_,_,z',hi,_,_,_,_,_,_,hz3,_⟩:=(htb e).ok ho
    rw [← Array.length_toList,c2,hz3]
   have hzone:∀ v ∈ (tb e).zero,v.oneCell'=true:=by
    obtain ⟨_,_,z',hi,_,_,_,_,_,_,hz3,hz4,_⟩:=(htb e).ok ho
    exact hz4
   have hzl:(tb e).zero.length=(tb e).sz:=by rw [← c2,Array.length_toList,hzs]
   have hzc:∀ (l:List Value),zeroC l=l.map C.v:=by
    intro l; induction l with
    | nil=>rfl
    | cons v r ih=>simp [zeroC,ih]
   have hsz0:(Builtin.zeroCells z.cells n.toNat).size=n.toNat*(tb e).sz:=by simp [Builtin.zeroCells,hzs]
   have hsum:newCap*(tb e).sz=n.toNat*(tb e).sz+(newCap-n.toNat)*(tb e).sz:=by rw [← Nat.add_mul]; congr 1; omega
   obtain ⟨B',g1,g2⟩:=h.row (below_drew_alloc w _) (Builtin.zeroCells z.cells n.toNat++rest) e (RowAt.of (heap_drew_alloc w _)) (by simp) (tb e).sz n.toNat newCap (fun _=>zeroC (tb e).zero) c1 (by omega) (by simp only [Array.size_append,hsz0,c3]; omega) (fun i hi=>by
    refine ⟨by simp [hzc,hzl],RepCs.mk _ _ fun j x hx=> ?_⟩
    rw [hzc,List.getElem?_map] at hx
    cases hq:(tb e).zero[j]? with
    | none=>simp [hq] at hx
    | some v =>
     simp only [hq,Option.map_some,Option.some.injEq] at hx
     subst hx
     have hj:j<(tb e).sz:=by have:=(List.getElem?_eq_some_iff.1 hq).1; omega
     refine ⟨v,?_,by simp only [RepC]; exact ⟨trivial,hzone v (List.mem_of_getElem? hq)⟩⟩
     have hlt:i*(tb e).sz+j<n.toNat*(tb e).sz:=mul_lt_aux hi hj
     have hmod:(i*(tb e).sz+j)%(tb e).sz=j:=by rw [Nat.mul_comm,Nat.mul_add_mod,Nat.mod_eq_of_lt hj]
     have hv:z.cells[j]? =some v:=by rw [← Array.getElem?_toList,c2,hq]
     obtain ⟨p1,p2⟩:=(Array.getElem?_eq_some_iff.1 hv)
     rw [Array.getElem?_append_left (by rw [hsz0]; exact hlt)]
     simp only [Builtin.zeroCells,Array.getElem?_map,hzs,Array.getElem?_range,hlt,if_true,Option.map_some,hmod]
     simp [p1,p2])
   exact StepTo.value (hexec _ _ hr) hK rfl g1 g2
  ·exact hK.elim
 ·exact hK.elim
theorem append_sound (htb:TbOk P tb){X:Fx}(hgl:X.gl=gl){ro:Nat}(hro:X.M.ro=ro){B:List (Option BI)}{env:Env}{L:List AO}{a:Act}{w:World}(h:St X B env L a w){o:Oper}{c:Call}{t t2:TypeId}{x y:Operand}
  (ho:o.op= .call c) (hc:c.callee= .builtin .append) (hargs:c.args.toList=[x,y]) (hts:c.argTypes.toList=[t,t2])
  {K:AV→Env→List AO→Prop} (hK:opAppend tb ro env L t t2 (evO gl env .no .no x) (evO gl env .no .no y) K):StepTo P X o env K a w:=by
 subst hgl; subst hro
 have e1:c.args.map a.eval= #[a.eval x,a.eval y]:=by apply Array.ext'; simp [hargs]
 have e2:c.argTypes= #[t,t2]:=by apply Array.ext'; simp [hts]
 have hexec:∀ r w',(Builtin.append_ #[t,t2] o.type #[a.eval x,a.eval y]).run P w= .ok r w'→(execOp a.eval o).run P w= .ok (.value r) w':=by
  intro r w' hr
  simp [execOp,ho,resolve,hc,invoke,builtin,e1,e2,hr]
 unfold opAppend at hK
 split at hK
 ·rename_i e hk
  split at hK
  ·exact hK.elim
  rename_i hoth
  split at hK
  ·split at hK
   ·rename_i k2 hk2
    have ex:=evO_sound (key:= .no) (key2:= .no) h.glob h.relE trivial trivial x
    have ey:=evO_sound (key:= .no) (key2:= .no) h.glob h.relE trivial trivial y
    exact appendZ_sound htb h hk hoth hk2 ex ey hexec hK
   ·exact hK.elim
  rename_i hseq
  split at hK
  ·exact hK.elim
  rename_i hby
  have hby:=Nat.le_of_ble_eq_true hby
  obtain ⟨m,g,hK,hsrc⟩:=srcK_sound (P:=P) hK
  obtain ⟨cs,hsrc⟩:=hsrc X.M B w _ h.relL (evO_sound (key:= .no) (key2:= .no) h.glob h.relE trivial trivial y)
  have ex:=evO_sound (key:= .no) (key2:= .no) h.glob h.relE trivial trivial x
  have fromNone:∀ (u:Option Addr),a.eval x= .slice u 0 0→m*(tb e).bytes≤140737488355328→K (.own L.length (tb e).sz 0 m) env (L++[.row (tb e).sz m g])→StepTo P X o env K a w:=by
   intro u hu hb hK
   rcases Nat.eq_zero_or_pos m with rfl|hm
   ·have hr:=run_append_zero (ty:=o.type) htb hk hoth hseq hsrc u
    obtain ⟨h1,h2⟩:=h.push (Below.refl _ w) none (.row (tb e).sz 0 g) (fun bi e=>by simp at e) (fun _=>rfl)
    refine StepTo.value (u:= .slice u 0 0) (hexec _ _ (by rw [hu]; exact hr)) hK rfl h1 ?_
    simp only [RelV]
    refine .inr ⟨trivial,⟨_,rfl⟩,none,?_⟩
    rw [← h.relL.len]; simp
   ·obtain ⟨newCap,rest,n1,n2,hr⟩:=run_append_grow (ty:=o.type) htb hk hoth hseq hby hsrc u 0 0 #[] (by cases u<;>simp [Builtin.firstCells,loadCells,loadCellsFrom]) (by omega) (by simpa using hb)
    have hcs:=hsrc.cells.size
    simp only [Nat.zero_add] at n1 n2 hr
    have hsum:newCap*(tb e).sz=m*(tb e).sz+(newCap-m)*(tb e).sz:=by rw [← Nat.add_mul]; congr 1; omega
    obtain ⟨B',g1,g2⟩:=h.row (below_drew_alloc w _) (#[]++cs++rest) e (RowAt.of (heap_drew_alloc w _)) (by simp) (tb e).sz m newCap g n1 (Nat.le_trans (Nat.le_mul_of_pos_right _ hby) hb) (by simp [hcs,n2]; omega) (fun i hi=>by
     obtain ⟨k1,k2⟩:=hsrc.cells.rep i hi
     refine ⟨k1,RepCs.mono (Rd.le_refl _) (fun q v hv=> ?_) _ _ k2⟩
     have hq:q<cs.size:=(Array.getElem?_eq_some_iff.1 hv).1
     rw [Array.getElem?_append_left (by simp; omega)]
     simpa using hv)
    exact StepTo.value (hexec _ _ (by rw [hu]; exact hr)) hK rfl g1 g2
  split at hK
  ·
   rename_i id esz off len hx
   rw [hx] at ex
   split at hK
   ·rename_i hes
    obtain rfl:=Nat.beq_spec hes
    split at hK
    ·rename_i e2' n f hO
     split at hK
     ·rename_i hcond
      split at hcond
      ·rename_i he2
       obtain rfl:=Nat.beq_spec he2
       have hro:=Nat.le_of_ble_eq_true hcond
       obtain ⟨hb,hK⟩:=hK
       have hlive:(getO L id).live=true:=by rw [hO]; rfl
       have hkd:(getO L id).kd=3:=by rw [hO]; rfl
       have hlt:=live_lt hlive
       simp only [RelV] at ex
       rcases ex with ⟨bi,cap,hbi,hv,q1,q2,q3⟩|⟨hl0,⟨u,hv⟩,b0,hb0,_⟩
       ·have hob:=h.relL.obj id _ hbi
        have hrr:=row_read h.relL (.inl hO) hbi
        rw [hO] at hob
        obtain ⟨h0,cur,ty,h1,h2,h3,h4⟩:=hob
        have hbl:=h.relL.bnd id bi hbi
        have hidl:id<B.length:=(List.getElem?_eq_some_iff.1 hbi).1
        by_cases hroom:len+m≤cap
        ·
         have hsz:bi.o+off*(tb e).sz+(len+m)*(tb e).sz≤cur.size:=by
          have:=Nat.mul_le_mul_right (tb e).sz hroom
          have e3:(off+cap)*(tb e).sz=off*(tb e).sz+cap*(tb e).sz:=Nat.add_mul ..
          omega
         have hr:=run_append_room (ty:=o.type) htb hk hoth hseq hsrc bi.b (bi.o+off*(tb e).sz) len cap cur ty h1 hroom hsz
         have hcs:=hsrc.cells.size
         have hsp:bi.o+off*(tb e).sz+len*(tb e).sz+cs.toList.length≤cur.toList.length:=by
          rw [Nat.add_mul] at hsz
          simp only [Array.length_toList,hcs]; omega
         have hrd:∀ j,((cur.toList.take (bi.o+off*(tb e).sz+len*(tb e).sz)++cs.toList++cur.toList.drop (bi.o+off*(tb e).sz+len*(tb e).sz+cs.size)).toArray)[j]? =
           if bi.o+off*(tb e).sz+len*(tb e).sz≤j∧j<bi.o+off*(tb e).sz+len*(tb e).sz+cs.size then cs[j-(bi.o+off*(tb e).sz+len*(tb e).sz)]? else cur[j]? :=by
          intro j
          have:=splice_get hsp j
          simp only [Array.length_toList,Array.getElem?_toList] at this
          rw [List.getElem?_toArray,this]
         generalize hcur':(cur.toList.take (bi.o+off*(tb e).sz+len*(tb e).sz)++cs.toList++cur.toList.drop (bi.o+off*(tb e).sz+len*(tb e).sz+cs.size)).toArray=cur' at hr hrd
         have hcl:cur'.size=cur.size:=by
          rw [← hcur',List.size_toArray]
          have:=splice_len hsp
          simp only [Array.length_toList] at this
          rw [this]
         have hst:=h.rerow hro (w':=w.setRow bi.b cur') (bo':=some ⟨bi.b,bi.o+off*(tb e).sz,bi.sz,len+m⟩) (tb e).sz (len+m) (catF off len f g) hbi hlive hkd rfl rfl rfl (by simp [World.setRow])
          (fun k _ hne=>setRow_other w bi.b k cur' (hne bi rfl)) (fun bi' e=>by simp only [Option.some.injEq] at e; subst e; exact ⟨by simp [World.setRow]; exact hbl,.inl ⟨bi,rfl,rfl⟩⟩)
          (fun hS=>⟨rfl,cur',ty,h1.set _ hcl,by rw [hcl]; exact h2,by simp only []; omega,catF_rep (hsrc.cells.mono hS)
           (fun i hi=>by
            obtain ⟨k1,k2⟩:=h4 (off+i) (by omega)
            refine ⟨k1,RepCs.mk _ _ fun j z hz=> ?_⟩
            obtain ⟨v,r1,r2⟩:=RepCs.nth _ _ _ _ k2 hz
            refine ⟨v,?_,RepC.mono hS _ _ r2⟩
            have hj:j<(tb e).sz:=by have:=(List.getElem?_eq_some_iff.1 hz).1; omega
            have:=mul_lt_aux hi hj
            have e3:bi.o+off*(tb e).sz+i*(tb e).sz+j=bi.o+(off+i)*(tb e).sz+j:=by rw [Nat.add_mul]; omega
            rw [e3,hrd,if_neg (by rw [Nat.add_mul]; omega)]
            exact r1)
           (fun j v hv=>by
            have hj:j<cs.size:=(Array.getElem?_eq_some_iff.1 hv).1
            simp only []
            rw [hrd,if_pos (by omega)]
            rw [← hv]; congr 1; omega)⟩)
         refine StepTo.value (hexec _ _ (by rw [hv]; exact hr)) hK (purgeE_keys id env) hst ?_
         simp only [RelV]
         refine .inl ⟨⟨bi.b,bi.o+off*(tb e).sz,bi.sz,len+m⟩,cap,List.getElem?_set_self hidl,by simp,⟨hroom,Nat.le_trans (Nat.le_mul_of_pos_right _ hby) hb⟩,?_,by simp; exact hroom⟩
         simp only [Nat.zero_add]
         rw [Nat.add_mul] at q2
         omega
        ·
         have hsold:Src P (Sr X.M B L w) (tb e).sz len (fun i=>f (off+i)) (.slice (some ⟨bi.b,bi.o+off*(tb e).sz,none⟩) len cap) w _:=Src.of_slice fun i hi=>by
          obtain ⟨k1,k2⟩:=hrr.2 (off+i) (by omega)
          refine ⟨k1,?_⟩
          rw [show bi.o+off*(tb e).sz+i*(tb e).sz=bi.o+(off+i)*(tb e).sz from by rw [Nat.add_mul]; omega]
          exact k2
         generalize hold:((List.range (len*(tb e).sz)).map fun j=>(w.cell? ⟨bi.b,bi.o+off*(tb e).sz+j,none⟩).getD undef).toArray=old at hsold
         obtain ⟨newCap,rest,n1,n2,hr⟩:=run_append_grow (ty:=o.type) htb hk hoth hseq hby hsrc (some ⟨bi.b,bi.o+off*(tb e).sz,none⟩) len cap old hsold.drew (by omega) hb
         have hcs:=hsrc.cells.size
         have hos:=hsold.cells.size
         have hsum:newCap*(tb e).sz=(len+m)*(tb e).sz+(newCap-(len+m))*(tb e).sz:=by rw [← Nat.add_mul]; congr 1; omega
         have hsum2:(len+m)*(tb e).sz=len*(tb e).sz+m*(tb e).sz:=Nat.add_mul ..
         have htot:(old++cs++rest).size=newCap*(tb e).sz:=by simp only [Array.size_append,hcs,hos,n2]; omega
         have hst:=h.rerow hro (w':=(w.drew).alloc (.cells (old++cs++rest) e)) (bo':=some ⟨w.heap.size,0,newCap*(tb e).sz,len+m⟩) (tb e).sz (len+m) (catF off len f g) hbi hlive hkd rfl rfl rfl (by simp)
          (fun k hk _=>(below_drew_alloc w _).block k hk) (fun bi' e=>by simp only [Option.some.injEq] at e; subst e; exact ⟨by simp,.inr (Nat.le_refl _)⟩)
          (fun hS=>⟨rfl,_,e,RowAt.of (heap_drew_alloc w _),htot.symm,by simp only []; omega,fun i hi=>by
           have:=catF_rep (S:=Sr X.M (B.set id (some ⟨w.heap.size,0,newCap*(tb e).sz,len+m⟩)) (purgeL id (setO L id (.row (tb e).sz (len+m) (catF off len f g)))) ((w.drew).alloc (.cells (old++cs++rest) e)))
            (o:=0) (off:=off) (f:=f) (R:=fun q v=>(old++cs++rest)[q]? =some v) (hsrc.cells.mono hS) (len:=len)
            (fun i hi=>by
             obtain ⟨k1,k2⟩:=hsold.cells.rep i hi
             refine ⟨k1,RepCs.mono hS (fun q v hv=> ?_) _ _ (by simpa using k2)⟩
             have hq:q<old.size:=(Array.getElem?_eq_some_iff.1 hv).1
             rw [Array.append_assoc,Array.getElem?_append_left hq]; exact hv)
            (fun j v hv=>by
             have hj:j<cs.size:=(Array.getElem?_eq_some_iff.1 hv).1
             rw [Array.append_assoc,Array.getElem?_append_right (by omega),Array.getElem?_append_left (by omega)]
             rw [← hv]; congr 1; omega) i hi
           exact this⟩)
         refine StepTo.value (hexec _ _ (by rw [hv]; exact hr)) hK (purgeE_keys id env) hst ?_
         simp only [RelV]
         refine .inl ⟨⟨w.heap.size,0,newCap*(tb e).sz,len+m⟩,newCap,List.getElem?_set_self hidl,by simp,⟨n1,Nat.le_trans (Nat.le_mul_of_pos_right _ hby) hb⟩,by simp,by simp; exact n1⟩
       ·
        subst hl0
        have hidl:id<B.length:=(List.getElem?_eq_some_iff.1 hb0).1
        simp only [Nat.zero_add] at hb hK
        rcases Nat.eq_zero_or_pos m with rfl|hm
        ·have hr:=run_append_zero (ty:=o.type) htb hk hoth hseq hsrc u
         have hst:=h.rerow hro (w':=w) (bo':=none) (tb e).sz 0 (catF off 0 f g) hb0 hlive hkd rfl rfl rfl (Nat.le_refl _) (fun _ _ _=>rfl) (fun bi' e=>by simp at e) (fun _=>rfl)
         refine StepTo.value (u:= .slice u 0 0) (hexec _ _ (by rw [hv]; exact hr)) hK (purgeE_keys id env) hst ?_
         simp only [RelV]
         exact .inr ⟨trivial,⟨_,rfl⟩,none,List.getElem?_set_self hidl,fun bi e=>by cases e⟩
        ·obtain ⟨newCap,rest,n1,n2,hr⟩:=run_append_grow (ty:=o.type) htb hk hoth hseq hby hsrc u 0 0 #[] (by cases u<;>simp [Builtin.firstCells,loadCells,loadCellsFrom]) (by omega) (by simpa using hb)
         have hcs:=hsrc.cells.size
         simp only [Nat.zero_add] at n1 n2 hr
         have hsum:newCap*(tb e).sz=m*(tb e).sz+(newCap-m)*(tb e).sz:=by rw [← Nat.add_mul]; congr 1; omega
         have htot:(#[]++cs++rest:Array Value).size=newCap*(tb e).sz:=by simp only [Array.size_append,hcs,n2,List.size_toArray,List.length_nil]; omega
         have hst:=h.rerow hro (w':=(w.drew).alloc (.cells (#[]++cs++rest) e)) (bo':=some ⟨w.heap.size,0,newCap*(tb e).sz,m⟩) (tb e).sz m (catF off 0 f g) hb0 hlive hkd rfl rfl rfl (by simp)
          (fun k hk _=>(below_drew_alloc w _).block k hk) (fun bi' e=>by simp only [Option.some.injEq] at e; subst e; exact ⟨by simp,.inr (Nat.le_refl _)⟩)
          (fun hS=>⟨rfl,_,e,RowAt.of (heap_drew_alloc w _),htot.symm,by simp only []; omega,fun i hi=>by
           have:=catF_rep (S:=Sr X.M (B.set id (some ⟨w.heap.size,0,newCap*(tb e).sz,m⟩)) (purgeL id (setO L id (.row (tb e).sz m (catF off 0 f g)))) ((w.drew).alloc (.cells (#[]++cs++rest) e)))
            (o:=0) (off:=off) (f:=f) (R:=fun q v=>(#[]++cs++rest:Array Value)[q]? =some v) (hsrc.cells.mono hS) (len:=0)
            (fun i hi=>by omega)
            (fun j v hv=>by
             have hj:j<cs.size:=(Array.getElem?_eq_some_iff.1 hv).1
             rw [Array.getElem?_append_left (by simp; omega)]
             simpa using hv) i (by omega)
           exact this⟩)
         refine StepTo.value (hexec _ _ (by rw [hv]; exact hr)) hK (purgeE_keys id env) hst ?_
         simp only [RelV]
         refine .inl ⟨⟨w.heap.size,0,newCap*(tb e).sz,m⟩,newCap,List.getElem?_set_self hidl,by simp,⟨n1,Nat.le_trans (Nat.le_mul_of_pos_right _ hby) hb⟩,by simp,by simp; exact n1⟩
      ·simp at hcond
     ·exact hK.elim
    ·exact hK.elim
   ·exact hK.elim
  ·rename_i hx
   rw [hx] at ex
   simp only [RelV,RepC] at ex
   obtain ⟨u,hu⟩:=ex
   exact fromNone u hu hK.1 (by have h9:=hK.2; rw [appK0] at h9; exact h9)
  ·rename_i hx
   rw [hx] at ex
   simp only [RelV,RepC] at ex
   exact fromNone none ex.1 hK.1 (by have h9:=hK.2; rw [appK0] at h9; exact h9)
  ·exact hK.elim
 ·exact hK.elim
theorem flatA_eq:∀ (xs:List C) (r:List AV),flatF.appA xs r=xs.map AV.c++r
 | [],r=>rfl
 | x::xs,r=>by simp [flatF.appA,flatA_eq xs r]
theorem repVs_c {B:List (Option BI)}{S:Rd}:∀ (xs:List C) (us:List Value),RepVs S xs us→RelVs B S (xs.map .c) us
 | [],us,h=>by simpa [RelVs,RepVs] using h
 | x::xs,us,h=>by
  simp only [RepVs] at h
  obtain ⟨u,r,e,h1,h2⟩:=h
  simp only [List.map_cons,RelVs,RelV]
  exact ⟨u,r,e,h1,repVs_c xs r h2⟩
theorem flatF_rel {B:List (Option BI)}{S:Rd}{esz:Nat}{g:Nat→List C}{us:List Value}:∀ (n i:Nat),(i+n)*esz≤us.length→(∀ j,j<i+n→(g j).length=esz∧RepCs S (fun o u=>us[o]? =some u) (j*esz) (g j)) →
  RelVs B S (flatF g n i) ((us.drop (i*esz)).take (n*esz))
 | 0,i,_,_=>by simp [flatF,RelVs]
 | n+1,i,hl,h=>by
  simp only [flatF,flatA_eq]
  obtain ⟨h1,h2⟩:=h i (by omega)
  obtain ⟨vs,k1,k2,k3⟩:=RepCs.vals _ _ h2
  have ih:=flatF_rel (B:=B) n (i+1) (by rw [show i+1+n=i+(n+1) by omega]; exact hl) (fun j hj=>h j (by omega))
  have e1:(n+1)*esz=esz+n*esz:=by rw [Nat.add_mul,Nat.one_mul,Nat.add_comm]
  have e2:(i+1)*esz=i*esz+esz:=by rw [Nat.add_mul,Nat.one_mul]
  have hl':i*esz+(n+1)*esz≤us.length:=by rw [← Nat.add_mul]; exact hl
  have:(us.drop (i*esz)).take ((n+1)*esz)=vs++(us.drop ((i+1)*esz)).take (n*esz):=by
   rw [e1,List.take_add,List.drop_drop,e2]
   congr 1
   apply List.ext_getElem?
   intro j
   rw [List.getElem?_take,List.getElem?_drop]
   by_cases hj:j<esz
   ·rw [if_pos hj]
    have hj2:j<vs.length:=by omega
    rw [k2 j vs[j] (List.getElem?_eq_getElem hj2),List.getElem?_eq_getElem hj2]
   ·rw [if_neg hj,List.getElem?_eq_none (by omega)]
  rw [this]
  exact RelVs.append _ _ _ _ (repVs_c _ _ k3) ih
theorem putF_zero (off:Nat)(f g:Nat→List C):putF off 0 f g=f:=by
 funext j
 unfold putF
 rw [if_neg (by omega)]
theorem setO_self:∀ (L:List AO) (id:Nat),setO L id (getO L id)=L
 | [],_=>rfl
 | x::r,0=>rfl
 | x::r,n+1=>by simp [setO,getO,setO_self r n]
theorem layA_nil:∀ (ys:List AV) (o:Nat) (zs:List AV),layA ys o []=some zs→zs=ys
 | ys,0,zs,h=>by cases ys<;>simpa [layA] using h.symm
 | [],o+1,zs,h=>by simp [layA] at h
 | y::r,o+1,zs,h=>by
  simp only [layA] at h
  split at h
  ·rename_i z hz
   have:=layA_nil r o z hz
   subst this
   simpa using h.symm
  ·simp at h
theorem run_copy {t e ty:TypeId}{ts:List TypeId}(htb:TbOk P tb)(hk:(tb t).k= .slice e)(ho:(tb e).k.isOther=false){x:Value}{w w':World}{m k len cap:Nat}{cs:Array Value}
  (hlen:(Builtin.lenOf x).run P w= .ok m w) (hmin:m.min len=k) (hfirst:(Builtin.firstCells (tb e).sz k x).run P w= .ok cs w) (a:Option Addr) (h:∀ b,a=some b→(storeCells b cs.toList).run P w= .ok () w') (h0:a=none→w'=w) :
  (Builtin.copy_ (t::ts).toArray ty #[.slice a len cap,x]).run P w= .ok (.int .i64 k) w':=by
 obtain ⟨d,hd,hT⟩:=(htb t).under (by simp [hk,TK.isOther])
 rw [hk] at hT
 simp only [TKok] at hT
 subst hT
 have hse:=(htb e).size ho w
 cases a with
 | none=>simp [Builtin.copy_,run_underlying hd,hse,hlen,hmin,hfirst,h0 rfl,goInt]
 | some b=>simp [Builtin.copy_,run_underlying hd,hse,hlen,hmin,hfirst,h b rfl,goInt]
theorem copy_sound (htb:TbOk P tb){X:Fx}(hgl:X.gl=gl){ro:Nat}(hro:X.M.ro=ro){B:List (Option BI)}{env:Env}{L:List AO}{a:Act}{w:World}(h:St X B env L a w){o:Oper}{c:Call}{t:TypeId}{ts:List TypeId}{x y:Operand}
  (ho:o.op= .call c) (hc:c.callee= .builtin .copy) (hargs:c.args.toList=[x,y]) (hts:c.argTypes.toList=t::ts)
  {K:AV→Env→List AO→Prop} (hK:opCopy tb ro L t (evO gl env .no .no x) (evO gl env .no .no y) fun m L'=>K (intA .i64 m) env L'):StepTo P X o env K a w:=by
 subst hgl; subst hro
 have e1:c.args.map a.eval= #[a.eval x,a.eval y]:=by apply Array.ext'; simp [hargs]
 have e2:c.argTypes=(t::ts).toArray:=by apply Array.ext'; simp [hts]
 have hexec:∀ r w',(Builtin.copy_ (t::ts).toArray o.type #[a.eval x,a.eval y]).run P w= .ok r w'→(execOp a.eval o).run P w= .ok (.value r) w':=by
  intro r w' hr
  simp [execOp,ho,resolve,hc,invoke,builtin,e1,e2,hr]
 unfold opCopy at hK
 split at hK
 ·rename_i e hk
  split at hK
  ·exact hK.elim
  rename_i hoth
  obtain ⟨m0,g,hK,hsrc⟩:=srcK_sound (P:=P) hK
  obtain ⟨cs0,hsrc⟩:=hsrc X.M B w _ h.relL (evO_sound (key:= .no) (key2:= .no) h.glob h.relE trivial trivial y)
  have ex:=evO_sound (key:= .no) (key2:= .no) h.glob h.relE trivial trivial x
  split at hK
  ·rename_i id esz off len hx
   rw [hx] at ex
   split at hK
   ·exact hK.elim
   rename_i hcond
   split at hcond
   ·rename_i hes
    obtain rfl:=Nat.beq_spec hes
    have hro:=Nat.le_of_ble_eq_true hcond
    obtain ⟨m,hmm,hm,hmin,hK⟩:=hK.get
    obtain ⟨cs,hcells,hfirst⟩:=hsrc.less m hmm
    have hlen:=hsrc.len
    have hcsz:=hcells.size
    simp only [RelV] at ex
    have hi:∀ (k:Nat) (w:World),RelV B (Sr X.M B L w) (intA .i64 k) (.int .i64 k):=fun k w=>by simp [intA,RelV,RepC,Value.oneCell']
    rcases ex with ⟨bi,cap,hb,hv,q1,q2,q3⟩|⟨rfl,⟨u,hv⟩,bo,hbo,_⟩
    ·
     have hrun:∀ w',(storeCells ⟨bi.b,bi.o+off*(tb e).sz,none⟩ cs.toList).run P w= .ok () w'→(execOp a.eval o).run P w= .ok (.value (.int .i64 m)) w':=fun w' hw=>by
      refine hexec _ _ ?_
      rw [hv]
      exact run_copy htb hk hoth hlen hmin hfirst _ (fun b hb=>by cases hb; exact hw) (fun e=>by cases e)
     split at hK
     ·rename_i e2' n f hO
      split at hK
      ·rename_i he2
       obtain rfl:=Nat.beq_spec he2
       have hob:=h.relL.obj id _ hb
       rw [hO] at hob
       obtain ⟨h0,cur,ty,h1,h2,h3,h4⟩:=hob
       have hin:off*(tb e).sz+m*(tb e).sz≤n*(tb e).sz:=by
        rw [← Nat.add_mul]; exact Nat.mul_le_mul_right _ (by omega)
       have hsp:(bi.o+off*(tb e).sz)+cs.toList.length≤cur.toList.length:=by simp; omega
       have hst:=storeCells_row (P:=P) bi.b (bi.o+off*(tb e).sz) ty cs.toList 0 cur w h1 (by simp; omega) hcells.one
       simp only [Nat.add_zero] at hst
       refine StepTo.value (hrun _ hst) hK rfl (h.upd_same hro hb (by rw [hO]; rfl) rfl (by rw [hO]; rfl) _ h1 fun hS=> ?_) (by simp [intA,RelV,RepC,Value.oneCell'])
       have hgl:=splice_len hsp
       refine ⟨h0,_,ty,h1.set _ (by simp only [List.size_toArray]; rw [hgl]; simp),by simp only [List.size_toArray]; rw [hgl]; simpa using h2,h3,fun q hq=> ?_⟩
       obtain ⟨fl,fr⟩:=h4 q hq
       have hget:∀ j,((cur.toList.take (bi.o+off*(tb e).sz)++cs.toList++cur.toList.drop (bi.o+off*(tb e).sz+cs.toList.length)).toArray)[j]? =
         if bi.o+off*(tb e).sz≤j∧j<bi.o+off*(tb e).sz+m*(tb e).sz then cs[j-(bi.o+off*(tb e).sz)]? else cur[j]? :=by
        intro j
        rw [List.getElem?_toArray,splice_get hsp]
        simp only [Array.length_toList,hcsz,Array.getElem?_toList]
       unfold putF
       by_cases hqi:off≤q∧q<off+m
       ·rw [if_pos hqi]
        obtain ⟨g1,g2⟩:=hcells.rep (q-off) (by omega)
        refine ⟨g1,RepCs.mk _ _ fun j z hz=> ?_⟩
        obtain ⟨u,k1,k2⟩:=RepCs.nth _ _ _ _ g2 hz
        have hj:j<(tb e).sz:=by have:=(List.getElem?_eq_some_iff.1 hz).1; omega
        have hlt:=mul_lt_aux (i:=q-off) (m:=m) (by omega) hj
        have heq:q*(tb e).sz=off*(tb e).sz+(q-off)*(tb e).sz:=by rw [← Nat.add_mul]; congr 1; omega
        refine ⟨u,?_,RepC.mono hS _ _ k2⟩
        rw [hget,if_pos (by omega),← k1]
        congr 1; omega
       ·rw [if_neg hqi]
        refine ⟨fl,RepCs.mk _ _ fun j z hz=> ?_⟩
        have hj:j<(tb e).sz:=by have:=(List.getElem?_eq_some_iff.1 hz).1; omega
        rw [hget,if_neg ?_]
        ·obtain ⟨u,k1,k2⟩:=RepCs.nth _ _ _ _ fr hz
         exact ⟨u,k1,RepC.mono hS _ _ k2⟩
        ·rcases Nat.lt_or_ge q off with hlt|hge
         ·have:=mul_lt_aux hlt hj
          omega
         ·have:=Nat.mul_le_mul_right (tb e).sz (show off+m≤q by omega)
          rw [Nat.add_mul] at this
          omega
      ·exact hK.elim
     ·rename_i ys hO
      split at hK
      ·rename_i zs hz
       obtain ⟨g1,g2,g3⟩:=layA_spec _ _ _ _ hz
       have hfl:=flatF_rel (B:=B) (S:=Sr X.M B L w) (esz:=(tb e).sz) (g:=g) (us:=cs.toList) m 0 (by simp [hcsz]) (fun j hj=>by
        obtain ⟨k1,k2⟩:=hcells.rep j (by omega)
        exact ⟨k1,RepCs.mono (Rd.le_refl _) (fun o u hh=>by rw [Array.getElem?_toList]; exact hh) _ _ k2⟩)
       rw [Nat.zero_mul,List.drop_zero,List.take_of_length_le (by simp [hcsz])] at hfl
       have hfll:=RelVs.length _ _ hfl
       have hob:=h.relL.obj id _ hb
       rw [hO] at hob
       obtain ⟨bi',cur,ty,he,h1,h2,h3,h0,h4⟩:=hob
       simp only [Option.some.injEq] at he
       subst he
       have hcl:=RelVs.length _ _ h4
       simp only [Array.length_toList] at hcl hfll
       have hsp:off*(tb e).sz+cs.toList.length≤cur.toList.length:=by simp; omega
       have hst:=run_storeCells_at (P:=P) bi.b (bi.o+off*(tb e).sz) ty cs.toList 0 cur w h1 (by simp; omega) hcells.one
       simp only [Nat.add_zero] at hst
       have hst':=hrun _ hst
       rw [h2,Nat.zero_add] at hst'
       refine StepTo.value hst' hK rfl (h.upd_same hro hb (by rw [hO]; rfl) rfl (by rw [hO]; rfl) _ (RowAt.of (e:=1) h1) fun hS=> ?_) (by simp [intA,RelV,RepC,Value.oneCell'])
       exact box_lay hS hsp (by simpa using hfll) h1 h2 h3 h0 h4 hfl hcells.one g2 g3
      ·exact hK.elim
     ·exact hK.elim
    ·
     obtain rfl:m=0:=by omega
     have hrun:(execOp a.eval o).run P w= .ok (.value (.int .i64 (0:Nat))) w:=by
      refine hexec _ _ ?_
      rw [hv]
      have h0:cs.toList=[]:=by simp at hcsz; simp [hcsz]
      exact run_copy htb hk hoth hlen hmin hfirst _ (fun b hb=>by rw [h0]; simp [storeCells]) (fun _=>rfl)
     have fin:∀ x,getO L id=x→K (intA .i64 (0:Nat)) env (setO L id x)→StepTo P X o env K a w:=fun x hx hK=>by
      rw [← hx,setO_self] at hK
      exact StepTo.value hrun hK rfl h (by simp [intA,RelV,RepC,Value.oneCell'])
     split at hK
     ·rename_i e2' n f hO
      split at hK
      ·rename_i he2
       obtain rfl:=Nat.beq_spec he2
       rw [putF_zero] at hK
       exact fin _ hO hK
      ·exact hK.elim
     ·rename_i ys hO
      split at hK
      ·rename_i zs hz
       have:zs=ys:=layA_nil _ _ _ hz
       subst this
       exact fin _ hO hK
      ·exact hK.elim
     ·exact hK.elim
   ·simp at hcond
  ·exact hK.elim
 ·exact hK.elim
end
end Go.VA
namespace Go.VA
open Go Go.RowKit
mutual
theorem closed_rel {B B':List (Option BI)}{S S':Rd}(hS:S.le S'):∀ (x:AV) (u:Value),x.closed=true→RelV B S x u→RelV B' S' x u
 | .c x,u,_,h=>by simp only [RelV] at h ⊢; exact RepC.mono hS _ _ h
 | .ag xs,u,_,h=>by
  simp only [RelV] at h ⊢
  obtain ⟨arr,e,h⟩:=h
  exact ⟨arr,e,RepVs.mono hS _ _ h⟩
 | .sp t xs k,u,_,h=>by
  simp only [RelV] at h ⊢
  obtain ⟨b,o,e,h⟩:=h
  exact ⟨b,o,e,RepCs.mono hS (hS t b) _ _ h⟩
 | .tup xs,u,hc,h=>by
  simp only [AV.closed] at hc
  simp only [RelV] at h ⊢
  obtain ⟨arr,e,h⟩:=h
  exact ⟨arr,e,closeds_rel hS xs _ hc h⟩
 | .agx xs,u,hc,h=>by
  simp only [AV.closed] at hc
  simp only [RelV] at h ⊢
  obtain ⟨arr,e,h0,h⟩:=h
  exact ⟨arr,e,h0,closeds_rel hS xs _ hc h⟩
 | .any,_,hc,_=>by simp [AV.closed] at hc
 | .ub ..,_,hc,_=>by simp [AV.closed] at hc
 | .ptr ..,_,hc,_=>by simp [AV.closed] at hc
 | .pe ..,_,hc,_=>by simp [AV.closed] at hc
 | .own ..,_,hc,_=>by simp [AV.closed] at hc
 | .fn ..,_,hc,_=>by simp [AV.closed] at hc
 | .gd ..,_,hc,_=>by simp [AV.closed] at hc
 | .mpv ..,_,hc,_=>by simp [AV.closed] at hc
theorem closeds_rel {B B':List (Option BI)}{S S':Rd}(hS:S.le S'):∀ (xs:List AV) (us:List Value),AV.closed.go xs=true→RelVs B S xs us→RelVs B' S' xs us
 | [],us,_,h=>by simpa [RelVs] using h
 | x::xs,us,hc,h=>by
  simp only [AV.closed.go] at hc
  split at hc
  ·rename_i h0
   simp only [RelVs] at h ⊢
   obtain ⟨u,r,e,h1,h2⟩:=h
   exact ⟨u,r,e,closed_rel hS x u h0 h1,closeds_rel hS xs r hc h2⟩
  ·simp at hc
end
section
variable {P:Program} {tb:TB} {gl:Gl}
theorem pure_step (htb:TbOk P tb){X:Fx}(hgl:X.gl=gl){B:List (Option BI)}{env:Env}{L:List AO}{a:Act}{w:World}(h:St X B env L a w){o:Oper}
  {K:AV→Env→List AO→Prop} (hK:opPure P tb gl env .no L o.op fun x=>K x env L):StepTo P X o env K a w:=by
 obtain ⟨x,hx,hp⟩:=opPure_sound htb hK
 intro next Q hn
 subst hgl
 refine hp X.M B a w h.relL h.glob h.relE trivial next Q fun u w' ⟨h1,h2⟩=> ?_
 exact hn _ _ _ _ _ _ hx rfl (h.ext h1) h2
theorem setO_live {L:List AO}{id:Nat}{x:AO}(hx:x.live=false){j:Nat}(h:(getO (setO L id x) j).live=true):j≠id∧(getO L j).live=true:=by
 by_cases hid:id<L.length
 ·rw [getO_setO L id j x hid] at h
  split at h
  ·rw [hx] at h; simp at h
  ·rename_i hj; exact ⟨hj,h⟩
 ·have:setO L id x=L:=by
   have:∀ (L:List AO) (id:Nat),L.length≤id→setO L id x=L:=by
    intro L
    induction L with
    | nil=>intro id _; cases id<;>rfl
    | cons y r ih =>
     intro id hl
     cases id with
     | zero=>simp at hl
     | succ id=>simp only [setO]; rw [ih id (by simpa using hl)]
   exact this L id (by omega)
  rw [this] at h
  refine ⟨fun e=> ?_,h⟩
  have:=live_lt h
  omega
theorem MU_unlive {M:Mz}{B:List (Option BI)}{L:List AO}{id:Nat}{x:AO}(hx:x.live=false)(t:Bool)(b:Nat)(h:MU M B (setO L id x) t b):MU M B L t b:=by
 cases t with
 | false =>
  rcases h with h|⟨j,bi,h1,h2,h3⟩
  ·exact .inl h
  ·exact .inr ⟨j,bi,h1,h2,(setO_live hx h3).2⟩
 | true =>
  rcases h with h|⟨j,bi,h0,h1,h2,h3⟩
  ·exact .inl h
  ·exact .inr ⟨j,bi,h0,h1,h2,(setO_live hx h3).2⟩
theorem Sr_unlive {M:Mz}{B:List (Option BI)}{L:List AO}{w:World}{id:Nat}{x:AO}(hx:x.live=false):(Sr M B L w).le (Sr M B (setO L id x) w) :=
 fun t b o u h=>⟨fun hm=>h.1 (MU_unlive hx t b hm),h.2⟩
theorem RelL.unlive {M:Mz}{B:List (Option BI)}{L:List AO}{w:World}(hL:RelL M B L w){id:Nat}(hid:id<L.length){x:AO}(hx:x.live=false)
  (hobj:∀ bo,B[id]? =some bo→RelO B (Sr M B (setO L id x) w) w x bo):RelL M B (setO L id x) w where
 len:=by rw [setO_length]; exact hL.len
 bnd:=hL.bnd
 mbnd:=hL.mbnd
 notM j bi h hl:=hL.notM j bi h (setO_live hx hl).2
 dist i j bi bj hij hi hj hli hlj:=hL.dist i j bi bj hij hi hj (setO_live hx hli).2 (setO_live hx hlj).2
 obj j bo h:=by
  rw [getO_setO L id j x hid]
  split
  ·rename_i e; subst e; exact hobj bo h
  ·exact RelO_ext (Sr_unlive hx) (Below.refl _ w) _ _ (fun bi e=>hL.bnd j bi (e ▸ h)) (hL.obj j bo h)
theorem St.unlive {X:Fx}{B:List (Option BI)}{env:Env}{L:List AO}{a:Act}{w:World}(h:St X B env L a w){id:Nat}(hro:X.M.ro≤id)(hid:id<L.length){x:AO}(hx:x.live=false)
  (hk:x.kd=0∨x.kd=(getO L id).kd) (hobj:∀ bo,B[id]? =some bo→RelO B (Sr X.M B (setO L id x) w) w x bo):St X B env (setO L id x) a w where
 relL:=h.relL.unlive hid hx hobj
 glob:=h.glob.mono (Sr_unlive hx)
 relE:=h.relE.mono (Ble.refl B) (Sr_unlive hx)
 below:=h.below
 fresh j bi h0 h1 h2:=h.fresh j bi h0 h1 (setO_live hx h2).2
 old j hj:=by
  rw [getO_setO L id j x hid,if_neg (by omega)]
  exact h.old j hj
 rol:=by rw [setO_length]; exact h.rol
 l0:=by rw [setO_length]; exact h.l0
 knd j h0 h1:=by
  rw [setO_length] at h1
  rw [getO_setO L id j x hid]
  split
  ·rename_i e
   subst e
   rcases hk with hk|hk
   ·exact .inl hk
   ·rw [hk]; exact h.knd j h0 h1
  ·exact h.knd j h0 h1
 dfr:=h.dfr
 sz:=h.sz
theorem relO_frz {M:Mz}{B:List (Option BI)}{L:List AO}{w:World}(hL:RelL M B L w){id esz n:Nat}{f:Nat→List C}(hO:getO L id= .row esz n f)(bo:Option BI)(hb:B[id]? =some bo) :
  RelO B (Sr M B (setO L id (.frz esz n f)) w) w (.frz esz n f) bo:=by
 have hr:=hL.obj id bo hb
 rw [hO] at hr
 cases bo with
 | none=>exact hr
 | some bi =>
  obtain ⟨h0,cs,ty,h1,h2,h3,h4⟩:=hr
  have hlive:(getO L id).live=true:=by rw [hO]; rfl
  refine ⟨h0,fun i hi=>⟨(h4 i hi).1,RepCs.mono (Sr_unlive rfl) (fun o u hh=>⟨?_,by simpa [h1.cell] using hh⟩) _ _ (h4 i hi).2⟩⟩
  rintro (hm|⟨j,bj,k1,k2,k3⟩)
  ·exact hL.notM id bi hb hlive hm
  ·obtain ⟨k4,k5⟩:=setO_live rfl k3
   exact hL.dist j id bj bi k4 k1 hb k5 hlive k2
theorem Fr_false (S:Rd)(w:World):(Fr false S w).le S:=fun t b o u h=>by cases t<;>exact h
def FrzTo (ro:Nat) (L:List AO) (x:AV) (L':List AO) (y:AV):Prop :=
 ∀ (X:Fx) (B:List (Option BI)) (env:Env) (a:Act) (w:World) (u:Value),X.M.ro=ro→St X B env L a w→RelV B (Sr X.M B L w) x u →
  St X B env L' a w∧(Sr X.M B L w).le (Sr X.M B L' w)∧RelV B (Sr X.M B L' w) y u
theorem FrzTo.refl (ro:Nat)(L:List AO)(x:AV):FrzTo ro L x L x:=fun _ _ _ _ _ _ _ h hu=>⟨h,Rd.le_refl _,hu⟩
theorem frzK_sound {ro:Nat}{L:List AO}{x:AV}{K:AV→List AO→Prop}(h:frzK ro L x K):∃ y L',K y L'∧FrzTo ro L x L' y:=by
 unfold frzK at h
 split at h
 ·rename_i id esz off len
  split at h
  ·rename_i e n f hO
   split at h
   ·rename_i hcond
    split at hcond
    ·rename_i he
     obtain rfl:=Nat.beq_spec he
     have hro:=Nat.le_of_ble_eq_true hcond
     refine ⟨_,_,h,fun X B env a w u hX hS hu=> ?_⟩
     have hid:id<L.length:=live_lt (by rw [hO]; rfl)
     have hS':=hS.unlive (x:= .frz e n f) (by rw [hX]; exact hro) hid rfl (.inr (by rw [hO]; rfl)) (relO_frz hS.relL hO)
     have hle:=Sr_unlive (M:=X.M) (B:=B) (L:=L) (w:=w) (id:=id) (x:= .frz e n f) rfl
     refine ⟨hS',hle,?_⟩
     have hv:viewO (setO L id (.frz e n f)) id e off len=some (.sl false e len (fun i=>f (off+i)),false):=by
      unfold viewO
      rw [getO_setO L id id _ hid,if_pos rfl]
      simp [he]
     have:=viewO_sound hS'.relL hv (RelV.mono (Ble.refl B) hle _ _ hu)
     simp only [RelV]
     exact RepC.mono (Fr_false _ _) _ _ this
    ·simp at hcond
   ·exact ⟨_,_,h,FrzTo.refl _ _ _⟩
  ·rename_i e n f hO
   split at h
   ·rename_i he
    obtain rfl:=Nat.beq_spec he
    refine ⟨_,_,h,fun X B env a w u hX hS hu=>⟨hS,Rd.le_refl _,?_⟩⟩
    have hv:viewO L id e off len=some (.sl false e len (fun i=>f (off+i)),false):=by
     unfold viewO
     rw [hO]
     simp [he]
    have:=viewO_sound hS.relL hv hu
    simp only [RelV]
    exact RepC.mono (Fr_false _ _) _ _ this
   ·exact ⟨_,_,h,FrzTo.refl _ _ _⟩
  ·rename_i ys hO
   split at h
   ·rename_i hcond
    split at hcond
    ·rename_i he
     obtain rfl:=Nat.beq_spec he
     have hro:=Nat.le_of_ble_eq_true hcond
     split at h
     ·rename_i cs hcs
      refine ⟨_,_,h,fun X B env a w u hX hS hu=> ?_⟩
      have hlive:(getO L id).live=true:=by rw [hO]; rfl
      have hid:id<L.length:=live_lt hlive
      have hS':=hS.unlive (x:= .dead) (by rw [hX]; exact hro) hid rfl (.inl rfl) (fun bo _=>trivial)
      have hle:=Sr_unlive (M:=X.M) (B:=B) (L:=L) (w:=w) (id:=id) (x:= .dead) rfl
      refine ⟨hS',hle,?_⟩
      simp only [RelV] at hu ⊢
      simp only [RepC]
      rcases hu with ⟨bi,cap,hb,rfl,h1,h2,h3⟩|⟨rfl,⟨a,rfl⟩,_⟩
      ·refine ⟨_,cap,rfl,h1,?_⟩
       by_cases h0:len=0
       ·exact .inl h0
       ·refine .inr ⟨bi.b,_,rfl,fun i hi=>⟨rfl,?_⟩⟩
        obtain ⟨k1,k2⟩:=box_row hS.relL hO hcs hb
        have:=k2 (off+i) (by omega)
        rw [show bi.o+off*1+i*1=bi.o+(off+i)*1 from by omega]
        refine RepCs.mono hle (fun o u hh=>⟨?_,hh⟩) _ _ this
        rintro (hm|⟨j,bj,k1,k2,k3⟩)
        ·exact hS.relL.notM id bi hb hlive hm
        ·obtain ⟨k4,k5⟩:=setO_live rfl k3
         exact hS.relL.dist j id bj bi k4 k1 hb k5 hlive k2
      ·exact ⟨a,0,rfl,⟨Nat.le_refl _,Nat.zero_le _⟩,.inl rfl⟩
     ·exact ⟨_,_,h,FrzTo.refl _ _ _⟩
    ·simp at hcond
   ·exact ⟨_,_,h,FrzTo.refl _ _ _⟩
  ·exact ⟨_,_,h,FrzTo.refl _ _ _⟩
 ·exact ⟨_,_,h,FrzTo.refl _ _ _⟩
theorem frzVs_sound {ro:Nat}:∀ (xs:List AV) (L:List AO) {K:List AV→List AO→Prop},frzVs ro L xs K→∃ ys L',K ys L' ∧
  ∀ (X:Fx) (B:List (Option BI)) (env:Env) (a:Act) (w:World) (us:List Value),X.M.ro=ro→St X B env L a w→RelVs B (Sr X.M B L w) xs us →
   St X B env L' a w∧(Sr X.M B L w).le (Sr X.M B L' w)∧RelVs B (Sr X.M B L' w) ys us
 | [],L,K,h=>⟨[],L,h,fun _ _ _ _ _ _ _ hS hu=>⟨hS,Rd.le_refl _,hu⟩⟩
 | x::xs,L,K,h=>by
  simp only [frzVs] at h
  obtain ⟨y,L1,h1,hy⟩:=frzK_sound h
  obtain ⟨ys,L2,h2,hys⟩:=frzVs_sound xs L1 h1
  refine ⟨_,_,h2,fun X B env a w us hX hS hu=> ?_⟩
  simp only [RelVs] at hu ⊢
  obtain ⟨u,r,rfl,k1,k2⟩:=hu
  obtain ⟨s1,l1,r1⟩:=hy X B env a w u hX hS k1
  obtain ⟨s2,l2,r2⟩:=hys X B env a w r hX s1 (RelVs.mono (Ble.refl B) l1 _ _ k2)
  exact ⟨s2,Rd.le_trans l1 l2,u,r,rfl,RelV.mono (Ble.refl B) l2 _ _ r1,r2⟩
theorem frzA_sound {ro:Nat}{L:List AO}{x:AV}{K:AV→List AO→Prop}(h:frzA ro L x K):∃ y L',K y L'∧FrzTo ro L x L' y:=by
 unfold frzA at h
 split at h
 ·rename_i xs
  obtain ⟨ys,L',h1,h2⟩:=frzVs_sound xs L h
  refine ⟨_,_,h1,fun X B env a w u hX hS hu=> ?_⟩
  simp only [RelV] at hu
  obtain ⟨arr,rfl,k1,k2⟩:=hu
  obtain ⟨s1,l1,r1⟩:=h2 X B env a w _ hX hS k2
  exact ⟨s1,l1,mkAgg_sound r1 k1⟩
 ·exact frzK_sound h
theorem frzPs_sound {ro:Nat}:∀ (ps:List (Nat×AV)) (L:List AO) {K:List (Nat×AV)→List AO→Prop},frzPs ro L ps K→∃ qs L',K qs L'∧qs.map (·.1)=ps.map (·.1) ∧
  ∀ (X:Fx) (B:List (Option BI)) (env:Env) (a:Act) (w:World) (us:List Value),X.M.ro=ro→St X B env L a w→RelVs B (Sr X.M B L w) (ps.map (·.2)) us →
   St X B env L' a w∧(Sr X.M B L w).le (Sr X.M B L' w)∧RelVs B (Sr X.M B L' w) (qs.map (·.2)) us
 | [],L,K,h=>⟨[],L,h,rfl,fun _ _ _ _ _ _ _ hS hu=>⟨hS,Rd.le_refl _,hu⟩⟩
 | (i,x)::xs,L,K,h=>by
  simp only [frzPs] at h
  obtain ⟨y,L1,h1,hy⟩:=frzA_sound h
  obtain ⟨ys,L2,h2,h3,hys⟩:=frzPs_sound xs L1 h1
  refine ⟨_,_,h2,by simp [h3],fun X B env a w us hX hS hu=> ?_⟩
  simp only [List.map_cons,RelVs] at hu ⊢
  obtain ⟨u,r,rfl,k1,k2⟩:=hu
  obtain ⟨s1,l1,r1⟩:=hy X B env a w u hX hS k1
  obtain ⟨s2,l2,r2⟩:=hys X B env a w r hX s1 (RelVs.mono (Ble.refl B) l1 _ _ k2)
  exact ⟨s2,Rd.le_trans l1 l2,u,r,rfl,RelV.mono (Ble.refl B) l2 _ _ r1,r2⟩
theorem buildF_sound (htb:TbOk P tb){X:Fx}(hgl:X.gl=gl){ro:Nat}(hro:X.M.ro=ro){B:List (Option BI)}{env:Env}{L:List AO}{a:Act}{w:World}(h:St X B env L a w){o:Oper}{t:TypeId}{n:Nat}{ps:Array (Nat×Operand)}(ho:o.op= .buildSlice t n ps)
  {K:AV→Env→List AO→Prop} (hK:frzPs ro L (ps.toList.map fun p=>(p.1,evO gl env .no .no p.2)) fun ps L=>opBuildSlice tb t n ps fun x=>K x env L):StepTo P X o env K a w:=by
 subst hgl
 obtain ⟨qs,L',hK,hq,hf⟩:=frzPs_sound _ _ hK
 have hev:=fun x=>evO_sound (key:= .no) (key2:= .no) h.glob h.relE trivial trivial x
 have hps:RelVs B (Sr X.M B L w) ((ps.toList.map fun p=>(p.1,evO X.gl env .no .no p.2)).map (·.2)) (ps.toList.map fun p=>a.eval p.2):=by
  have:=RelVs.map (B:=B) (S:=Sr X.M B L w) (ev:=evO X.gl env .no .no) (ρ:=a.eval) (ps.toList.map (·.2)) (fun o _=>hev o)
  simpa [List.map_map,Function.comp_def] using this
 obtain ⟨hS',_,hr⟩:=hf X B env a w _ hro h hps
 obtain ⟨z,hz,hh⟩:=opBuildSlice_sound htb hK
 have hlen:qs.length=ps.size:=by have:=congrArg List.length hq; simpa using this
 obtain ⟨r,w',h1,h2,h3⟩:=hh X.M B L' w (ps.map fun p=>(p.1,a.eval p.2)) hS'.relL (by simp [hlen]) (fun j p q hp hqq=>by
  simp only [Array.getElem?_map,Option.map_eq_some_iff] at hqq
  obtain ⟨q',e2,rfl⟩:=hqq
  have e1:(qs.map (·.1))[j]? =some p.1:=by simp [hp]
  rw [hq] at e1
  simp only [List.map_map,List.getElem?_map,Array.getElem?_toList,e2,Option.map_some,Option.some.injEq,Function.comp_def] at e1
  refine ⟨e1.symm,?_⟩
  obtain ⟨u,k1,k2⟩:=RelVs.nth _ _ j p.2 hr (by simp [hp])
  simp only [List.getElem?_map,Array.getElem?_toList,e2,Option.map_some,Option.some.injEq] at k1
  rw [k1]; exact k2)
 exact StepTo.value (by simp [execOp,ho,h1]) hz rfl (hS'.ext h2) h3
theorem makeMap_sound {X:Fx}{B:List (Option BI)}{env:Env}{L:List AO}{a:Act}{w:World}(h:St X B env L a w){o:Oper}{t:TypeId}(ho:o.op= .makeMap t none)
  {K:AV→Env→List AO→Prop} (hK:K (.mpv L.length) env (L++[.mp []])):StepTo P X o env K a w:=by
 obtain ⟨h1,h2⟩:=h.push (ext_alloc w (.map #[] 0)) (some ⟨w.heap.size,0,0,0⟩) (.mp []) (fun bi e=>by simp only [Option.some.injEq] at e; subst e; exact ⟨Nat.le_refl _,(Array.getElem?_eq_some_iff.1 (heap_alloc w (.map #[] 0))).1⟩) (fun hS =>
  ⟨_,#[],0,rfl,heap_alloc w _,rfl,Bst.nil⟩)
 refine StepTo.value (u:= .map (some w.heap.size)) (by simp [execOp,ho,Instr.makeMap]) hK rfl h1 ?_
 simp only [RelV]
 refine ⟨⟨w.heap.size,0,0,0⟩,?_,rfl⟩
 rw [← h.relL.len]; simp
theorem mapPut_sound (htb:TbOk P tb){X:Fx}(hgl:X.gl=gl){ro:Nat}(hro:X.M.ro=ro){B:List (Option BI)}{env:Env}{L:List AO}{a:Act}{w:World}(h:St X B env L a w){o:Oper}{t:TypeId}{m k x:Operand}(ho:o.op= .mapUpdate t m k x)
  {K:List AO→Prop} {K':AV→Env→List AO→Prop} (hKK:∀ L',K L'→K' .any env L') (hK:opMapPut P tb ro L t (evO gl env .no .no m) (evO gl env .no .no k) (evO gl env .no .no x) K):StepTo P X o env K' a w:=by
 subst hgl; subst hro
 unfold opMapPut at hK
 have hev:=fun x=>evO_sound (key:= .no) (key2:= .no) h.glob h.relE trivial trivial x
 split at hK
 ·rename_i kt et ht
  obtain ⟨d,hu,hT⟩:=(htb t).under (by simp [ht,TK.isOther])
  rw [ht] at hT
  simp only [TKok] at hT
  subst hT
  split at hK
  ·rename_i id hm
   have hmv:=hev m
   rw [hm] at hmv
   simp only [RelV] at hmv
   obtain ⟨bi,hb,hmv⟩:=hmv
   split at hK
   ·exact hK.elim
   rename_i hro
   have hro:=Nat.le_of_ble_eq_true hro
   obtain ⟨y,L1,hK,hfrz⟩:=frzA_sound hK
   obtain ⟨S1,le1,r1⟩:=hfrz X B env a w _ rfl h (hev x)
   split at hK
   ·rename_i hcl
    split at hK
    ·rename_i mm hO
     split at hK
     ·rename_i kv hkv
      obtain ⟨hk,hmo,hK⟩:=hK
      have hkr:=keyV_rel hkv (hev k)
      have hKL:=keyL_of htb hk hmo
      have hob:=S1.relL.obj id _ hb
      rw [hO] at hob
      simp only [RelO] at hob
      obtain ⟨bi',es,clock,e1,e2,e3,e4⟩:=hob
      simp only [Option.some.injEq] at e1
      subst e1
      have hck:=hKL.check false w
      have hgo:(getObj bi.b).run P w= .ok (.map es clock) w:=by simp [getObj,Sem.run,e2]
      have hset:=fun ob=>MapKept.run_setObj_map (P:=P) (w:=w) ob e2
      have hbl:bi.b<w.heap.size:=S1.relL.bnd id bi hb
      have hlive:(getO L1 id).live=true:=by rw [hO]; rfl
      have hlt:=live_lt hlive
      have hy0:∀ S,(Sr X.M B L1 w).le S→RelV [] S y (a.eval x):=fun S hS=>closed_rel hS _ _ hcl r1
      have hB:=set_same hb
      have fin:∀ (es':Array MapEntry) (clock':Nat),(∀ S,(Sr X.M B L1 w).le S→RelM S (mPut kv y mm) es'.toList)→Bst es' clock' →
        (Instr.mapUpdate t (a.eval m) (a.eval k) (a.eval x)).run P w= .ok () { w with heap:=w.heap.setIfInBounds bi.b (.map es' clock') }→StepTo P X o env K' a w:=by
       intro es' clock' hr hbst hrun
       have hsz:({ w with heap:=w.heap.setIfInBounds bi.b (.map es' clock') }:World).heap.size=w.heap.size:=by simp
       have:=(S1.upd (env':=env) (L':=setO L1 id (.mp (mPut kv y mm))) (w':={ w with heap:=w.heap.setIfInBounds bi.b (.map es' clock') }) hro (bo:=some bi) (bo':=some bi) (x':= .mp (mPut kv y mm)) hb hlive rfl
        (setO_length L1 id _) (by rw [getO_setO L1 id id _ hlt,if_pos rfl])
        (fun j hj=>by rw [getO_setO L1 id j _ hlt,if_neg hj]) (fun j hj=>by rw [getO_setO L1 id j _ hlt,if_neg hj]) (by rw [hO]; rfl) (fun _=>rfl) rfl rfl rfl (by rw [hsz]; exact Nat.le_refl _)
        (fun k hk hne=>by
         have:=hne bi rfl
         simp [Ne.symm this])
        (fun bi' e=>by simp only [Option.some.injEq] at e; subst e; exact ⟨by rw [hsz]; exact hbl,.inl ⟨bi,rfl,rfl⟩⟩)
        (fun hS j hj bj hr=>by rw [getO_setO L1 id j _ hlt,if_neg hj,hB]; rw [hB] at hr; exact hr)
        (fun hS=>by rw [hB] at hS ⊢; exact S1.relE.mono (Ble.refl B) hS)
        (fun hS=>by
         rw [hB] at hS ⊢
         simp only [RelO]
         exact ⟨bi,es',clock',rfl,by simp [hbl],hr _ hS,hbst⟩)).1
       rw [hB] at this
       exact StepTo.skip (by simp [execOp,ho,hrun]) (hKK _ hK) rfl this
      rcases hKL.find es.toList w e3 with ⟨_,k2,k3⟩|⟨j,e,_,_,k2,k3,_,k5,k6⟩
      ·have hf:=k2
       refine fin (es.push { key:=kv,val:=a.eval x,born:=clock }) (clock+1) (fun S hS=> ?_) (e4.push _ _) ?_
       ·rw [Array.toList_push]
        rcases hKL.find es.toList w (RelM.mono hS _ _ e3) with ⟨_,_,q3⟩|⟨_,_,_,_,q2,_⟩
        ·exact q3 _ _ _ (hy0 S hS)
        ·rw [k2] at q2; simp at q2
       ·rw [hmv,hkr]
        simp [Instr.mapUpdate,run_underlying hu,hgo,hck,hf,hset]
      ·have hf:=k2
       refine fin (es.modify j fun e=>{ e with key:=kv,val:=a.eval x }) clock (fun S hS=> ?_) (e4.modify _ _ _) ?_
       ·rw [Array.toList_modify]
        rcases hKL.find es.toList w (RelM.mono hS _ _ e3) with ⟨_,q2,_⟩|⟨j',_,_,_,q2,_,_,_,q6⟩
        ·rw [k2] at q2; simp at q2
        ·rw [k2] at q2
         simp only [Result.ok.injEq,Option.some.injEq,Prod.mk.injEq] at q2
         obtain rfl:j=j':=q2.1.1
         exact q6 _ _ (hy0 S hS)
       ·have hge:es[j]? =some e:=by simpa using k3
        rw [hmv,hkr]
        simp [Instr.mapUpdate,run_underlying hu,hgo,hck,hf,hset,hge,k5,Instr.keyThatStays,hKL.stays]
     ·exact hK.elim
    ·exact hK.elim
   ·exact hK.elim
  ·exact hK.elim
 ·exact hK.elim
theorem delete_sound (htb:TbOk P tb){X:Fx}(hgl:X.gl=gl){ro:Nat}(hro:X.M.ro=ro){B:List (Option BI)}{env:Env}{L:List AO}{a:Act}{w:World}(h:St X B env L a w){o:Oper}{c:Call}{t:TypeId}{ts:List TypeId}{m k:Operand}
  (ho:o.op= .call c) (hc:c.callee= .builtin .delete) (hargs:c.args.toList=[m,k]) (hts:c.argTypes.toList=t::ts)
  {K:AV→Env→List AO→Prop} (hK:opDelete P tb ro L t (evO gl env .no .no m) (evO gl env .no .no k) fun L'=>K (.tup []) env L'):StepTo P X o env K a w:=by
 subst hgl; subst hro
 have e1:c.args.map a.eval= #[a.eval m,a.eval k]:=by apply Array.ext'; simp [hargs]
 have e2:c.argTypes=(t::ts).toArray:=by apply Array.ext'; simp [hts]
 have hexec:∀ r w',(Builtin.delete_ (t::ts).toArray o.type #[a.eval m,a.eval k]).run P w= .ok r w'→(execOp a.eval o).run P w= .ok (.value r) w':=by
  intro r w' hr
  simp [execOp,ho,resolve,hc,invoke,builtin,e1,e2,hr]
 unfold opDelete at hK
 have hev:=fun x=>evO_sound (key:= .no) (key2:= .no) h.glob h.relE trivial trivial x
 split at hK
 ·rename_i kt et hkd
  obtain ⟨d,hd,hT⟩:=(htb t).under (by simp [hkd,TK.isOther])
  rw [hkd] at hT
  simp only [TKok] at hT
  subst hT
  split at hK
  ·rename_i id hx
   have hmx:=hev m
   rw [hx] at hmx
   simp only [RelV] at hmx
   obtain ⟨bi,hb,hmv⟩:=hmx
   split at hK
   ·exact hK.elim
   rename_i hro
   have hro:=Nat.le_of_ble_eq_true hro
   split at hK
   ·rename_i mm hO
    split at hK
    ·rename_i kv hkv
     obtain ⟨hk,hmo,hK⟩:=hK
     have hkr:=keyV_rel hkv (hev k)
     have hKL:=keyL_scalar htb hk hmo
     have hob:=h.relL.obj id _ hb
     rw [hO] at hob
     simp only [RelO] at hob
     obtain ⟨bi',es,clock,q1,q2,q3,q4⟩:=hob
     simp only [Option.some.injEq] at q1
     subst q1
     have hck:=fun e=>hKL.check e w
     have hgo:(getObj bi.b).run P w= .ok (.map es clock) w:=by simp [getObj,Sem.run,q2]
     have hset:=fun ob=>MapKept.run_setObj_map (P:=P) (w:=w) ob q2
     have hbl:bi.b<w.heap.size:=h.relL.bnd id bi hb
     have hlive:(getO L id).live=true:=by rw [hO]; rfl
     have hlt:=live_lt hlive
     have hB:=set_same hb
     have fin:∀ (es':Array MapEntry),(∀ S,(Sr X.M B L w).le S→RelM S (mDel kv mm) es'.toList)→Bst es' clock →
       (Builtin.delete_ (t::ts).toArray o.type #[a.eval m,a.eval k]).run P w= .ok (.tuple #[]) { w with heap:=w.heap.setIfInBounds bi.b (.map es' clock) }→StepTo P X o env K a w:=by
      intro es' hr hbst hrun
      have hsz:({ w with heap:=w.heap.setIfInBounds bi.b (.map es' clock) }:World).heap.size=w.heap.size:=by simp
      have:=(h.upd (env':=env) (L':=setO L id (.mp (mDel kv mm))) (w':={ w with heap:=w.heap.setIfInBounds bi.b (.map es' clock) }) hro (bo:=some bi) (bo':=some bi) (x':= .mp (mDel kv mm)) hb hlive rfl
       (setO_length L id _) (by rw [getO_setO L id id _ hlt,if_pos rfl])
       (fun j hj=>by rw [getO_setO L id j _ hlt,if_neg hj]) (fun j hj=>by rw [getO_setO L id j _ hlt,if_neg hj]) (by rw [hO]; rfl) (fun _=>rfl) rfl rfl rfl (by rw [hsz]; exact Nat.le_refl _)
       (fun k hk hne=>by
        have:=hne bi rfl
        simp [Ne.symm this])
       (fun bi' e=>by simp only [Option.some.injEq] at e; subst e; exact ⟨by rw [hsz]; exact hbl,.inl ⟨bi,rfl,rfl⟩⟩)
       (fun hS j hj bj hr=>by rw [getO_setO L id j _ hlt,if_neg hj,hB]; rw [hB] at hr; exact hr)
       (fun hS=>by rw [hB] at hS ⊢; exact h.relE.mono (Ble.refl B) hS)
       (fun hS=>by
        rw [hB] at hS ⊢
        simp only [RelO]
        exact ⟨bi,es',clock,rfl,by simp [hbl],hr _ hS,hbst⟩)).1
      rw [hB] at this
      refine StepTo.value (u:= .tuple #[]) (hexec _ _ hrun) hK rfl this ?_
      simp only [RelV]
      exact ⟨#[],rfl,rfl⟩
     rcases delK htb hk hmo es.toList w q3 with ⟨k2,k3⟩|⟨j,e,k2,k3,k4⟩
     ·have hf:=k2
      refine fin es (fun S hS=>RelM.mono hS _ _ k3) q4 ?_
      rw [hmv,hkr]
      simp [Builtin.delete_,run_underlying hd,hgo,hck,hf,hset]
     ·have hf:=k2
      have ee:(es.eraseIdxIfInBounds j).toList=es.toList.eraseIdx j:=by
       have hj:j<es.size:=by
        have:=(List.getElem?_eq_some_iff.1 k3).1
        simpa using this
       unfold Array.eraseIdxIfInBounds
       rw [dif_pos hj]
       simp
      refine fin (es.eraseIdxIfInBounds j) (fun S hS=>by rw [ee]; exact RelM.mono hS _ _ k4) (q4.erase _) ?_
      rw [hmv,hkr]
      simp [Builtin.delete_,run_underlying hd,hgo,hck,hf,hset]
    ·exact hK.elim
   ·exact hK.elim
  ·exact hK.elim
 ·exact hK.elim
theorem buildOwn_cells (htb:TbOk P tb){t:TypeId}{len:Nat}{L:List AO}{ps:List (Nat×AV)}{K:AV→List AO→Prop}(h:opBuildOwn tb L t len ps K) :
  ∃ e l,K (.own L.length (tb e).sz 0 len) (L++[.row (tb e).sz len (nthC l)])∧∀ (M:Mz) (B:List (Option BI)) (w:World) (vs:Array (Nat×Value)),RelL M B L w→ps.length=vs.size →
   (∀ (j:Nat) (p:Nat×AV) (q:Nat×Value),ps[j]? =some p→vs[j]? =some q→p.1=q.1∧RelV B (Sr M B L w) p.2 q.2) →
   ∃ cs',(Instr.buildSlice t len vs).run P w= .ok (.slice (some ⟨w.heap.size,0,none⟩) len len) (w.alloc (.cells cs' e))∧len*(tb e).sz≤cs'.size∧len≤140737488355328 ∧
    ∀ i,i<len→(nthC l i).length=(tb e).sz∧RepCs (Sr M B L w) (fun o u=>cs'[o]? =some u) (i*(tb e).sz) (nthC l i):=by
 unfold opBuildOwn at h
 split at h
 ·rename_i e hk
  obtain ⟨d,hd,hT⟩:=(htb t).under (by simp [hk,TK.isOther])
  rw [hk] at hT
  simp only [TKok] at hT
  subst hT
  split at h
  ·exact h.elim
  rename_i ho
  split at h
  ·exact h.elim
  rename_i hsz
  split at h
  ·exact h.elim
  rename_i xs hxs
  split at h
  ·exact h.elim
  rename_i hlen
  split at h
  ·exact h.elim
  rename_i l hl
  split at h
  ·rename_i hall
   rw [appK0] at h
   refine ⟨e,l,h,fun M B w vs hL hn hp=> ?_⟩
   have hsz0:len*((tb e).sz+1)≤16777216:=Nat.le_of_ble_eq_true hsz
   rw [Nat.mul_add,Nat.mul_one] at hsz0
   have hsz:len*(tb e).sz≤16777216:=by omega
   have hlen:=Nat.beq_spec hlen
   obtain ⟨a1,a2⟩:=inTurn_spec _ _ _ hxs
   obtain ⟨b1,b2⟩:=rowsC_spec (B:=B) (S:=Sr M B L w) xs l hl
   have hs:=(htb e).size ho w
   obtain ⟨i,d',z,hi,_,_,hs1,_,hz1,hz2,hz3,_⟩:=(htb e).ok ho
   have hq:∀ (j:Nat) (q:Nat×Value),vs.toList[j]? =some q→∃ row,l[j]? =some row∧q.1=j∧RepVs (Sr M B L w) row q.2.cells.toList:=by
    intro j q hj
    have hj':j<ps.length:=by
     have:=(List.getElem?_eq_some_iff.1 hj).1
     simp at this; omega
    obtain ⟨g1,g2⟩:=hp j ps[j] q (List.getElem?_eq_getElem hj') (by simpa using hj)
    obtain ⟨k1,k2⟩:=a2 j ps[j] (List.getElem?_eq_getElem hj')
    obtain ⟨row,r1,r2⟩:=b2 j _ k2
    exact ⟨row,r1,by omega,r2 _ g2⟩
   let init:Array Value:=(Array.range (len*(tb e).sz)).map (fun x=>(if len*(tb e).sz=0 then #[] else z.cells)[x%(if len*(tb e).sz=0 then #[] else z.cells).size]!)
   obtain ⟨cs',k1,k2,_,k4⟩:=fill_rows (tb e).sz len vs.toList 0 init (by simp [init]) (fun j q hj=>by
    obtain ⟨row,r1,r2,r3⟩:=hq j q hj
    have:=RepVs.length _ _ r3
    have h2:=allLen_spec l hall row (List.mem_of_getElem? r1)
    simp at this
    exact ⟨by omega,by omega⟩) (by simp; omega)
   refine ⟨cs',?_,by rw [k2]; simp [init],by omega,fun i hi=> ?_⟩
   ·have hz:(zeroValue e).run P w= .ok z w:=by simp [zeroValue,typeInfo,hi,hz1]
    have hnot:¬ len*(tb e).sz>2 ^ 24:=by omega
    simp only [Instr.buildSlice,Sem.run_bind,run_underlying hd w,Result.andThen_ok,hs,hnot,if_false]
    by_cases h0:len*(tb e).sz=0
    ·simp only [h0,if_true,Sem.run_pure,Result.andThen_ok,Sem.run_bind]
     simp only [init,h0,if_true] at k1
     rw [k1]
     simp only [Sem.run_bind,run_newRow,Result.andThen_ok,Sem.run_pure]
    ·simp only [h0,if_false,Sem.run_bind,hz,Result.andThen_ok,Sem.run_pure]
     simp only [init,h0,if_false] at k1
     rw [k1]
     simp only [Sem.run_bind,run_newRow,Result.andThen_ok,Sem.run_pure]
   ·have hvl:i<vs.toList.length:=by simp; omega
    obtain ⟨row,r1,r2,r3⟩:=hq i vs.toList[i] (List.getElem?_eq_getElem hvl)
    have hrow:nthC l i=row:=by simp [nthC,List.getD,r1]
    have h2:=allLen_spec l hall row (List.mem_of_getElem? r1)
    have h3:=RepVs.length _ _ r3
    rw [hrow]
    refine ⟨h2,RepVs.toRepCs row _ _ r3 fun j v hv=> ?_⟩
    have hj:j<(tb e).sz:=by
     have:=(List.getElem?_eq_some_iff.1 hv).1
     omega
    have:=k4 i vs.toList[i] (List.getElem?_eq_getElem hvl) j hj
    simp only [Nat.zero_add] at this ⊢
    rw [this]
    simpa using hv
  ·exact h.elim
 ·exact h.elim
theorem buildOwn_sound (htb:TbOk P tb){X:Fx}(hgl:X.gl=gl){ro:Nat}(hro:X.M.ro=ro){B:List (Option BI)}{env:Env}{L:List AO}{a:Act}{w:World}(h:St X B env L a w){o:Oper}{t:TypeId}{n:Nat}{ps:Array (Nat×Operand)}(ho:o.op= .buildSlice t n ps)
  {K:AV→Env→List AO→Prop} (hK:frzPs ro L (ps.toList.map fun p=>(p.1,evO gl env .no .no p.2)) fun ps L=>opBuildOwn tb L t n ps fun x L=>K x env L):StepTo P X o env K a w:=by
 subst hgl
 obtain ⟨qs,L',hK,hq,hf⟩:=frzPs_sound _ _ hK
 have hev:=fun x=>evO_sound (key:= .no) (key2:= .no) h.glob h.relE trivial trivial x
 have hps:RelVs B (Sr X.M B L w) ((ps.toList.map fun p=>(p.1,evO X.gl env .no .no p.2)).map (·.2)) (ps.toList.map fun p=>a.eval p.2):=by
  have:=RelVs.map (B:=B) (S:=Sr X.M B L w) (ev:=evO X.gl env .no .no) (ρ:=a.eval) (ps.toList.map (·.2)) (fun o _=>hev o)
  simpa [List.map_map,Function.comp_def] using this
 obtain ⟨hS',_,hr⟩:=hf X B env a w _ hro h hps
 obtain ⟨e,l,hz,hh⟩:=buildOwn_cells htb hK
 have hlen:qs.length=ps.size:=by have:=congrArg List.length hq; simpa using this
 obtain ⟨cs',h1,h2,h3,h4⟩:=hh X.M B w (ps.map fun p=>(p.1,a.eval p.2)) hS'.relL (by simp [hlen]) (fun j p q hp hqq=>by
  simp only [Array.getElem?_map,Option.map_eq_some_iff] at hqq
  obtain ⟨q',e2,rfl⟩:=hqq
  have e1:(qs.map (·.1))[j]? =some p.1:=by simp [hp]
  rw [hq] at e1
  simp only [List.map_map,List.getElem?_map,Array.getElem?_toList,e2,Option.map_some,Option.some.injEq,Function.comp_def] at e1
  refine ⟨e1.symm,?_⟩
  obtain ⟨u,k1,k2⟩:=RelVs.nth _ _ j p.2 hr (by simp [hp])
  simp only [List.getElem?_map,Array.getElem?_toList,e2,Option.map_some,Option.some.injEq] at k1
  rw [k1]; exact k2)
 obtain ⟨B',g1,g2⟩:=hS'.row (ext_alloc w (.cells cs' e)) cs' e (RowAt.of (heap_alloc w _)) (by simp) (tb e).sz n n (nthC l) (Nat.le_refl _) h3 h2 h4
 exact StepTo.value (by simp [execOp,ho,h1]) hz rfl g1 g2
theorem RelVs.of_nth {B:List (Option BI)}{S:Rd}:∀ (xs:List AV) (us:List Value),xs.length=us.length→(∀ (j:Nat) x u,xs[j]? =some x→us[j]? =some u→RelV B S x u)→RelVs B S xs us
 | [],[],_,_=>rfl
 | [],_::_,h,_=>by simp at h
 | _::_,[],h,_=>by simp at h
 | x::xs,u::us,h,hh=>⟨u,us,rfl,hh 0 x u rfl rfl,RelVs.of_nth xs us (by simpa using h) fun j y v hy hv=>hh (j+1) y v (by simpa using hy) (by simpa using hv)⟩
theorem oneCs_spec:∀ {xs:List AV},oneCs xs=true→∀ x ∈ xs,cellsA x=some [x]
 | [],_,x,hx=>by simp at hx
 | y::r,h,x,hx=>by
  have hr:oneCs r=true∧cellsA y=some [y]:=by
   cases y<;>simp_all [oneCs,cellsA]
  rcases List.mem_cons.1 hx with rfl|hx
  ·exact hr.2
  ·exact oneCs_spec hr.1 x hx
theorem buildBox_sound (htb:TbOk P tb){X:Fx}(hgl:X.gl=gl){B:List (Option BI)}{env:Env}{L:List AO}{a:Act}{w:World}(h:St X B env L a w){o:Oper}{t:TypeId}{n:Nat}{ps:Array (Nat×Operand)}(ho:o.op= .buildSlice t n ps)
  {K:AV→Env→List AO→Prop} (hK:opBuildBox tb L t n (ps.toList.map fun p=>(p.1,evO gl env .no .no p.2)) fun x L=>K x env L):StepTo P X o env K a w:=by
 subst hgl
 have hev:=fun x=>evO_sound (key:= .no) (key2:= .no) h.glob h.relE trivial trivial x
 unfold opBuildBox at hK
 split at hK
 ·rename_i e hk
  obtain ⟨d,hd,hT⟩:=(htb t).under (by simp [hk,TK.isOther])
  rw [hk] at hT
  simp only [TKok] at hT
  subst hT
  split at hK
  ·exact hK.elim
  rename_i ho2
  split at hK
  ·exact hK.elim
  rename_i hone
  have hone:=Nat.beq_spec hone
  split at hK
  ·exact hK.elim
  rename_i hsz
  split at hK
  ·exact hK.elim
  rename_i xs hxs
  split at hK
  ·exact hK.elim
  rename_i hlen
  split at hK
  ·rename_i hoc
   rw [appK0] at hK
   have hlen:=Nat.beq_spec hlen
   have hsz0:n*((tb e).sz+1)≤16777216:=Nat.le_of_ble_eq_true hsz
   rw [hone] at hsz0
   obtain ⟨a1,a2⟩:=inTurn_spec _ _ _ hxs
   have hs:=(htb e).size ho2 w
   obtain ⟨i,d',z,hi,_,_,hs1,_,hz1,hz2,hz3,_⟩:=(htb e).ok ho2
   have hvl:xs.length=ps.size:=by rw [a1]; simp
   let vs:=ps.map fun p=>(p.1,a.eval p.2)
   have hq:∀ (j:Nat) (q:Nat×Value),vs.toList[j]? =some q→∃ x,xs[j]? =some x∧q.1=j∧RelV B (Sr X.M B L w) x q.2:=by
    intro j q hj
    simp only [vs,Array.toList_map,List.getElem?_map,Option.map_eq_some_iff] at hj
    obtain ⟨p,hp,rfl⟩:=hj
    obtain ⟨k1,k2⟩:=a2 j (p.1,evO X.gl env .no .no p.2) (by rw [List.getElem?_map,hp]; rfl)
    exact ⟨_,k2,by simpa using k1,hev p.2⟩
   have hcell:∀ (j:Nat) (q:Nat×Value) x,vs.toList[j]? =some q→xs[j]? =some x→RelV B (Sr X.M B L w) x q.2→q.2.cells.size=1∧(∀ v ∈ q.2.cells.toList,v.oneCell'=true)∧∀ v,q.2.cells[0]? =some v→RelV B (Sr X.M B L w) x v:=by
    intro j q x hj hx hr
    obtain ⟨c1,c2⟩:=cells_rel (oneCs_spec hoc x (List.mem_of_getElem? hx)) hr
    simp only [RelVs] at c1
    obtain ⟨v,r,e1,e2,rfl⟩:=c1
    have hz:q.2.cells.size=1:=by rw [← Array.length_toList,e1]; rfl
    refine ⟨hz,c2,fun u hu=> ?_⟩
    rw [← Array.getElem?_toList,e1] at hu
    simp at hu
    subst hu
    exact e2
   let init:Array Value:=(Array.range (n*(tb e).sz)).map (fun x=>(if n*(tb e).sz=0 then #[] else z.cells)[x%(if n*(tb e).sz=0 then #[] else z.cells).size]!)
   obtain ⟨cs',k1,k2,_,k4⟩:=fill_rows (tb e).sz n vs.toList 0 init (by simp [init]) (fun j q hj=>by
    obtain ⟨x,r1,r2,r3⟩:=hq j q hj
    exact ⟨by omega,by rw [hone]; exact (hcell j q x hj r1 r3).1⟩) (by simp [vs]; omega)
   have hcs:cs'.size=n:=by rw [k2]; simp [init,hone]
   have hz:(zeroValue e).run P w= .ok z w:=by simp [zeroValue,typeInfo,hi,hz1]
   have hnot:¬ n*(tb e).sz>2 ^ 24:=by rw [hone]; omega
   have hrun:(Instr.buildSlice t n vs).run P w= .ok (.slice (some ⟨w.heap.size,0,none⟩) n n) (w.alloc (.cells cs' e)):=by
    simp only [Instr.buildSlice,Sem.run_bind,run_underlying hd w,Result.andThen_ok,hs,hnot,if_false]
    by_cases h0:n*(tb e).sz=0
    ·simp only [h0,if_true,Sem.run_pure,Result.andThen_ok,Sem.run_bind]
     simp only [init,h0,if_true] at k1
     rw [k1]
     simp only [Sem.run_bind,run_newRow,Result.andThen_ok,Sem.run_pure]
    ·simp only [h0,if_false,Sem.run_bind,hz,Result.andThen_ok,Sem.run_pure]
     simp only [init,h0,if_false] at k1
     rw [k1]
     simp only [Sem.run_bind,run_newRow,Result.andThen_ok,Sem.run_pure]
   have hvs:vs.toList.length=n:=by simp [vs]; omega
   have hat:∀ j (hj:j<n),∃ x q,xs[j]? =some x∧vs.toList[j]? =some q∧cs'[j]? =q.2.cells[0]? ∧RelV B (Sr X.M B L w) x q.2:=fun j hj=>by
    have hj':j<vs.toList.length:=by omega
    obtain ⟨x,r1,r2,r3⟩:=hq j vs.toList[j] (List.getElem?_eq_getElem hj')
    have:=k4 j vs.toList[j] (List.getElem?_eq_getElem hj') 0 (by omega)
    rw [hone] at this
    simp only [Nat.zero_add,Nat.mul_one,Nat.add_zero] at this
    exact ⟨x,_,r1,List.getElem?_eq_getElem hj',this,r3⟩
   have hrel:RelVs B (Sr X.M B L w) xs cs'.toList:=RelVs.of_nth _ _ (by simp; omega) fun j x u hx hu=>by
    have hj:j<n:=by have:=(List.getElem?_eq_some_iff.1 hx).1; omega
    obtain ⟨x',q,r1,r2,r3,r4⟩:=hat j hj
    rw [hx,Option.some.injEq] at r1
    subst r1
    exact (hcell j q x r2 hx r4).2.2 u (by rw [← r3]; simpa using hu)
   have hall:∀ v ∈ cs'.toList,v.oneCell'=true:=fun v hv=>by
    obtain ⟨j,hj⟩:=List.mem_iff_getElem?.1 hv
    have hjn:j<n:=by have:=(List.getElem?_eq_some_iff.1 hj).1; simp at this; omega
    obtain ⟨x',q,r1,r2,r3,r4⟩:=hat j hjn
    refine (hcell j q x' r2 r1 r4).2.1 v ?_
    have h9:q.2.cells[0]? =some v:=by rw [← r3]; simpa using hj
    have h10:q.2.cells.toList[0]? =some v:=by simpa using h9
    exact List.mem_of_getElem? h10
   obtain ⟨h1,h2⟩:=h.push (ext_alloc w (.cells cs' e)) (some ⟨w.heap.size,0,cs'.size,cs'.size⟩) (.box xs) (fun bi e=>by simp only [Option.some.injEq] at e; subst e; simp) (fun hS =>
    ⟨_,cs',e,rfl,heap_alloc w _,rfl,⟨rfl,rfl⟩,hall,RelVs.mono (Ble.app B _) hS _ _ hrel⟩)
   refine StepTo.value (u:= .slice (some ⟨w.heap.size,0,none⟩) n n) (by simp [execOp,ho,vs] at hrun ⊢; rw [hrun]; rfl) hK rfl h1 ?_
   simp only [RelV]
   refine .inl ⟨⟨w.heap.size,0,cs'.size,cs'.size⟩,n,?_,by simp,⟨Nat.le_refl _,by omega⟩,by simp; omega,by simp; omega⟩
   rw [← h.relL.len]; simp
  ·exact hK.elim
 ·exact hK.elim
theorem freeze_heap {w:World}{b n:Nat}{cs:Array Value}{ty:TypeId}{fz:Nat×Nat}(h:w.heap[b]? =some (.cells cs ty fz)) :
  (w.freeze ⟨b,n,none⟩ 1).heap[b]? =some (.cells cs ty (if fz.1==fz.2 then (n,n+1) else (min fz.1 n,max fz.2 (n+1)))):=by
 have hlt:b<w.heap.size:=(Array.getElem?_eq_some_iff.1 h).1
 have hv:w.heap[b]= .cells cs ty fz:=(Array.getElem?_eq_some_iff.1 h).2
 unfold World.freeze
 rw [if_neg (by decide)]
 simp only
 rw [Array.getElem?_eq_getElem (by simpa using hlt),Array.getElem_modify]
 simp only [if_true,hv]
theorem freeze_other {w:World}{b n k:Nat}(hk:k≠b):(w.freeze ⟨b,n,none⟩ 1).heap[k]? =w.heap[k]? :=by
 unfold World.freeze
 rw [if_neg (by decide)]
 simp only [Array.getElem?_modify]
 rw [if_neg (fun e=>hk e.symm)]
theorem freeze_size {w:World}{b n:Nat}:(w.freeze ⟨b,n,none⟩ 1).heap.size=w.heap.size:=by
 unfold World.freeze
 rw [if_neg (by decide)]
 simp
theorem RowAt.freeze {w:World}{b:Nat}{cs:Array Value}{ty:TypeId}(h:RowAt w b cs ty 1):RowAt (w.freeze ⟨b,cs.size,none⟩ 1) b cs ty 1:=by
 obtain ⟨fz,h,hf⟩:=h
 refine ⟨_,freeze_heap h,.inr ⟨rfl,?_⟩⟩
 split
 ·exact Nat.le_refl _
 ·rcases hf with rfl|⟨_,hf⟩
  ·rename_i hne; exact absurd rfl hne
  ·simp only []; omega
theorem St.mark {X:Fx}{B:List (Option BI)}{env:Env}{L:List AO}{a:Act}{w:World}(h:St X B env L a w){id:Nat}(hro:X.M.ro≤id){bi:BI}{n:Nat}{f:Nat→List C}(hO:getO L id= .row 1 n f)
  (hid:B[id]? =some (some bi)) {cs:Array Value} {ty:TypeId} (hr:RowAt w bi.b cs ty 1):St X B env L a (w.freeze ⟨bi.b,cs.size,none⟩ 1):=by
 have hB:=set_same hid
 have hlive:(getO L id).live=true:=by rw [hO]; rfl
 have hbl:bi.b<w.heap.size:=h.relL.bnd id bi hid
 have:=(h.upd (env':=env) (L':=L) (w':=w.freeze ⟨bi.b,cs.size,none⟩ 1) hro (bo:=some bi) (bo':=some bi) (x':= .row 1 n f) hid hlive rfl rfl hO
  (fun j hj=>rfl) (fun j hj=>rfl) (by rw [hO]) (fun _=>rfl) (by unfold World.freeze; split<;>rfl) (by unfold World.freeze; split<;>rfl) (by unfold World.freeze; split<;>rfl) (by rw [freeze_size]; exact Nat.le_refl _) (fun k hk hne=>freeze_other (hne bi rfl))
  (fun bi' e=>by simp only [Option.some.injEq] at e; subst e; exact ⟨by rw [freeze_size]; exact hbl,.inl ⟨bi,rfl,rfl⟩⟩)
  (fun hS j hj bj hr=>by rw [hB] at hr ⊢; exact hr)
  (fun hS=>by rw [hB] at hS ⊢; exact h.relE.mono (Ble.refl B) hS)
  (fun hS=>by
   rw [hB] at hS ⊢
   have hob:=h.relL.obj id _ hid
   rw [hO] at hob
   obtain ⟨h0,cs2,ty2,h1,h2,h3,h4⟩:=hob
   have hcs:cs2=cs∧ty2=ty:=by
    obtain ⟨z1,q1,_⟩:=h1
    obtain ⟨z2,q2,_⟩:=hr
    rw [q1] at q2
    simp only [Option.some.injEq,Obj.cells.injEq] at q2
    exact ⟨q2.1,q2.2.1⟩
   obtain ⟨rfl,rfl⟩:=hcs
   exact ⟨h0,cs2,ty2,hr.freeze,h2,h3,fun i hi=>⟨(h4 i hi).1,RepCs.mono hS (fun _ _ x=>x) _ _ (h4 i hi).2⟩⟩)).1
 rwa [hB] at this
theorem convRow_sound (htb:TbOk P tb){X:Fx}(hgl:X.gl=gl){ro:Nat}(hro:X.M.ro=ro){B:List (Option BI)}{env:Env}{L:List AO}{a:Act}{w:World}(h:St X B env L a w){o:Oper}{src dst e:TypeId}{x:Operand}(hk:(tb dst).k= .slice e)(ho:o.op= .convert src dst x)
  {K:AV→Env→List AO→Prop} (hK:opConvRow P tb gl ro env L src dst e x K):StepTo P X o env K a w:=by
 have hev:=evO_sound (key:= .no) (key2:= .no) (gl:=gl) (by rw [← hgl]; exact h.glob) h.relE trivial trivial x
 obtain ⟨d,hd,hT⟩:=(htb dst).under (by simp [hk,TK.isOther])
 rw [hk] at hT
 simp only [TKok] at hT
 subst hT
 unfold opConvRow at hK
 split at hK
 ·rename_i s hx
  rcases hK with hK|hK
  ·exact pure_step htb hgl h (by rw [ho]; exact hK)
  split at hK
  ·rename_i hk8
   obtain ⟨d8,hd8,hT8⟩:=(htb e).under (by simp [hk8,TK.isOther])
   rw [hk8] at hT8
   simp only [TKok] at hT8
   subst hT8
   split at hK
   ·rename_i hks
    obtain ⟨ds,hds,hsT⟩:=(htb src).under (by simp [hks,TK.isOther])
    rw [hks] at hsT
    simp only [TKok] at hsT
    subst hsT
    obtain ⟨hsz,hK⟩:=hK
    rw [appK0] at hK
    rw [hx] at hev
    simp only [RelV,RepC] at hev
    have hu:=hev.1
    let c:=(Question.appendCap s.size 0 e).cut (w.tape w.drawn (.appendCap s.size 0 e))
    have hc0:s.size≤c:=Nat.le_add_right _ _
    let cells:Array Value:=s.data.map (fun x=>Value.int .u8 (x.toNat:Int))++Array.replicate (c-s.size) (.int .u8 0)
    have hcs:cells.size=c:=by simp only [cells,Array.size_append,Array.size_map,Array.size_replicate]; have:s.data.size=s.size:=rfl; omega
    have hext:Below w.heap.size w ((w.drew).alloc (.cells cells e)):=(Below.refl _ _).drew.alloc (Nat.le_refl _) _
    have hext2:Below w.heap.size w (((w.drew).alloc (.cells cells e)).freeze ⟨w.heap.size,c,none⟩ 1):=Lib.below_freeze hext (Nat.le_refl _) 1
    have hrow:RowAt (((w.drew).alloc (.cells cells e)).freeze ⟨w.heap.size,c,none⟩ 1) w.heap.size cells e 1:=by
     have:=(RowAt.of (w:=(w.drew).alloc (.cells cells e)) (b:=w.heap.size) (cs:=cells) (ty:=e) (by
      have:=heap_alloc w.drew (.cells cells e)
      simpa only [World.size_drew] using this)).freeze
     rwa [hcs] at this
    obtain ⟨B',g1,g2⟩:=h.row hext2 cells e hrow (by rw [freeze_size]; simp) 1 s.size c (strCells s) hc0 hsz (by rw [hcs]; omega) (fun i hi=>⟨by simp [strCells],by
     simp only [strCells,RepCs,RepC,Value.oneCell',and_true,Nat.mul_one]
     refine ⟨_,?_,rfl⟩
     have hi2:i<s.data.size:=hi
     simp only [cells]
     rw [Array.getElem?_append_left (by simpa using hi2)]
     rw [Array.getElem?_map,Array.getElem?_toList,Array.getElem?_eq_getElem hi2]
     rfl⟩)
    refine StepTo.value (u:= .slice (some ⟨w.heap.size,0,none⟩) s.size c) (w':=((w.drew).alloc (.cells cells e)).freeze ⟨w.heap.size,c,none⟩ 1) ?_ hK rfl g1 g2
    have hch:(choose (.appendCap s.size 0 e)).run P w= .ok c w.drew:=by simp [choose,Sem.run,Question.forced,c]
    have hsh:((w.drew).alloc (.cells cells e)).shape? w.heap.size=some (e,c):=by
     have:=heap_alloc w.drew (.cells cells e)
     simp only [World.size_drew] at this
     simp only [World.shape?,this,hcs]
    have hms:(markStringish ⟨w.heap.size,0,none⟩).run P ((w.drew).alloc (.cells cells e))= .ok () (((w.drew).alloc (.cells cells e)).freeze ⟨w.heap.size,c,none⟩ 1):=by
     simp [markStringish,hsh]
    simp only [execOp,ho,hu,convert,Sem.run_bind,run_underlying hds w,run_underlying hd w,run_underlying hd8 w,Result.andThen_ok,Conv.stringToBytes,hch,run_newRow,Sem.run_pure,World.size_drew]
    rw [hms]
    rfl
   ·exact hK.elim
  ·exact hK.elim
 ·rename_i id esz off len hx
  rw [hx] at hev
  split at hK
  ·rename_i e2 n2 f2 hO
   split at hK
   ·exact hK.elim
   rename_i hcond
   split at hcond
   ·simp at hcond
   rename_i he1
   obtain rfl:=Nat.beq_spec he1
   split at hcond
   ·simp at hcond
   rename_i hsd
   split at hcond
   ·rename_i hl
    have hro':=Nat.le_of_ble_eq_true hcond
    obtain rfl:=Nat.beq_spec hsd
    have hl:0<len:=by simpa [Nat.blt_eq] using hl
    split at hK
    ·rename_i hk8
     obtain ⟨d8,hd8,hT8⟩:=(htb e).under (by simp [hk8,TK.isOther])
     rw [hk8] at hT8
     simp only [TKok] at hT8
     subst hT8
     have hev2:=hev
     simp only [RelV] at hev
     rcases hev with ⟨bi,cap,hb,hu,h1,h2,h3⟩|⟨h0,_⟩
     ·have hob:=h.relL.obj id _ hb
      rw [hO] at hob
      obtain ⟨_,cs,ty,hr,_⟩:=hob
      have hM:=h.mark (by rw [hro]; exact hro') hO hb hr
      refine StepTo.value (u:=a.eval x) (w':=w.freeze ⟨bi.b,cs.size,none⟩ 1) ?_ hK rfl hM ?_
      ·have hsh:w.shape? bi.b=some (ty,cs.size):=by
        obtain ⟨fz,hr,_⟩:=hr
        simp only [World.shape?,hr]
       have hms:(markStringish ⟨bi.b,bi.o+off*esz,none⟩).run P w= .ok () (w.freeze ⟨bi.b,cs.size,none⟩ 1):=by
        simp [markStringish,hsh]
       simp only [execOp,ho,hu,convert,Sem.run_bind,run_underlying hd w,run_underlying hd8 w,Result.andThen_ok,beq_self_eq_true]
       rw [hms]
       rfl
      ·have:(Sr X.M B L w).le (Sr X.M B L (w.freeze ⟨bi.b,cs.size,none⟩ 1)):=fun t b o u hh=>⟨hh.1,by rw [cell_freeze]; exact hh.2⟩
       exact RelV.mono (Ble.refl B) this _ _ hev2
     ·omega
    ·exact hK.elim
   ·simp at hcond
  ·exact hK.elim
 ·exact pure_step htb hgl h (by rw [ho]; exact hK)
theorem get_spEnv (id:Nat)(cs:List C):∀ (env:Env) (t:Nat),get (spEnv id cs env) t=spV id cs (get env t)
 | [],t=>rfl
 | (s,x)::r,t=>by
  simp only [spEnv,get]
  split
  ·rfl
  ·exact get_spEnv id cs r t
theorem gkey_spV (id:Nat)(cs:List C)(x:AV):gkey (spV id cs x)=gkey x:=by
 unfold spV
 split
 ·split<;>rfl
 ·rfl
theorem keysE_spEnv (id:Nat)(cs:List C):∀ env:Env,keysE (spEnv id cs env)=keysE env
 | []=>rfl
 | (s,x)::r=>by
  have ih:=keysE_spEnv id cs r
  unfold keysE at ih ⊢
  simp only [spEnv,List.map_cons,gkey_spV,ih]
theorem spV_rel {M:Mz}{B:List (Option BI)}{L:List AO}{w:World}(hL:RelL M B L w){id:Nat}{ys:List AV}{cs:List C}(hO:getO L id= .box ys)(hcs:toCs ys=some cs){x:AV}{u:Value}
  (hu:RelV B (Sr M B (setO L id .dead) w) x u):RelV B (Sr M B (setO L id .dead) w) (spV id cs x) u:=by
 unfold spV
 split
 ·rename_i i off
  split
  ·rename_i he
   obtain rfl:=Nat.beq_spec he
   simp only [RelV] at hu ⊢
   obtain ⟨bi,hb,rfl⟩:=hu
   have hlive:(getO L i).live=true:=by rw [hO]; rfl
   obtain ⟨hn,hrow⟩:=box_row hL hO hcs hb
   refine ⟨bi.b,bi.o,rfl,RepCs.mk _ _ fun j z hz=> ?_⟩
   have hj:j<cs.length:=(List.getElem?_eq_some_iff.1 hz).1
   have:=hrow j (by omega)
   rw [nthCC_get cs j z hz] at this
   simp only [RepCs,and_true] at this
   obtain ⟨v,k1,k2⟩:=this
   have hle:=Sr_unlive (M:=M) (B:=B) (L:=L) (w:=w) (id:=i) (x:= .dead) rfl
   refine ⟨v,⟨?_,by rw [show bi.o+j=bi.o+j*1 from by omega]; exact k1⟩,RepC.mono hle _ _ k2⟩
   rintro (hm|⟨q,bj,q1,q2,q3⟩)
   ·exact hL.notM i bi hb hlive hm
   ·obtain ⟨q4,q5⟩:=setO_live rfl q3
    exact hL.dist q i bj bi q4 q1 hb q5 hlive q2
  ·exact hu
 ·exact hu
theorem fz_step {X:Fx}{o:Oper}{env:Env}{K:AV→Env→List AO→Prop}{a:Act}{w:World}{ro:Nat}(hro:X.M.ro=ro){K':AV→Env→List AO→Prop}(hs:StepTo P X o env K' a w)
  (hK:∀ x env' L',K' x env' L'→K x env' L'∨∃ id ys cs,getO L' id= .box ys∧ro≤id∧toCs ys=some cs∧K (spV id cs x) (spEnv id cs env') (setO L' id .dead)):StepTo P X o env K a w:=by
 intro next Q hn
 refine hs next Q ?_
 intro x env' L' B' u w' hK' hk hS hu
 rcases hK x env' L' hK' with h|⟨id,ys,cs,hO,hid0,hcs,h⟩
 ·exact hn _ _ _ _ _ _ h hk hS hu
 ·have hlive:(getO L' id).live=true:=by rw [hO]; rfl
  have hid:id<L'.length:=live_lt hlive
  have hS':=hS.unlive (x:= .dead) (by rw [hro]; exact hid0) hid rfl (.inl rfl) (fun bo _=>trivial)
  have hle:=Sr_unlive (M:=X.M) (B:=B') (L:=L') (w:=w') (id:=id) (x:= .dead) rfl
  refine hn _ _ _ _ _ _ h (by rw [keysE_spEnv]; exact hk) { hS' with relE:=fun t=> ?_ } (spV_rel hS.relL hO hcs (RelV.mono (Ble.refl B') hle _ _ hu))
  rw [get_spEnv]
  have ht:=hS'.relE t
  generalize get env' t=y at ht
  cases y with
  | gd s q z=>exact ht
  | ptr i off =>
   have:=spV_rel hS.relL hO hcs (x:= .ptr i off) ht
   simp only [spV] at this ⊢
   cases hq:Nat.beq i id<;>simp only [hq] at this ⊢ <;>exact this
  | _=>exact ht
theorem fzK_get {ro id:Nat}{x:AV}{env:Env}{L:List AO}{K:AV→Env→List AO→Prop}(h:fzK ro id x env L K):K x env L∨∃ id ys cs,getO L id= .box ys∧ro≤id∧toCs ys=some cs∧K (spV id cs x) (spEnv id cs env) (setO L id .dead):=by
 rcases h with h|h
 ·exact .inl h
 ·split at h
  ·rename_i ys hO
   split at h
   ·rename_i hr
    split at h
    ·rename_i cs hcs
     exact .inr ⟨id,ys,cs,hO,Nat.le_of_ble_eq_true hr,hcs,h⟩
    ·exact h.elim
   ·exact h.elim
  ·exact h.elim
theorem stepE_sound (htb:TbOk P tb){X:Fx}(hgl:X.gl=gl){ro:Nat}(hro:X.M.ro=ro){B:List (Option BI)}{env:Env}{L:List AO}{a:Act}{w:World}(h:St X B env L a w){o:Oper}
  {K:AV→Env→List AO→Prop} (hK:stepE P tb gl ro env L o.op o.type K):StepTo P X o env K a w:=by
 unfold stepE at hK
 split at hK
 ·rename_i t ho
  split at hK
  ·exact hK.elim
  ·rename_i hk
   rw [appK0,boxC_eq] at hK
   exact alloc_sound htb h ho hk hK
 ·rename_i t x ho
  split at hK
  ·rename_i xs hxs
   split at hK
   ·rw [appK0] at hK
    refine fz_step hro (box_sound (K:=fun x env' L'=>match Nat.ble 20 (tb t).sz with
     | true=>fzK ro L.length x env' L' K
     | false=>K x env' L') hgl h ho hxs ?_) fun x env' L' hh=> ?_
    ·exact hK
    ·split at hh
     ·exact fzK_get hh
     ·exact .inl hh
   ·exact hK.elim
  ·exact hK.elim
 ·rename_i t p x ho
  refine fz_step hro (store_sound htb hgl hro h ho (K':=fun x env' L'=>match Nat.ble 20 (tb t).sz with
   | true=>match evO gl env .no .no p with
    | .ptr id 0=>fzK ro id x env' L' K
    | _=>K x env' L'
   | false=>K x env' L') (fun _ hh=>hh) hK) fun x env' L' hh=> ?_
  split at hh
  ·split at hh
   ·exact fzK_get hh
   ·exact .inl hh
  ·exact .inl hh
 ·rename_i ho
  split at hK
  ·rename_i e hk
   rcases hK with hK|hK
   ·rw [appK0] at hK
    exact assignNil_sound h ho (tb e).sz hK
   ·exact pure_step htb hgl h (by rw [ho]; exact hK)
  ·exact hK.elim
 ·rename_i t l c ho
  exact makeSlice_sound htb hgl h ho (K:=fun x L'=>K x env L') (K':=K) (fun _ _ hh=>hh) hK
 ·rename_i t r ho
  split at hK
  ·rw [appK0] at hK
   exact makeMap_sound h ho hK
  ·exact hK.elim
 ·rename_i t m k x ho
  exact mapPut_sound htb hgl hro h ho (K':=K) (fun _ hh=>hh) hK
 ·rename_i c ho
  split at hK
  ·rename_i hc
   split at hK
   ·rename_i x y hargs
    split at hK
    ·rename_i t t2 hts
     exact append_sound htb hgl hro h ho hc hargs hts hK
    ·exact hK.elim
   ·exact hK.elim
  ·rename_i hc
   split at hK
   ·rename_i x y hargs
    split at hK
    ·rename_i t ts hts
     exact copy_sound htb hgl hro h ho hc hargs hts hK
    ·exact hK.elim
   ·exact hK.elim
  ·rename_i hc
   split at hK
   ·rename_i x y hargs
    split at hK
    ·rename_i t ts hts
     exact delete_sound htb hgl hro h ho hc hargs hts hK
    ·exact hK.elim
   ·exact hK.elim
  ·rename_i fo hc
   subst hgl
   have hev:=fun x=>evO_sound (key:= .no) (key2:= .no) h.glob h.relE trivial trivial x
   exact hK.h X B a w o c fo rfl hro h ho hc (hev fo) (by simpa using RelVs.map (ρ:=a.eval) c.args.toList (fun o _=>hev o))
  ·exact pure_step htb hgl h (by rw [ho]; exact hK)
 ·rename_i t n ps ho
  rcases hK with (hK|hK)|hK
  ·exact buildF_sound htb hgl hro h ho hK
  ·exact buildBox_sound htb hgl h ho hK
  ·exact buildOwn_sound htb hgl hro h ho hK
 ·rename_i src dst x ho
  split at hK
  ·rename_i e hk
   exact convRow_sound htb hgl hro h hk ho hK
  ·exact pure_step htb hgl h (by rw [ho]; exact hK)
 ·exact pure_step htb hgl h hK
theorem memN_spec {d:Nat}:∀ {l:List Nat},memN d l=true ↔ d ∈ l
 | []=>by simp [memN]
 | x::r=>by
  have ih:=memN_spec (d:=d) (l:=r)
  simp only [memN]
  split
  ·rename_i h; have:=Nat.beq_spec h; simp [this]
  ·rename_i h
   have hne:d≠x:=fun e=>by subst e; simp at h
   rw [ih]; simp [hne]
def GdIn (seen:List Nat) (env:Env):Prop:=∀ s,some s ∈ keysE env→s ∈ seen
theorem get_key {env:Env}{t s:Nat}{w:Bool}{x:AV}(h:get env t= .gd s w x):some s ∈ keysE env:=by
 induction env with
 | nil=>simp [get] at h
 | cons p r ih =>
  obtain ⟨s',y⟩:=p
  simp only [get] at h
  unfold keysE at ih ⊢
  split at h
  ·subst h; simp [gkey]
  ·simp only [List.map_cons,List.mem_cons]; exact .inr (ih h)
theorem getD_put {a:Act}{dst:Option Nat}{u:Value}{t:Nat}(h:dst≠some t):(a.put dst u).tmps.getD t undef=a.tmps.getD t undef:=by
 cases dst with
 | none=>rfl
 | some d =>
  have hne:d≠t:=fun e=>h (by rw [e])
  simp [Act.put,Array.getD,Array.size_setIfInBounds]
  by_cases hlt:t<a.tmps.size
  ·simp [hlt,Array.getElem_setIfInBounds_ne,hne]
  ·simp [hlt]
theorem getD_put_same {a:Act}{d:Nat}{u:Value}(h:d<a.tmps.size):(a.put (some d) u).tmps.getD d undef=u:=by
 simp [Act.put,Array.getD,h]
theorem RelE.put {B:List (Option BI)}{S:Rd}{env:Env}{a:Act}(h:RelE B S env a){seen:List Nat}(hg:GdIn seen env){dst:Option Nat}(hd:dstOk dst seen=true)(hlt:∀ d,dst=some d→d<a.tmps.size)
  {x:AV} {u:Value} (hx:RelSl B S (a.put dst u) x u):RelE B S (putE dst x env) (a.put dst u):=by
 intro t
 have keep:dst≠some t→RelSl B S (a.put dst u) (get env t) ((a.put dst u).tmps.getD t undef):=by
  intro hne
  rw [getD_put hne]
  have ht:=h t
  cases hgt:get env t with
  | gd s w y =>
   rw [hgt] at ht
   have hs:=hg s (get_key hgt)
   have hsd:dst≠some s:=by
    intro e; subst e
    simp only [dstOk] at hd
    split at hd
    ·simp at hd
    ·rename_i hm; rw [memN_spec.2 hs] at hm; simp at hm
   simp only [RelSl] at ht ⊢
   rw [getD_put hsd]
   exact ht
  | _=>rw [hgt] at ht; exact ht
 cases dst with
 | none=>exact keep (by simp)
 | some d =>
  simp only [putE,get]
  split
  ·rename_i e
   obtain rfl:=Nat.beq_spec e
   rw [getD_put_same (hlt d rfl)]
   exact hx
  ·rename_i e
   exact keep fun e'=>by simp only [Option.some.injEq] at e'; subst e'; simp at e
theorem St.put {X:Fx}{B:List (Option BI)}{env:Env}{L:List AO}{a:Act}{w:World}(h:St X B env L a w){seen:List Nat}(hg:GdIn seen env){dst:Option Nat}(hd:dstOk dst seen=true)(hlt:∀ d,dst=some d→d<X.nt)
  {x:AV} {u:Value} (hx:RelSl B (Sr X.M B L w) (a.put dst u) x u):St X B (putE dst x env) L (a.put dst u) w where
 relL:=h.relL
 glob:=h.glob
 relE:=h.relE.put hg hd (fun d e=>by rw [h.sz]; exact hlt d e) hx
 below:=h.below
 fresh:=h.fresh
 old:=h.old
 rol:=h.rol
 l0:=h.l0
 knd:=h.knd
 dfr:=by cases dst<;>exact h.dfr
 sz:=by cases dst<;>simp [Act.put,h.sz]
theorem GdIn.put {seen:List Nat}{env:Env}(hg:GdIn seen env)(dst:Option Nat){x:AV}(hx:∀ s,gkey x=some s→s ∈ seen):GdIn (addD dst seen) (putE dst x env):=by
 cases dst with
 | none=>exact hg
 | some d =>
  intro s hs
  simp only [putE,keysE,List.map_cons,List.mem_cons] at hs
  simp only [addD,List.mem_cons]
  rcases hs with hs|hs
  ·exact .inr (hx s hs.symm)
  ·exact .inr (hg s hs)
theorem strip_key (x:AV):gkey (strip x)=none:=by cases x<;>rfl
theorem strip_rel {B:List (Option BI)}{S:Rd}{x:AV}{u:Value}(h:RelV B S x u):RelV B S (strip x) u:=by cases x<;>first|exact h|simp [strip,RelV]
theorem RelV.notGd {B:List (Option BI)}{S:Rd}{a:Act}{x:AV}{u:Value}(hx:gkey x=none)(h:RelV B S x u):RelSl B S a x u:=(relSl_iff hx).2 h
end
end Go.VA
namespace Go.VA
open Go Go.RowKit
section
variable {P:Program} {tb:TB} {gl:Gl}
def cntD:List Oper→Nat
 | []=>0
 | o::r=>match o.dst with
  | none=>cntD r
  | some _=>cntD r+1
def Top (n:Nat) (env:Env):Prop:=∀ k ∈ (keysE env).drop n,k=none
theorem Top.put {n:Nat}{env:Env}(h:Top n env)(dst:Option Nat)(x:AV):Top (n+match dst with|none=>0|some _=>1) (putE dst x env):=by
 cases dst with
 | none=>exact h
 | some d=>intro k hk; exact h k (by simpa [putE,keysE] using hk)
theorem Top.keys {n:Nat}{env env':Env}(h:Top n env)(hk:keysE env'=keysE env):Top n env':=by
 unfold Top at *; rw [hk]; exact h
theorem GdIn.keys {seen:List Nat}{env env':Env}(h:GdIn seen env)(hk:keysE env'=keysE env):GdIn seen env':=by
 unfold GdIn at *; rw [hk]; exact h
theorem dstOf_eq:∀ (l:List Oper) (g:Nat),dstOf l g=(l[g]?).bind (·.dst)
 | [],g=>by simp [dstOf]
 | o::r,0=>by simp [dstOf]
 | o::r,g+1=>by simp [dstOf,dstOf_eq r g]
theorem wanted_iff {ops:Array Oper}{o:Oper}{g s:Nat}{w:Bool}{a:Act}(hg:o.guard=some (g,w))(hs:dstOf ops.toList g=some s) :
  Region.wanted o (yielded ops a.tmps)=true ↔ a.tmps.getD s undef= .bool w:=by
 have h1:(ops[g]?).bind (·.dst)=some s:=by rw [← hs,dstOf_eq]; simp
 simp only [Region.wanted,hg,yielded,h1,Option.bind_some]
 have h2:a.tmps.getD s undef=(a.tmps[s]?).getD undef:=by simp [Array.getD_eq_getD_getElem?]
 rw [h2]
 cases hq:a.tmps[s]? with
 | none=>simp [undef]
 | some v=>cases v<;>simp
theorem openE_keys (s:Nat)(w:Bool):∀ (env:Env) (n:Nat) (k:Option Nat),k ∈ (keysE (openE s w env)).drop n→k=none∨k ∈ (keysE env).drop n
 | [],n,k,h=> .inr h
 | (t,x)::r,n,k,h=>by
  have ih:=openE_keys s w r
  have key:∀ y,(gkey y=none∨gkey y=gkey x)→k ∈ (keysE ((t,y)::openE s w r)).drop n→k=none∨k ∈ (keysE ((t,x)::r)).drop n:=fun y hy hk=>by
   cases n with
   | zero =>
    simp only [keysE,List.map_cons,List.drop_zero,List.mem_cons] at hk ⊢
    rcases hk with hk|hk
    ·rcases hy with hy|hy
     ·exact .inl (hk.trans hy)
     ·exact .inr (.inl (hk.trans hy))
    ·rcases ih 0 k (by simpa [keysE] using hk) with h1|h1
     ·exact .inl h1
     ·exact .inr (.inr (by simpa [keysE] using h1))
   | succ n=>exact ih n k (by simpa [keysE] using hk)
  cases x with
  | gd s' w' y =>
   simp only [openE] at h
   split at h
   ·exact key _ (.inl (strip_key y)) h
   ·exact key _ (.inr rfl) h
  | _=>exact key _ (.inr rfl) h
theorem openE_rel {B:List (Option BI)}{S:Rd}{a:Act}{s:Nat}{w:Bool}(h:a.tmps.getD s undef= .bool w):∀ (env:Env) (t:Nat),RelSl B S a (get env t) (a.tmps.getD t undef)→RelSl B S a (get (openE s w env) t) (a.tmps.getD t undef)
 | [],t,h=>h
 | (q,x)::r,t,h2=>by
  have ih:=openE_rel (B:=B) (S:=S) h r t
  cases x with
  | gd s' w' y =>
   simp only [openE]
   split
   ·rename_i he
    simp only [get] at h2 ⊢
    split
    ·rename_i hq
     simp only [hq] at h2
     have he':s=s'∧w=w':=by simpa using he
     obtain ⟨rfl,rfl⟩:=he'
     simp only [RelSl] at h2
     exact RelV.notGd (strip_key y) (strip_rel (h2.1 h))
    ·rename_i hq
     simp only [hq] at h2
     exact ih h2
   ·simp only [get] at h2 ⊢
    split
    ·rename_i hq
     simp only [hq] at h2
     exact h2
    ·rename_i hq
     simp only [hq] at h2
     exact ih h2
  | _ =>
   simp only [openE,get] at h2 ⊢
   split
   ·rename_i hq
    simp only [hq] at h2
    exact h2
   ·rename_i hq
    simp only [hq] at h2
    exact ih h2
theorem Top.opened {n:Nat}{env:Env}(h:Top n env)(s:Nat)(w:Bool):Top n (openE s w env):=fun k hk=>(openE_keys s w env n k hk).elim id (h k)
theorem GdIn.opened {seen:List Nat}{env:Env}(h:GdIn seen env)(s:Nat)(w:Bool):GdIn seen (openE s w env):=fun s' hs=>by
 rcases openE_keys s w env 0 _ (by simpa using hs) with h1|h1
 ·simp at h1
 ·exact h _ (by simpa using h1)
theorem St.opened {X:Fx}{B:List (Option BI)}{env:Env}{L:List AO}{a:Act}{w:World}(h:St X B env L a w)(s:Nat)(b:Bool)(hb:a.tmps.getD s undef= .bool b):St X B (openE s b env) L a w where
 relL:=h.relL
 glob:=h.glob
 relE t:=openE_rel hb env t (h.relE t)
 below:=h.below
 fresh:=h.fresh
 old:=h.old
 rol:=h.rol
 l0:=h.l0
 knd:=h.knd
 dfr:=h.dfr
 sz:=h.sz
theorem guarded_step (X:Fx)(hgl:X.gl=gl){ops:Array Oper}{B:List (Option BI)}{env:Env}{L:List AO}{a:Act}{w:World}(h:St X B env L a w){o:Oper}{g s:Nat}{wt:Bool}(hg:o.guard=some (g,wt))
  (hs:dstOf ops.toList g=some s) {x:AV} (hp:PureTo P gl env (.at s wt) L o x) (next:Act→World→Prop) (Q:Exit→Act→World→Prop)
  (hn:∀ u w',St X B env L a w'→((a.tmps.getD s undef= .bool wt→RelV B (Sr X.M B L w') x u)∧(a.tmps.getD s undef≠ .bool wt→u=undef))→next (a.put o.dst u) w') :
  if Region.wanted o (yielded ops a.tmps)=true then o.wp P a w next Q else next (a.put o.dst undef) w:=by
 subst hgl
 by_cases hw:Region.wanted o (yielded ops a.tmps)=true
 ·rw [if_pos hw]
  have hk:=(wanted_iff hg hs).1 hw
  refine hp X.M B a w h.relL h.glob h.relE hk next Q fun u w' ⟨h1,h2⟩=>hn u w' (h.ext h1) ⟨fun _=>h2,fun hne=>absurd hk hne⟩
 ·rw [if_neg hw]
  exact hn undef w h ⟨fun e=>absurd ((wanted_iff hg hs).2 e) hw,fun _=>rfl⟩
theorem seqOps_sound (htb:TbOk P tb){X:Fx}(hgl:X.gl=gl){ro:Nat}(hro:X.M.ro=ro){ops:Array Oper}{Q:Exit→Act→World→Prop}{K:Env→List AO→Prop} :
  ∀ (l:List Oper) (seen:List Nat) (env:Env) (L:List AO) (B:List (Option BI)) (a:Act) (w:World) (n:Nat),
   (∀ o ∈ l,∀ d,o.dst=some d→d<X.nt)→GdIn seen env→Top n env→St X B env L a w→seqOps P tb gl ro ops.toList l seen env L K →
   (∀ env' L' B' a' w',K env' L'→Top (n+cntD l) env'→St X B' env' L' a' w'→Q .normal a' w')→wpList P ops Q l a w
 | [],seen,env,L,B,a,w,n,_,_,ht,hS,hK,hQ=>by
  simp only [seqOps,stripK_eq,gdK_eq] at hK
  exact hQ _ _ _ _ _ hK (by simpa [cntD] using ht) hS
 | o::r,seen,env,L,B,a,w,n,hdst,hgd,ht,hS,hK,hQ=>by
  simp only [seqOps,stripK_eq,gdK_eq] at hK
  have hcnt:n+cntD (o::r)=(n+match o.dst with|none=>0|some _=>1)+cntD r:=by
   simp only [cntD]; cases o.dst<;>simp; omega
  split at hK
  ·exact hK.elim
  rename_i hd
  have hlt:∀ d,o.dst=some d→d<X.nt:=hdst o (by simp)
  split at hK
  ·rename_i hg
   have hstep:=stepE_sound htb hgl hro hS hK
   unfold wpList
   rw [if_pos (by simp [Region.wanted,hg])]
   refine .inl (hstep _ _ fun x env' L' B' u w' hK' hkeys hS' hu=> ?_)
   have hgd':=hgd.keys hkeys
   refine seqOps_sound htb hgl hro r _ _ _ B' _ _ _ (fun o' ho'=>hdst o' (by simp [ho'])) (hgd'.put o.dst (fun s hs=>by rw [strip_key] at hs; simp at hs)) ((ht.keys hkeys).put o.dst _)
    (hS'.put hgd' hd hlt (RelV.notGd (strip_key x) (strip_rel hu))) hK' fun env'' L'' B'' a'' w'' k1 k2 k3=>hQ _ _ _ _ _ k1 (by rw [hcnt]; exact k2) k3
  ·rename_i g wt hg
   split at hK
   ·exact hK.elim
   rename_i s hs
   split at hK
   ·exact hK.elim
   rename_i hm
   have hm:=memN_spec.1 hm
   have hsd:o.dst≠some s:=by
    intro e; rw [e] at hd; simp only [dstOk] at hd
    split at hd
    ·simp at hd
    ·rename_i h2; rw [memN_spec.2 hm] at h2; simp at h2
   have hA:(opPure P tb gl env (.at s wt) L o.op fun x=>seqOps P tb gl ro ops.toList r (addD o.dst seen) (putE o.dst (.gd s wt x) env) L K)→wpList P ops Q (o::r) a w:=fun hK=>by
    obtain ⟨x,hK',hp⟩:=opPure_sound htb hK
    have:=guarded_step X hgl hS hg hs hp (wpList P ops Q r) Q fun u w' hS' hu=>by
     refine seqOps_sound htb hgl hro r _ _ _ B _ _ _ (fun o' ho'=>hdst o' (by simp [ho'])) (hgd.put o.dst (fun s' hs'=>by simp only [gkey,Option.some.injEq] at hs'; subst hs'; exact hm)) (ht.put o.dst _)
      (hS'.put hgd hd hlt ?_) hK' fun env'' L'' B'' a'' w'' k1 k2 k3=>hQ _ _ _ _ _ k1 (by rw [hcnt]; exact k2) k3
     simp only [RelSl]
     rw [getD_put hsd]
     exact hu
    unfold wpList
    split
    ·rename_i hw; rw [if_pos hw] at this; exact .inl this
    ·rename_i hw; rw [if_neg hw] at this; exact this
   split at hK
   ·exact hA hK
   rcases hK with hK|hK
   ·exact hA hK
   split at hK
   ·rename_i b hb
    have hb':=hS.relE s
    rw [hb] at hb'
    have hv:a.tmps.getD s undef= .bool b:=by simp only [RelSl,RelV,RepC] at hb'; exact hb'.1
    by_cases hbw:b=wt
    ·have hstep:=stepE_sound htb hgl hro (hS.opened s wt (by rw [hv,hbw])) (hK.1 hbw)
     unfold wpList
     rw [if_pos ((wanted_iff hg hs).2 (by rw [hv,hbw]))]
     refine .inl (hstep _ _ fun x env' L' B' u w' hK' hkeys hS' hu=> ?_)
     have hgd':=(hgd.opened s wt).keys hkeys
     refine seqOps_sound htb hgl hro r _ _ _ B' _ _ _ (fun o' ho'=>hdst o' (by simp [ho'])) (hgd'.put o.dst (fun s hs=>by rw [strip_key] at hs; simp at hs)) (((ht.opened s wt).keys hkeys).put o.dst _)
      (hS'.put hgd' hd hlt (RelV.notGd (strip_key x) (strip_rel hu))) hK' fun env'' L'' B'' a'' w'' k1 k2 k3=>hQ _ _ _ _ _ k1 (by rw [hcnt]; exact k2) k3
    ·have hnw:¬ Region.wanted o (yielded ops a.tmps)=true:=fun e=>hbw (by have:=(wanted_iff hg hs).1 e; rw [hv] at this; simpa using this)
     unfold wpList
     rw [if_neg hnw]
     refine seqOps_sound htb hgl hro r _ _ _ B _ _ _ (fun o' ho'=>hdst o' (by simp [ho'])) (hgd.put o.dst (fun s hs=>by simp [gkey] at hs)) (ht.put o.dst _)
      (hS.put hgd hd hlt (by simp [RelSl,RelV])) (hK.2 (by cases b<;>cases wt<;>simp_all)) fun env'' L'' B'' a'' w'' k1 k2 k3=>hQ _ _ _ _ _ k1 (by rw [hcnt]; exact k2) k3
   ·exact hK.elim
def NoGd (env:Env):Prop:=∀ k ∈ keysE env,k=none
theorem NoGd.top {env:Env}(h:NoGd env):Top 0 env:=fun k hk=>h k (by simpa using hk)
theorem NoGd.gdIn {env:Env}(h:NoGd env):GdIn [] env:=fun s hs=>by have:=h _ hs; simp at this
end
end Go.VA
namespace Go.VA
open Go Go.RowKit
section
variable {P:Program} {tb:TB} {gl:Gl}
open Classical in
noncomputable def restrict (p:Nat→Prop) (env:Env):Env:=env.filter fun q=>decide (p q.1)
theorem get_restrict (p:Nat→Prop):∀ (env:Env) (t:Nat),(p t→get (restrict p env) t=get env t)∧(¬ p t→get (restrict p env) t= .any)
 | [],t=>by simp [restrict,get]
 | (s,x)::r,t=>by
  have ih:=get_restrict p r t
  unfold restrict at ih ⊢
  by_cases hs:p s
  ·rw [List.filter_cons_of_pos (by simpa using hs)]
   simp only [get]
   constructor
   ·intro ht; split
    ·rfl
    ·exact ih.1 ht
   ·intro ht; split
    ·rename_i e; rw [← Nat.beq_spec e] at ht; exact absurd hs ht
    ·exact ih.2 ht
  ·rw [List.filter_cons_of_neg (by simpa using hs)]
   refine ⟨fun ht=> ?_,ih.2⟩
   rw [ih.1 ht]
   simp only [get]
   split
   ·rename_i e; rw [← Nat.beq_spec e] at ht; exact absurd ht hs
   ·rfl
def GdCl (p:Nat→Prop) (env:Env):Prop:=∀ t s w x,p t→get env t= .gd s w x→p s
theorem chain_restrict {p:Nat→Prop}{env:Env}(hc:GdCl p env):∀ (n:Nat) (key:Key) (q:Prop),(∀ s w,key= .at s w→p s)→chain (restrict p env) n key q=chain env n key q
 | 0,_,_,_=>by simp [chain]
 | n+1,.no,_,_=>by simp [chain]
 | n+1,.at s w,q,h=>by
  have hs:=h s w rfl
  simp only [chain]
  rw [(get_restrict p env s).1 hs]
  split
  ·rfl
  ·rename_i s' w' b hq
   exact chain_restrict hc n _ _ fun s2 w2 e=>by
    simp only [Key.at.injEq] at e
    rw [← e.1]
    exact hc s s' w' _ hs hq
  ·rfl
theorem evO_restrict {p:Nat→Prop}{env:Env}(key key2:Key)(x:Operand)(h:∀ t,x= .tmp t→p t):evO gl (restrict p env) key key2 x=evO gl env key key2 x:=by
 cases x with
 | tmp t=>simp only [evO]; rw [(get_restrict p env t).1 (h t rfl)]
 | const v=>cases v<;>rfl
 | _=>rfl
theorem opPure_congr {env env':Env}{key:Key}{L:List AO}{o:Op}{K:AV→Prop}(he:∀ key2,∀ x ∈ o.operands,evO gl env' key key2 x=evO gl env key key2 x)
  (hc:∀ p,chain env' 20 key p=chain env 20 key p):opPure P tb gl env' key L o K=opPure P tb gl env key L o K:=by
 have hc':chain env' 20 key=chain env 20 key:=funext hc
 cases o<;>simp only [Op.operands] at he<;>simp only [opPure,hc']
 case pick c x y =>
  unfold opPick
  rw [he .no c (by simp)]
  cases c with
  | tmp t =>
   have h1:=he (.at t false) y (by simp)
   have h2:=he (.at t true) x (by simp)
   simp only [h1]
   generalize evO gl env key .no (.tmp t)=z
   split
   ·split
    ·rfl
    ·rw [h2]
   ·rfl
  | _=>rfl
 case build t ps =>
  rw [List.map_congr_left (fun p hp=>by rw [he .no p.2 (by simpa using ⟨p.1,by simpa using hp⟩)]:∀ p ∈ ps.toList,(p.1,evO gl env' key .no p.2)=(p.1,evO gl env key .no p.2))]
 case buildSlice t n ps =>
  rw [List.map_congr_left (fun p hp=>by rw [he .no p.2 (by simpa using ⟨p.1,by simpa using hp⟩)]:∀ p ∈ ps.toList,(p.1,frzV L (evO gl env' key .no p.2))=(p.1,frzV L (evO gl env key .no p.2)))]
 case makeFunc fn fs cs =>
  rw [List.map_congr_left (fun p hp=>he .no p (by simp at hp; simp [hp]):∀ p ∈ fs.toList,evO gl env' key .no p=evO gl env key .no p),
   List.map_congr_left (fun p hp=>he .no p (by simp at hp; simp [hp]):∀ p ∈ cs.toList,evO gl env' key .no p=evO gl env key .no p)]
 case slice t x lo hi mx =>
  rw [he .no x (by simp)]
  have:∀ (y:Option Operand),(∀ z,y=some z→evO gl env' key .no z=evO gl env key .no z)→y.map (evO gl env' key .no)=y.map (evO gl env key .no):=by
   intro y hy; cases y with
   | none=>rfl
   | some z=>simp [hy z rfl]
  rw [this lo fun z hz=>he .no z (by simp [hz]),this hi fun z hz=>he .no z (by simp [hz]),this mx fun z hz=>he .no z (by simp [hz])]
 case call c =>
  have ha:c.args.toList.map (evO gl env' key .no)=c.args.toList.map (evO gl env key .no) :=
   List.map_congr_left fun p hp=>he .no p (by simp only [Call.operands]; simp at hp; simp [hp])
  split
  ·rename_i f hf
   rw [ha,he .no f (by simp [Call.operands,hf])]
  ·split
   ·split
    ·rename_i x hx
     rw [he .no x (by
      have:x ∈ c.args:=by
       have:x ∈ c.args.toList:=by simp [hx]
       simpa using this
      simp [Call.operands,this])]
    ·rfl
   ·split
    ·rename_i x hx
     rw [he .no x (by
      have:x ∈ c.args:=by
       have:x ∈ c.args.toList:=by simp [hx]
       simpa using this
      simp [Call.operands,this])]
    ·rfl
   ·rw [ha]
   ·rw [ha]
   ·rfl
  ·rfl
 all_goals (first|rfl|(rw [he .no _ (by simp)]; done)|(rw [he .no _ (by simp)]; rw [he .no _ (by simp)]; done))
end
end Go.VA
namespace Go.VA
open Go Go.RowKit
theorem bltN {a b:Nat}(h:Nat.blt a b=true):a<b:=Nat.le_of_ble_eq_true h
def maskOf (ms:List Nat):List Edge→Nat
 | []=>0
 | e::es=>match Region.binds .any e with
  | true=>(2 ^ e.on) ||| (ms.getD e.on 0 ||| maskOf ms es)
  | false=>maskOf ms es
def backOk (n:Nat):List Edge→Bool
 | []=>true
 | e::es=>match Region.binds .any e with
  | true=>match Nat.blt e.on n with|true=>backOk n es|false=>false
  | false=>backOk n es
def rowOk (ops:Array Oper) (m:Nat) (y:Oper):List Oper→Nat→Bool
 | [],_=>true
 | x::r,i=>match m.testBit i with
  | true=>rowOk ops m y r (i+1)
  | false=>match x.apart ops y with
   | true=>rowOk ops m y r (i+1)
   | false=>false
def gBack (n:Nat) (o:Oper):Bool:=match o.guard with
 | none=>true
 | some (g,_)=>Nat.blt g n
def impOf (imp:Bool) (o:Oper):Bool:=match imp with
 | true=>true
 | false=>match pureOp o.op with|true=>false|false=>true
def drawGo (ops:Array Oper):List Oper→List Oper→List Nat→Bool→Bool
 | [],_,_,_=>true
 | o::r,pre,ms,imp=>match backOk ms.length o.after.toList with
  | false=>false
  | true=>match gBack ms.length o with
   | false=>false
   | true=>match rowOk ops (maskOf ms o.after.toList) o pre 0 with
    | false=>false
    | true=>match impOf imp o with
     | true=>match Nat.beq (maskOf ms o.after.toList) (2 ^ ms.length-1) with
      | true=>drawGo ops r (pre++[o]) (ms++[maskOf ms o.after.toList]) true
      | false=>false
     | false=>drawGo ops r (pre++[o]) (ms++[maskOf ms o.after.toList]) false
def drawOk (ops:Array Oper):Bool:=drawGo ops ops.toList [] [] false
inductive Anc (ops:Array Oper):Nat→Nat→Prop where
 | base {j i:Nat} {o:Oper} {e:Edge}:ops[j]? =some o→e ∈ o.after→Region.binds .any e=true→e.on=i→Anc ops j i
 | step {j i:Nat} {o:Oper} {e:Edge}:ops[j]? =some o→e ∈ o.after→Region.binds .any e=true→Anc ops e.on i→Anc ops j i
theorem Anc.trans {ops:Array Oper}{i j k:Nat}(h:Anc ops i j)(h2:Anc ops j k):Anc ops i k:=by
 induction h with
 | base a b c d=>exact .step a b c (d ▸ h2)
 | step a b c _ ih=>exact .step a b c (ih h2)
structure DrawOk (ops:Array Oper):Prop where
 back:∀ (i:Nat) (o:Oper),ops[i]? =some o→∀ e ∈ o.after,Region.binds .any e=true→e.on<i
 guard:∀ (i:Nat) (o:Oper) (g:Nat) (w:Bool),ops[i]? =some o→o.guard=some (g,w)→g<i
 conf:∀ (i j:Nat) (oi oj:Oper),i<j→ops[i]? =some oi→ops[j]? =some oj→oi.apart ops oj=true∨Anc ops j i
 tail:∀ (k j:Nat) (ok oj:Oper),k≤j→ops[k]? =some ok→ops[j]? =some oj→pureOp ok.op=false→∀ i,i<j→Anc ops j i
theorem backOk_spec {n:Nat}:∀ {l:List Edge},backOk n l=true→∀ e ∈ l,Region.binds .any e=true→e.on<n
 | [],_,e,he,_=>by simp at he
 | x::r,h,e,he,hb=>by
  simp only [backOk] at h
  rcases List.mem_cons.1 he with rfl|he
  ·rw [hb] at h
   simp only at h
   split at h
   ·rename_i hh; exact bltN hh
   ·simp at h
  ·split at h
   ·split at h
    ·exact backOk_spec h e he hb
    ·simp at h
   ·exact backOk_spec h e he hb
theorem maskOf_spec {ops:Array Oper}{ms:List Nat}(hms:∀ i j,(ms.getD i 0).testBit j=true→Anc ops i j){k:Nat}{o:Oper}(hk:ops[k]? =some o) :
  ∀ {l:List Edge},(∀ e ∈ l,e ∈ o.after)→∀ j,(maskOf ms l).testBit j=true→Anc ops k j
 | [],_,j,h=>by simp [maskOf] at h
 | e::es,hl,j,h=>by
  simp only [maskOf] at h
  split at h
  ·rename_i hb
   rw [Nat.testBit_or,Nat.testBit_or,Bool.or_eq_true,Bool.or_eq_true] at h
   rcases h with h|h|h
   ·rw [Nat.testBit_two_pow] at h
    exact .base hk (hl e (by simp)) hb (by simpa using h)
   ·exact .step hk (hl e (by simp)) hb (hms _ _ h)
   ·exact maskOf_spec hms hk (fun e he=>hl e (by simp [he])) j h
  ·exact maskOf_spec hms hk (fun e he=>hl e (by simp [he])) j h
theorem rowOk_spec {ops:Array Oper}{m:Nat}{y:Oper}:∀ {l:List Oper} {i:Nat},rowOk ops m y l i=true→∀ (j:Nat) (x:Oper),l[j]? =some x→m.testBit (i+j)=true∨x.apart ops y=true
 | [],_,_,j,x,hx=>by simp at hx
 | z::r,i,h,j,x,hx=>by
  simp only [rowOk] at h
  have rest:rowOk ops m y r (i+1)=true:=by
   split at h
   ·exact h
   ·split at h
    ·exact h
    ·simp at h
  cases j with
  | zero =>
   simp at hx; subst hx
   split at h
   ·rename_i hh; exact .inl (by simpa using hh)
   ·split at h
    ·rename_i hh; exact .inr hh
    ·simp at h
  | succ j =>
   have:=rowOk_spec rest j x (by simpa using hx)
   rwa [show i+(j+1)=i+1+j from by omega]
theorem impOf_true {imp:Bool}{o:Oper}(h:impOf imp o=false):imp=false∧pureOp o.op=true:=by
 unfold impOf at h
 split at h
 ·simp at h
 ·split at h
  ·rename_i hh; exact ⟨rfl,hh⟩
  ·simp at h
theorem drawGo_spec {ops:Array Oper}:∀ (r pre:List Oper) (ms:List Nat) (imp:Bool),ops.toList=pre++r→ms.length=pre.length→(∀ i j,(ms.getD i 0).testBit j=true→Anc ops i j) →
  (imp=false→∀ (k:Nat) (o:Oper),pre[k]? =some o→pureOp o.op=true)→drawGo ops r pre ms imp=true →
  ∀ (j:Nat) (o:Oper),pre.length≤j→ops[j]? =some o →
   (∀ e ∈ o.after,Region.binds .any e=true→e.on<j)∧(∀ g w,o.guard=some (g,w)→g<j) ∧
   (∀ (i:Nat) (oi:Oper),i<j→ops[i]? =some oi→oi.apart ops o=true∨Anc ops j i) ∧
   ((imp=true∨∃ (k:Nat) (ok:Oper),k≤j∧ops[k]? =some ok∧pureOp ok.op=false)→∀ i,i<j→Anc ops j i)
 | [],pre,ms,imp,hl,_,_,_,_,j,o,hj,ho=>by
  have:ops.toList.length≤j:=by rw [hl]; simpa using hj
  rw [Array.getElem?_eq_none (by simpa using this)] at ho
  simp at ho
 | x::r,pre,ms,imp,hl,hlen,hms,hpure,h,j,o,hj,ho=>by
  simp only [drawGo] at h
  split at h; · simp at h
  rename_i hb
  split at h; · simp at h
  rename_i hg
  split at h; · simp at h
  rename_i hr
  have hx:ops[pre.length]? =some x:=by
   have:ops.toList[pre.length]? =some x:=by rw [hl]; simp
   simpa using this
  have hmask:∀ i,(maskOf ms x.after.toList).testBit i=true→Anc ops pre.length i:=maskOf_spec hms hx (by simp)
  have hms':∀ i j,((ms++[maskOf ms x.after.toList]).getD i 0).testBit j=true→Anc ops i j:=by
   intro i j hij
   rcases Nat.lt_trichotomy i ms.length with hi|hi|hi
   ·rw [List.getD_eq_getElem?_getD,List.getElem?_append_left hi,← List.getD_eq_getElem?_getD] at hij
    exact hms i j hij
   ·subst hi
    rw [List.getD_eq_getElem?_getD,List.getElem?_append_right (Nat.le_refl _)] at hij
    simp at hij
    rw [hlen]
    exact hmask j hij
   ·rw [List.getD_eq_getElem?_getD,List.getElem?_eq_none (by simp; omega)] at hij
    simp at hij
  have hl':ops.toList=(pre++[x])++r:=by simp [hl]
  have hlen':(ms++[maskOf ms x.after.toList]).length=(pre++[x]).length:=by simp [hlen]
  have hpre:∀ (i:Nat) (oi:Oper),i<pre.length→ops[i]? =some oi→pre[i]? =some oi:=by
   intro i oi hi hoi
   have:ops.toList[i]? =some oi:=by simpa using hoi
   rw [hl,List.getElem?_append_left hi] at this
   exact this
  rcases Nat.lt_or_ge pre.length j with hj'|hj'
  ·
   split at h
   ·rename_i himp
    split at h
    ·have:=drawGo_spec r (pre++[x]) _ true hl' hlen' hms' (by simp) h j o (by simp; omega) ho
     exact ⟨this.1,this.2.1,this.2.2.1,fun _=>this.2.2.2 (.inl rfl)⟩
    ·simp at h
   ·rename_i himp
    obtain ⟨e1,e2⟩:=impOf_true himp
    have:=drawGo_spec r (pre++[x]) _ false hl' hlen' hms' (fun _ k o' hk=>by
     rcases Nat.lt_trichotomy k pre.length with hi|hi|hi
     ·rw [List.getElem?_append_left hi] at hk; exact hpure e1 k o' hk
     ·subst hi; simp at hk; subst hk; exact e2
     ·rw [List.getElem?_eq_none (by simp; omega)] at hk; simp at hk) h j o (by simp; omega) ho
    refine ⟨this.1,this.2.1,this.2.2.1,fun hh=>this.2.2.2 ?_⟩
    rcases hh with hh|hh
    ·rw [e1] at hh; simp at hh
    ·exact .inr hh
  ·
   obtain rfl:j=pre.length:=by omega
   rw [hx] at ho
   simp only [Option.some.injEq] at ho
   subst ho
   refine ⟨fun e he hbe=>by have:=backOk_spec hb e (by simpa using he) hbe; omega,fun g w hgw=> ?_,fun i oi hi hoi=> ?_,fun hh i hi=> ?_⟩
   ·simp only [gBack,hgw] at hg
    have:=bltN hg
    omega
   ·rcases rowOk_spec hr i oi (hpre i oi hi hoi) with h1|h1
    ·exact .inr (hmask i (by simpa using h1))
    ·exact .inl h1
   ·have himp:impOf imp x=true:=by
     cases hq:impOf imp x with
     | true=>rfl
     | false =>
      obtain ⟨e1,e2⟩:=impOf_true hq
      rcases hh with hh|⟨k,ok,hk,hok,hp⟩
      ·rw [e1] at hh; simp at hh
      ·rcases Nat.lt_or_ge k pre.length with hk'|hk'
       ·rw [hpure e1 k ok (hpre k ok hk' hok)] at hp; simp at hp
       ·obtain rfl:k=pre.length:=by omega
        rw [hx] at hok; simp only [Option.some.injEq] at hok; subst hok
        rw [e2] at hp; simp at hp
    rw [himp] at h
    simp only at h
    split at h
    ·rename_i hm
     have hm:=Nat.beq_spec hm
     refine hmask i ?_
     rw [hm,Nat.testBit_two_pow_sub_one]
     simp; omega
    ·simp at h
theorem drawOk_spec {ops:Array Oper}(h:drawOk ops=true):DrawOk ops:=by
 have:=drawGo_spec ops.toList [] [] false (by simp) rfl (by simp) (by simp) h
 exact ⟨fun i o ho=>(this i o (by simp) ho).1,fun i o g w ho hg=>(this i o (by simp) ho).2.1 g w hg,fun i j oi oj hij hi hj=>(this j oj (by simp) hj).2.2.1 i oi hij hi,
  fun k j ok oj hkj hk hj hp=>(this j oj (by simp) hj).2.2.2 (.inr ⟨k,ok,hkj,hk,hp⟩)⟩
theorem Anc.lt {ops:Array Oper}(hd:DrawOk ops){j i:Nat}(h:Anc ops j i):i<j:=by
 induction h with
 | base a b c d=>have:=hd.back _ _ a _ b c; omega
 | step a b c _ ih=>have:=hd.back _ _ a _ b c; omega
section
variable {P:Program} {tb:TB} {gl:Gl}
def Wr (ops:Array Oper) (j t:Nat):Prop:=∃ o,ops[j]? =some o∧o.dst=some t
def Lk (ops:Array Oper) (i t:Nat):Prop :=
 (∃ j,j<i∧Wr ops j t∧Anc ops i j)∨((∀ j,j<i→¬ Wr ops j t)∧∀ j,i<j→Wr ops j t→Anc ops j i)
theorem looks_Lk {ops:Array Oper}(hd:DrawOk ops){i:Nat}{o:Oper}(ho:ops[i]? =some o){t:Nat}(ht:t ∈ o.looksAt ops):Lk ops i t:=by
 by_cases h:∃ j,j<i∧Wr ops j t
 ·obtain ⟨j,hj,oj,hoj,hdj⟩:=h
  refine .inl ⟨j,hj,⟨oj,hoj,hdj⟩,?_⟩
  rcases hd.conf j i oj o hj hoj ho with h1|h1
  ·exact absurd ht ((Oper.apart_spec h1).1 t hdj)
  ·exact h1
 ·refine .inr ⟨fun j hj hw=>h ⟨j,hj,hw⟩,fun j hj ⟨oj,hoj,hdj⟩=> ?_⟩
  rcases hd.conf i j o oj hj ho hoj with h1|h1
  ·exact absurd ht ((Oper.apart_spec h1).2.2 t hdj)
  ·exact h1
def envAt (env:Env) (l:List Oper) (V:Nat→AV):Nat→Env
 | 0=>env
 | j+1=>match l[j]? with
  | none=>envAt env l V j
  | some o=>putE o.dst (V j) (envAt env l V j)
theorem envAt_congr {env:Env}{l:List Oper}{V V':Nat→AV}:∀ {i:Nat},(∀ j,j<i→V j=V' j)→envAt env l V i=envAt env l V' i
 | 0,_=>rfl
 | i+1,h=>by
  simp only [envAt]
  rw [envAt_congr (V':=V') (i:=i) fun j hj=>h j (by omega),h i (by omega)]
theorem get_putE_ne {d:Option Nat}{x:AV}{env:Env}{t:Nat}(h:d≠some t):get (putE d x env) t=get env t:=by
 cases d with
 | none=>rfl
 | some s =>
  simp only [putE,get]
  split
  ·rename_i e; exact absurd (by rw [Nat.beq_spec e]) h
  ·rfl
theorem get_putE_same {x:AV}{env:Env}{t:Nat}:get (putE (some t) x env) t=x:=by simp [putE,get]
theorem envAt_none {env:Env}{ops:Array Oper}{V:Nat→AV}{t:Nat}:∀ {i:Nat},(∀ j,j<i→¬ Wr ops j t)→get (envAt env ops.toList V i) t=get env t
 | 0,_=>rfl
 | i+1,h=>by
  simp only [envAt]
  have ih:=envAt_none (V:=V) (env:=env) (i:=i) fun j hj=>h j (by omega)
  split
  ·exact ih
  ·rename_i o ho
   rw [get_putE_ne fun e=>h i (by omega) ⟨o,by simpa using ho,e⟩]
   exact ih
theorem envAt_some {env:Env}{ops:Array Oper}{V:Nat→AV}{t j:Nat}:∀ {i:Nat},j<i→Wr ops j t→(∀ j',j'<i→Wr ops j' t→j'=j)→get (envAt env ops.toList V i) t=V j
 | 0,hj,_,_=>by omega
 | i+1,hj,hw,hu=>by
  simp only [envAt]
  by_cases hji:j=i
  ·subst hji
   obtain ⟨o,ho,hd⟩:=hw
   have:ops.toList[j]? =some o:=by simpa using ho
   rw [this]
   simp only
   rw [hd,get_putE_same]
  ·have ih:=envAt_some (env:=env) (V:=V) (i:=i) (by omega) hw fun j' hj'=>hu j' (by omega)
   split
   ·exact ih
   ·rename_i o ho
    rw [get_putE_ne fun e=>hji (hu i (by omega) ⟨o,by simpa using ho,e⟩).symm]
    exact ih
def Uniq (ops:Array Oper) (i:Nat):Prop:=∀ j j' t,j<i→j'<i→Wr ops j t→Wr ops j' t→j=j'
def GdOf (ops:Array Oper) (V:Nat→AV) (i:Nat):Prop :=
 ∀ j,j<i→∀ s w x,V j= .gd s w x→∃ o g,ops[j]? =some o∧o.guard=some (g,w)∧(ops[g]?).bind (·.dst)=some s
theorem gdCl {ops:Array Oper}(hd:DrawOk ops){env:Env}(hn:NoGd env){V:Nat→AV}{i:Nat}(hu:Uniq ops i)(hg:GdOf ops V i):GdCl (Lk ops i) (envAt env ops.toList V i):=by
 intro t s w x hl hget
 by_cases h:∃ j,j<i∧Wr ops j t
 ·obtain ⟨j,hj,hw⟩:=h
  rw [envAt_some hj hw fun j' hj' hw'=>hu j' j t hj' hj hw' hw] at hget
  obtain ⟨o,g,h1,h2,h3⟩:=hg j hj s w x hget
  have hij:Anc ops i j:=by
   rcases hl with ⟨j',hj',hw',ha⟩|⟨hno,_⟩
   ·rw [hu j j' t hj hj' hw hw']; exact ha
   ·exact absurd hw (hno j hj)
  have hgj:=hd.guard j o g w h1 h2
  cases hog:ops[g]? with
  | none=>simp [hog] at h3
  | some og =>
   simp only [hog,Option.bind_some] at h3
   have hjg:Anc ops j g:=by
    rcases hd.conf g j og o hgj hog h1 with h4|h4
    ·exact absurd (by simp [Oper.looksAt,h2,hog,h3]) ((Oper.apart_spec h4).1 s h3)
    ·exact h4
   exact .inl ⟨g,by omega,⟨og,hog,h3⟩,hij.trans hjg⟩
 ·rw [envAt_none fun j hj hw=>h ⟨j,hj,hw⟩] at hget
  have:=hn _ (get_key hget)
  simp at this
def PF (P:Program) (gl:Gl) (ops:Array Oper) (L:List AO) (env:Env) (V:Nat→AV) (j:Nat):Prop :=
 ∃ o,ops[j]? =some o ∧
  ((o.guard=none∧gkey (V j)=none∧PureTo P gl (restrict (Lk ops j) (envAt env ops.toList V j)) .no L o (V j)) ∨
   ∃ g w s x,o.guard=some (g,w)∧(ops[g]?).bind (·.dst)=some s∧V j= .gd s w x∧PureTo P gl (restrict (Lk ops j) (envAt env ops.toList V j)) (.at s w) L o x)
theorem PF.congr {ops:Array Oper}{L:List AO}{env:Env}{V V':Nat→AV}{j:Nat}(h:PF P gl ops L env V j)(hv:∀ i,i≤j→V i=V' i):PF P gl ops L env V' j:=by
 unfold PF at *
 rw [← hv j (by omega),← envAt_congr (fun i hi=>hv i (by omega))]
 exact h
theorem PureTo.strip {env:Env}{key:Key}{L:List AO}{o:Oper}{x:AV}(h:PureTo P gl env key L o x):PureTo P gl env key L o (strip x) :=
 fun M B a w h1 h2 h3 h4 next Q hn=>h M B a w h1 h2 h3 h4 next Q fun u w' ⟨k1,k2⟩=>hn u w' ⟨k1,strip_rel k2⟩
theorem opPure_lk (htb:TbOk P tb){ops:Array Oper}(hd:DrawOk ops){env:Env}{V:Nat→AV}{L:List AO}{i:Nat}{o:Oper}(ho:ops[i]? =some o){key:Key}(hkey:∀ s w,key= .at s w→Lk ops i s)
  (hcl:GdCl (Lk ops i) (envAt env ops.toList V i)) {K:AV→Prop} (h:opPure P tb gl (envAt env ops.toList V i) key L o.op K) :
  ∃ x,K x∧PureTo P gl (restrict (Lk ops i) (envAt env ops.toList V i)) key L o x:=by
 refine opPure_sound htb ?_
 rw [opPure_congr (env:=envAt env ops.toList V i) (fun key2 x hx=>evO_restrict key key2 x fun t ht=>looks_Lk hd ho ?_) (fun p=>chain_restrict hcl 20 key p hkey)]
 ·exact h
 ·subst ht
  exact List.mem_append_left _ (List.mem_filterMap.2 ⟨.tmp t,by simpa using hx,rfl⟩)
theorem upd_lt {V:Nat→AV}{i:Nat}{x:AV}{j:Nat}(h:j<i):(fun k=>if k=i then x else V k) j=V j:=by
 simp only
 rw [if_neg (by omega)]
structure FrontSplit (P:Program) (tb:TB) (gl:Gl) (ro:Nat) (ops:Array Oper) (L:List AO) (env:Env) (K:Env→List AO→Prop) (V:Nat→AV) (n k:Nat):Prop where
 le:k≤ops.size
 pf:∀ j,j<k→PF P gl ops L env V j
 uniq:Uniq ops k
 gdOf:GdOf ops V k
 imp:∀ o,ops[k]? =some o→pureOp o.op=false
 tail:∃ seen,GdIn seen (envAt env ops.toList V k)∧seqOps P tb gl ro ops.toList (ops.toList.drop k) seen (envAt env ops.toList V k) L K
 top:∃ m,Top m (envAt env ops.toList V k)∧m+cntD (ops.toList.drop k)=n
theorem front_split (htb:TbOk P tb){ro:Nat}{ops:Array Oper}(hd:DrawOk ops){env:Env}(hn:NoGd env){L:List AO}{K:Env→List AO→Prop} :
  ∀ (r:List Oper) (i:Nat) (seen:List Nat) (V:Nat→AV) (m:Nat),ops.toList.drop i=r→i≤ops.size→(∀ j,j<i→PF P gl ops L env V j)→Uniq ops i→GdOf ops V i →
   (∀ j t,j<i→Wr ops j t→t ∈ seen)→GdIn seen (envAt env ops.toList V i)→Top m (envAt env ops.toList V i) →
   frontOps P tb gl ro ops.toList r seen (envAt env ops.toList V i) L K →
   ∃ V' k,FrontSplit P tb gl ro ops L env K V' (m+cntD r) k
 | [],i,seen,V,m,hr,hi,hpf,hu,hg,hseen,hgd,ht,h=>by
  simp only [frontOps,stripK_eq,gdK_eq] at h
  refine ⟨V,i,hi,hpf,hu,hg,fun o ho=> ?_,⟨seen,hgd,by rw [hr]; simpa [seqOps] using h⟩,⟨m,ht,by rw [hr]⟩⟩
  have hlt:=(Array.getElem?_eq_some_iff.1 ho).1
  have:=congrArg List.length hr
  simp at this
  omega
 | o::r,i,seen,V,m,hr,hi,hpf,hu,hg,hseen,hgd,ht,h=>by
  have hoi:ops[i]? =some o:=by
   have:(ops.toList.drop i)[0]? =some o:=by rw [hr]; rfl
   rw [List.getElem?_drop] at this
   simpa using this
  have hlt:=(Array.getElem?_eq_some_iff.1 hoi).1
  simp only [frontOps,stripK_eq,gdK_eq] at h
  split at h
  ·rename_i hp
   refine ⟨V,i,hi,hpf,hu,hg,fun o' ho'=> ?_,⟨seen,hgd,by rw [hr]; exact h⟩,⟨m,ht,by rw [hr]⟩⟩
   rw [hoi] at ho'; simp only [Option.some.injEq] at ho'; subst ho'; exact hp
  ·rename_i hp
   split at h; · exact h.elim
   rename_i hdst
   have hfresh:∀ t,o.dst=some t→t ∉ seen:=by
    intro t e hm
    rw [e] at hdst
    simp only [dstOk] at hdst
    split at hdst
    ·simp at hdst
    ·rename_i h2; rw [memN_spec.2 hm] at h2; simp at h2
   have hu':Uniq ops (i+1):=by
    intro j j' t hj hj' hw hw'
    rcases Nat.lt_or_ge j i with h1|h1<;>rcases Nat.lt_or_ge j' i with h2|h2
    ·exact hu j j' t h1 h2 hw hw'
    ·obtain rfl:j'=i:=by omega
     obtain ⟨o',e1,e2⟩:=hw'
     rw [hoi] at e1; simp only [Option.some.injEq] at e1; subst e1
     exact absurd (hseen j t h1 hw) (hfresh t e2)
    ·obtain rfl:j=i:=by omega
     obtain ⟨o',e1,e2⟩:=hw
     rw [hoi] at e1; simp only [Option.some.injEq] at e1; subst e1
     exact absurd (hseen j' t h2 hw') (hfresh t e2)
    ·omega
   have hseen':∀ j t,j<i+1→Wr ops j t→t ∈ addD o.dst seen:=by
    intro j t hj hw
    rcases Nat.lt_or_ge j i with h1|h1
    ·have:=hseen j t h1 hw
     cases o.dst<;>simp [addD,this]
    ·obtain rfl:j=i:=by omega
     obtain ⟨o',e1,e2⟩:=hw
     rw [hoi] at e1; simp only [Option.some.injEq] at e1; subst e1
     simp [addD,e2]
   have hr':ops.toList.drop (i+1)=r:=by
    have:=congrArg (List.drop 1) hr
    rw [List.drop_drop] at this
    simpa using this
   have hcl:=gdCl hd hn hu hg
   have hol:ops.toList[i]? =some o:=by simpa using hoi
   have go:∀ x,(∀ V',(∀ j,j<i→V' j=V j)→V' i=x→PF P gl ops L env V' i)→(∀ s w y,x= .gd s w y→s ∈ seen∧∃ g,o.guard=some (g,w)∧(ops[g]?).bind (·.dst)=some s) →
     frontOps P tb gl ro ops.toList r (addD o.dst seen) (putE o.dst x (envAt env ops.toList V i)) L K→∃ V' k,FrontSplit P tb gl ro ops L env K V' (m+cntD (o::r)) k:=by
    intro x hx hgx hK
    have hV:∀ j,j<i→(fun k=>if k=i then x else V k) j=V j:=fun j hj=>upd_lt hj
    have hVi:(fun k=>if k=i then x else V k) i=x:=by simp
    generalize (fun k=>if k=i then x else V k)=V' at hV hVi
    have hE:envAt env ops.toList V' i=envAt env ops.toList V i:=envAt_congr hV
    have hE1:envAt env ops.toList V' (i+1)=putE o.dst x (envAt env ops.toList V i):=by
     simp only [envAt,hol,hVi,hE]
    have:=front_split htb hd hn r (i+1) (addD o.dst seen) V' (m+match o.dst with|none=>0|some _=>1) hr' (by omega) (fun j hj=>by
     rcases Nat.lt_or_ge j i with h1|h1
     ·exact (hpf j h1).congr fun k hk=>(hV k (by omega)).symm
     ·obtain rfl:j=i:=by omega
      exact hx V' hV hVi) hu' (fun j hj s w y hv=>by
     rcases Nat.lt_or_ge j i with h1|h1
     ·exact hg j h1 s w y (by rw [← hV j h1]; exact hv)
     ·obtain rfl:j=i:=by omega
      obtain ⟨g,k1,k2⟩:=(hgx s w y (by rw [← hVi]; exact hv)).2
      exact ⟨o,g,hoi,k1,k2⟩) hseen' (by
     rw [hE1]
     exact hgd.put o.dst fun s hs=>by
      cases x<;>simp only [gkey,reduceCtorEq,Option.some.injEq] at hs
      subst hs
      exact (hgx _ _ _ rfl).1) (by rw [hE1]; exact ht.put o.dst x) (by rw [hE1]; exact hK)
    have hc:m+cntD (o::r)=(m+match o.dst with|none=>0|some _=>1)+cntD r:=by
     simp only [cntD]; cases o.dst<;>simp; omega
    rw [hc]
    exact this
   split at h
   ·rename_i hguard
    obtain ⟨x,hK,hpt⟩:=opPure_lk htb hd hoi (key:= .no) (by simp) hcl h
    refine go (strip x) (fun V' hV hVi=>⟨o,hoi,.inl ⟨hguard,by rw [hVi]; exact strip_key x,?_⟩⟩) (fun s w y e=> ?_) hK
    ·rw [hVi,envAt_congr hV]; exact hpt.strip
    ·have:=strip_key x; rw [e] at this; simp [gkey] at this
   ·rename_i g w hguard
    split at h; · exact h.elim
    rename_i s hs
    split at h; · exact h.elim
    rename_i hm
    have hm:=memN_spec.1 hm
    have hs':(ops[g]?).bind (·.dst)=some s:=by rw [← hs,dstOf_eq]; simp
    obtain ⟨x,hK,hpt⟩:=opPure_lk htb hd hoi (key:= .at s w) (fun s' w' e=>by
     simp only [Key.at.injEq] at e
     rw [← e.1]
     exact looks_Lk hd hoi (by simp [Oper.looksAt,hguard,hs'])) hcl h
    refine go (.gd s w x) (fun V' hV hVi=>⟨o,hoi,.inr ⟨g,w,s,x,hguard,hs',hVi,?_⟩⟩) (fun s' w' y e=> ?_) hK
    ·rw [envAt_congr hV]; exact hpt
    ·simp only [AV.gd.injEq] at e
     obtain ⟨rfl,rfl,rfl⟩:=e
     exact ⟨hm,g,hguard,hs'⟩
end
end Go.VA
