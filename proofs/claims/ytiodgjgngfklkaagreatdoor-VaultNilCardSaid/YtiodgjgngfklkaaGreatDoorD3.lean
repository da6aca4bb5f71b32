/- Contracts of functions of the program,and the laws that stand on them: what each function answers,whatever its arguments. -/
import Derived.Test.YtiodgjgngfklkaaGreatDoorD0
import Derived.RangeFuncNested
import Derived.RangeFuncWrites
import Derived.RangeFuncBound
import Derived.RangeFuncCalls
import Derived.RangeFuncLeaves
import Derived.RangeFuncMany
import Derived.Shelf.Abstract
import Derived.Shelf.RegionOpen
import Derived.Sort.MapsRangeIn
import Derived.Sort.KeysCollected
import Derived.WalkKit
import Derived.WalkSpells
import Derived.Laws.Externs
import Derived.MapKept
import Derived.OwnWalkIn
import Derived.TacticsInMore
import Derived.RegionIn
import Derived.LoopNIn
import Derived.LoopIn
set_option linter.all false
set_option maxRecDepth 100000
set_option maxHeartbeats 8000000
namespace Go.Proofs.YtiodgjgngfklkaaGreatDoor
open Go Go.VA Go.RowKit
abbrev xP (s:ByteArray) (n:Nat) (f:Nat→List C):List AO:=[.box [.ptr 0 0],.box [.c (.v (.string s))],.box [.c (.sl false 1 n f)]]
abbrev xS (s:ByteArray):List AO:=[.box [.ptr 0 0],.box [.c (.v (.string s))]]
theorem gBurnP0 (s:ByteArray)(n:Nat)(f:Nat→List C)(dead:Bool)(ops:Int)(m:List (Value×AV)):GCall Tryz.prog glD 92 (dskB 0 dead ops:: .mp m::xP s n f) [.ptr 0 0] (dskB 0 dead (IntKind.i64.wrap (ops+1)):: .mp m::xP s n f) [boolA false]:=by
 refine gcall_of_vcb htb hmix (f:=92) rfl rfl rfl (by kernel_rfl) rfl rfl rfl fun hb hb2=> ?_; simp only [bndOs,bndO,gbnds,AV.gbnd,bnds,C.bnd,true_and,and_true] at hb hb2; conv=>whnf
 repeat' (first|(refine And.intro (fun h=> ?_) (fun h=> ?_)<;>(first|skip)<;>(first|exact absurd h (by decide)|(conv=>whnf)))|(refine And.intro ?_ ?_; (focus (first|exact rfl|fail)); conv=>whnf)|fail)
 all_goals try (exfalso; revert h; decide)
 ((conv=>whnf); repeat' (first|exact trivial|exact rfl|exact LeC.refl _|((with_reducible refine And.intro ?_ ?_)<;>conv=>whnf)))
 all_goals exact LeMs.refl _
theorem gBurnPN (s:ByteArray)(n:Nat)(f:Nat→List C)(fuse:Int)(hf:(fuse==0)=false)(dead:Bool)(ops:Int)(m:List (Value×AV)):GCall Tryz.prog glD 92 (dskB fuse dead ops:: .mp m::xP s n f) [.ptr 0 0] (dskB (IntKind.i64.wrap (fuse-1)) (IntKind.i64.wrap (fuse-1)==0) (IntKind.i64.wrap (ops+1)):: .mp m::xP s n f) [boolA (IntKind.i64.wrap (fuse-1)==0)]:=by
 refine gcall_of_vcb htb hmix (f:=92) rfl rfl rfl (by kernel_rfl) rfl rfl rfl fun hb hb2=> ?_; simp only [bndOs,bndO,gbnds,AV.gbnd,bnds,C.bnd,true_and,and_true] at hb hb2; conv=>whnf
 repeat' (first|(refine And.intro (fun h=> ?_) (fun h=> ?_)<;>(first|skip)<;>(first|(conv=>whnf)))|(refine And.intro ?_ ?_; (focus (first|exact rfl|fail)); conv=>whnf)|fail)
 all_goals try (exact absurd (hf.symm.trans h) (by decide))
 ((conv=>whnf); repeat' (first|exact trivial|exact rfl|exact LeC.refl _|((with_reducible refine And.intro ?_ ?_)<;>conv=>whnf)))
 all_goals exact LeMs.refl _
theorem gBurnS0 (s:ByteArray)  (dead:Bool)(ops:Int)(m:List (Value×AV)):GCall Tryz.prog glD 92 (dskB 0 dead ops:: .mp m::xS s) [.ptr 0 0] (dskB 0 dead (IntKind.i64.wrap (ops+1)):: .mp m::xS s) [boolA false]:=by
 refine gcall_of_vcb htb hmix (f:=92) rfl rfl rfl (by kernel_rfl) rfl rfl rfl fun hb hb2=> ?_; simp only [bndOs,bndO,gbnds,AV.gbnd,bnds,C.bnd,true_and,and_true] at hb hb2; conv=>whnf
 repeat' (first|(refine And.intro (fun h=> ?_) (fun h=> ?_)<;>(first|skip)<;>(first|exact absurd h (by decide)|(conv=>whnf)))|(refine And.intro ?_ ?_; (focus (first|exact rfl|fail)); conv=>whnf)|fail)
 all_goals try (exfalso; revert h; decide)
 ((conv=>whnf); repeat' (first|exact trivial|exact rfl|exact LeC.refl _|((with_reducible refine And.intro ?_ ?_)<;>conv=>whnf)))
 all_goals exact LeMs.refl _
theorem gBurnSN (s:ByteArray)  (fuse:Int)(hf:(fuse==0)=false)(dead:Bool)(ops:Int)(m:List (Value×AV)):GCall Tryz.prog glD 92 (dskB fuse dead ops:: .mp m::xS s) [.ptr 0 0] (dskB (IntKind.i64.wrap (fuse-1)) (IntKind.i64.wrap (fuse-1)==0) (IntKind.i64.wrap (ops+1)):: .mp m::xS s) [boolA (IntKind.i64.wrap (fuse-1)==0)]:=by
 refine gcall_of_vcb htb hmix (f:=92) rfl rfl rfl (by kernel_rfl) rfl rfl rfl fun hb hb2=> ?_; simp only [bndOs,bndO,gbnds,AV.gbnd,bnds,C.bnd,true_and,and_true] at hb hb2; conv=>whnf
 repeat' (first|(refine And.intro (fun h=> ?_) (fun h=> ?_)<;>(first|skip)<;>(first|(conv=>whnf)))|(refine And.intro ?_ ?_; (focus (first|exact rfl|fail)); conv=>whnf)|fail)
 all_goals try (exact absurd (hf.symm.trans h) (by decide))
 ((conv=>whnf); repeat' (first|exact trivial|exact rfl|exact LeC.refl _|((with_reducible refine And.intro ?_ ?_)<;>conv=>whnf)))
 all_goals exact LeMs.refl _
theorem gPutD (fuse fuse' ops ops':Int)(dead dead' burnt:Bool)(s:ByteArray)(m:List (Value×AV))(hm:mOk (tb 9).k m=true)(x z:C)(b:Bool)(hq:mFnd s m (fl x z,b))(n:Nat)(f:Nat→List C)(hn:n≤262144)
  (hbn:GCall Tryz.prog glD 92 (dskB fuse dead ops:: .mp m::xP s n f) [.ptr 0 0] (dskB fuse' dead' ops':: .mp m::xP s n f) [boolA burnt]) :
  GCall Tryz.prog glD 53 [dskB fuse dead ops,.mp m] [.ptr 0 0,.c (.v (.string s)),.c (.sl false 1 n f)]
   [dskB fuse' dead' ops',.mp (mPut (.string s) (fl (.sl false 1 n f) z) m)] [intA .i64 (if burnt then 21 else 0)]:=by
 have G:=gChangePut fuse fuse' ops ops' dead dead' m (mPut (.string s) (fl (.sl false 1 n f) z) m) (xP s n f) [.ptr 2 0,.ptr 3 0,.ptr 4 0] burnt true (fun _=>rfl) (fun i hi=>by
  match i,hi with
  | 0,_=>exact (by decide:(1:Nat)≠3)
  | 1,_=>exact (by decide:(1:Nat)≠3)
  | 2,_=>exact (by decide:(1:Nat)≠3)) (fun B S S' us h=>by simpa only [RelVs,RelV] using h) hbn (gPut1 fuse' dead' ops' s m hm x z b hq n f)
 refine gcall_of_vcb htb hmix (f:=53) rfl rfl rfl (by kernel_rfl) rfl rfl rfl fun hb hb2=> ?_; simp only [bndOs,bndO,gbnds,AV.gbnd,bnds,C.bnd,true_and,and_true] at hb hb2; conv=>whnf
 repeat' (first|(refine And.intro (fun h=> ?_) (fun h=> ?_)<;>(first|(with_reducible have hd:_<_:=of_decide_eq_true h)|(with_reducible have hd:¬ (_<_):=of_decide_eq_false h)|fail)<;>(first|(conv=>whnf)))|(refine And.intro ?_ ?_; (focus (first|exact rfl|(intro _; (first|omega|fail))|(first|omega|fail)|fail)); conv=>whnf)|((with_reducible refine xc_guard ?_); (first|(refine xc_g (G) false (by first|(((conv=>whnf); repeat' (first|exact trivial|exact rfl|exact LeC.refl _|exact LeMs.refl _|((with_reducible refine And.intro ?_ ?_)<;>conv=>whnf))); done)|fail) trivial ?_)|fail); conv=>whnf)|fail)
 all_goals try (exfalso; omega)
 ((conv=>whnf); repeat' (first|exact trivial|exact rfl|exact LeC.refl _|((with_reducible refine And.intro ?_ ?_)<;>conv=>whnf)))
 all_goals exact LeMs.refl _
theorem oneS (s:ByteArray)(i:Nat)(hi:i<1):nthC [[C.v (.string s)]] i=[C.v (.string s)]:=by
 have:i=0:=Nat.lt_one_iff.1 hi
 subst this
 rfl
theorem gNames (t:Bool)(n:Nat)(l:Nat→ByteArray)(f:Nat→List C)(hf:∀ i,i<n→f i=[.v (.string (l i))])(hw:∀ i,i<n→wordB (l i)=true)(fuse:Int)(ops:Int)(m:List (Value×AV)) :
  GCall Tryz.prog glD 52 [dskB fuse false ops,.mp m] [.ptr 0 0,.c (.sl t 1 n f)] [dskB fuse false ops,.mp m] [intA .i64 0]:=by
 refine gcall_of_vcb htb hmix (f:=52) rfl rfl rfl (by kernel_rfl) rfl rfl rfl fun hb hb2=> ?_; simp only [bndOs,bndO,gbnds,AV.gbnd,bnds,C.bnd,true_and,and_true] at hb hb2; conv=>whnf
 repeat' (first|(refine Exists.intro _ (And.intro (aContW t n l f hf hw) ?_); conv=>whnf)|(refine And.intro (fun h=> ?_) (fun h=> ?_)<;>(first|skip)<;>(first|exact absurd h (by decide)|(conv=>whnf)))|(refine And.intro ?_ ?_; (focus (first|exact rfl|fail)); conv=>whnf)|((with_reducible refine xc_pure ?_); conv=>whnf))
 all_goals try (exfalso; revert h; decide)
 ((conv=>whnf); repeat' (first|exact trivial|exact rfl|exact LeC.refl _|((with_reducible refine And.intro ?_ ?_)<;>conv=>whnf)))
 all_goals exact LeMs.refl _
theorem gThere (s:ByteArray)(m:List (Value×AV))(hm:mOk (tb 9).k m=true)(x z:C)(hq:mFnd s m (fl x z,true))(fuse:Int)(dead:Bool)(ops:Int) :
  GCall Tryz.prog glD 34 [dskB fuse dead ops,.mp m] [.ptr 0 0,.c (.v (.string s))] [dskB fuse dead ops,.mp m] [intA .i64 0]:=by
 refine gcall_of_vcb htb hmix (f:=34) rfl rfl rfl (by kernel_rfl) rfl rfl rfl fun hb hb2=> ?_; simp only [bndOs,bndO,gbnds,AV.gbnd,bnds,C.bnd,true_and,and_true] at hb hb2; conv=>whnf
 repeat' (first|(refine Exists.intro _ (And.intro (hq) ?_); conv=>whnf)|(refine And.intro (fun h=> ?_) (fun h=> ?_)<;>(first|skip)<;>(first|exact absurd h (by decide)|(conv=>whnf)))|(refine And.intro ?_ ?_; (focus (first|exact rfl|(first|assumption)|fail)); conv=>whnf)|fail)
 all_goals try (exfalso; revert h; decide)
 ((conv=>whnf); repeat' (first|exact trivial|exact rfl|exact LeC.refl _|((with_reducible refine And.intro ?_ ?_)<;>conv=>whnf)))
 all_goals exact LeMs.refl _
theorem gWriteD (fuse fuse' ops ops':Int)(dead' burnt:Bool)(s:ByteArray)(hs:wordB s=true)(m:List (Value×AV))(hm:mOk (tb 9).k m=true)(x z:C)(b:Bool)(hq:mFnd s m (fl x z,b))(t:Bool)(n:Nat)(f:Nat→List C)(hn:n≤262144)
  (hbn:GCall Tryz.prog glD 92 (dskB fuse false ops:: .mp m::xP s n f) [.ptr 0 0] (dskB fuse' dead' ops':: .mp m::xP s n f) [boolA burnt]) :
  GCall Tryz.prog glD 26 [dskB fuse false ops,.mp m] [.ptr 0 0,.c (.v (.string s)),.c (.sl t 1 n f)]
   [dskB fuse' dead' ops',.mp (mPut (.string s) (fl (.sl false 1 n f) z) m)] [intA .i64 (if burnt then 21 else 0)]:=by
 have G:=gPutD fuse fuse' ops ops' false dead' burnt s m hm x z b hq n f hn hbn
 have N:=gNames false 1 (fun _=>s) (nthC [[C.v (.string s)]]) (oneS s) (fun i _=>hs) fuse ops m
 refine gcall_of_vcb htb hmix (f:=26) rfl rfl rfl (by kernel_rfl) rfl rfl rfl fun hb hb2=> ?_; simp only [bndOs,bndO,gbnds,AV.gbnd,bnds,C.bnd,true_and,and_true] at hb hb2; conv=>whnf
 repeat' (first|(refine Exists.intro _ (And.intro (aCloneD t n f) ?_); conv=>whnf)|(refine And.intro (fun h=> ?_) (fun h=> ?_)<;>(first|skip)<;>(first|exact absurd h (by decide)|(conv=>whnf)))|((with_reducible refine OwnOr.l ?_); (conv=>whnf))|(refine And.intro ?_ ?_; (focus (first|exact rfl|fail)); conv=>whnf)|((with_reducible refine xc_guard ?_); (first|(refine xc_g (G) false (by first|(((conv=>whnf); repeat' (first|exact trivial|exact rfl|exact LeC.refl _|exact LeMs.refl _|((with_reducible refine And.intro ?_ ?_)<;>conv=>whnf))); done)|fail) trivial ?_)|fail); conv=>whnf)|((with_reducible refine xc_guard ?_); (first|(refine xc_g (N) false (by first|(((conv=>whnf); repeat' (first|exact trivial|exact rfl|exact LeC.refl _|exact LeMs.refl _|((with_reducible refine And.intro ?_ ?_)<;>conv=>whnf))); done)|fail) trivial ?_)|fail); conv=>whnf)|((with_reducible refine xc_pure ?_); conv=>whnf))
 all_goals try (exfalso; revert h; decide)
 ((conv=>whnf); repeat' (first|exact trivial|exact rfl|exact LeC.refl _|((with_reducible refine And.intro ?_ ?_)<;>conv=>whnf)))
 all_goals exact LeMs.refl _
theorem gSync (fuse fuse' ops ops':Int)(dead':Bool)(s:ByteArray)(hs:wordB s=true)(m:List (Value×AV))(hm:mOk (tb 9).k m=true)(x z:C)(hq:mFnd s m (fl x z,true))
  (hbn:GCall Tryz.prog glD 92 (dskB fuse false ops:: .mp m::xS s) [.ptr 0 0] (dskB fuse' dead' ops':: .mp m::xS s) [boolA false]) :
  GCall Tryz.prog glD 28 [dskB fuse false ops,.mp m] [.ptr 0 0,.c (.v (.string s))] [dskB fuse' dead' ops',.mp (mPut (.string s) (fl x x) m)] [intA .i64 0]:=by
 have N:=gNames false 1 (fun _=>s) (nthC [[C.v (.string s)]]) (oneS s) (fun i _=>hs) fuse ops m
 have T:=gThere s m hm x z hq fuse false ops
 have G:=gChangeSync fuse fuse' ops ops' false dead' m (mPut (.string s) (fl x x) m) (xS s) [.ptr 2 0,.ptr 3 0] false false (fun h=>h) (fun i hi=>by
  match i,hi with
  | 0,_=>exact (by decide:(1:Nat)≠3)
  | 1,_=>exact (by decide:(1:Nat)≠3)) (fun B S S' us h=>by simpa only [RelVs,RelV] using h) hbn (gSync1 fuse' dead' ops' s m hm x z true hq)
 refine gcall_of_vcb htb hmix (f:=28) rfl rfl rfl (by kernel_rfl) rfl rfl rfl fun hb hb2=> ?_; simp only [bndOs,bndO,gbnds,AV.gbnd,bnds,C.bnd,true_and,and_true] at hb hb2; conv=>whnf
 repeat' (first|(refine And.intro (fun h=> ?_) (fun h=> ?_)<;>(first|skip)<;>(first|exact absurd h (by decide)|(conv=>whnf)))|((with_reducible refine OwnOr.l ?_); (conv=>whnf))|(refine And.intro ?_ ?_; (focus (first|exact rfl|fail)); conv=>whnf)|((with_reducible refine xc_guard ?_); (first|(refine xc_g (G) false (by first|(((conv=>whnf); repeat' (first|exact trivial|exact rfl|exact LeC.refl _|exact LeMs.refl _|((with_reducible refine And.intro ?_ ?_)<;>conv=>whnf))); done)|fail) trivial ?_)|fail); conv=>whnf)|((with_reducible refine xc_guard ?_); (first|(refine xc_g (N) false (by first|(((conv=>whnf); repeat' (first|exact trivial|exact rfl|exact LeC.refl _|exact LeMs.refl _|((with_reducible refine And.intro ?_ ?_)<;>conv=>whnf))); done)|fail) trivial ?_)|fail); conv=>whnf)|((with_reducible refine xc_guard ?_); (first|(refine xc_g (T) false (by first|(((conv=>whnf); repeat' (first|exact trivial|exact rfl|exact LeC.refl _|exact LeMs.refl _|((with_reducible refine And.intro ?_ ?_)<;>conv=>whnf))); done)|fail) trivial ?_)|fail); conv=>whnf)|fail)
 all_goals try (exfalso; revert h; decide)
 ((conv=>whnf); repeat' (first|exact trivial|exact rfl|exact LeC.refl _|((with_reducible refine And.intro ?_ ?_)<;>conv=>whnf)))
 all_goals exact LeMs.refl _
theorem gRead (fuse ops:Int)(dead:Bool)(s:ByteArray)(m:List (Value×AV))(hm:mOk (tb 9).k m=true)(n:Nat)(f:Nat→List C)(z:C)(hq:mFnd s m (fl (.sl false 1 n f) z,true)) :
  GCall Tryz.prog glD 18 [dskB fuse dead ops,.mp m] [.ptr 0 0,.c (.v (.string s))] [dskB fuse dead ops,.mp m] [.c (.sl false 1 n f),intA .i64 0]:=by
 have T:=gThere s m hm (.sl false 1 n f) z hq fuse dead ops
 refine gcall_of_vcb htb hmix (f:=18) rfl rfl rfl (by kernel_rfl) rfl rfl rfl fun hb hb2=> ?_; simp only [bndOs,bndO,gbnds,AV.gbnd,bnds,C.bnd,true_and,and_true] at hb hb2; conv=>whnf
 repeat' (first|(refine Exists.intro _ (And.intro (aCloneD false n f) ?_); conv=>whnf)|(refine Exists.intro _ (And.intro (hq) ?_); conv=>whnf)|(refine And.intro (fun h=> ?_) (fun h=> ?_)<;>(first|skip)<;>(first|exact absurd h (by decide)|(conv=>whnf)))|((with_reducible refine NilOr.l ?_); conv=>whnf)|(refine And.intro ?_ ?_; (focus (first|exact rfl|(first|assumption)|fail)); conv=>whnf)|((with_reducible refine xc_guard ?_); (first|(refine xc_g (T) false (by first|(((conv=>whnf); repeat' (first|exact trivial|exact rfl|exact LeC.refl _|exact LeMs.refl _|((with_reducible refine And.intro ?_ ?_)<;>conv=>whnf))); done)|fail) trivial ?_)|fail); conv=>whnf)|((with_reducible refine xc_pure ?_); conv=>whnf))
 all_goals try (exfalso; revert h; decide)
 ((conv=>whnf); repeat' (first|exact trivial|exact rfl|exact LeC.refl _|((with_reducible refine And.intro ?_ ?_)<;>conv=>whnf)))
 all_goals exact LeMs.refl _
open Go Go.VA Go.RowKit Go.Maps Go.Sort Go.Shelf
open Go.Proofs (encStr)
theorem encInj {a b:List UInt8}(h:encStr a=encStr b):a=b:=by simpa [encStr] using h
abbrev SV:=Option Addr×Nat×Nat
abbrev svV (s:SV):Value:= .slice s.1 s.2.1 s.2.2
abbrev flV (p:SV×SV):Value:= .agg #[svV p.1,svV p.2]
open Classical in
noncomputable def rF (v:Value):Option (DataW Value×List MemPlace):=if ∃ p,v=flV p then some (.held v,[]) else none
theorem rF_of (p:SV×SV):rF (flV p)=some (.held (flV p),[]):=if_pos ⟨p,rfl⟩
theorem rF_inv {v:Value}{z:DataW Value×List MemPlace}(h:rF v=some z):∃ p,v=flV p∧z=(.held v,[]):=by
 unfold rF at h
 split at h
 ·rename_i hp
  obtain ⟨p,rfl⟩:=hp
  exact ⟨p,rfl,(Option.some.inj h).symm⟩
 ·cases h
theorem flV_inj {p q:SV×SV}(h:flV p=flV q):p=q:=by
 obtain ⟨⟨a,b,c⟩,a',b',c'⟩:=p
 obtain ⟨⟨d,e,f⟩,d',e',f'⟩:=q
 simp only [Value.agg.injEq,Array.mk.injEq,List.cons.injEq,Value.slice.injEq] at h
 obtain ⟨⟨rfl,rfl,rfl⟩,⟨rfl,rfl,rfl⟩,_⟩:=h
 rfl
def EntOf (D0:DataW Value) (p:List UInt8×SV×SV):Prop:=has D0 (.string p.1)=true∧∀ zd,D0.atKey (.string p.1) zd= .held (flV p.2)
abbrev Ent (D0:DataW Value):={ p:List UInt8×SV×SV // EntOf D0 p }
abbrev encE {D0:DataW Value} (p:Ent D0):Array Value:= #[encStr p.1.1,flV p.1.2]
structure KeepW (n:Nat) (W W':World):Prop where
 size:W.heap.size≤W'.heap.size
 same:∀ (k:Nat) (o:Obj),n≤k→W.heap[k]? =some o→o.isWalk=true→W'.heap[k]? =some o
theorem KeepW.trans {n:Nat}{A B C:World}(h:KeepW n A B)(k:KeepW n B C):KeepW n A C:=⟨Nat.le_trans h.size k.size,fun i o hn hi ho=>k.same i o hn (h.same i o hn hi ho) ho⟩
theorem KeepW.ranges {n:Nat}{w w':World}{k:TypeId}{R:Value→Option (DataW Value×List MemPlace)}{b r nn:Nat}{D:DataW Value}{left:Lit→Bool}{cnt:Nat}
  (h:w.ranges Tryz.prog k R b r nn D left cnt) (hk:KeepW n w w') (hb:n≤b) (hr:n≤r):w'.ranges Tryz.prog k R b r nn D left cnt:=by
 obtain ⟨es,clock,since,seen,c0,h1,F,hs,hD,h2,rest⟩:=h
 exact ⟨es,clock,since,seen,c0,hk.same b _ hb h1 rfl,F,hs,hD,hk.same r _ hr h2 rfl,rest⟩
attribute [local go_sem] Oper.semAt_some
set_option maxRecDepth 100000 in
set_option maxHeartbeats 4000000 in
theorem allF1 (F:Fence)(n:Nat)(h8:F.fn 60)(hro:F.round=none)(hn:1≤n)(l Bm b nn n₀ :Nat)(D0:DataW Value)(J Jx:List (Ent D0)→World→Prop)
  (hY:∀ pre x W,J pre W→pre.length<Maps.size D0→YieldAt F (n-1) Tryz.prog l (encE x) W fun e W' =>
   (e= .returned (.bool true)∧J (pre++[x]) W'∧KeepW n₀ W W')∨(e= .returned (.bool false)∧Jx (pre++[x]) W'))
  (W:World) (hJ:AbidesFrom W.heap.size J) (hb0:n₀ ≤b) (hW0:n₀ ≤W.heap.size) (hm:W.cell? ⟨Bm,0,none⟩=some (.map (some b))) (hown:W.ownsMap Tryz.prog 9 rF b nn D0) (h0:J [] W) :
  CallsIn F n Tryz.prog 60 #[.func (.yield l) #[] #[],.pointer (some ⟨Bm,0,none⟩)] W fun e W'=>(∃ v,e= .returned v) ∧
   ((∃ ps:List (Ent D0),((ps.map (·.1.1)).Perm (strKeys D0)∧(∀ x,x ∈ ps.map (·.1.1) ↔ has D0 (.string x)=true))∧J ps W')∨(∃ pre,True∧Jx pre W')):=by
 have t9:Tryz.prog.underlying 9=some .string:=Tryz.underlying9
 refine callsIn_of_wp Tryz.func60 rfl h8 ?_ hro
 simp only [Tryz.ntmps60,List.size_toArray,List.length_cons,List.length_nil,Nat.reduceAdd,Nat.reduceSub,Array.replicate_succ,Array.replicate_zero,List.push_toArray,List.append_toArray,List.nil_append,List.cons_append]
 gi_wp2_with (first
  | (gi_at_range; refine wpListIn_range_own _ rfl _ 76 rfl 9 83 (string_keyed t9) Tryz.underlying76 _ b nn _ rfl hown ?_; intro w0 hrg0 hg0 hs0)
  | gi_in)
 go_frame
 gi_loopw [3,4] (fun _ _ wr=>∃ (left:Lit→Bool) (cnt:Nat) (ps:List (Ent D0)),wr.ranges Tryz.prog 9 rF b W.heap.size nn D0 left cnt∧ps.length+cnt≤Maps.size D0∧Collected D0 left (ps.map (·.1.1))∧J ps wr)
  (fun _ _ wr=>wr.rangeLeft b W.heap.size)
 case atStart =>
  exact ⟨_,_,[],hrg0,by simp,Collected.start D0,hJ [] W w0 none h0 hg0 (fun r e=>by cases e)⟩
 case round =>
  obtain ⟨left,cnt,ps,hrg,hcs,hC,hJs⟩:=hrel
  gi_wp2_with (first
   | (gi_at_next; refine wpListIn_next_ranges _ rfl _ rfl 9 (string_keyed t9) rF encStr flV (fun key kl hk=>by obtain ⟨x,hx,_⟩:=Maps.keyOf_str t9 hk; exact ⟨x,hx⟩) (fun v y hv=>by obtain ⟨c,rfl,_⟩:=rF_inv hv; exact ⟨c,rfl⟩) b W.heap.size nn _ _ _ rfl hrg ?_ ?_)
   | gi_in)
  ·intro hc0 hl0
   gi_wp2
   go_end0
   exact ⟨⟨_,rfl⟩,.inl ⟨ps,⟨hC.perm hown (string_keyed t9) t9 hl0,fun x=>by rw [hC.2 x,hl0]; simp⟩,hJs⟩⟩
  ·intro x c1 c2 c3 d1 d2 d3 kl yd yp w2 cnt2 hkey hlk hv hat hrg2 hlt hg2 hs2 hen
   obtain ⟨x',ex,rfl,_⟩:=Maps.keyOf_str t9 hkey
   obtain rfl:x=x':=encInj ex
   rw [rF_of] at hv
   obtain ⟨rfl,rfl⟩:=Prod.mk.inj (Option.some.inj hv)
   have hJ2:J ps w2:=hJ ps wr w2 (some W.heap.size) hJs hg2 (fun r e=>by cases e; exact ⟨Nat.le_refl _,hrg.iter_walk⟩)
   have hE:EntOf D0 (x,(c1,c2,c3),(d1,d2,d3)):=⟨has_true_of_atKey hat,hat⟩
   obtain ⟨fn,tmps,assign,body,hy,hR⟩:=hY ps ⟨(x,(c1,c2,c3),(d1,d2,d3)),hE⟩ (w2.alloc (.cells #[.slice c1 c2 c3,.slice d1 d2 d3] 83)) (hJ ps w2 _ none hJ2 (World.grownBy_alloc _ _ _) (fun r e=>by cases e)) (by omega)
   dsimp only [encE] at hy
   clear hs2
   gi_wp2
   refine hR.mono ?_
   have hC2:Collected D0 (fun z=>left z&& !z.sameKey (.string x)) ((ps++[(⟨(x,(c1,c2,c3),(d1,d2,d3)),hE⟩:Ent D0)]).map (·.1.1)):=by simpa using hC.step hlk hat
   have hk0:KeepW n₀ w2 (w2.alloc (.cells #[.slice c1 c2 c3,.slice d1 d2 d3] 83)):=⟨by simp,fun k o _ ho _=>(Below.heap_alloc _ _ _ (Array.getElem?_eq_some_iff.1 ho).1).trans ho⟩
   rintro e W3 (⟨rfl,hJ3,hk3⟩|⟨rfl,hJx3⟩)
   ·gi_wp2
    have hrg3:=KeepW.ranges hrg2 (hk0.trans hk3) hb0 hW0
    go_roundw
    case rel=>exact ⟨_,cnt2,ps++[(⟨(x,(c1,c2,c3),(d1,d2,d3)),hE⟩:Ent D0)],hrg3,by simp; omega,hC2,hJ3⟩
    case measure=>rw [hrg3.left_eq,hrg.left_eq]; exact hlt
   ·gi_wp2
    refine bodyPost_ret (results_none rfl _ _ _) rfl ?_
    exact ⟨⟨_,rfl⟩,.inr ⟨_,trivial,hJx3⟩⟩
set_option maxHeartbeats 1000000 in
theorem allF (F:Fence)(n:Nat)(hf:F.fn 30)(hro:F.round=none)(mb:Option Nat)(w:World) :
  CallsIn F n Tryz.prog 30 #[.map mb] w fun e w'=>e= .returned (.func (.func 60) #[] #[.pointer (some ⟨w.heap.size,0,none⟩)])∧w'=w.alloc (.cells #[.map mb] 76):=by
 refine callsIn_of_wp Tryz.func30 rfl hf ?_ hro
 simp only [Tryz.ntmps30,List.size_toArray,List.length_cons,List.length_nil,Nat.reduceAdd,Nat.reduceSub,Array.replicate_succ,Array.replicate_zero,List.push_toArray,List.append_toArray,List.nil_append,List.cons_append]
 gi_wp2
 go_ret
 exact ⟨rfl,rfl⟩
theorem allF_stops (F:Fence)(n:Nat)(h8:F.fn 60)(hro:F.round=none)(hn:1≤n)(Bm b nn n₀ :Nat)(D0:DataW Value)(w:World)(hBm:Bm<w.heap.size)(hb0:n₀ ≤b)
  (hm:w.cell? ⟨Bm,0,none⟩=some (.map (some b))) (hown:w.ownsMap Tryz.prog 9 rF b nn D0) :
  SeqStopsK F n Tryz.prog 60 #[.pointer (some ⟨Bm,0,none⟩)] (encE (D0:=D0)) (KeepW n₀) (fun ps=>(ps.map (·.1.1)).Perm (strKeys D0)∧(∀ x,x ∈ ps.map (·.1.1) ↔ has D0 (.string x)=true)) (fun _=>True) (Maps.size D0) w:=fun l J Jx W hW hJ _ hY h0=>by
 have hbl:=hown.lt
 have hown':W.ownsMap Tryz.prog 9 rF b nn D0:=by
  obtain ⟨es,clock,hb,Ft,hs,hD⟩:=hown
  exact ⟨es,clock,(hW.block b hbl).trans hb,Ft,hs,hD⟩
 exact allF1 F n h8 hro hn l Bm b nn n₀ D0 J Jx hY W hJ hb0 (by have:=hW.size; omega) ((hW.cell (p:=⟨Bm,0,none⟩) hBm).trans hm) hown' h0
theorem run_eql_map_nil_d (w:World)(p:Option Nat):(binOp .eql 76 (.map p) (.map none)).run Tryz.prog w= .ok (.bool p.isNone) w:=run_eql_map_nil w _ _ _ p Tryz.underlying76
theorem runClone (w:World){r:Nat}{es:Array MapEntry}{clock:Nat}(t:TypeId)(hb:w.heap[r]? =some (.map es clock)) :
  (Extern.MapsClone.clone #[.iface t (.map (some r))]).run Tryz.prog w= .ok (.iface t (.map (some w.heap.size))) (w.alloc (.map es clock)):=by
 obtain ⟨k,e,hk⟩:∃ k:Obj→Sem Value,Extern.MapsClone.clone #[.iface t (.map (some r))]=(getObj r >>= k)∧∀ es clock,k (.map es clock)=(newObj (.map es clock) >>= fun n=>pure (.iface t (.map (some n)))):=⟨_,rfl,fun _ _=>rfl⟩
 rw [e]
 simp [MapKept.run_getObj_map hb,Result.andThen,go_sem,hk]
theorem runAssert (w:World)(xT:TypeId)(v:Value):(Instr.typeAssert (.iface 76 v) xT 76 false).run Tryz.prog w= .ok v w:=by
 simp [Instr.typeAssert,run_underlying Tryz.underlying76,go_sem,Result.andThen]
theorem cloneF (b:Nat)(es:Array MapEntry)(clock:Nat)(w:World)(hb:w.heap[b]? =some (.map es clock)) :
  Calls Tryz.prog 31 #[.map (some b)] w fun e w'=>e= .returned (.map (some w.heap.size))∧w'=w.alloc (.map es clock):=by
 have hq:=fun w=>run_eql_map_nil_d w (some b)
 have hc:(callFunc 61 #[.iface 76 (.map (some b))]).run Tryz.prog w= .ok (.value (.iface 76 (.map (some w.heap.size)))) (w.alloc (.map es clock)):=by
  rw [run_callFunc_extern Tryz.func61 (by kernel_rfl) (by kernel_rfl) (by kernel_rfl) (e:=Extern.MapsClone.clone) (by kernel_rfl),runClone w _ hb]
  rfl
 have ha:=runAssert
 go_enter Tryz.func31,Tryz.ntmps31
 go_wp2
 go_ret
 exact ⟨rfl,rfl⟩
end Go.Proofs.YtiodgjgngfklkaaGreatDoor
