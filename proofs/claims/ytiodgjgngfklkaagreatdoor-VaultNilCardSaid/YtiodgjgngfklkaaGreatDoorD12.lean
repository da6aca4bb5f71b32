/- Contracts of functions of the program,and the laws that stand on them: what each function answers,whatever its arguments. -/
import Derived.Test.YtiodgjgngfklkaaGreatDoorD8
import Derived.Defers
import Derived.StillTactics
import Derived.Lib.Hide
import Derived.WalkKit
set_option linter.all false
set_option maxRecDepth 100000
set_option maxHeartbeats 8000000
namespace Go.Proofs.YtiodgjgngfklkaaGreatDoor
open Go Go.VA Go.RowKit
set_option maxHeartbeats 4000000 in
theorem gChangeRename (fuse fuse' ops ops':Int)(dead dead':Bool)(m m':List (Value×AV))(X:List AO)(caps:List AV)(burnt late:Bool)(hbl:burnt=true→late=true)
  (hX:∀ i,i<X.length→(getO X i).kd≠3) (hcaps:∀ B S S' us,RelVs B S caps us→RelVs B S' caps us)
  (hbn:GCall Tryz.prog glD 92 (dskB fuse dead ops:: .mp m::X) [.ptr 0 0] (dskB fuse' dead' ops':: .mp m::X) [boolA burnt])
  (hdo:GCall Tryz.prog glD 77 (dskB fuse' dead' ops':: .mp m::X) caps (dskB fuse' dead' ops':: .mp m'::X) []) :
  GCall Tryz.prog glD 58 (dskB fuse dead ops:: .mp m::X) [.ptr 0 0,boolA late,.fn 77 [] caps] (dskB fuse' dead' ops':: .mp m'::X) [intA .i64 (if burnt then 21 else 0)] where
 callable:=⟨_,Tryz.func58,by kernel_rfl,by kernel_rfl⟩
 len:=Nat.le_refl _
 kinds:=fun i hi=>by
  match i,hi with
  | 0,_=>rfl
  | 1,_=>rfl
  | i+2,_=>rfl
 livep:=hbn.livep
 liveq:=hdo.liveq
 run:=fun w M B vals hro hL hG hv=>by
  obtain ⟨u0,r0,e0,h0,hv⟩:=pushA hv
  obtain ⟨u1,r1,rfl,h1,hv⟩:=pushA hv
  obtain ⟨u2,r2,rfl,h2,hv⟩:=pushA hv
  simp only [RelVs] at hv
  subst hv
  simp only [RelV,RepC,RelVs] at h0 h1 h2
  obtain ⟨bi,hbi,rfl⟩:=h0
  obtain ⟨rfl,_⟩:=h1
  obtain ⟨a1,a2,rfl,ea,hca⟩:=h2
  obtain rfl:a1= #[]:=Array.ext' ea
  obtain rfl:vals= #[.pointer (some ⟨bi.b,bi.o+0,none⟩),.bool late,.func (.func 77) #[] a2]:=Array.ext' e0
  have hmf:∀ (fn:Fn) (first cap:Array Value) (w:World),(Instr.makeFunc fn first cap).run Tryz.prog w= .ok (.func fn first cap) w:=fun _ _ _ _=>rfl
  have hnot:∀ (x:Bool) (w:World),(Op.unary .not (.bool x)).run Tryz.prog w= .ok (.bool (!x)) w:=fun _ _=>rfl
  have hL1:=hide_alloc hL (.cells #[.int .i64 0] 37)
  have hS1:=Sr_hide_alloc (M:=M) (B:=B) (L:=dskB fuse dead ops:: .mp m::X) (w:=w) (.cells #[.int .i64 0] 37)
  have cbn:=hbn.run (w.alloc (.cells #[.int .i64 0] 37)) (hideM M w.heap.size) B #[.pointer (some ⟨bi.b,bi.o+0,none⟩)] hro hL1 (GlOk.mono hS1 hG) (by
   simp only [RelVs,RelV]
   exact ⟨_,_,rfl,⟨bi,hbi,rfl⟩,rfl⟩)
  have cbn2:Calls Tryz.prog 92 #[.pointer (some ⟨bi.b,bi.o+0,none⟩)] (w.alloc (.cells #[.int .i64 0] 37)) fun e W2=>e= .returned (.bool burnt)∧Frm (Bl B) (w.alloc (.cells #[.int .i64 0] 37)) W2∧RelL (hideM M w.heap.size) B (dskB fuse' dead' ops':: .mp m::X) W2:=cbn.mono fun e W2 h=>by
   obtain ⟨u,B2,rfl,hF2,hL2,hu,hB2a,hB2b⟩:=h
   simp only [retA,RelV,RepC] at hu
   obtain ⟨rfl,_⟩:=hu
   have hB:B2=B:=by
    have l1:=hL2.len
    have l2:=hL.len
    refine List.ext_getElem? fun id=> ?_
    rcases Nat.lt_or_ge id (X.length+2) with h|h
    ·refine hB2b id (by simpa using h) ?_
     match id,h with
     | 0,_=>exact (by decide:(1:Nat)≠3)
     | 1,_=>exact (by decide:(2:Nat)≠3)
     | id+2,h=>exact hX id (by omega)
    ·rw [List.getElem?_eq_none (by rw [l1]; simp; omega),List.getElem?_eq_none (by rw [l2]; simp; omega)]
   subst hB
   exact ⟨rfl,hF2,hL2⟩
  clear cbn
  have hbl0:burnt=false∨(burnt=true∧late=true):=by cases burnt<;>simp_all
  have hGl:∀ S,GlOk glD S:=fun S g=>trivial
  have cdo:∀ W2,Frm (Bl B) (w.alloc (.cells #[.int .i64 0] 37)) W2→RelL (hideM M w.heap.size) B (dskB fuse' dead' ops':: .mp m::X) W2 →
    Calls Tryz.prog 77 a2 (W2.alloc (.cells #[.bool burnt] 4)) fun e W3=>e= .returned (.tuple #[])∧W3.cell? ⟨w.heap.size,0,none⟩=some (.int .i64 0)∧W3.frozen? ⟨w.heap.size,0,none⟩=false ∧
     W3.cell? ⟨W2.heap.size,0,none⟩=some (.bool burnt)∧¬ W2.heap.size=w.heap.size∧RowKit.Hid (Frm (Bl B) w W3∧w.heap.size<W3.heap.size∧RelL (hideM M w.heap.size) B (dskB fuse' dead' ops':: .mp m'::X) W3):=fun W2 hF2 hL2=>by
   have hs2:w.heap.size+1≤W2.heap.size:=by have:=hF2.size; simpa using this
   have hNB:∀ k,w.heap.size≤k→¬ Bl B k:=fun k hk ⟨id,b,h1,h2⟩=>by have:=hL.bnd id b h1; omega
   refine (hdo.run (W2.alloc (.cells #[.bool burnt] 4)) (hideM (hideM M w.heap.size) W2.heap.size) B a2 hro (hide_alloc hL2 _) (hGl _) (hcaps _ _ _ _ hca)).mono fun e W3 h=> ?_
   obtain ⟨u,B3,rfl,hF3,hL3,hu,hB3a,hB3b⟩:=h
   simp only [retA,RelV,RelVs] at hu
   obtain ⟨arr,rfl,ha⟩:=hu
   obtain rfl:arr= #[]:=Array.ext' ha
   have hB:B3=B:=by
    have l1:=hL3.len
    have l2:=hL.len
    refine List.ext_getElem? fun id=> ?_
    rcases Nat.lt_or_ge id (X.length+2) with h|h
    ·refine hB3b id (by simpa using h) ?_
     match id,h with
     | 0,_=>exact (by decide:(1:Nat)≠3)
     | 1,_=>exact (by decide:(2:Nat)≠3)
     | id+2,h=>exact hX id (by omega)
    ·rw [List.getElem?_eq_none (by rw [l1]; simp; omega),List.getElem?_eq_none (by rw [l2]; simp; omega)]
   subst hB
   have hbE:W3.heap[w.heap.size]? =some (.cells #[.int .i64 0] 37):=by
    rw [hF3.block _ (by simp; omega) (hNB _ (Nat.le_refl _)),Below.heap_alloc _ _ _ (by omega),hF2.block _ (by simp) (hNB _ (Nat.le_refl _))]
    exact hanew w _
   have hbB:W3.heap[W2.heap.size]? =some (.cells #[.bool burnt] 4):=by
    rw [hF3.block _ (by simp) (hNB _ (by omega))]
    exact hanew W2 _
   have hs3:=hF3.size
   refine ⟨rfl,by simp [World.cell?,hbE],by simp [World.frozen?,hbE],by simp [World.cell?,hbB],by omega,Lib.hid ⟨⟨?_,?_,?_,?_,fun k hk hn=> ?_⟩,?_,unhide hL3⟩⟩
   ·rw [hF3.os]; exact hF2.os
   ·rw [hF3.tape]; exact hF2.tape
   ·rw [hF3.output]; exact hF2.output
   ·simp at hs3; omega
   ·rw [hF3.block k (by simp; omega) hn,Below.heap_alloc _ _ _ (by omega),hF2.block k (by simp; omega) hn,Below.heap_alloc _ _ _ hk]
   ·simp at hs3; omega
  rcases hbl0 with rfl|⟨rfl,rfl⟩
  ·go_enter_defers Tryz.func58,Tryz.ntmps58
   go_wp2_with (go_at_call 92; refine cbn2.mono ?_; rintro e W2 ⟨rfl,hF2,hL2⟩)
   refine (cdo _ hF2 hL2).mono ?_
   clear hF2 hL2 cdo cbn2 hL1 hS1
   rintro e W3 ⟨rfl,hc1,hc2,hc3,hne,hH⟩
   go_wp2
   refine leaves_cons (f:=93) (args:= #[.pointer (some ⟨W2.heap.size,0,none⟩),.pointer (some ⟨w.heap.size,0,none⟩)]) (by simp) (by simp [go_sem]) ?_
   refine (lateF _ _ .returning _ (by rw [cellOther _ hne]; exact hc3)).mono ?_
   rintro e u' w'' ⟨rfl,rfl,rfl⟩
   obtain ⟨hF,hlt,hR⟩:=hH
   have hh:∀ k,k<W3.heap.size→k≠w.heap.size→(W3.setCell ⟨w.heap.size,0,none⟩ (.int .i64 0)).heap[k]? =W3.heap[k]? :=fun k _ hk=>setCell_heap_ne _ _ _ hk
   have hR2:=unhide (hidden (.inr rfl) (by rw [setCell_size]; exact Nat.le_refl _) hh hR)
   refine ⟨.int .i64 0,by simp [results,Tryz.results58,go_sem,cellSame _ hc1],.int .i64 0,rfl,frmSet hF _ (Nat.le_refl _),B,hR2,⟨rfl,rfl⟩,fun id b h=> .inr ⟨id,b,h,rfl⟩,fun _ _ _=>rfl⟩
  ·go_enter_defers Tryz.func58,Tryz.ntmps58
   go_wp2_with (go_at_call 92; refine cbn2.mono ?_; rintro e W2 ⟨rfl,hF2,hL2⟩)
   refine (cdo _ hF2 hL2).mono ?_
   clear hF2 hL2 cdo cbn2 hL1 hS1
   rintro e W3 ⟨rfl,hc1,hc2,hc3,hne,hH⟩
   go_wp2
   have hc4:=cellSame (.int .i64 0) hc1
   refine leaves_cons (f:=93) (args:= #[.pointer (some ⟨W2.heap.size,0,none⟩),.pointer (some ⟨w.heap.size,0,none⟩)]) (by simp) (by simp [go_sem]) ?_
   refine (lateT _ _ .returning _ 0 (by rw [cellOther _ hne]; exact hc3) hc4 (by rw [World.frozen?_setCell]; exact hc2)).mono ?_
   rintro e u' w'' ⟨rfl,rfl,rfl⟩
   obtain ⟨hF,hlt,hR⟩:=hH
   have hh:∀ k,k<W3.heap.size→k≠w.heap.size→((W3.setCell ⟨w.heap.size,0,none⟩ (.int .i64 0)).setCell ⟨w.heap.size,0,none⟩ (.int .i64 21)).heap[k]? =W3.heap[k]? :=fun k _ hk=>(setCell_heap_ne _ _ _ hk).trans (setCell_heap_ne _ _ _ hk)
   have hR2:=unhide (hidden (.inr rfl) (by rw [setCell_size,setCell_size]; exact Nat.le_refl _) hh hR)
   refine ⟨.int .i64 21,by simp [results,Tryz.results58,go_sem,cellSame _ hc4],.int .i64 21,rfl,frmSet (frmSet hF _ (Nat.le_refl _)) _ (Nat.le_refl _),B,hR2,⟨rfl,rfl⟩,fun id b h=> .inr ⟨id,b,h,rfl⟩,fun _ _ _=>rfl⟩
set_option maxHeartbeats 4000000 in
theorem gChangeNo (fuse fuse' ops ops':Int)(dead dead':Bool)(m:List (Value×AV))(X:List AO)(g:Nat)(caps:List AV)
  (hX:∀ i,i<X.length→(getO X i).kd≠3)
  (hbn:GCall Tryz.prog glD 92 (dskB fuse dead ops:: .mp m::X) [.ptr 0 0] (dskB fuse' dead' ops':: .mp m::X) [boolA true]) :
  GCall Tryz.prog glD 58 (dskB fuse dead ops:: .mp m::X) [.ptr 0 0,boolA false,.fn g [] caps] (dskB fuse' dead' ops':: .mp m::X) [intA .i64 21] where
 callable:=⟨_,Tryz.func58,by kernel_rfl,by kernel_rfl⟩
 len:=Nat.le_refl _
 kinds:=fun i hi=>by
  match i,hi with
  | 0,_=>rfl
  | 1,_=>rfl
  | i+2,_=>rfl
 livep:=hbn.livep
 liveq:=hbn.liveq
 run:=fun w M B vals hro hL hG hv=>by
  obtain ⟨u0,r0,e0,h0,hv⟩:=pushA hv
  obtain ⟨u1,r1,rfl,h1,hv⟩:=pushA hv
  obtain ⟨u2,r2,rfl,h2,hv⟩:=pushA hv
  simp only [RelVs] at hv
  subst hv
  simp only [RelV,RepC,RelVs] at h0 h1 h2
  obtain ⟨bi,hbi,rfl⟩:=h0
  obtain ⟨rfl,_⟩:=h1
  obtain ⟨a1,a2,rfl,ea,hca⟩:=h2
  obtain rfl:a1= #[]:=Array.ext' ea
  obtain rfl:vals= #[.pointer (some ⟨bi.b,bi.o+0,none⟩),.bool false,.func (.func g) #[] a2]:=Array.ext' e0
  have hmf:∀ (fn:Fn) (first cap:Array Value) (w:World),(Instr.makeFunc fn first cap).run Tryz.prog w= .ok (.func fn first cap) w:=fun _ _ _ _=>rfl
  have hnot:∀ (x:Bool) (w:World),(Op.unary .not (.bool x)).run Tryz.prog w= .ok (.bool (!x)) w:=fun _ _=>rfl
  have hL1:=hide_alloc hL (.cells #[.int .i64 0] 37)
  have hS1:=Sr_hide_alloc (M:=M) (B:=B) (L:=dskB fuse dead ops:: .mp m::X) (w:=w) (.cells #[.int .i64 0] 37)
  have cbn:=hbn.run (w.alloc (.cells #[.int .i64 0] 37)) (hideM M w.heap.size) B #[.pointer (some ⟨bi.b,bi.o+0,none⟩)] hro hL1 (GlOk.mono hS1 hG) (by
   simp only [RelVs,RelV]
   exact ⟨_,_,rfl,⟨bi,hbi,rfl⟩,rfl⟩)
  have cbn2:Calls Tryz.prog 92 #[.pointer (some ⟨bi.b,bi.o+0,none⟩)] (w.alloc (.cells #[.int .i64 0] 37)) fun e W2=>e= .returned (.bool true)∧Frm (Bl B) (w.alloc (.cells #[.int .i64 0] 37)) W2∧RelL (hideM M w.heap.size) B (dskB fuse' dead' ops':: .mp m::X) W2:=cbn.mono fun e W2 h=>by
   obtain ⟨u,B2,rfl,hF2,hL2,hu,hB2a,hB2b⟩:=h
   simp only [retA,RelV,RepC] at hu
   obtain ⟨rfl,_⟩:=hu
   have hB:B2=B:=by
    have l1:=hL2.len
    have l2:=hL.len
    refine List.ext_getElem? fun id=> ?_
    rcases Nat.lt_or_ge id (X.length+2) with h|h
    ·refine hB2b id (by simpa using h) ?_
     match id,h with
     | 0,_=>exact (by decide:(1:Nat)≠3)
     | 1,_=>exact (by decide:(2:Nat)≠3)
     | id+2,h=>exact hX id (by omega)
    ·rw [List.getElem?_eq_none (by rw [l1]; simp; omega),List.getElem?_eq_none (by rw [l2]; simp; omega)]
   subst hB
   exact ⟨rfl,hF2,hL2⟩
  clear cbn
  have hGl:∀ S,GlOk glD S:=fun S g=>trivial
  have hNB:∀ k,w.heap.size≤k→¬ Bl B k:=fun k hk ⟨id,b,h1,h2⟩=>by have:=hL.bnd id b h1; omega
  have hE:∀ W2,Frm (Bl B) (w.alloc (.cells #[.int .i64 0] 37)) W2→(W2.alloc (.cells #[.bool true] 4)).heap[w.heap.size]? =some (.cells #[.int .i64 0] 37)∧¬ W2.heap.size=w.heap.size:=fun W2 hF2=>by
   have hs2:w.heap.size+1≤W2.heap.size:=by have:=hF2.size; simpa using this
   refine ⟨?_,by omega⟩
   rw [Below.heap_alloc _ _ _ (by omega),hF2.block _ (by simp) (hNB _ (Nat.le_refl _))]
   exact hanew w _
  have hE2:∀ W2,Frm (Bl B) (w.alloc (.cells #[.int .i64 0] 37)) W2→(W2.alloc (.cells #[.bool true] 4)).cell? ⟨w.heap.size,0,none⟩=some (.int .i64 0)∧(W2.alloc (.cells #[.bool true] 4)).frozen? ⟨w.heap.size,0,none⟩=false:=fun W2 hF2=>by
   have:=(hE W2 hF2).1
   exact ⟨by simp [World.cell?,this],by simp [World.frozen?,this]⟩
  go_enter_defers Tryz.func58,Tryz.ntmps58
  go_wp2_with (go_at_call 92; refine cbn2.mono ?_; rintro e W2 ⟨rfl,hF2,hL2⟩; have hne:=(hE W2 hF2).2; have hc1:=(hE2 W2 hF2).1; have hc2:=(hE2 W2 hF2).2)
  have hs2:w.heap.size+1≤W2.heap.size:=by have:=hF2.size; simpa using this
  have hL3:=hide_alloc hL2 (.cells #[.bool true] 4)
  obtain ⟨W3,hW3⟩:∃ W3,W3=W2.alloc (.cells #[.bool true] 4):=⟨_,rfl⟩
  rw [← hW3] at hL3 hc1 hc2 ⊢
  have hh:∀ k,k<W3.heap.size→k≠w.heap.size→(W3.setCell ⟨w.heap.size,0,none⟩ (.int .i64 21)).heap[k]? =W3.heap[k]? :=fun k _ hk=>setCell_heap_ne _ _ _ hk
  have hR2:=unhide (hidden (.inr rfl) (by rw [setCell_size]; exact Nat.le_refl _) hh (unhide hL3))
  have hF:Frm (Bl B) w W3:=by
   rw [hW3]
   refine ⟨hF2.os,hF2.tape,hF2.output,by simp; omega,fun k hk hn=> ?_⟩
   rw [Below.heap_alloc _ _ _ (by omega),hF2.block k (by simp; omega) hn,Below.heap_alloc _ _ _ hk]
  refine ⟨.int .i64 21,by simp [results,Tryz.results58,go_sem,cellSame _ hc1],.int .i64 21,B,rfl,frmSet hF _ (Nat.le_refl _),hR2,⟨rfl,rfl⟩,fun id b h=> .inr ⟨id,b,h,rfl⟩,fun _ _ _=>rfl⟩
theorem mOk_del (k:Value){m:List (Value×AV)}(hm:mOk (tb 9).k m=true):mOk (tb 9).k (mDel k m)=true:=by
 induction m with
 | nil=>rfl
 | cons p r ih =>
  simp only [mOk] at hm
  split at hm
  ·rename_i hp
   simp only [mDel]
   split
   ·exact hm
   ·simp only [mOk,hp]
    exact ih hm
  ·cases hm
abbrev xR (s r:ByteArray):List AO:=[.box [.ptr 0 0],.box [.c (.v (.string s))],.box [.c (.v (.string r))]]
theorem gRename1 (fuse:Int)(dead:Bool)(ops:Int)(s r:ByteArray)(m:List (Value×AV))(hm:mOk (tb 9).k m=true)(x z:C)(b:Bool)(hq:mFnd s m (fl x z,b)):GCall Tryz.prog glD 77 (dskB fuse dead ops:: .mp m::xR s r) [.ptr 2 0,.ptr 3 0,.ptr 4 0]
  (dskB fuse dead ops:: .mp (mPut (.string r) (fl x z) (mDel (.string s) m))::xR s r) []:=by
 refine gcall_of_vcb htb hmix (f:=77) rfl rfl rfl (by kernel_rfl) rfl rfl rfl fun hb hb2=> ?_; simp only [bndOs,bndO,gbnds,AV.gbnd,bnds,C.bnd,true_and,and_true] at hb hb2; conv=>whnf
 repeat' (first|(refine Exists.intro _ (And.intro (hq) ?_); conv=>whnf)|((with_reducible refine Both.mk ?_ ?_)<;>conv=>whnf)|((with_reducible apply Drawn.one); conv=>whnf)|((with_reducible refine Then.mk' ?_); conv=>whnf)|(first|exact RefS.self rfl|fail)|(refine And.intro ?_ ?_; (focus (first|exact rfl|(first|exact mOk_del _ hm|assumption)|fail)); conv=>whnf)|fail)
 ((conv=>whnf); repeat' (first|exact trivial|exact rfl|exact LeC.refl _|((with_reducible refine And.intro ?_ ?_)<;>conv=>whnf)))
 exact LeMs.refl _
theorem gBurnR0 (s r:ByteArray)(dead:Bool)(ops:Int)(m:List (Value×AV)):GCall Tryz.prog glD 92 (dskB 0 dead ops:: .mp m::xR s r) [.ptr 0 0] (dskB 0 dead (IntKind.i64.wrap (ops+1)):: .mp m::xR s r) [boolA false]:=by
 refine gcall_of_vcb htb hmix (f:=92) rfl rfl rfl (by kernel_rfl) rfl rfl rfl fun hb hb2=> ?_; simp only [bndOs,bndO,gbnds,AV.gbnd,bnds,C.bnd,true_and,and_true] at hb hb2; conv=>whnf
 repeat' (first|(refine And.intro (fun h=> ?_) (fun h=> ?_)<;>(first|skip)<;>(first|exact absurd h (by decide)|(conv=>whnf)))|(refine And.intro ?_ ?_; (focus (first|exact rfl|fail)); conv=>whnf)|fail)
 all_goals try (exfalso; revert h; decide)
 ((conv=>whnf); repeat' (first|exact trivial|exact rfl|exact LeC.refl _|((with_reducible refine And.intro ?_ ?_)<;>conv=>whnf)))
 all_goals exact LeMs.refl _
theorem gBurnRN (s r:ByteArray)(fuse:Int)(hf:(fuse==0)=false)(dead:Bool)(ops:Int)(m:List (Value×AV)):GCall Tryz.prog glD 92 (dskB fuse dead ops:: .mp m::xR s r) [.ptr 0 0] (dskB (IntKind.i64.wrap (fuse-1)) (IntKind.i64.wrap (fuse-1)==0) (IntKind.i64.wrap (ops+1)):: .mp m::xR s r) [boolA (IntKind.i64.wrap (fuse-1)==0)]:=by
 refine gcall_of_vcb htb hmix (f:=92) rfl rfl rfl (by kernel_rfl) rfl rfl rfl fun hb hb2=> ?_; simp only [bndOs,bndO,gbnds,AV.gbnd,bnds,C.bnd,true_and,and_true] at hb hb2; conv=>whnf
 repeat' (first|(refine And.intro (fun h=> ?_) (fun h=> ?_)<;>(first|skip)<;>(first|(conv=>whnf)))|(refine And.intro ?_ ?_; (focus (first|exact rfl|fail)); conv=>whnf)|fail)
 all_goals try (exact absurd (hf.symm.trans h) (by decide))
 ((conv=>whnf); repeat' (first|exact trivial|exact rfl|exact LeC.refl _|((with_reducible refine And.intro ?_ ?_)<;>conv=>whnf)))
 all_goals exact LeMs.refl _
theorem kdRD (s r:ByteArray)(i:Nat)(hi:i<(xR s r).length):(getO (xR s r) i).kd≠3:=by
 match i,hi with
 | 0,_=>exact (by decide:(1:Nat)≠3)
 | 1,_=>exact (by decide:(1:Nat)≠3)
 | 2,_=>exact (by decide:(1:Nat)≠3)
theorem kdS (s:ByteArray)(i:Nat)(hi:i<(xS s).length):(getO (xS s) i).kd≠3:=by
 match i,hi with
 | 0,_=>exact (by decide:(1:Nat)≠3)
 | 1,_=>exact (by decide:(1:Nat)≠3)
theorem twoS (s r:ByteArray)(i:Nat)(hi:i<2):nthC [[C.v (.string s)],[C.v (.string r)]] i=[C.v (.string (if i=0 then s else r))]:=by
 match i,hi with
 | 0,_=>rfl
 | 1,_=>rfl
theorem twoW {s r:ByteArray}(hs:wordB s=true)(hr:wordB r=true)(i:Nat)(hi:i<2):wordB (if i=0 then s else r)=true:=by
 by_cases h:i=0<;>simp [h,hs,hr]
theorem gRename (fuse fuse' ops ops':Int)(dead':Bool)(s r:ByteArray)(hs:wordB s=true)(hr:wordB r=true)(m:List (Value×AV))(hm:mOk (tb 9).k m=true)(x z:C)(hq:mFnd s m (fl x z,true))
  (hbn:GCall Tryz.prog glD 92 (dskB fuse false ops:: .mp m::xR s r) [.ptr 0 0] (dskB fuse' dead' ops':: .mp m::xR s r) [boolA false]) :
  GCall Tryz.prog glD 47 [dskB fuse false ops,.mp m] [.ptr 0 0,.c (.v (.string s)),.c (.v (.string r))] [dskB fuse' dead' ops',.mp (mPut (.string r) (fl x z) (mDel (.string s) m))] [intA .i64 0]:=by
 have N:=gNames false 2 (fun i=>if i=0 then s else r) (nthC [[C.v (.string s)],[C.v (.string r)]]) (twoS s r) (twoW hs hr) fuse ops m
 have T:=gThere s m hm x z hq fuse false ops
 have G:=gChangeRename fuse fuse' ops ops' false dead' m (mPut (.string r) (fl x z) (mDel (.string s) m)) (xR s r) [.ptr 2 0,.ptr 3 0,.ptr 4 0] false false (fun h=>h) (kdRD s r) (fun B S S' us h=>by simpa only [RelVs,RelV] using h) hbn (gRename1 fuse' dead' ops' s r m hm x z true hq)
 refine gcall_of_vcb htb hmix (f:=47) rfl rfl rfl (by kernel_rfl) rfl rfl rfl fun hb hb2=> ?_; simp only [bndOs,bndO,gbnds,AV.gbnd,bnds,C.bnd,true_and,and_true] at hb hb2; conv=>whnf
 repeat' (first|(refine And.intro (fun h=> ?_) (fun h=> ?_)<;>(first|skip)<;>(first|exact absurd h (by decide)|(conv=>whnf)))|((with_reducible refine OwnOr.l ?_); (conv=>whnf))|(refine And.intro ?_ ?_; (focus (first|exact rfl|fail)); conv=>whnf)|((with_reducible refine xc_guard ?_); (first|(refine xc_g (G) false (by first|(((conv=>whnf); repeat' (first|exact trivial|exact rfl|exact LeC.refl _|(first|exact LeMs.refl _|fail)|((with_reducible refine And.intro ?_ ?_)<;>conv=>whnf))); done)|fail) trivial ?_)|fail); conv=>whnf)|((with_reducible refine xc_guard ?_); (first|(refine xc_g (N) false (by first|(((conv=>whnf); repeat' (first|exact trivial|exact rfl|exact LeC.refl _|(first|exact LeMs.refl _|fail)|((with_reducible refine And.intro ?_ ?_)<;>conv=>whnf))); done)|fail) trivial ?_)|fail); conv=>whnf)|((with_reducible refine xc_guard ?_); (first|(refine xc_g (T) false (by first|(((conv=>whnf); repeat' (first|exact trivial|exact rfl|exact LeC.refl _|(first|exact LeMs.refl _|fail)|((with_reducible refine And.intro ?_ ?_)<;>conv=>whnf))); done)|fail) trivial ?_)|fail); conv=>whnf)|fail)
 all_goals try (exfalso; revert h; decide)
 ((conv=>whnf); repeat' (first|exact trivial|exact rfl|exact LeC.refl _|((with_reducible refine And.intro ?_ ?_)<;>conv=>whnf)))
 all_goals exact LeMs.refl _
theorem gRenameNo (fuse fuse' ops ops':Int)(dead':Bool)(s r:ByteArray)(hs:wordB s=true)(hr:wordB r=true)(m:List (Value×AV))(hm:mOk (tb 9).k m=true)(x z:C)(hq:mFnd s m (fl x z,true))
  (hbn:GCall Tryz.prog glD 92 (dskB fuse false ops:: .mp m::xR s r) [.ptr 0 0] (dskB fuse' dead' ops':: .mp m::xR s r) [boolA true]) :
  GCall Tryz.prog glD 47 [dskB fuse false ops,.mp m] [.ptr 0 0,.c (.v (.string s)),.c (.v (.string r))] [dskB fuse' dead' ops',.mp m] [intA .i64 21]:=by
 have N:=gNames false 2 (fun i=>if i=0 then s else r) (nthC [[C.v (.string s)],[C.v (.string r)]]) (twoS s r) (twoW hs hr) fuse ops m
 have T:=gThere s m hm x z hq fuse false ops
 have G:=gChangeNo fuse fuse' ops ops' false dead' m (xR s r) 77 [.ptr 2 0,.ptr 3 0,.ptr 4 0] (kdRD s r) hbn
 refine gcall_of_vcb htb hmix (f:=47) rfl rfl rfl (by kernel_rfl) rfl rfl rfl fun hb hb2=> ?_; simp only [bndOs,bndO,gbnds,AV.gbnd,bnds,C.bnd,true_and,and_true] at hb hb2; conv=>whnf
 repeat' (first|(refine And.intro (fun h=> ?_) (fun h=> ?_)<;>(first|skip)<;>(first|exact absurd h (by decide)|(conv=>whnf)))|((with_reducible refine OwnOr.l ?_); (conv=>whnf))|(refine And.intro ?_ ?_; (focus (first|exact rfl|fail)); conv=>whnf)|((with_reducible refine xc_guard ?_); (first|(refine xc_g (G) false (by first|(((conv=>whnf); repeat' (first|exact trivial|exact rfl|exact LeC.refl _|(first|exact LeMs.refl _|fail)|((with_reducible refine And.intro ?_ ?_)<;>conv=>whnf))); done)|fail) trivial ?_)|fail); conv=>whnf)|((with_reducible refine xc_guard ?_); (first|(refine xc_g (N) false (by first|(((conv=>whnf); repeat' (first|exact trivial|exact rfl|exact LeC.refl _|(first|exact LeMs.refl _|fail)|((with_reducible refine And.intro ?_ ?_)<;>conv=>whnf))); done)|fail) trivial ?_)|fail); conv=>whnf)|((with_reducible refine xc_guard ?_); (first|(refine xc_g (T) false (by first|(((conv=>whnf); repeat' (first|exact trivial|exact rfl|exact LeC.refl _|(first|exact LeMs.refl _|fail)|((with_reducible refine And.intro ?_ ?_)<;>conv=>whnf))); done)|fail) trivial ?_)|fail); conv=>whnf)|fail)
 all_goals try (exfalso; revert h; decide)
 ((conv=>whnf); repeat' (first|exact trivial|exact rfl|exact LeC.refl _|((with_reducible refine And.intro ?_ ?_)<;>conv=>whnf)))
 all_goals exact LeMs.refl _
theorem gSyncNo (fuse fuse' ops ops':Int)(dead':Bool)(s:ByteArray)(hs:wordB s=true)(m:List (Value×AV))(hm:mOk (tb 9).k m=true)(x z:C)(hq:mFnd s m (fl x z,true))
  (hbn:GCall Tryz.prog glD 92 (dskB fuse false ops:: .mp m::xS s) [.ptr 0 0] (dskB fuse' dead' ops':: .mp m::xS s) [boolA true]) :
  GCall Tryz.prog glD 28 [dskB fuse false ops,.mp m] [.ptr 0 0,.c (.v (.string s))] [dskB fuse' dead' ops',.mp m] [intA .i64 21]:=by
 have N:=gNames false 1 (fun _=>s) (nthC [[C.v (.string s)]]) (oneS s) (fun i _=>hs) fuse ops m
 have T:=gThere s m hm x z hq fuse false ops
 have G:=gChangeNo fuse fuse' ops ops' false dead' m (xS s) 59 [.ptr 2 0,.ptr 3 0] (kdS s) hbn
 refine gcall_of_vcb htb hmix (f:=28) rfl rfl rfl (by kernel_rfl) rfl rfl rfl fun hb hb2=> ?_; simp only [bndOs,bndO,gbnds,AV.gbnd,bnds,C.bnd,true_and,and_true] at hb hb2; conv=>whnf
 repeat' (first|(refine And.intro (fun h=> ?_) (fun h=> ?_)<;>(first|skip)<;>(first|exact absurd h (by decide)|(conv=>whnf)))|((with_reducible refine OwnOr.l ?_); (conv=>whnf))|(refine And.intro ?_ ?_; (focus (first|exact rfl|fail)); conv=>whnf)|((with_reducible refine xc_guard ?_); (first|(refine xc_g (G) false (by first|(((conv=>whnf); repeat' (first|exact trivial|exact rfl|exact LeC.refl _|(first|exact LeMs.refl _|fail)|((with_reducible refine And.intro ?_ ?_)<;>conv=>whnf))); done)|fail) trivial ?_)|fail); conv=>whnf)|((with_reducible refine xc_guard ?_); (first|(refine xc_g (N) false (by first|(((conv=>whnf); repeat' (first|exact trivial|exact rfl|exact LeC.refl _|(first|exact LeMs.refl _|fail)|((with_reducible refine And.intro ?_ ?_)<;>conv=>whnf))); done)|fail) trivial ?_)|fail); conv=>whnf)|((with_reducible refine xc_guard ?_); (first|(refine xc_g (T) false (by first|(((conv=>whnf); repeat' (first|exact trivial|exact rfl|exact LeC.refl _|(first|exact LeMs.refl _|fail)|((with_reducible refine And.intro ?_ ?_)<;>conv=>whnf))); done)|fail) trivial ?_)|fail); conv=>whnf)|fail)
 all_goals try (exfalso; revert h; decide)
 ((conv=>whnf); repeat' (first|exact trivial|exact rfl|exact LeC.refl _|((with_reducible refine And.intro ?_ ?_)<;>conv=>whnf)))
 all_goals exact LeMs.refl _
end Go.Proofs.YtiodgjgngfklkaaGreatDoor
