/- Contracts of functions of the program,and the laws that stand on them: what each function answers,whatever its arguments. -/
import Derived.Test.YtiodgjgngfklkaaGreatDoorD6a
set_option linter.all false
set_option maxRecDepth 100000
set_option maxHeartbeats 8000000
namespace Go.Proofs.YtiodgjgngfklkaaGreatDoor
open Go Go.VA Go.RowKit Go.Maps Go.Sort Go.Shelf
open Go.Proofs (encStr)
attribute [local go_sem] Oper.semAt_some
structure BtI (l:List Fl) (S:Rd) (bi bm:Nat) (keep:Int) (w:World) (pre:List (List UInt8)) (W:World):Prop where
 d:Boxed W w.heap.size 58 (.pointer (some ⟨bi,0,none⟩))
 k:Boxed W (w.heap.size+1) 3 (.int .i64 keep)
 os:W.os=w.os
 tape:W.tape=w.tape
 output:W.output=w.output
 size:w.heap.size+4≤W.heap.size
 same:∀ k,k<w.heap.size→k≠bm→W.heap[k]? =w.heap[k]?
 map:∃ es clock,W.heap[bm]? =some (.map es clock)∧RelM S (mm l pre) es.toList∧Bst es clock
theorem BtI.own {l:List Fl}{S:Rd}{bi bm:Nat}{keep:Int}{w:World}(hm:bm<w.heap.size){pre:List (List UInt8)}{W W':World}{row:Option Nat}(h:BtI l S bi bm keep w pre W)(hg:W.grownBy W' row)(hr:∀ r,row=some r→w.heap.size+4≤r):BtI l S bi bm keep w pre W' where
 d:=h.d.kept hg (fun e=>by have:=hr _ e.symm; omega)
 k:=h.k.kept hg (fun e=>by have:=hr _ e.symm; omega)
 os:=hg.os.trans h.os
 tape:=hg.tape.trans h.tape
 output:=hg.output.trans h.output
 size:=Nat.le_trans h.size hg.size
 same:=fun k hk hne=>(hg.block k (by have:=h.size; omega) (fun e=>by have:=hr _ e.symm; omega)).trans (h.same k hk hne)
 map:=by
  obtain ⟨es,clock,h1,h2⟩:=h.map
  exact ⟨es,clock,(hg.block bm (by have:=h.size; omega) (fun e=>by have:=hr _ e.symm; omega)).trans h1,h2⟩
theorem keepW_put (n:Nat)(W:World)(l:Nat)(o o':Obj)(h:W.heap[l]? =some o)(hw:o.isWalk=false):KeepW n W (W.putObj l o') where
 size:=by simp
 same:=fun k o2 _ ho2 hw2=>by
  have hne:k≠l:=fun e=>by subst e; rw [h] at ho2; cases ho2; rw [hw] at hw2; cases hw2
  exact (World.putObj_heap_other hne).trans ho2
theorem keepW_below {n:Nat}{W W':World}(h:Below W.heap.size W W'):KeepW n W W':=⟨h.size,fun k o _ ho _=>(h.block k (Array.getElem?_eq_some_iff.1 ho).1).trans ho⟩
theorem keepsFrom_below {n:Nat}{W W':World}(h:Below W.heap.size W W'):KeepsFrom n W W':=⟨h.size,fun k o _ ho _=>(h.block k (Array.getElem?_eq_some_iff.1 ho).1).trans ho⟩
theorem setBlk {W:World}{b i:Nat}{cs:Array Value}{ty:TypeId}(v:Value)(h:W.heap[b]? =some (.cells cs ty)):(W.setCell ⟨b,i,none⟩ v).heap[b]? =some (.cells (cs.setIfInBounds i v) ty):=by
 simp only [World.setCell,Array.getElem?_modify,if_pos,h]
 rfl
theorem grown_set (W:World)(b i:Nat)(v:Value):W.grownBy (W.setCell ⟨b,i,none⟩ v) (some b):=⟨rfl,rfl,rfl,by rw [setCell_size]; exact Nat.le_refl _,fun k _ hk=>setCell_heap_ne _ _ _ (fun e=>hk (by rw [e]))⟩
abbrev putY (X:World) (bm:Nat) (es':Array MapEntry) (ck':Nat):World:={ X.drew with heap:=X.drew.heap.setIfInBounds bm (.map es' ck') }
theorem roundEnd {l:List Fl}{S:Rd}{bi bm:Nat}{keep:Int}{w:World}(hbl:bm<w.heap.size)(hne:bi≠bm){pre:List (List UInt8)}{nm:List UInt8}{W X:World}{Bx:Nat}{es':Array MapEntry}{ck':Nat}{cs:Array Value}{ty:TypeId}
  (hXI:BtI l S bi bm keep w pre X) (hbx:W.heap[Bx]? =some (.cells cs ty)) (hs:W.heap.size≤X.heap.size) (hWX:∀ k,k<W.heap.size→k≠Bx→X.heap[k]? =W.heap[k]?)
  (hrel:RelM S (mm l (pre++[nm])) es'.toList) (hst:Bst es' ck') {n0:Nat} (hn0:w.heap.size≤n0):KeepsFrom n0 W (putY X bm es' ck')∧KeepW w.heap.size W (putY X bm es' ck')∧BtI l S bi bm keep w (pre++[nm]) (putY X bm es' ck'):=by
 have hY:∀ k,k≠bm→(putY X bm es' ck').heap[k]? =X.heap[k]? :=fun k hk=>by
  show (X.heap.setIfInBounds bm (.map es' ck'))[k]? =_
  rw [Array.getElem?_setIfInBounds,if_neg (fun e=>hk e.symm)]
 have hYs:(putY X bm es' ck').heap.size=X.heap.size:=by
  show (X.heap.setIfInBounds bm (.map es' ck')).size=_
  simp
 have hbX:bm<X.heap.size:=by have:=hXI.size; omega
 have hYm:(putY X bm es' ck').heap[bm]? =some (.map es' ck'):=by
  show (X.heap.setIfInBounds bm (.map es' ck'))[bm]? =_
  simp [hbX]
 refine ⟨⟨by omega,fun k o hk ho hc=> ?_⟩,⟨by omega,fun k o hk ho hw=> ?_⟩,?_,?_,hXI.os,hXI.tape,hXI.output,by rw [hYs]; exact hXI.size,fun k hk hk2=>(hY k hk2).trans (hXI.same k hk hk2),es',ck',hYm,hrel,hst⟩
 ·have h1:k≠Bx:=fun e=>by subst e; rw [hbx] at ho; cases ho; cases hc
  rw [hY k (by omega),hWX k (Array.getElem?_eq_some_iff.1 ho).1 h1]; exact ho
 ·have h1:k≠Bx:=fun e=>by subst e; rw [hbx] at ho; cases ho; cases hw
  rw [hY k (by omega),hWX k (Array.getElem?_eq_some_iff.1 ho).1 h1]; exact ho
 ·exact (hY _ (by omega)).trans hXI.d
 ·exact (hY _ (by omega)).trans hXI.k
theorem mm_all (l:List Fl)(pre:List (List UInt8))(h:∀ f ∈ l,f.1.data.toList ∈ pre):mm l pre=mm l (l.map (·.1.data.toList)):=by
 refine List.map_congr_left fun f hf=> ?_
 have h1:f.1.data.toList ∈ l.map (·.1.data.toList):=List.mem_map.2 ⟨f,hf,rfl⟩
 rw [if_pos (h f hf),if_pos h1]
theorem enc_ba (s:ByteArray):encStr s.data.toList= .string s:=by simp [encStr]
abbrev bT (bi bm N:Nat) (keep:Int) (nm:List UInt8) (v:SV×SV) (Bx:Nat):Array Value :=
 #[.pointer (some ⟨bi,0,none⟩),.int .i64 keep,.pointer (some ⟨N,0,none⟩),.pointer (some ⟨N+1,0,none⟩),encStr nm,.pointer (some ⟨Bx,0,none⟩),.pointer (some ⟨bi,0,none⟩),.bool false,.pointer (some ⟨bi,0,none⟩),.pointer (some ⟨bi,0,none⟩),.pointer (some ⟨bi,0,none⟩),.map (some bm),.map (some (N+1+1)),
  .func (.func 60) #[] #[.pointer (some ⟨N+1+1+1,0,none⟩)],encStr nm,flV v,undef,undef,undef,undef,undef,undef,undef,undef,undef,undef,undef,undef,undef,undef,undef,undef,undef,undef,undef,undef,undef,undef,undef,undef,undef]
set_option maxRecDepth 100000 in
set_option maxHeartbeats 8000000 in
theorem bootW (l:List Fl)(ok:OkL l)(S:Rd)(tyD:TypeId)(bi bm:Nat)(fuse ops keep:Int)(dead:Bool)(w:World)(es:Array MapEntry)(clock:Nat)
  (hbt:∀ f ∈ l,Bt keep f) (hbi:w.heap[bi]? =some (.cells #[.map (some bm),.int .i64 fuse,.bool dead,.int .i64 ops] tyD)) (hbm:w.heap[bm]? =some (.map es clock))
  (hm:RelM S (mm l []) es.toList) (hst:Bst es clock) (hS:∀ t b o u,S t b o u→b≠bm∧w.cell? ⟨b,o,none⟩=some u) :
  Calls Tryz.prog 16 #[.pointer (some ⟨bi,0,none⟩),.int .i64 keep] w fun e W=>e= .returned (.tuple #[])∧W.os=w.os∧W.tape=w.tape∧W.output=w.output∧w.heap.size≤W.heap.size ∧
   (∀ k,k<w.heap.size→k≠bm→k≠bi→W.heap[k]? =w.heap[k]?)∧W.heap[bi]? =some (.cells #[.map (some bm),.int .i64 0,.bool false,.int .i64 ops] tyD) ∧
   ∃ es' clock',W.heap[bm]? =some (.map es' clock')∧RelM S (mm l (l.map (·.1.data.toList))) es'.toList∧Bst es' clock':=by
 have t9:Tryz.prog.underlying 9=some .string:=Tryz.underlying9
 have hbl:bm<w.heap.size:=(Array.getElem?_eq_some_iff.1 hbm).1
 have hil:bi<w.heap.size:=(Array.getElem?_eq_some_iff.1 hbi).1
 have hne:bi≠bm:=fun h=>by rw [h,hbm] at hbi; cases hbi
 have hFit:=mm_fit ok hm hst
 have c0:∀ W:World,(∀ k,k<w.heap.size→k≠bm→W.heap[k]? =w.heap[k]?)→W.cell? ⟨bi,0,none⟩=some (.map (some bm)):=fun W h=>by
  rw [World.cell?_of_block (w:=w) (h bi hil hne)]; simp [World.cell?,hbi]
 obtain ⟨wD,hwD⟩:∃ wD,wD=(w.alloc (.cells #[.pointer (some ⟨bi,0,none⟩)] 58)).alloc (.cells #[.int .i64 keep] 3):=⟨_,rfl⟩
 have hDs:wD.heap.size=w.heap.size+2:=by rw [hwD]; simp
 have hDold:∀ k,k<w.heap.size→wD.heap[k]? =w.heap[k]? :=fun k hk=>by rw [hwD,Below.heap_alloc _ _ _ (by simp; omega),Below.heap_alloc _ _ _ hk]
 have hcD:wD.cell? ⟨bi,0,none⟩=some (.map (some bm)):=c0 _ (fun k hk _=>hDold k hk)
 rw [hwD] at hcD
 have hmD:=(hDold bm hbl).trans hbm
 rw [hwD] at hmD
 have cC:=cloneF bm es clock _ hmD
 refine (callsIn_wide (n:=20)).1 ?_
 refine callsIn_of_wp_marks Tryz.func16 rfl trivial ?_ rfl
 simp only [Tryz.ntmps16,List.size_toArray,List.length_cons,List.length_nil,Nat.reduceAdd,Nat.reduceSub,Array.replicate_succ,Array.replicate_zero,List.push_toArray,List.append_toArray,List.nil_append,List.cons_append]
 gi_wp2_with (first
  | (refine ⟨trivial,?_⟩; gi_at_call 31; refine (callsIn_wide.2 cC).mono ?_; rintro e w' ⟨rfl,rfl⟩)
  | (refine ⟨trivial,?_⟩; gi_at_call 30; refine (allF Fence.wide _ trivial rfl _ _).mono ?_; rintro e w' ⟨rfl,rfl⟩))
 obtain ⟨W0,hW0⟩:∃ W0,(((w.alloc (.cells #[.pointer (some ⟨bi,0,none⟩)] 58)).alloc (.cells #[.int .i64 keep] 3)).alloc (.map es clock)).alloc (.cells #[.map (some (w.heap.size+1+1))] 76)=W0:=⟨_,rfl⟩
 rw [hW0]
 have hs0:W0.heap.size=w.heap.size+4:=by rw [← hW0]; simp
 have hB0:Below w.heap.size w W0:=by rw [← hW0]; exact ((((Below.refl _ w).alloc (Nat.le_refl _) _).alloc (by simp) _).alloc (by simp; omega) _).alloc (by simp; omega) _
 have e2:W0.heap[w.heap.size+1+1]? =some (.map es clock):=by
  rw [← hW0,Below.heap_alloc _ _ _ (by simp)]
  have:=hanew ((w.alloc (.cells #[.pointer (some ⟨bi,0,none⟩)] 58)).alloc (.cells #[.int .i64 keep] 3)) (.map es clock)
  simpa using this
 have e3:W0.heap[w.heap.size+1+1+1]? =some (.cells #[.map (some (w.heap.size+1+1))] 76):=by
  rw [← hW0]
  have:=hanew (((w.alloc (.cells #[.pointer (some ⟨bi,0,none⟩)] 58)).alloc (.cells #[.int .i64 keep] 3)).alloc (.map es clock)) (.cells #[.map (some (w.heap.size+1+1))] 76)
  simpa using this
 have e0:Boxed W0 w.heap.size 58 (.pointer (some ⟨bi,0,none⟩)):=by
  rw [← hW0]
  exact (((Boxed.new w _ _).alloc _).alloc _).alloc _
 have e1:Boxed W0 (w.heap.size+1) 3 (.int .i64 keep):=by
  rw [← hW0]
  have:=Boxed.new (w.alloc (.cells #[.pointer (some ⟨bi,0,none⟩)] 58)) 3 (.int .i64 keep)
  exact (by simpa using this:Boxed _ (w.heap.size+1) _ _).alloc _ |>.alloc _
 have hown:W0.ownsMap Tryz.prog 9 rF (w.heap.size+1+1) es.size (dOf es):=⟨es,clock,e2,hFit,Nat.le_refl _,rfl⟩
 clear hW0 cC hcD hmD hwD hDs hDold
 refine wpIn_rangeFunc_ownH rfl (by omega) (gf:=60) (lb:= #[.pointer (some ⟨w.heap.size+1+1+1,0,none⟩)]) rfl trivial (enters_of Tryz.func60 (by kernel_rfl) rfl)
  (allF_stops Fence.wide (20-1) trivial rfl (by omega) (w.heap.size+1+1+1) (w.heap.size+1+1) es.size w.heap.size (dOf es) W0 (by omega) (by omega) (by simp [World.cell?,e3]) hown)
  KeepW.trans (fun W l o o' _ ho _ hw=>keepW_put _ W l o o' ho hw) (Below.refl _ _) (fun _=>rfl)
  (fun (pre:List (Ent (dOf es))) W=>BtI l S bi bm keep w (pre.map (·.1.1)) W) (fun _ _ _=>False)
  (fun (s:List (Ent (dOf es))) A B row hs hg hr=>by exact BtI.own hbl hs hg (fun r e=>by have:=(hr r e).1; omega)) (fun _ _ _ _ _ hs _ _=>hs)
  ⟨e0,e1,hB0.os,hB0.tape,hB0.output,by omega,fun k hk _=>hB0.block k hk,es,clock,(hB0.block bm hbl).trans hbm,hm,hst⟩
  (fun x a' W=>∃ Bx,w.heap.size+4≤Bx∧W.heap[Bx]? =some (.cells #[svV x.1.2.1,svV x.1.2.2] 83)∧a'={ tmps:=bT bi bm w.heap.size keep x.1.1 x.1.2 Bx,defers:=[] })
  (fun x a' _ X Y row hs hg hr=>by
   obtain ⟨Bx,h1,h2,h3⟩:=hs
   refine ⟨Bx,h1,(hg.block Bx (Array.getElem?_eq_some_iff.1 h2).1 (fun e=> ?_)).trans h2,h3⟩
   obtain ⟨_,o,ho,hc⟩:=hr Bx e.symm
   rw [h2] at ho
   cases ho
   cases hc) ?assign ?body ?done ?stop
 case assign =>
  rintro l0 pre ⟨⟨nm,⟨a1,n1,c1⟩,⟨a2,n2,c2⟩⟩,hx⟩ W K hI hK
  gi_wp2
  have hb:=(Below.refl W.heap.size W).alloc (Nat.le_refl _) (.cells #[.slice a1 n1 c1,.slice a2 n2 c2] 83)
  exact hK _ _ (keepsFrom_below hb) (keepW_below hb) (hI.own hbl (World.grownBy_alloc _ _ none) (fun r e=>by cases e)) ⟨W.heap.size,hI.size,hanew W _,rfl⟩
 case body =>
  rintro l0 pre ⟨⟨nm,⟨a1,n1,c1⟩,⟨a2,n2,c2⟩⟩,hx⟩ a' W hl hr hI ⟨Bx,hBx,hbx,rfl⟩ hlt
  obtain ⟨f,hf,hnm,h1,h2⟩:=ent_file ok hm ⟨(nm,(a1,n1,c1),(a2,n2,c2)),hx⟩
  dsimp only at hnm h1 h2 hbx
  subst hnm
  have hen:=enc_ba f.1
  have hBl:=(Array.getElem?_eq_some_iff.1 hbx).1
  have hSW:Sees S W:=fun t b o u h=>by
   obtain ⟨k1,k2⟩:=hS t b o u h
   rw [World.cell?_of_block (w:=w) (hI.same b (block_lt k2) k1)]
   exact k2
  have after:∀ W1,Below W.heap.size W W1→BtI l S bi bm keep w (pre.map (·.1.1)) W1∧W1.heap[Bx]? =some (.cells #[.slice a1 n1 c1,.slice a2 n2 c2] 83):=fun W1 hb =>
   ⟨hI.own hbl (row:=none) ⟨hb.os,hb.tape,hb.output,hb.size,fun k hk _=>hb.block k hk⟩ (fun r e=>by cases e),(hb.block Bx hBl).trans hbx⟩
  have cells:∀ W1,BtI l S bi bm keep w (pre.map (·.1.1)) W1→W1.cell? ⟨w.heap.size,0,none⟩=some (.pointer (some ⟨bi,0,none⟩))∧W1.cell? ⟨w.heap.size+1,0,none⟩=some (.int .i64 keep)∧W1.cell? ⟨bi,0,none⟩=some (.map (some bm)):=fun W1 h=>⟨h.d.cell,h.k.cell,c0 W1 h.same⟩
  have box:∀ (W1:World) (u1 u2:Value),W1.heap[Bx]? =some (.cells #[u1,u2] 83)→W1.cell? ⟨Bx,0,none⟩=some u1∧W1.cell? ⟨Bx,1,none⟩=some u2∧W1.frozen? ⟨Bx,0,none⟩=false∧W1.frozen? ⟨Bx,1,none⟩=false:=fun W1 u1 u2 h=>by
   refine ⟨?_,?_,?_,?_⟩<;>simp [World.cell?,World.frozen?,h]
  have cE:∀ q,ACall Tryz.prog glD 32 [.c f.2.1,.c f.2.2.1] [] (boolA q)→Calls Tryz.prog 32 #[.slice a1 n1 c1,.slice a2 n2 c2] W fun e W1=>e= .returned (.bool q)∧(W1.cell? ⟨w.heap.size,0,none⟩=some (.pointer (some ⟨bi,0,none⟩))∧W1.cell? ⟨w.heap.size+1,0,none⟩=some (.int .i64 keep)∧W1.cell? ⟨bi,0,none⟩=some (.map (some bm))) ∧
    (W1.cell? ⟨Bx,0,none⟩=some (.slice a1 n1 c1)∧W1.cell? ⟨Bx,1,none⟩=some (.slice a2 n2 c2)∧W1.frozen? ⟨Bx,0,none⟩=false∧W1.frozen? ⟨Bx,1,none⟩=false)∧RowKit.Hid (Below W.heap.size W W1):=fun q h=>(eqCall h hSW h1 h2).mono fun e W1 ⟨k1,k2⟩=>⟨k1,cells W1 (after W1 k2).1,box W1 _ _ (after W1 k2).2,Lib.hid k2⟩
  have hnot:∀ (x:Bool) (w:World),(Op.unary .not (.bool x)).run Tryz.prog w= .ok (.bool (!x)) w:=fun _ _=>rfl
  obtain ⟨k1,k2,k3⟩:=cells W hI
  obtain ⟨j1,j2,j3,j4⟩:=box W _ _ hbx
  rcases hbt f hf with ⟨hE,hy⟩|⟨hE,hT⟩
  ·have cE:=cE true hE
   gi_wp2_with (refine ⟨trivial,?_⟩; gi_at_call 32; refine (CallsIn.inRound l0 (callsIn_wide.2 cE)).mono ?_; rintro e W1 ⟨rfl,⟨k1,k2,k3⟩,⟨j1,j2,j3,j4⟩,hW1⟩)
   obtain ⟨X,hXe⟩:∃ X,X=W1.setCell ⟨Bx,1,none⟩ (.slice a1 n1 c1):=⟨_,rfl⟩
   rw [← hXe]
   obtain ⟨i1,i2⟩:=after W1 hW1
   have hXI:BtI l S bi bm keep w (pre.map (·.1.1)) X:=by rw [hXe]; exact i1.own hbl (grown_set W1 Bx 1 _) (fun r e=>by cases e; exact hBx)
   have hXb:X.heap[Bx]? =some (.cells #[.slice a1 n1 c1,.slice a1 n1 c1] 83):=by rw [hXe]; exact setBlk _ i2
   have hWX:W.heap.size≤X.heap.size∧∀ k,k<W.heap.size→k≠Bx→X.heap[k]? =W.heap[k]? :=by
    rw [hXe]
    exact ⟨by rw [setCell_size]; exact hW1.size,fun k hk hne=>(setCell_heap_ne _ _ _ hne).trans (hW1.block k hk)⟩
   clear hXe i1 i2 k1 k2 k3 j1 j2 j3 j4 hE cE
   obtain ⟨k1,k2,k3⟩:=cells X hXI
   obtain ⟨j1,j2,j3,j4⟩:=box X _ _ hXb
   obtain ⟨es1,ck1,g1,g2,g3⟩:=hXI.map
   obtain ⟨es',ck',hput,hrel,hst'⟩:=runPut X.drew bm es1 ck1 g1 f.1 (.agg #[.slice a1 n1 c1,.slice a1 n1 c1]) _ g2 (mm_ok _ _) (fl f.2.2.2 f.2.2.2) (fun S' h=>⟨_,rfl,_,_,rfl,by rw [hy]; exact RepC.mono h _ _ h1,_,_,rfl,by rw [hy]; exact RepC.mono h _ _ h1,rfl⟩) g3
   have fin:=roundEnd hbl hne (nm:=f.1.data.toList) (n0:=W0.heap.size) hXI hbx hWX.1 hWX.2 (by have:=hrel S (Rd.le_refl S); rwa [mm_put l hf ok.nodup] at this) hst' (by omega)
   have fin2:KeepsFrom W0.heap.size W (putY X bm es' ck')∧KeepW w.heap.size W (putY X bm es' ck')∧BtI l S bi bm keep w ((pre++[(⟨(f.1.data.toList,(a1,n1,c1),(a2,n2,c2)),hx⟩:Ent (dOf es))]).map (·.1.1)) (putY X bm es' ck'):=by
    rw [List.map_append]; exact fin
   clear fin hWX after cells box
   gi_region
   all_goals exact fin2
  ·have cE:=cE false hE
   have cT:∀ W1,Below W.heap.size W W1→Calls Tryz.prog 33 #[.agg #[.slice a1 n1 c1,.slice a2 n2 c2],.int .i64 keep] W1 fun e W2=>∃ (a3:Option Addr) (n3 c3:Nat),e= .returned (.slice a3 n3 c3)∧(W2.cell? ⟨w.heap.size,0,none⟩=some (.pointer (some ⟨bi,0,none⟩))∧W2.cell? ⟨w.heap.size+1,0,none⟩=some (.int .i64 keep)∧W2.cell? ⟨bi,0,none⟩=some (.map (some bm))) ∧
    (W2.cell? ⟨Bx,0,none⟩=some (.slice a1 n1 c1)∧W2.cell? ⟨Bx,1,none⟩=some (.slice a2 n2 c2)∧W2.frozen? ⟨Bx,0,none⟩=false∧W2.frozen? ⟨Bx,1,none⟩=false)∧RowKit.Hid (Below W.heap.size W W2∧RepC S f.2.2.2 (.slice a3 n3 c3)):=fun W1 hb=>by
    have hS1:Sees S W1:=fun t b o u h=>by
     have:=hSW t b o u h
     rw [World.cell?_of_block (w:=W) (hb.block b (block_lt this))]
     exact this
    refine (hT W1 S _ _ hS1 h1 h2).mono ?_
    rintro e W2 ⟨u,rfl,hb2,hr⟩
    obtain ⟨⟨a3,n3,c3⟩,rfl⟩:=isSl_val (ok.sl f hf).2.2 (hr S h1)
    have hb3:=hb.trans (hb2.mono hb.size)
    exact ⟨a3,n3,c3,rfl,cells W2 (after W2 hb3).1,box W2 _ _ (after W2 hb3).2,Lib.hid ⟨hb3,hr S h1⟩⟩
   gi_wp2_with (first
    | (refine ⟨trivial,?_⟩; gi_at_call 32; refine (CallsIn.inRound l0 (callsIn_wide.2 cE)).mono ?_; rintro e W1 ⟨rfl,⟨k1,k2,k3⟩,⟨j1,j2,j3,j4⟩,hW1⟩)
    | (refine ⟨trivial,?_⟩; gi_at_call 33; refine (CallsIn.inRound l0 (callsIn_wide.2 (cT _ hW1))).mono ?_; rintro e W2 ⟨a3,n3,c3,rfl,⟨k1,k2,k3⟩,⟨j1,j2,j3,j4⟩,hW2⟩))
   obtain ⟨hW2,hr3⟩:=hW2
   obtain ⟨X,hXe⟩:∃ X,X=(W2.setCell ⟨Bx,0,none⟩ (.slice a3 n3 c3)).setCell ⟨Bx,1,none⟩ (.slice a3 n3 c3):=⟨_,rfl⟩
   rw [← hXe]
   obtain ⟨i1,i2⟩:=after W2 hW2
   have hXI:BtI l S bi bm keep w (pre.map (·.1.1)) X:=by rw [hXe]; exact (i1.own hbl (grown_set W2 Bx 0 _) (fun r e=>by cases e; exact hBx)).own hbl (grown_set _ Bx 1 _) (fun r e=>by cases e; exact hBx)
   have hXb:X.heap[Bx]? =some (.cells #[.slice a3 n3 c3,.slice a3 n3 c3] 83):=by rw [hXe]; exact setBlk _ (setBlk _ i2)
   have hWX:W.heap.size≤X.heap.size∧∀ k,k<W.heap.size→k≠Bx→X.heap[k]? =W.heap[k]? :=by
    rw [hXe]
    exact ⟨by rw [setCell_size,setCell_size]; exact hW2.size,fun k hk hne=>((setCell_heap_ne _ _ _ hne).trans (setCell_heap_ne _ _ _ hne)).trans (hW2.block k hk)⟩
   clear hXe i1 i2 k1 k2 k3 j1 j2 j3 j4 hE cE cT
   obtain ⟨k1,k2,k3⟩:=cells X hXI
   obtain ⟨j1,j2,j3,j4⟩:=box X _ _ hXb
   obtain ⟨es1,ck1,g1,g2,g3⟩:=hXI.map
   obtain ⟨es',ck',hput,hrel,hst'⟩:=runPut X.drew bm es1 ck1 g1 f.1 (.agg #[.slice a3 n3 c3,.slice a3 n3 c3]) _ g2 (mm_ok _ _) (fl f.2.2.2 f.2.2.2) (fun S' h=>⟨_,rfl,_,_,rfl,RepC.mono h _ _ hr3,_,_,rfl,RepC.mono h _ _ hr3,rfl⟩) g3
   have fin:=roundEnd hbl hne (nm:=f.1.data.toList) (n0:=W0.heap.size) hXI hbx hWX.1 hWX.2 (by have:=hrel S (Rd.le_refl S); rwa [mm_put l hf ok.nodup] at this) hst' (by omega)
   have fin2:KeepsFrom W0.heap.size W (putY X bm es' ck')∧KeepW w.heap.size W (putY X bm es' ck')∧BtI l S bi bm keep w ((pre++[(⟨(f.1.data.toList,(a1,n1,c1),(a2,n2,c2)),hx⟩:Ent (dOf es))]).map (·.1.1)) (putY X bm es' ck'):=by
    rw [List.map_append]; exact fin
   clear fin hWX after cells box
   gi_region
   all_goals exact fin2
 case done =>
  rintro D ys W hD ⟨hp,hall⟩ hI hK
  have k1:=hI.d.cell
  have hbW:W.heap[bi]? =some (.cells #[.map (some bm),.int .i64 fuse,.bool dead,.int .i64 ops] tyD):=(hI.same bi hil hne).trans hbi
  have q1:W.cell? ⟨bi,1,none⟩=some (.int .i64 fuse):=by simp [World.cell?,hbW]
  have q2:W.cell? ⟨bi,2,none⟩=some (.bool dead):=by simp [World.cell?,hbW]
  have q3:W.frozen? ⟨bi,1,none⟩=false:=by simp [World.frozen?,hbW]
  have q4:W.frozen? ⟨bi,2,none⟩=false:=by simp [World.frozen?,hbW]
  gi_wp2
  gi_region
  have hDb:D≠bi:=by omega
  have hKf:(((W.setCell ⟨bi,1,none⟩ (.int .i64 0)).setCell ⟨bi,2,none⟩ (.bool false)).drew).heap[D]? =some (.deferred (some [])):=((setCell_heap_ne (W.setCell ⟨bi,1,none⟩ (.int .i64 0)) ⟨bi,2,none⟩ (.bool false) hDb).trans (setCell_heap_ne W ⟨bi,1,none⟩ (.int .i64 0) hDb)).trans hK
  have hother:∀ k,k≠D→k≠bi→((((W.setCell ⟨bi,1,none⟩ (.int .i64 0)).setCell ⟨bi,2,none⟩ (.bool false)).drew).putObj D (.deferred none)).heap[k]? =W.heap[k]? :=fun k h1 h2 =>
   (World.putObj_heap_other h1).trans ((setCell_heap_ne (W.setCell ⟨bi,1,none⟩ (.int .i64 0)) ⟨bi,2,none⟩ (.bool false) h2).trans (setCell_heap_ne W ⟨bi,1,none⟩ (.int .i64 0) h2))
  have hsz:((((W.setCell ⟨bi,1,none⟩ (.int .i64 0)).setCell ⟨bi,2,none⟩ (.bool false)).drew).putObj D (.deferred none)).heap.size=W.heap.size:=by
   rw [World.putObj_size]
   show ((W.setCell ⟨bi,1,none⟩ (.int .i64 0)).setCell ⟨bi,2,none⟩ (.bool false)).heap.size=_
   rw [setCell_size,setCell_size]
  have hblk:((((W.setCell ⟨bi,1,none⟩ (.int .i64 0)).setCell ⟨bi,2,none⟩ (.bool false)).drew).putObj D (.deferred none)).heap[bi]? =some (.cells #[.map (some bm),.int .i64 0,.bool false,.int .i64 ops] tyD):=(World.putObj_heap_other (Ne.symm hDb)).trans (setBlk (.bool false) (setBlk (.int .i64 0) hbW))
  obtain ⟨es1,ck1,g1,g2,g3⟩:=hI.map
  have hmem:∀ f ∈ l,f.1.data.toList ∈ ys.map (·.1.1):=fun f hf=>(hall _).2 (has_file ok hm hf)
  rw [mm_all l _ hmem] at g2
  refine ⟨by simp,.inl ⟨_,_,rfl,run_takeDeferred hKf,?_⟩⟩
  exact ⟨_,results_none rfl _ _ _,rfl,hI.os,hI.tape,hI.output,by rw [hsz]; have:=hI.size; omega,fun k hk h1 h2=>(hother k (by omega) h2).trans (hI.same k hk h1),hblk,es1,ck1,(hother bm (by omega) (Ne.symm hne)).trans g1,g2,g3⟩
 case stop =>
  rintro D c pre W _ _ h _
  exact h.elim
end Go.Proofs.YtiodgjgngfklkaaGreatDoor
namespace Go.Proofs.YtiodgjgngfklkaaGreatDoor
open Go Go.VA Go.RowKit
theorem gBoot (l:List Fl)(ok:OkL l)(fuse ops keep:Int)(dead:Bool)(hbt:∀ f ∈ l,Bt keep f):GCall Tryz.prog glD 16 [dskB fuse dead ops,.mp (mm l [])] [.ptr 0 0,intA .i64 keep] [dskB 0 false ops,.mp (mm l (l.map (·.1.data.toList)))] [] where
 callable:=⟨_,Tryz.func16,by kernel_rfl,by kernel_rfl⟩
 len:=Nat.le_refl _
 kinds:=fun i hi=>by
  match i,hi with
  | 0,_=>rfl
  | 1,_=>rfl
 livep:=fun i hi=>by
  match i,hi with
  | 0,_=>rfl
  | 1,_=>rfl
 liveq:=fun i hi=>by
  match i,hi with
  | 0,_=>rfl
  | 1,_=>rfl
 run:=fun w M B vals hro hL hG hv=>by
  have hlen:=hL.len
  obtain ⟨bo0,bo1,rfl⟩:∃ b0 b1,B=[b0,b1]:=by
   match B,hlen with
   | [b0,b1],_=>exact ⟨b0,b1,rfl⟩
  obtain ⟨bi,cs,ty,rfl,hblk,ho,⟨hsz,hn⟩,hone,hcs⟩:=hL.obj 0 bo0 rfl
  obtain ⟨bm,es,clock,rfl,hmap,hrel,hst⟩:=hL.obj 1 bo1 rfl
  have hbi:=hL.bnd 0 bi rfl
  have hbm:=hL.bnd 1 bm rfl
  have hne:bi.b≠bm.b:=hL.dist 0 1 bi bm (by decide) rfl rfl rfl rfl
  obtain ⟨u0,r0,e0,h0,hv⟩:=pushA hv
  obtain ⟨u1,r1,rfl,h1,hv⟩:=pushA hv
  simp only [RelVs] at hv
  subst hv
  obtain ⟨bi',hb',rfl⟩:=h0
  have hb':some bi=some bi':=by simpa using hb'
  cases hb'
  obtain ⟨rfl,_⟩:u1= .int .i64 keep∧_:=h1
  rw [ho] at e0
  obtain rfl:vals= #[.pointer (some ⟨bi.b,0,none⟩),.int .i64 keep]:=Array.ext' e0
  obtain ⟨c0,s0,f0,g0,hcs⟩:=pushA hcs
  obtain ⟨c1,s1,rfl,g1,hcs⟩:=pushA hcs
  obtain ⟨c2,s2,rfl,g2,hcs⟩:=pushA hcs
  obtain ⟨c3,s3,rfl,g3,hcs⟩:=pushA hcs
  simp only [RelVs] at hcs
  subst hcs
  obtain ⟨bm',hbm',rfl⟩:=g0
  have hbm':some bm=some bm':=by simpa using hbm'
  cases hbm'
  obtain ⟨rfl,_⟩:c1= .int .i64 fuse∧_:=g1
  obtain ⟨rfl,_⟩:c2= .bool dead∧_:=g2
  obtain ⟨rfl,_⟩:c3= .int .i64 ops∧_:=g3
  obtain rfl:cs= #[.map (some bm.b),.int .i64 fuse,.bool dead,.int .i64 ops]:=Array.ext' f0
  have hMb:∀ t id (b:BI),([some bi,some bm]:List (Option BI))[id]? =some (some b)→MU M [some bi,some bm] [dskB fuse dead ops,.mp (mm l [])] t b.b:=fun t id b h=>by
   have hid:id<2:=(List.getElem?_eq_some_iff.1 h).1
   have hl:(getO [dskB fuse dead ops,.mp (mm l [])] id).live=true:=by
    rcases Nat.lt_or_ge id 1 with h1|h1
    ·obtain rfl:id=0:=Nat.lt_one_iff.1 h1
     rfl
    ·obtain rfl:id=1:=by omega
     rfl
   cases t with
   | false=>exact .inr ⟨id,b,h,rfl,hl⟩
   | true=>exact .inr ⟨id,b,by omega,h,rfl,hl⟩
  have hS:∀ t b o u,Sr M [some bi,some bm] [dskB fuse dead ops,.mp (mm l [])] w t b o u→b≠bm.b∧w.cell? ⟨b,o,none⟩=some u:=fun t b o u h=>⟨fun e=>h.1 (e ▸ hMb t 1 bm rfl),h.2⟩
  refine (bootW l ok _ ty bi.b bm.b fuse ops keep dead w es clock hbt hblk hmap hrel hst hS).mono ?_
  rintro e W ⟨rfl,w1,w2,w3,w4,w5,w6,es',ck',w7,w8,w9⟩
  have hle:(Sr M [some bi,some bm] [dskB fuse dead ops,.mp (mm l [])] w).le (Sr M [some bi,some bm] [dskB 0 false ops,.mp (mm l (l.map (·.1.data.toList)))] W):=by
   rintro t b o u ⟨k1,k2⟩
   refine ⟨fun hm=>k1 ?_,?_⟩
   ·cases t with
    | false =>
     rcases hm with hm|⟨id,b',k3,rfl,_⟩
     ·exact .inl hm
     ·exact hMb false id b' k3
    | true =>
     rcases hm with hm|⟨id,b',_,k3,rfl,_⟩
     ·exact .inl hm
     ·exact hMb true id b' k3
   ·rw [World.cell?_of_block (w:=w) (w5 b (block_lt k2) (fun e=>k1 (e ▸ hMb t 1 bm rfl)) (fun e=>k1 (e ▸ hMb t 0 bi rfl)))]
    exact k2
  refine ⟨.tuple #[],[some bi,some bm],rfl,⟨w1,w2,w3,w4,fun k hk hn=>w5 k hk (fun e=>hn ⟨1,bm,rfl,e.symm⟩) (fun e=>hn ⟨0,bi,rfl,e.symm⟩)⟩,?_,⟨#[],rfl,rfl⟩,fun id b h=> .inr ⟨id,b,h,rfl⟩,fun _ _ _=>rfl⟩
  have hlv:∀ id,(getO [dskB 0 false ops,.mp (mm l (l.map (·.1.data.toList)))] id).live=(getO [dskB fuse dead ops,.mp (mm l [])] id).live:=fun id=>by
   match id with
   | 0=>rfl
   | 1=>rfl
   | n+2=>rfl
  exact {
   len:=rfl
   bnd:=fun id b h=>Nat.lt_of_lt_of_le (hL.bnd id b h) w4
   mbnd:=fun b h=>Nat.lt_of_lt_of_le (hL.mbnd b h) w4
   notM:=fun id b h hl=>hL.notM id b h (by rw [← hlv]; exact hl)
   dist:=fun i j b b' hij h h' hl hl'=>hL.dist i j b b' hij h h' (by rw [← hlv]; exact hl) (by rw [← hlv]; exact hl')
   obj:=fun id bo h=>by
    have hid:id<2:=(List.getElem?_eq_some_iff.1 h).1
    rcases Nat.lt_or_ge id 1 with h1|h1
    ·obtain rfl:id=0:=Nat.lt_one_iff.1 h1
     obtain rfl:some bi=bo:=by simpa using h
     exact ⟨bi,_,ty,rfl,w6,ho,⟨hsz,hn⟩,by simp [Value.oneCell'],_,_,rfl,⟨bm,rfl,rfl⟩,_,_,rfl,⟨rfl,rfl⟩,_,_,rfl,⟨rfl,rfl⟩,_,_,rfl,⟨rfl,rfl⟩,rfl⟩
    ·obtain rfl:id=1:=by omega
     obtain rfl:some bm=bo:=by simpa using h
     exact ⟨bm,es',ck',rfl,w7,RelM.mono hle _ _ w8,w9⟩ }
end Go.Proofs.YtiodgjgngfklkaaGreatDoor
