/- Contracts of functions of the program,and the laws that stand on them: what each function answers,whatever its arguments. -/
import Derived.Test.YtiodgjgngfklkaaGreatDoorC6
set_option linter.all false
set_option maxRecDepth 100000
set_option maxHeartbeats 8000000
namespace Go.Proofs.YtiodgjgngfklkaaGreatDoor
open Go Go.VA
theorem byteN_lt (s:ByteArray)(i:Nat):0≤byteN s i∧byteN s i<256:=by
 unfold byteN
 have:=((s.data.toList[i]?).getD 0).toNat_lt
 omega
theorem or_sum (x z k:Nat)(hx:x<2 ^ k)(h:x+z*2 ^ k<2 ^ 64):bitsI .or .u64 x ((z*2 ^ k:Nat):Int)=((x+z*2 ^ k:Nat):Int):=by
 unfold bitsI
 show IntKind.u64.wrap (((BitVec.ofInt 64 (x:Int) ||| BitVec.ofInt 64 ((z*2 ^ k:Nat):Int)).toNat:Nat):Int)=_
 have e1:(BitVec.ofInt 64 (x:Int)).toNat=x:=by simp; omega
 have e2:(BitVec.ofInt 64 ((z*2 ^ k:Nat):Int)).toNat=z*2 ^ k:=by
  rw [BitVec.ofInt_natCast,BitVec.toNat_ofNat]; omega
 rw [BitVec.toNat_or,e1,e2,Nat.or_comm,Nat.mul_comm z,← Nat.two_pow_add_eq_or_of_lt hx,Nat.mul_comm,Nat.add_comm]
 show ((x+z*2 ^ k:Nat):Int)%18446744073709551616=_
 omega
theorem and127 (c:Nat)(h:c<256):IntKind.u64.wrap (bitsI .and .u8 c 127)=((c%128:Nat):Int):=by
 have:∀ c:Fin 256,IntKind.u64.wrap (bitsI .and .u8 (c.val:Int) 127)=((c.val%128:Nat):Int):=by decide +kernel
 exact this ⟨c,h⟩
theorem shl7 (x:Int)(i:Nat)(hi:i≤9):shlI .u64 x (IntKind.u64.wrap (7*IntKind.u64.wrap i))=(x*2 ^ (7*i))%18446744073709551616:=by
 have hi':i=0∨i=1∨i=2∨i=3∨i=4∨i=5∨i=6∨i=7∨i=8∨i=9:=by omega
 rcases hi' with rfl|rfl|rfl|rfl|rfl|rfl|rfl|rfl|rfl|rfl<;>rfl
theorem pow7 (c i:Nat)(hi:i≤9)(h9:i=9→c≤1):(c%128)*2 ^ (7*i)+2 ^ (7*i)≤2 ^ 64:=by
 have hm:c%128<128:=Nat.mod_lt _ (by decide)
 have hi':i=0∨i=1∨i=2∨i=3∨i=4∨i=5∨i=6∨i=7∨i=8∨i=9:=by omega
 rcases hi' with rfl|rfl|rfl|rfl|rfl|rfl|rfl|rfl|rfl|rfl<;>omega
theorem gSt_eq (acc:Nat)(i:Nat)(c:Nat)(hc:c<256)(hi:i≤9)(ha:acc<2 ^ (7*i))(h9:i=9→c≤1):gSt acc i c=((acc+(c%128)*2 ^ (7*i):Nat):Int):=by
 unfold gSt
 have hp:=pow7 c i hi h9
 have e:(((c%128:Nat):Int)*2 ^ (7*i))%18446744073709551616=(((c%128)*2 ^ (7*i):Nat):Int):=by
  have:(((c%128:Nat):Int)*2 ^ (7*i))=(((c%128)*2 ^ (7*i):Nat):Int):=by push_cast; rfl
  rw [this]
  omega
 rw [and127 c hc,shl7 _ i hi,e]
 exact or_sum acc (c%128) (7*i) ha (by omega)
def kdR (c:Int):Int:=IntKind.i64.wrap (c.tmod 128)
def scR (c:Int):Bool:=decide (c≥128)
def gTx (s:ByteArray) (a:Int):ByteArray×Int×Int:=gStr s a.toNat (s.size-a.toNat) 1024
def gSx (s:ByteArray) (a:Int):Int×Int×Int:=gS s a.toNat (s.size-a.toNat) 0 0
def zgR (n:Int):Int:=if n.tmod 2==1 then IntKind.i64.wrap (-1-IntKind.i64.wrap (IntKind.u64.wrap (n.tdiv 2))) else IntKind.i64.wrap (IntKind.u64.wrap (n.tdiv 2))
def tyR (c:Int):Ty:=(IntKind.i64.wrap (IntKind.u8.wrap (c.tdiv 8)),IntKind.i64.wrap (c.tmod 8))
def rIt (val:Int→V×Int×Int) (s:ByteArray) (kind:Int):Nat→List ByteArray→List V→Int→List ByteArray×List V×Int×Int
 | 0,ks,l,a=>(ks,l,a,0)
 | m+1,ks,l,a =>
  if kind==5 then
   if (gTx s a).2.2 != 0 then ([],[],0,(gTx s a).2.2)
   else if keyBad ks (gTx s a).1 then ([],[],0,4)
   else if (val (a+(gTx s a).2.1)).2.2 != 0 then ([],[],0,(val (a+(gTx s a).2.1)).2.2)
   else rIt val s kind m (ks++[(gTx s a).1]) (l++[(val (a+(gTx s a).2.1)).1]) (val (a+(gTx s a).2.1)).2.1
  else if (val a).2.2 != 0 then ([],[],0,(val a).2.2)
  else rIt val s kind m ks (l++[(val a).1]) (val a).2.1
def rAll (val:Int→V×Int×Int) (s:ByteArray) (kd a:Int):List ByteArray×List V×Int×Int:=rIt val s kd (gSx s a).1.toNat [] [] (a+(gSx s a).2.1)
def rGk (val:Int→V×Int×Int) (s:ByteArray) (kd:Int) (sc:Bool) (a:Int):V×Int×Int :=
 if kd==0 then (.mk kd 0 ByteArray.empty [] [] 0 0 sc,a,0)
 else if kd==1 then if decide (a≥s.size) then (V.z,0,2) else if decide (byteAt s a>1) then (V.z,0,4) else (.mk kd (IntKind.i64.wrap (byteAt s a)) ByteArray.empty [] [] 0 0 sc,a+1,0)
 else if kd==2 then if (gSx s a).2.2 != 0 then (V.z,0,(gSx s a).2.2) else (.mk kd (zgR (gSx s a).1) ByteArray.empty [] [] 0 0 sc,a+(gSx s a).2.1,0)
 else if kd==3 then if (gTx s a).2.2 != 0 then (V.z,0,(gTx s a).2.2) else (.mk kd 0 (gTx s a).1 [] [] 0 0 sc,a+(gTx s a).2.1,0)
 else if kd==6 then if decide (a≥s.size) then (V.z,0,2) else if !(chkR (tyR (byteAt s a))) then (V.z,0,4) else (.mk kd 0 ByteArray.empty [] [] (tyR (byteAt s a)).1 (tyR (byteAt s a)).2 sc,a+1,0)
 else if kd==4||kd==5 then
  if (gSx s a).2.2 != 0 then (V.z,0,(gSx s a).2.2) else if decide ((gSx s a).1>128) then (V.z,0,3)
  else if (rAll val s kd a).2.2.2 != 0 then (V.z,0,(rAll val s kd a).2.2.2) else (.mk kd 0 ByteArray.empty (rAll val s kd a).2.1 (rAll val s kd a).1 0 0 sc,(rAll val s kd a).2.2.1,0)
 else (V.z,0,4)
def rG1 (val:Int→V×Int×Int) (s:ByteArray) (deep a:Int):V×Int×Int :=
 if decide (deep>8) then (V.z,0,12) else if decide (a≥s.size) then (V.z,0,2) else rGk val s (kdR (byteAt s a)) (scR (byteAt s a)) (a+1)
def rGet (s:ByteArray):Nat→Int→Int→V×Int×Int
 | 0,deep,a=>rG1 (fun a=>(V.z,a,0)) s deep a
 | m+1,deep,a=>rG1 (rGet s m (IntKind.i64.wrap (deep+1))) s deep a
theorem rIt_ok {val:Int→V×Int×Int}{s:ByteArray}{kind:Int}(hv:∀ a:Int,0≤a→a≤s.size→0≤(val a).2.1∧(val a).2.1≤s.size):∀ (m:Nat) (ks:List ByteArray) (l:List V) (a:Int),0≤a→a≤s.size→0≤(rIt val s kind m ks l a).2.2.1∧(rIt val s kind m ks l a).2.2.1≤s.size
 | 0,ks,l,a,h0,h1=>⟨h0,h1⟩
 | m+1,ks,l,a,h0,h1=>by
  have z:(0:Int)≤0∧(0:Int)≤s.size:=⟨Int.le_refl _,by omega⟩
  simp only [rIt]
  split
  ·split
   ·exact z
   ·rename_i h
    have g:=(gStr_ok s a.toNat (s.size-a.toNat) 1024).1 (show (gTx s a).2.2=0 by simpa using h)
    have g1:0≤(gTx s a).2.1:=g.1
    have g2:(gTx s a).2.1≤((s.size-a.toNat:Nat):Int):=g.2
    have q:=hv (a+(gTx s a).2.1) (by omega) (by omega)
    split
    ·exact z
    ·split
     ·exact z
     ·exact rIt_ok hv m _ _ _ q.1 q.2
  ·split
   ·exact z
   ·have q:=hv a h0 h1
    exact rIt_ok hv m _ _ _ q.1 q.2
theorem rG1_ok {val:Int→V×Int×Int}{s:ByteArray}{deep a:Int}(hv:deep≤8→∀ a:Int,0≤a→a≤s.size→0≤(val a).2.1∧(val a).2.1≤s.size)(h0:0≤a)(h1:a≤s.size):0≤(rG1 val s deep a).2.1∧(rG1 val s deep a).2.1≤s.size:=by
 have z:(0:Int)≤0∧(0:Int)≤s.size:=⟨Int.le_refl _,by omega⟩
 unfold rG1
 split
 ·exact z
 ·rename_i hd
  have hv:=hv (by simpa using hd)
  split
  ·exact z
  ·rename_i hs
   have hs:¬ a≥s.size:=by simpa using hs
   generalize hq:a+1=a1
   have h2:0≤a1:=by omega
   have h3:a1≤s.size:=by omega
   have gs:(gSx s a1).2.2=0→(0:Int)<(gSx s a1).2.1∧(gSx s a1).2.1≤((s.size-a1.toNat:Nat):Int):=fun h=>by
    have:=gS_ok s a1.toNat (s.size-a1.toNat) 0 0 (Int.le_refl 0) h
    have h2:(gSx s a1).2.1≤((0:Nat):Int)+((s.size-a1.toNat:Nat):Int):=this.2.1
    exact ⟨this.1,by omega⟩
   have gt:(gTx s a1).2.2=0→0≤(gTx s a1).2.1∧(gTx s a1).2.1≤((s.size-a1.toNat:Nat):Int):=fun h=>(gStr_ok s a1.toNat (s.size-a1.toNat) 1024).1 h
   unfold rGk
   split
   ·exact ⟨h2,h3⟩
   ·split
    ·split
     ·exact z
     ·rename_i h
      have h:¬ a1≥s.size:=by simpa using h
      split
      ·exact z
      ·exact ⟨by show 0≤a1+1; omega,by show a1+1≤_; omega⟩
    ·split
     ·split
      ·exact z
      ·rename_i h
       have:=gs (by simpa using h)
       exact ⟨by show 0≤a1+(gSx s a1).2.1; omega,by show a1+(gSx s a1).2.1≤_; omega⟩
     ·split
      ·split
       ·exact z
       ·rename_i h
        have:=gt (by simpa using h)
        exact ⟨by show 0≤a1+(gTx s a1).2.1; omega,by show a1+(gTx s a1).2.1≤_; omega⟩
      ·split
       ·split
        ·exact z
        ·rename_i h
         have h:¬ a1≥s.size:=by simpa using h
         split
         ·exact z
         ·exact ⟨by show 0≤a1+1; omega,by show a1+1≤_; omega⟩
       ·split
        ·split
         ·exact z
         ·rename_i h
          have:=gs (by simpa using h)
          split
          ·exact z
          ·split
           ·exact z
           ·exact rIt_ok hv _ _ _ _ (by omega) (by omega)
        ·exact z
def dGe (s:ByteArray):Int:=if (rGet s 8 1 0).2.2==0&&decide (weight (rGet s 8 1 0).1>512) then 3 else (rGet s 8 1 0).2.2
def dGet (s:ByteArray):V×Int×Int:=if dGe s != 0 then (V.z,0,dGe s) else ((rGet s 8 1 0).1,(rGet s 8 1 0).2.1,0)
theorem byte_facts (c:Nat)(h:c<256):kdOf c=kdR c∧scOf c=scR c∧IntKind.i64.wrap (c:Int)=c∧(ofC c).1=(if chkR (tyR c) then tyR c else (0,0))∧(ofC c).2=(if chkR (tyR c) then 0 else 4)∧(0≤kdR c):=by
 have:∀ c:Fin 256,kdOf (c.val:Int)=kdR (c.val:Int)∧scOf (c.val:Int)=scR (c.val:Int)∧IntKind.i64.wrap (c.val:Int)=(c.val:Int)∧(ofC (c.val:Int)).1=(if chkR (tyR (c.val:Int)) then tyR (c.val:Int) else (0,0))∧(ofC (c.val:Int)).2=(if chkR (tyR (c.val:Int)) then 0 else 4)∧(0≤kdR (c.val:Int)):=by decide +kernel
 exact this ⟨c,h⟩
theorem byteAt_nat (s:ByteArray)(a:Int):∃ c:Nat,byteAt s a=(c:Int)∧c<256:=by
 have:=byteN_lt s a.toNat
 exact ⟨(byteN s a.toNat).toNat,by show byteN s a.toNat=_; omega,by omega⟩
theorem ofNat64 (n:Nat)(h:n<2 ^ 64):(BitVec.ofInt 64 (n:Int)).toNat=n:=by rw [BitVec.ofInt_natCast,BitVec.toNat_ofNat]; omega
theorem zag_eq (n:Nat)(h:n<2 ^ 64):zag n=zgR n:=by
 unfold zag zgR
 have hs:shrI .u64 (n:Int) 1=((n/2:Nat):Int):=by
  show (n:Int).fdiv (2 ^ 1)=_
  rw [Int.fdiv_eq_ediv_of_nonneg _ (by decide)]
  omega
 have ht:(n:Int).tdiv 2=((n/2:Nat):Int):=by rw [Int.tdiv_eq_ediv_of_nonneg (by omega)]; omega
 have hm:(n:Int).tmod 2=((n%2:Nat):Int):=by rw [Int.tmod_eq_emod_of_nonneg (by omega)]; omega
 have hd:n/2<2 ^ 63:=by omega
 have w1:IntKind.i64.wrap ((n/2:Nat):Int)=((n/2:Nat):Int):=wrap64 (by omega) (by omega)
 have w2:IntKind.u64.wrap ((n/2:Nat):Int)=((n/2:Nat):Int):=wrapU (by omega) (by omega)
 have ha:IntKind.i64.wrap (bitsI .and .u64 (n:Int) 1)=((n%2:Nat):Int):=by
  have e:bitsI .and .u64 (n:Int) 1=((n%2:Nat):Int):=by
   unfold bitsI
   show IntKind.u64.wrap (((BitVec.ofInt 64 (n:Int) &&& BitVec.ofInt 64 1).toNat:Nat):Int)=_
   have e1:(BitVec.ofInt 64 (n:Int)).toNat=n:=by rw [BitVec.ofInt_natCast,BitVec.toNat_ofNat]; omega
   rw [BitVec.toNat_and,e1,show (BitVec.ofInt 64 1).toNat=1 from rfl,Nat.and_one_is_mod]
   exact wrapU (by omega) (by omega)
  rw [e]; exact wrap64 (by omega) (by omega)
 rw [hs,ht,hm,w1,w2,ha,w1]
 have h2:n%2=0∨n%2=1:=by omega
 rcases h2 with h2|h2
 ·rw [h2]
  rw [if_neg (by decide)]
  unfold bitsI
  show IntKind.i64.wrap (((BitVec.ofInt 64 ((n/2:Nat):Int) ^^^ BitVec.ofInt 64 (IntKind.i64.wrap (0-((0:Nat):Int)))).toNat:Nat):Int)=_
  rw [BitVec.toNat_xor,ofNat64 _ (by omega),show (BitVec.ofInt 64 (IntKind.i64.wrap (0-((0:Nat):Int)))).toNat=0 from by decide,Nat.xor_zero,w1]
 ·rw [h2]
  rw [if_pos (by decide)]
  unfold bitsI
  show IntKind.i64.wrap (((BitVec.ofInt 64 ((n/2:Nat):Int) ^^^ BitVec.ofInt 64 (IntKind.i64.wrap (0-((1:Nat):Int)))).toNat:Nat):Int)=_
  rw [show BitVec.ofInt 64 (IntKind.i64.wrap (0-((1:Nat):Int)))=BitVec.allOnes 64 from by decide,BitVec.xor_allOnes,BitVec.toNat_not,ofNat64 _ (by omega),IntKind.wrap_i64,wrap64 (n:= -1-((n/2:Nat):Int)) (by omega) (by omega)]
  omega
theorem gS_lt (s:ByteArray)(k:Nat):∀ (m i:Nat) (acc:Int),acc<18446744073709551616→(gS s k m i acc).1<18446744073709551616
 | 0,_,_,_=>by show (0:Int)<18446744073709551616; decide
 | m+1,i,acc,h=>by
  have hw:∀ c,gSt acc i c<18446744073709551616:=fun c=>by
   unfold gSt bitsI
   exact Int.emod_lt_of_pos _ (by decide)
  simp only [gS]
  split
  ·decide
  ·split
   ·split
    ·decide
    ·exact hw _
   ·exact gS_lt s k m (i+1) _ (hw _)
structure Agree {α:Type} (d r:α×Int×Int):Prop where
 ok:d.2.2=0→r=d
 bad:d.2.2≠0→r.2.2=d.2.2
theorem Agree.rfl' {α:Type}(d:α×Int×Int):Agree d d:=⟨fun _=>rfl,fun _=>rfl⟩
structure AgreeI (d r:List ByteArray×List V×Int×Int):Prop where
 ok:d.2.2.2=0→r=d
 bad:d.2.2.2≠0→r.2.2.2=d.2.2.2
structure Both2 (s:ByteArray) (vd:Int→V×Int×Int) (vr:Int→Int→V×Int×Int):Prop where
 ag:∀ a:Int,0≤a→a≤s.size→Agree (vd a) (vr a 0)
 rg:∀ a:Int,0≤a→a≤s.size→0≤(vd a).2.1∧(vd a).2.1≤s.size
 stop:∀ a b:Int,b≠0→(vr a b).2.2=b
theorem rText0 (s:ByteArray)(a:Int):rText s a 0=((gTx s a).1,a+(gTx s a).2.1,(gTx s a).2.2):=by unfold rText; rw [if_neg (by decide)]; rfl
theorem rShort0 (s:ByteArray)(a:Int):rShort s a 0=((gSx s a).1,a+(gSx s a).2.1,(gSx s a).2.2):=by unfold rShort; rw [if_neg (by decide)]; rfl
theorem rByte0 (s:ByteArray)(a:Int):rByte s a 0=if decide (a≥s.size) then (0,a,2) else (byteAt s a,a+1,0):=by unfold rByte; rw [if_neg (by decide)]
theorem failB_ne {b e:Int}(h:b≠0):failB b e=b:=by unfold failB; rw [if_neg (by simpa using h)]
theorem failB0 (e:Int):failB 0 e=e:=rfl
theorem rdIt_stop {vr:Int→Int→V×Int×Int}{s:ByteArray}{kd:Int}(m:Nat)(ks:List ByteArray)(l:List V)(a b:Int)(h:b≠0):rdIt vr s kd m ks l a b=(ks,l,a,b):=by
 cases m with
 | zero=>rfl
 | succ m=>simp only [rdIt]; rw [if_pos (by simpa using h)]
theorem gTx_rg (s:ByteArray)(a:Int)(h0:0≤a)(h1:a≤s.size):0≤a+(gTx s a).2.1∧a+(gTx s a).2.1≤s.size:=by
 have:=rText_ok s a 0 h0 h1
 rw [rText0] at this
 exact this
theorem it_agree {s:ByteArray}{vd:Int→V×Int×Int}{vr:Int→Int→V×Int×Int}(hv:Both2 s vd vr)(kd:Int):∀ (m:Nat) (ks:List ByteArray) (l:List V) (a:Int),0≤a→a≤s.size→AgreeI (rIt vd s kd m ks l a) (rdIt vr s kd m ks l a 0)
 | 0,ks,l,a,h0,h1=>⟨fun _=>rfl,fun h=>absurd rfl h⟩
 | m+1,ks,l,a,h0,h1=>by
  simp only [rIt,rdIt]
  rw [if_neg (show ¬ ((0:Int) != 0)=true by decide)]
  by_cases h5:(kd==5)=true
  ·rw [if_pos h5]
   have hg:=gTx_rg s a h0 h1
   by_cases he:((gTx s a).2.2 != 0)=true
   ·have he':(gTx s a).2.2≠0:=by simpa using he
    rw [if_pos he]
    have hk:(rdK s kd ks a 0).2.2=(gTx s a).2.2:=by
     unfold rdK
     rw [if_pos h5,rText0]
     show (if keyBad ks (gTx s a).1=true then failB (gTx s a).2.2 4 else (gTx s a).2.2)=_
     split
     ·exact failB_ne he'
     ·rfl
    have hs:=hv.stop (rdK s kd ks a 0).2.1 (rdK s kd ks a 0).2.2 (by rw [hk]; exact he')
    refine ⟨fun h=>absurd h he',fun _=> ?_⟩
    rw [rdIt_stop _ _ _ _ _ (by rw [hs,hk]; exact he')]
    exact hs.trans hk
   ·have he0:(gTx s a).2.2=0:=by simpa using he
    rw [if_neg he]
    by_cases hb:keyBad ks (gTx s a).1=true
    ·rw [if_pos hb]
     have hk:(rdK s kd ks a 0).2.2=4:=by
      unfold rdK
      rw [if_pos h5,rText0]
      show (if keyBad ks (gTx s a).1=true then failB (gTx s a).2.2 4 else (gTx s a).2.2)=_
      rw [if_pos hb,he0]; rfl
     have hs:=hv.stop (rdK s kd ks a 0).2.1 (rdK s kd ks a 0).2.2 (by rw [hk]; decide)
     refine ⟨fun h=>absurd h (by show (4:Int)≠0; decide),fun _=> ?_⟩
     rw [rdIt_stop _ _ _ _ _ (by rw [hs,hk]; decide)]
     exact hs.trans hk
    ·rw [if_neg hb]
     have hk:rdK s kd ks a 0=(ks++[(gTx s a).1],a+(gTx s a).2.1,0):=by
      unfold rdK
      rw [if_pos h5,rText0]
      show (ks++[(gTx s a).1],a+(gTx s a).2.1,if keyBad ks (gTx s a).1=true then failB (gTx s a).2.2 4 else (gTx s a).2.2)=_
      rw [if_neg hb,he0]
     rw [hk]
     have q:=hv.ag (a+(gTx s a).2.1) hg.1 hg.2
     have r:=hv.rg (a+(gTx s a).2.1) hg.1 hg.2
     by_cases hq:((vd (a+(gTx s a).2.1)).2.2 != 0)=true
     ·rw [if_pos hq]
      have hq':(vd (a+(gTx s a).2.1)).2.2≠0:=by simpa using hq
      refine ⟨fun h=>absurd h hq',fun _=> ?_⟩
      show (rdIt vr s kd m (ks++[(gTx s a).1]) (l++[(vr (a+(gTx s a).2.1) 0).1]) (vr (a+(gTx s a).2.1) 0).2.1 (vr (a+(gTx s a).2.1) 0).2.2).2.2.2=_
      rw [q.bad hq',rdIt_stop _ _ _ _ _ hq']
     ·rw [if_neg hq]
      have hq0:(vd (a+(gTx s a).2.1)).2.2=0:=by simpa using hq
      show AgreeI _ (rdIt vr s kd m (ks++[(gTx s a).1]) (l++[(vr (a+(gTx s a).2.1) 0).1]) (vr (a+(gTx s a).2.1) 0).2.1 (vr (a+(gTx s a).2.1) 0).2.2)
      rw [q.ok hq0,hq0]
      exact it_agree hv kd m _ _ _ r.1 r.2
  ·rw [if_neg h5]
   have hk:rdK s kd ks a 0=(ks,a,0):=by unfold rdK; rw [if_neg h5]
   rw [hk]
   have q:=hv.ag a h0 h1
   have r:=hv.rg a h0 h1
   by_cases hq:((vd a).2.2 != 0)=true
   ·rw [if_pos hq]
    have hq':(vd a).2.2≠0:=by simpa using hq
    refine ⟨fun h=>absurd h hq',fun _=> ?_⟩
    show (rdIt vr s kd m ks (l++[(vr a 0).1]) (vr a 0).2.1 (vr a 0).2.2).2.2.2=_
    rw [q.bad hq',rdIt_stop _ _ _ _ _ hq']
   ·rw [if_neg hq]
    have hq0:(vd a).2.2=0:=by simpa using hq
    show AgreeI _ (rdIt vr s kd m ks (l++[(vr a 0).1]) (vr a 0).2.1 (vr a 0).2.2)
    rw [q.ok hq0,hq0]
    exact it_agree hv kd m _ _ _ r.1 r.2
theorem gSx_rg (s:ByteArray)(a:Int)(h0:0≤a)(h1:a≤s.size):0≤(gSx s a).1∧0≤a+(gSx s a).2.1∧a+(gSx s a).2.1≤s.size:=by
 have:=rShort_ok s a 0 h0 h1
 rw [rShort0] at this
 exact this
theorem all_agree {s:ByteArray}{vd:Int→V×Int×Int}{vr:Int→Int→V×Int×Int}(hv:Both2 s vd vr)(kd:Int)(sc:Bool)(a:Int)(h0:0≤a)(h1:a≤s.size) :
  Agree (if (gSx s a).2.2 != 0 then (V.z,0,(gSx s a).2.2) else if decide ((gSx s a).1>128) then (V.z,0,3)
   else if (rAll vd s kd a).2.2.2 != 0 then (V.z,0,(rAll vd s kd a).2.2.2) else (.mk kd 0 ByteArray.empty (rAll vd s kd a).2.1 (rAll vd s kd a).1 0 0 sc,(rAll vd s kd a).2.2.1,0))
   ((.mk kd 0 ByteArray.empty (rdAll vr s kd a 0).2.1 (rdAll vr s kd a 0).1 0 0 sc,(rdAll vr s kd a 0).2.2.1,(rdAll vr s kd a 0).2.2.2):V×Int×Int):=by
 have g:=gSx_rg s a h0 h1
 have e:rdAll vr s kd a 0=rdIt vr s kd (gSx s a).1.toNat [] [] (a+(gSx s a).2.1) (if decide ((gSx s a).1>128) then failB (gSx s a).2.2 3 else (gSx s a).2.2):=by unfold rdAll itB; rw [rShort0]
 by_cases he:((gSx s a).2.2 != 0)=true
 ·rw [if_pos he]
  have he':(gSx s a).2.2≠0:=by simpa using he
  have hb:(if decide ((gSx s a).1>128)=true then failB (gSx s a).2.2 3 else (gSx s a).2.2)=(gSx s a).2.2:=by
   split
   ·exact failB_ne he'
   ·rfl
  refine ⟨fun h=>absurd h he',fun _=> ?_⟩
  rw [e,hb,rdIt_stop _ _ _ _ _ he']
 ·rw [if_neg he]
  have he0:(gSx s a).2.2=0:=by simpa using he
  by_cases h128:decide ((gSx s a).1>128)=true
  ·rw [if_pos h128]
   refine ⟨fun h=>absurd h (by show (3:Int)≠0; decide),fun _=> ?_⟩
   rw [e,if_pos h128,he0,failB0,rdIt_stop _ _ _ _ _ (by decide)]
  ·rw [if_neg h128]
   rw [if_neg h128,he0] at e
   have q:=it_agree hv kd (gSx s a).1.toNat [] [] (a+(gSx s a).2.1) g.2.1 g.2.2
   rw [← e] at q
   have q:AgreeI (rAll vd s kd a) (rdAll vr s kd a 0):=q
   by_cases hr:((rAll vd s kd a).2.2.2 != 0)=true
   ·rw [if_pos hr]
    have hr':(rAll vd s kd a).2.2.2≠0:=by simpa using hr
    exact ⟨fun h=>absurd h hr',fun _=>q.bad hr'⟩
   ·rw [if_neg hr]
    have hr0:(rAll vd s kd a).2.2.2=0:=by simpa using hr
    refine ⟨fun _=> ?_,fun h=>absurd rfl h⟩
    rw [q.ok hr0,hr0]
theorem kd_agree {s:ByteArray}{vd:Int→V×Int×Int}{vr:Int→Int→V×Int×Int}(hv:Both2 s vd vr)(kd:Int)(sc:Bool)(a:Int)(h0:0≤a)(h1:a≤s.size)(k0:0≤kd)(k6:kd≤6):Agree (rGk vd s kd sc a) (rdKd vr s kd sc a 0):=by
 obtain ⟨c,hc,hc2⟩:=byteAt_nat s a
 have bf:=byte_facts c hc2
 have hkd:kd=0∨kd=1∨kd=2∨kd=3∨kd=4∨kd=5∨kd=6:=by omega
 rcases hkd with rfl|rfl|rfl|rfl|rfl|rfl|rfl
 ·exact Agree.rfl' _
 ·show Agree (if decide (a≥s.size) then (V.z,0,2) else if decide (byteAt s a>1) then (V.z,0,4) else (.mk 1 (IntKind.i64.wrap (byteAt s a)) ByteArray.empty [] [] 0 0 sc,a+1,0))
   (.mk 1 (IntKind.i64.wrap (rByte s a 0).1) ByteArray.empty [] [] 0 0 sc,(rByte s a 0).2.1,if decide (IntKind.i64.wrap (rByte s a 0).1>1) then failB (rByte s a 0).2.2 4 else (rByte s a 0).2.2)
  rw [rByte0]
  by_cases hs:decide (a≥s.size)=true
  ·rw [if_pos hs,if_pos hs]
   exact ⟨fun h=>absurd h (by show (2:Int)≠0; decide),fun _=>rfl⟩
  ·rw [if_neg hs,if_neg hs,hc]
   show Agree _ (V.mk 1 (IntKind.i64.wrap (c:Int)) ByteArray.empty [] [] 0 0 sc,a+1,if decide (IntKind.i64.wrap (c:Int)>1) then failB 0 4 else 0)
   rw [bf.2.2.1]
   by_cases h1:decide ((c:Int)>1)=true
   ·rw [if_pos h1,if_pos h1]
    exact ⟨fun h=>absurd h (by show (4:Int)≠0; decide),fun _=>rfl⟩
   ·rw [if_neg h1,if_neg h1]
    exact Agree.rfl' _
 ·show Agree (if (gSx s a).2.2 != 0 then (V.z,0,(gSx s a).2.2) else (.mk 2 (zgR (gSx s a).1) ByteArray.empty [] [] 0 0 sc,a+(gSx s a).2.1,0)) (.mk 2 (zag (rShort s a 0).1) ByteArray.empty [] [] 0 0 sc,(rShort s a 0).2.1,(rShort s a 0).2.2)
  rw [rShort0]
  have g:=gSx_rg s a h0 h1
  have hl:(gSx s a).1<18446744073709551616:=gS_lt s _ _ _ _ (by decide)
  have hz:zag (gSx s a).1=zgR (gSx s a).1:=by
   have:=zag_eq (gSx s a).1.toNat (by omega)
   rwa [Int.toNat_of_nonneg g.1] at this
  by_cases he:((gSx s a).2.2 != 0)=true
  ·rw [if_pos he]
   have he':(gSx s a).2.2≠0:=by simpa using he
   exact ⟨fun h=>absurd h he',fun _=>rfl⟩
  ·rw [if_neg he]
   have he0:(gSx s a).2.2=0:=by simpa using he
   refine ⟨fun _=> ?_,fun h=>absurd rfl h⟩
   show (V.mk 2 (zag (gSx s a).1) ByteArray.empty [] [] 0 0 sc,a+(gSx s a).2.1,(gSx s a).2.2)=_
   rw [hz,he0]
 ·show Agree (if (gTx s a).2.2 != 0 then (V.z,0,(gTx s a).2.2) else (.mk 3 0 (gTx s a).1 [] [] 0 0 sc,a+(gTx s a).2.1,0)) (.mk 3 0 (rText s a 0).1 [] [] 0 0 sc,(rText s a 0).2.1,(rText s a 0).2.2)
  rw [rText0]
  by_cases he:((gTx s a).2.2 != 0)=true
  ·rw [if_pos he]
   have he':(gTx s a).2.2≠0:=by simpa using he
   exact ⟨fun h=>absurd h he',fun _=>rfl⟩
  ·rw [if_neg he]
   have he0:(gTx s a).2.2=0:=by simpa using he
   refine ⟨fun _=> ?_,fun h=>absurd rfl h⟩
   show (V.mk 3 0 (gTx s a).1 [] [] 0 0 sc,a+(gTx s a).2.1,(gTx s a).2.2)=_
   rw [he0]
 ·exact all_agree hv 4 sc a h0 h1
 ·exact all_agree hv 5 sc a h0 h1
 ·show Agree (if decide (a≥s.size) then (V.z,0,2) else if !(chkR (tyR (byteAt s a))) then (V.z,0,4) else (.mk 6 0 ByteArray.empty [] [] (tyR (byteAt s a)).1 (tyR (byteAt s a)).2 sc,a+1,0))
   (.mk 6 0 ByteArray.empty [] [] (ofC (rByte s a 0).1).1.1 (ofC (rByte s a 0).1).1.2 sc,(rByte s a 0).2.1,if (ofC (rByte s a 0).1).2 != 0 then failB (rByte s a 0).2.2 (ofC (rByte s a 0).1).2 else (rByte s a 0).2.2)
  rw [rByte0]
  by_cases hs:decide (a≥s.size)=true
  ·rw [if_pos hs,if_pos hs]
   refine ⟨fun h=>absurd h (by show (2:Int)≠0; decide),fun _=> ?_⟩
   dsimp only
   split
   ·exact failB_ne (by decide)
   ·rfl
  ·rw [if_neg hs,if_neg hs,hc]
   show Agree _ (V.mk 6 0 ByteArray.empty [] [] (ofC (c:Int)).1.1 (ofC (c:Int)).1.2 sc,a+1,if (ofC (c:Int)).2 != 0 then failB 0 (ofC (c:Int)).2 else 0)
   rw [bf.2.2.2.1,bf.2.2.2.2.1]
   by_cases hk:chkR (tyR (c:Int))=true
   ·rw [hk]
    exact Agree.rfl' _
   ·have hk:chkR (tyR (c:Int))=false:=by simpa using hk
    rw [hk]
    exact ⟨fun h=>absurd h (by show (4:Int)≠0; decide),fun _=>rfl⟩
theorem rByte_bad {s:ByteArray}{a b:Int}(h:b≠0):rByte s a b=(0,a,b):=by unfold rByte; rw [if_pos (by simpa using h)]
theorem kd06:decide (kdOf 0>6)=false:=by decide
theorem vBd_of {s:ByteArray}{deep a b a' b':Int}(h:vHd s deep a b=(0,a',b')):vBd s deep a b=b':=by
 unfold vBd
 rw [h]
 show (if decide (kdOf 0>6)=true then failB b' 4 else b')=b'
 rw [kd06]; rfl
theorem v1_stop {vr:Int→Int→V×Int×Int}{s:ByteArray}{deep a b:Int}(h:b≠0):(rdV1 vr s deep a b).2.2=b:=by
 have hd:dpB deep b=b:=by
  unfold dpB
  split
  ·exact failB_ne h
  ·rfl
 have hh:vHd s deep a b=(0,a,b):=by unfold vHd; rw [hd,rByte_bad h]
 have hb:vBd s deep a b=b:=vBd_of hh
 unfold rdV1
 rw [hb,if_pos (by simpa using h)]
theorem v1_agree {s:ByteArray}{vd:Int→V×Int×Int}{vr:Int→Int→V×Int×Int}{deep:Int}(hv:deep≤8→Both2 s vd vr)(a:Int)(h0:0≤a)(h1:a≤s.size):Agree (rG1 vd s deep a) (rdV1 vr s deep a 0):=by
 unfold rG1
 by_cases hd:decide (deep>8)=true
 ·rw [if_pos hd]
  refine ⟨fun h=>absurd h (by show (12:Int)≠0; decide),fun _=> ?_⟩
  have hh:vHd s deep a 0=(0,a,12):=by unfold vHd dpB; rw [if_pos hd,failB0,rByte_bad (by decide)]
  have hb:vBd s deep a 0=12:=vBd_of hh
  unfold rdV1
  rw [hb]; rfl
 ·rw [if_neg hd]
  have hd0:dpB deep 0=0:=by unfold dpB; rw [if_neg hd]
  have hh:vHd s deep a 0=if decide (a≥s.size) then (0,a,2) else (byteAt s a,a+1,0):=by unfold vHd; rw [hd0,rByte0]
  by_cases hs:decide (a≥s.size)=true
  ·rw [if_pos hs]
   rw [if_pos hs] at hh
   refine ⟨fun h=>absurd h (by show (2:Int)≠0; decide),fun _=> ?_⟩
   have hb:vBd s deep a 0=2:=vBd_of hh
   unfold rdV1
   rw [hb]; rfl
  ·rw [if_neg hs]
   rw [if_neg hs] at hh
   have hs':¬ a≥s.size:=by simpa using hs
   obtain ⟨c,hc,hc2⟩:=byteAt_nat s a
   have bf:=byte_facts c hc2
   rw [hc] at hh
   rw [hc,← bf.1,← bf.2.1]
   have hk0:0≤kdOf c:=by rw [bf.1]; exact bf.2.2.2.2.2
   by_cases h6:decide (kdOf c>6)=true
   ·have hb:vBd s deep a 0=4:=by unfold vBd; rw [hh,if_pos h6]; rfl
    have h6':kdOf c>6:=of_decide_eq_true h6
    have hg:rGk vd s (kdOf c) (scOf c) (a+1)=(V.z,0,4):=by
     unfold rGk
     have e : ∀ n : Int, n ≤ 6 → ¬ (kdOf c == n) = true := fun n hn h => by have : kdOf c = n := by simpa using h
                                                                            omega
     rw [if_neg (e 0 (by decide)),if_neg (e 1 (by decide)),if_neg (e 2 (by decide)),if_neg (e 3 (by decide)),if_neg (e 6 (by decide)),if_neg]
     simp only [Bool.or_eq_true,not_or]
     exact ⟨e 4 (by decide),e 5 (by decide)⟩
    rw [hg]
    refine ⟨fun h=>absurd h (by show (4:Int)≠0; decide),fun _=> ?_⟩
    unfold rdV1
    rw [hb]; rfl
   ·have hb:vBd s deep a 0=0:=by unfold vBd; rw [hh,if_neg h6]
    have h6':¬ kdOf c>6:=of_decide_eq_false (by simpa using h6)
    have e:rdV1 vr s deep a 0=rdKd vr s (kdOf c) (scOf c) (a+1) 0:=by
     unfold rdV1
     rw [hb,if_neg (by decide),hh]
    rw [e]
    exact kd_agree (hv (by have:=of_decide_eq_false (by simpa using hd:decide (deep>8)=false); omega)) _ _ _ (by omega) (by omega) hk0 (by omega)
theorem val_both (s:ByteArray):∀ (m:Nat) (deep:Int),1≤deep→deep≤1000→9≤deep+m→Both2 s (rGet s m deep) (rdVal s m deep)
 | 0,deep,h1,h2,h3=>⟨fun a ha hb=>v1_agree (fun h=>by omega) a ha hb,fun a ha hb=>rG1_ok (fun h=>by omega) ha hb,fun a b hb=>v1_stop hb⟩
 | m+1,deep,h1,h2,h3=>by
  have hw:deep≤8→IntKind.i64.wrap (deep+1)=deep+1:=fun h=>wrap64 (by omega) (by omega)
  have ih:deep≤8→Both2 s (rGet s m (IntKind.i64.wrap (deep+1))) (rdVal s m (IntKind.i64.wrap (deep+1))):=fun h=>by rw [hw h]; exact val_both s m (deep+1) (by omega) (by omega) (by omega)
  exact ⟨fun a ha hb=>v1_agree ih a ha hb,fun a ha hb=>rG1_ok (fun h=>(ih h).rg) ha hb,fun a b hb=>v1_stop hb⟩
theorem cGet_eq (s:ByteArray):cGet s=dGet s:=by
 have q:=(val_both s 8 1 (by decide) (by decide) (by decide)).ag 0 (Int.le_refl 0) (by omega)
 have q:Agree (rGet s 8 1 0) (gV s):=q
 unfold cGet dGet gBd dGe
 by_cases he:(rGet s 8 1 0).2.2=0
 ·rw [q.ok he,he,failB0]
 ·rw [q.bad he]
  have:((rGet s 8 1 0).2.2==0)=false:=by simpa using he
  rw [this]
  simp only [Bool.false_and,Bool.false_eq_true,if_false]
  rw [if_pos (by simpa using he),if_pos (by simpa using he)]
theorem gClone (t:Bool)(n:Nat)(f:Nat→List C):GCall Tryz.prog gl 35 [] [.c (.sl t 1 n f)] [.row 1 n f] [.own 0 1 0 n]:=by
 refine gcall_of_vcb htb hmix (f:=35) rfl rfl rfl (by kernel_rfl) rfl rfl rfl fun hb hb2=> ?_; simp only [bndOs,bndO,gbnds,AV.gbnd,bnds,C.bnd,true_and,and_true] at hb hb2; conv=>whnf
 have hn:n≤140737488355328:=hb2.1
 have B1:n*(tb 5).bytes≤140737488355328:=by show n*1≤_; omega
 repeat' (first|(refine And.intro (fun h=> ?_) (fun h=> ?_)<;>(first|skip)<;>conv=>whnf)|((with_reducible refine NilOr.l ?_); conv=>whnf)|((with_reducible refine OwnOr.l ?_); (conv=>whnf))|(refine And.intro ?_ ?_; (focus (first|exact rfl|(first|assumption)|fail)); conv=>whnf)|fail)
 ·have h:n=0:=h rfl
  subst h
  ((conv=>whnf); repeat' (first|exact trivial|exact rfl|((with_reducible refine And.intro ?_ ?_)<;>conv=>whnf)))
  all_goals exact fun i hi=>absurd hi (Nat.not_lt_zero _)
 ·((conv=>whnf); repeat' (first|exact trivial|exact rfl|exact (fun i hi=>LeCs.refl _)|((with_reducible refine And.intro ?_ ?_)<;>conv=>whnf)))
abbrev cBy (x:Int):List C:=[.v (.int .u8 x)]
abbrev rB (l:List Int):Nat→List C:=rowE cBy 0 l
def shortF:Nat→Nat→List Int
 | 0,k=>[(k:Int)]
 | m+1,k=>if k<128 then [(k:Int)] else ((k%128+128:Nat):Int)::shortF m (k/128)
theorem or128 (c:Nat):bitsI .or .u8 (IntKind.u8.wrap (c:Int)) 128=((c%128+128:Nat):Int):=by
 have h:∀ c:Fin 256,bitsI .or .u8 (c.val:Int) 128=((c.val%128+128:Nat):Int):=by decide +kernel
 have e:IntKind.u8.wrap (c:Int)=((c%256:Nat):Int):=by show (c:Int)%256=_; omega
 rw [e]
 have:=h ⟨c%256,Nat.mod_lt _ (by decide)⟩
 simp only at this
 rw [this]
 congr 1
 omega
theorem shr7 (c:Nat):shrI .u64 (c:Int) 7=((c/128:Nat):Int):=by
 show (c:Int).fdiv (2 ^ 7)=_
 rw [Int.fdiv_eq_ediv_of_nonneg _ (by decide)]
 omega
theorem w8 (c:Nat)(h:c<256):IntKind.u8.wrap (c:Int)=c:=by show (c:Int)%256=_; omega
theorem shortF_len:∀ (m k:Nat),(shortF m k).length≤m+1
 | 0,k=>by simp [shortF]
 | m+1,k=>by
  simp only [shortF]
  split
  ·simp
  ·simp; exact shortF_len m _
def shortL (k:Nat):List Int:=shortF 9 k
theorem catF_assoc {n:Nat}{f:Nat→List C}(a b:List Int)(m:Nat)(hm:m=n+a.length)(i:Nat)(hi:i<n+a.length+b.length):catF 0 m (catF 0 n f (rB a)) (rB b) i=catF 0 n f (rB (a++b)) i:=by
 subst hm
 show catF 0 (n+a.length) (catF 0 n f fun i=>cBy (a.getD i 0)) (fun i=>cBy (b.getD i 0)) i=catF 0 n f (fun i=>cBy ((a++b).getD i 0)) i
 unfold catF
 by_cases h1:i<n
 ·rw [if_pos (by omega),if_pos (by omega),if_pos h1,Nat.zero_add]
 ·rw [if_neg h1]
  by_cases h2:i<n+a.length
  ·rw [if_pos h2,if_neg (by omega)]
   simp [List.getD_eq_getElem?_getD,List.getElem?_append_left (show i-n<a.length by omega)]
  ·rw [if_neg h2]
   simp [List.getD_eq_getElem?_getD,List.getElem?_append_right (show a.length≤i-n by omega)]
   congr 2; omega
theorem catF_nil {n:Nat}{f:Nat→List C}(i:Nat)(hi:i<n)(g:Nat→List C):catF 0 n f g i=f i:=by unfold catF; rw [if_pos hi,Nat.zero_add]
theorem catF_snoc {n:Nat}{f:Nat→List C}(a:List Int)(x:Int)(m:Nat)(hm:m=n+a.length)(i:Nat)(hi:i<n+a.length+1):catF 0 m (catF 0 n f (rB a)) (nthC [cBy x]) i=catF 0 n f (rB (a++[x])) i:=by
 have:=catF_assoc (n:=n) (f:=f) a [x] m hm i (by simpa using hi)
 rw [← this]
 unfold catF
 split
 ·rfl
 ·subst hm
  obtain rfl:i=n+a.length:=by omega
  rw [Nat.sub_self]; rfl
theorem gPutShort (t:Bool)(n:Nat)(f:Nat→List C)(k:Nat)(hk:k<2 ^ 64)(hn:n+(shortL k).length≤140737488355328) :
  GCall Tryz.prog gl 55 [] [.c (.sl t 1 n f),intA .u64 k] [.row 1 (n+(shortL k).length) (catF 0 n f (rB (shortL k)))] [.own 0 1 0 (n+(shortL k).length)]:=by
 refine gcall_of_vcb htb hmix (f:=55) rfl rfl rfl (by kernel_rfl) rfl rfl rfl fun hb hb2=> ?_; simp only [bndOs,bndO,gbnds,AV.gbnd,bnds,C.bnd,true_and,and_true] at hb hb2; conv=>whnf
 repeat' (first|((with_reducible refine NilOr.l ?_); conv=>whnf)|((with_reducible refine xc_guard ?_); (first|(refine xc_g (gClone _ _ _) false (by first|(((conv=>whnf); repeat' (first|exact trivial|exact rfl|exact LeC.refl _|((with_reducible refine And.intro ?_ ?_)<;>conv=>whnf))); done)|fail) trivial ?_)|fail); conv=>whnf)|fail)
 refine loopI (List Int×Nat×Nat) (fun p=>p.1++shortF p.2.2 p.2.1=shortL k∧p.2.1<2 ^ (7*(p.2.2+1))∧p.1.length+p.2.2≤9) (fun p=>[(5,.own 1 1 0 (n+p.1.length)),(1,intA .u64 p.2.1)])
  (fun p=>[.row 1 0 (fun _=>[]),.row 1 (n+p.1.length) (catF 0 n f (rB p.1))]) (fun p=>p.2.2) ([],k,9) ⟨rfl,by show k<2 ^ 70; omega,Nat.le_refl _⟩ ?_ (fun _=>rfl) fun ⟨pre,k',m⟩ ⟨h1,h2,h3⟩=> ?_
 ·(refine And.intro ?_ (And.intro ?_ (And.intro ?_ rfl))<;>(conv=>whnf)<;>repeat' (first|exact trivial|exact LeE.of (Le.refl _)|(first|exact rfl|exact fun i hi=>LeCs.refl _|fail)|((with_reducible refine And.intro ?_ ?_)<;>conv=>whnf)))
  exact fun i hi=>LeCs.of_eq (catF_nil i hi _).symm
 ·change pre++shortF m k'=shortL k at h1
  change k'<2 ^ (7*(m+1)) at h2
  change pre.length+m≤9 at h3
  have hlen:pre.length+1≤(shortL k).length:=by
   rw [← h1,List.length_append]
   have:1≤(shortF m k').length:=by
    cases m with
    | zero=>simp [shortF]
    | succ m=>simp only [shortF]; split<;>simp
   omega
  have B1:(n+pre.length+1)*(tb 5).bytes≤140737488355328:=by show (n+pre.length+1)*1≤_; omega
  conv=>whnf
  repeat' (first|(refine And.intro (fun h=> ?_) (fun h=> ?_)<;>(first|(with_reducible have hd:_≤_:=of_decide_eq_true h)|(with_reducible have hd:¬ (_≤_):=of_decide_eq_false h)|fail)<;>conv=>whnf)|((with_reducible refine OwnOr.l ?_); (conv=>whnf))|(refine And.intro ?_ ?_; (focus (first|exact rfl|(first|assumption)|(refine chainI ?_; (first|decide|fail))|fail)); conv=>whnf)|fail)
  ·have h:decide ((k':Int)≥128)=true:=h
   have hk':128≤k':=by have:=of_decide_eq_true h; omega
   obtain ⟨m',rfl⟩:∃ m',m=m'+1:=by
    cases m with
    | zero=>simp at h2; omega
    | succ m'=>exact ⟨m',rfl⟩
   rw [show 7*(m'+1+1)=7*(m'+1)+7 from by omega,Nat.pow_add] at h2
   have e1:(pre++[((k'%128+128:Nat):Int)]).length=pre.length+1:=by simp
   refine ⟨(pre++[((k'%128+128:Nat):Int)],k'/128,m'),⟨?_,?_,?_⟩,?_,Nat.lt_succ_self _⟩
   ·rw [← h1]; simp only [shortF]; rw [if_neg (by omega)]; simp
   ·show k'/128<2 ^ (7*(m'+1)); omega
   ·show (pre++[((k'%128+128:Nat):Int)]).length+m'≤9; omega
   ·(refine And.intro ?_ (And.intro ?_ (And.intro ?_ rfl))<;>(conv=>whnf)<;>repeat' (first|exact trivial|exact LeE.of (Le.refl _)|(with_reducible refine LeE.of ?_)|(first|exact rfl|exact fun i hi=>LeCs.refl _|fail)|((with_reducible refine And.intro ?_ ?_)<;>conv=>whnf)))
    all_goals first
     | exact leI (shr7 k')
     | exact leOwn (by simp; omega)
     | (show _=n+(pre++[((k'%128+128:Nat):Int)]).length; rw [e1]; rfl)
     | exact fun i hi=>LeCs.of_eq (by rw [← catF_snoc pre _ _ rfl i (by have:i<n+(pre++[((k'%128+128:Nat):Int)]).length:=hi; omega),← or128 k'])
  ·have h:decide ((k':Int)≥128)=false:=h
   have hk':k'<128:=by have:=of_decide_eq_false h; omega
   have e0:shortL k=pre++[(k':Int)]:=by
    rw [← h1]
    congr 1
    cases m with
    | zero=>rfl
    | succ m=>simp only [shortF]; rw [if_pos hk']
   rw [e0]
   ((conv=>whnf); repeat' (first|exact trivial|exact rfl|((with_reducible refine And.intro ?_ ?_)<;>conv=>whnf)))
   ·show n+pre.length+1=n+(pre++[(k':Int)]).length; simp; omega
   ·refine fun i hi=>LeCs.of_eq ?_
    show catF 0 (n+pre.length) (catF 0 n f (rB pre)) (nthC [cBy (IntKind.u8.wrap (k':Int))]) i=_
    rw [w8 k' (by omega)]
    exact catF_snoc pre _ _ rfl i (by have:i<n+(pre++[(k':Int)]).length:=hi; simp at this; omega)
   ·show n+pre.length+1=n+(pre++[(k':Int)]).length; simp; omega
theorem gPutShortI (t:Bool)(n:Nat)(f:Nat→List C)(k:Int)(h0:0≤k)(hk:k<18446744073709551616)(hn:n+(shortL k.toNat).length≤140737488355328) :
  GCall Tryz.prog gl 55 [] [.c (.sl t 1 n f),intA .u64 k] [.row 1 (n+(shortL k.toNat).length) (catF 0 n f (rB (shortL k.toNat)))] [.own 0 1 0 (n+(shortL k.toNat).length)]:=by
 have:=gPutShort t n f k.toNat (by omega) hn
 rwa [Int.toNat_of_nonneg h0] at this
def bytesL (s:ByteArray):List Int:=s.data.toList.map fun x=>(x.toNat:Int)
def strL (s:ByteArray):List Int:=shortL s.size++bytesL s
theorem bytesL_len (s:ByteArray):(bytesL s).length=s.size:=by simp [bytesL]
theorem strCells_eq (s:ByteArray)(i:Nat)(h:i<s.size):strCells s i=rB (bytesL s) i:=by
 have hl:i<s.data.toList.length:=by simpa using h
 show [C.v (.int .u8 (((s.data.toList[i]?).getD 0).toNat:Int))]=[C.v (.int .u8 ((bytesL s).getD i 0))]
 simp [bytesL,List.getD_eq_getElem?_getD,List.getElem?_eq_getElem hl]
theorem ntCatG {n m:Nat}{f g:Nat→List C}(hf:∀ i,i<n→NtCs (f i))(hg:∀ i,i<m→NtCs (g i)):∀ i,i<n+m→NtCs (catF 0 n f g i):=by
 intro i hi
 unfold catF
 split
 ·rename_i h; rw [Nat.zero_add]; exact hf i h
 ·exact hg _ (by omega)
theorem ntB (l:List Int)(n:Nat):∀ i,i<n→NtCs (rB l i):=fun i _=>⟨trivial,trivial⟩
theorem ntShift {n:Nat}{F:Nat→List C}(h:∀ i,i<n→NtCs (F i)):∀ i,i<n→NtCs (F (0+i)):=fun i hi=>by rw [Nat.zero_add]; exact h i hi
theorem ntOne (x:Int):∀ i,i<1→NtCs (nthC [cBy x] i):=fun i hi=>by
 obtain rfl:i=0:=by omega
 exact ⟨trivial,trivial⟩
theorem catF_str {n:Nat}{f:Nat→List C}(a:List Int)(s:ByteArray)(m:Nat)(hm:m=n+a.length)(i:Nat)(hi:i<n+a.length+s.size):catF 0 m (catF 0 n f (rB a)) (strCells s) i=catF 0 n f (rB (a++bytesL s)) i:=by
 rw [← catF_assoc a (bytesL s) m hm i (by rw [bytesL_len]; exact hi)]
 unfold catF
 split
 ·rfl
 ·exact strCells_eq s _ (by omega)
theorem gPutStr (t:Bool)(n:Nat)(f:Nat→List C)(s:ByteArray)(hn:n+(strL s).length≤140737488355328) :
  GCall Tryz.prog gl 90 [] [.c (.sl t 1 n f),.c (.v (.string s))] [.row 1 (n+(strL s).length) (catF 0 n f (rB (strL s)))] [.own 0 1 0 (n+(strL s).length)]:=by
 have hl:(strL s).length=(shortL s.size).length+s.size:=by simp [strL,bytesL_len]
 have w1:IntKind.u64.wrap (s.size:Int)=s.size:=wrapU (by omega) (by omega)
 refine gcall_of_vcb htb hmix (f:=90) rfl rfl rfl (by kernel_rfl) rfl rfl rfl fun hb hb2=> ?_; simp only [bndOs,bndO,gbnds,AV.gbnd,bnds,C.bnd,true_and,and_true] at hb hb2; conv=>whnf
 have P:=gPutShortI t n f (IntKind.u64.wrap (s.size:Int)) (by rw [w1]; omega) (by rw [w1]; omega) (by rw [w1]; show n+(shortL s.size).length≤_; omega)
 have B1:(n+(shortL (IntKind.u64.wrap (s.size:Int)).toNat).length+s.size)*(tb 5).bytes≤140737488355328:=by rw [w1]; show (n+(shortL s.size).length+s.size)*1≤_; omega
 repeat' (first|((with_reducible refine NilOr.l ?_); conv=>whnf)|(refine And.intro ?_ ?_; (focus (first|exact rfl|(first|assumption)|fail)); conv=>whnf)|((with_reducible refine xc_guard ?_); (first|(refine xc_g (P) false (by first|(((conv=>whnf); repeat' (first|exact trivial|exact rfl|exact LeC.refl _|((with_reducible refine And.intro ?_ ?_)<;>conv=>whnf))); done)|fail) trivial ?_)|fail); conv=>whnf)|fail)
 simp only [w1,Int.toNat_natCast]
 ((conv=>whnf); repeat' (first|exact trivial|exact rfl|((with_reducible refine And.intro ?_ ?_)<;>conv=>whnf)))
 ·show n+(shortL s.size).length+s.size=n+(strL s).length; omega
 ·exact fun i hi=>LeCs.of_eq (catF_str (shortL s.size) s _ rfl i (by omega))
 ·show n+(shortL s.size).length+s.size=n+(strL s).length; omega
def zigI (i:Int):Int:=bitsI .xor .u64 (shlI .u64 (IntKind.u64.wrap i) 1) (IntKind.u64.wrap (shrI .i64 i 63))
theorem zigI_rg (i:Int):0≤zigI i∧zigI i<18446744073709551616:=by
 unfold zigI bitsI
 exact ⟨Int.emod_nonneg _ (by decide),Int.emod_lt_of_pos _ (by decide)⟩
theorem aZig (i:Int):ACall Tryz.prog gl 148 [intA .i64 i] [] (intA .u64 (zigI i)):=by
 refine acall_of_vc htb hmix (f:=148) rfl rfl rfl (by kernel_rfl) rfl rfl ?_; conv=>whnf
 repeat' (first|(refine And.intro ?_ ?_; (focus (first|(refine chainI ?_; (first|decide|fail))|fail)); conv=>whnf)|fail)
 exact Le.refl _
def firstB (v:V):Int:=if v.sec then bitsI .or .u8 (IntKind.u8.wrap v.k) 128 else IntKind.u8.wrap v.k
def layIts (v:V) (rs:List (List Int)) (c:Nat):List Int:=(List.range c).flatMap fun j=>(if v.k==5 then strL (v.ks.getD j ByteArray.empty) else [])++rs.getD j []
def layB (v:V) (rs:List (List Int)):List Int :=
 if v.k==1 then [IntKind.u8.wrap v.i] else if v.k==2 then shortL (zigI v.i).toNat else if v.k==3 then strL v.s else if v.k==6 then [codeT v.t]
 else if v.k==4||v.k==5 then shortL v.l.length++layIts v rs v.l.length else []
def layL:V→List Int:=V.fold fun v rs=>firstB v::layB v rs
theorem layL_eq (v:V):layL v=firstB v::layB v (v.l.map layL):=V.fold_eq _ v
theorem layIts_succ (v:V)(rs:List (List Int))(c:Nat):layIts v rs (c+1)=layIts v rs c++((if v.k==5 then strL (v.ks.getD c ByteArray.empty) else [])++rs.getD c []):=by
 unfold layIts; rw [List.range_succ,List.flatMap_append]; simp
def keyed:V→Bool:=V.fold fun v rs=>(v.k != 5||v.ks.length==v.l.length)&&rs.all id
theorem keyed_eq (v:V):keyed v=((v.k != 5||v.ks.length==v.l.length)&&v.l.all keyed):=by
 unfold keyed; rw [V.fold_eq]; simp [List.all_map]
def sumTo (ks:List ByteArray) (rs:List Nat):Nat→Nat
 | 0=>0
 | c+1=>sumTo ks rs c+(20+(ks.getD c ByteArray.empty).size+rs.getD c 0)
def bigL:V→Nat:=V.fold fun v rs=>40+v.s.size+sumTo v.ks rs v.l.length
theorem bigL_eq (v:V):bigL v=40+v.s.size+sumTo v.ks (v.l.map bigL) v.l.length:=V.fold_eq _ v
theorem shortL_len (k:Nat):(shortL k).length≤10:=shortF_len 9 k
theorem strL_len (s:ByteArray):(strL s).length≤10+s.size:=by
 have:=shortL_len s.size
 simp [strL,bytesL_len]; omega
theorem getD_map {α β:Type}(g:α→β)(l:List α)(c:Nat)(hc:c<l.length)(d:β)(x:α)(hx:l[c]? =some x):(l.map g).getD c d=g x:=by
 simp [List.getD_eq_getElem?_getD,List.getElem?_map,hx]
theorem layIts_big (v:V)(hl:∀ x ∈ v.l,(layL x).length≤bigL x):∀ c,c≤v.l.length→(layIts v (v.l.map layL) c).length≤sumTo v.ks (v.l.map bigL) c
 | 0,_=>by simp [layIts,sumTo]
 | c+1,h=>by
  have ih:=layIts_big v hl c (by omega)
  rw [layIts_succ,List.length_append,List.length_append]
  obtain ⟨x,hx,hm,_⟩:=rV_ex (l:=v.l) (c:=c) (by omega)
  rw [getD_map layL v.l c (by omega) [] x hx]
  simp only [sumTo]
  rw [getD_map bigL v.l c (by omega) 0 x hx]
  have h1:=hl x hm
  have h2:(if (v.k==5)=true then strL (v.ks.getD c ByteArray.empty) else []).length≤10+(v.ks.getD c ByteArray.empty).size:=by
   split
   ·exact strL_len _
   ·simp
  omega
theorem sumTo_mono (ks:List ByteArray)(rs:List Nat)(c:Nat):∀ d,c≤d→sumTo ks rs c≤sumTo ks rs d:=by
 intro d h
 induction d with
 | zero => obtain rfl : c = 0 := by omega
           exact Nat.le_refl _
 | succ d ih =>
  by_cases hc:c=d+1
  ·rw [hc]; exact Nat.le_refl _
  ·have:=ih (by omega); simp only [sumTo]; omega
theorem layL_big (v:V):(layL v).length≤bigL v:=by
 induction v using V.ind with
 | h v ih =>
 rw [layL_eq,bigL_eq,List.length_cons]
 have h1:=layIts_big v ih v.l.length (Nat.le_refl _)
 have h2:=shortL_len (zigI v.i).toNat
 have h3:=strL_len v.s
 have h4:=shortL_len v.l.length
 unfold layB
 split
 ·simp; omega
 ·split
  ·omega
  ·split
   ·omega
   ·split
    ·simp; omega
    ·split
     ·rw [List.length_append]; omega
     ·simp; omega
end Go.Proofs.YtiodgjgngfklkaaGreatDoor
