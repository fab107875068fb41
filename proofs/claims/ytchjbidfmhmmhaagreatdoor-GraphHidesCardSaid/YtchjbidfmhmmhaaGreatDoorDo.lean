/- Own work: the zaG machine and what it shows, part Do. -/
import Derived.Test.YtchjbidfmhmmhaaGreatDoorDe
import Derived.Test.YtchjbidfmhmmhaaGreatDoorEn
import Derived.Test.YtchjbidfmhmmhaaGreatDoorPu
set_option linter.all false
namespace Go.Proofs.YtchjbidfmhmmhaaGreatDoor
open Go.Sh
set_option maxRecDepth 100000
def zgc (e:Evt):Ent:=⟨e.r,e.c,e.vk,e.vn,e.vt⟩
def zjD (L:List Ent) (x:Ent):List Ent:=L.filter (fun y=>decide (zdv y x<0))++x::L.filter (fun y=>!decide (zdv y x<0))
def ziZ (e:Evt) (L:List Ent):List Ent:=if e.op=1 then L else L.filter fun y=>!zbO e.past y.r y.c
def doL (e:Evt) (L:List Ent):List Ent:=if e.op=1∨e.op=3 then zjD (ziZ e L) (zgc e) else ziZ e L
def Dots (L:List Ent):Prop:=L.Pairwise fun a b=>zdv a b<0
theorem zgd (x y:Ent):zdv x y=zd1 zin zin (x.r,x.c) (y.r,y.c):=by
 simp [zdv,orL,zd1]
 split <;> simp_all
theorem zi0 {x y z:Ent} (h1:zdv x y<0) (h2:zdv y z<0):zdv x z<0:=by
 have hs:=(zau zbt zbt).swo fun p:Ent=>(p.r,p.c)
 rw [zgd] at *
 have:=hs.trans x y z (decide_eq_true h1) (decide_eq_true h2)
 simpa using this
theorem Dots.split {L:List Ent} (h:Dots L) (x:Ent):Split L x:=by
 intro k k' hk hk' hlt
 rcases Nat.lt_or_ge k k' with h1 | h1
 ·have:=(List.pairwise_iff_getElem.1 h) k k' (by omega) hk' h1
  rw [List.getD_eq_getElem?_getD,List.getElem?_eq_getElem hk',Option.getD_some] at hlt
  rw [List.getD_eq_getElem?_getD,List.getElem?_eq_getElem (by omega),Option.getD_some]
  exact zi0 this hlt
 ·have:k=k':=by omega
  rw [this]; exact hlt
theorem Cut.put {L:List Ent} {x:Ent} {i:Nat} (h:Cut L x i):L.take i++x::L.drop i=zjD L x:=by
 have h1:∀ y∈L.take i,zdv y x<0:=fun y hy=>by
  obtain ⟨k,hk,rfl⟩:=List.mem_iff_getElem.1 hy
  rw [List.length_take] at hk
  have:=h.lo k (by omega)
  rw [List.getD_eq_getElem?_getD,List.getElem?_eq_getElem (by omega),Option.getD_some] at this
  simpa using this
 have h2:∀ y∈L.drop i,¬ zdv y x<0:=fun y hy=>by
  obtain ⟨k,hk,rfl⟩:=List.mem_iff_getElem.1 hy
  rw [List.length_drop] at hk
  have:=h.hi (i+k) (by omega) (by omega)
  rw [List.getD_eq_getElem?_getD,List.getElem?_eq_getElem (by omega),Option.getD_some] at this
  simpa using this
 unfold zjD
 have e1:L.filter (fun y=>decide (zdv y x<0))=L.take i:=by
  conv=>lhs; rw [← List.take_append_drop i L,List.filter_append]
  rw [List.filter_eq_self.2 (fun y hy=>decide_eq_true (h1 y hy)),List.filter_eq_nil_iff.2 (fun y hy=>by simpa using h2 y hy),List.append_nil]
 have e2:L.filter (fun y=>!decide (zdv y x<0))=L.drop i:=by
  conv=>lhs; rw [← List.take_append_drop i L,List.filter_append]
  rw [List.filter_eq_nil_iff.2 (fun y hy=>by simpa using h1 y hy),List.filter_eq_self.2 (fun y hy=>by simpa using h2 y hy),List.nil_append]
 rw [e1,e2]
theorem zjE (L:List Ent) (x:Ent):(zjD L x).length=L.length+1:=by
 have:∀ l:List Ent,(l.filter (fun y=>decide (zdv y x<0))).length+(l.filter (fun y=>!decide (zdv y x<0))).length=l.length:=fun l=>by
  induction l with
  | nil=>rfl
  | cons y l ih =>
   simp only [List.filter_cons]
   by_cases h:zdv y x<0 <;> simp [h] at ih ⊢ <;> omega
 unfold zjD
 rw [List.length_append,List.length_cons]
 have:=this L
 omega
def More (H H':GH):Prop:=∃ ext,H'={ H with objs:=H.objs++ext }
theorem More.refl (H:GH):More H H:=⟨[],by simp⟩
theorem More.trans {H H' H'':GH} (h:More H H') (h':More H' H''):More H H'':=by
 obtain ⟨a,rfl⟩:=h
 obtain ⟨b,rfl⟩:=h'
 exact ⟨a++b,by simp⟩
theorem More.get {H H':GH} (h:More H H') {i:Nat} {o:GObj} (ho:H.objs[i]?=some o):H'.objs[i]?=some o:=by
 obtain ⟨a,rfl⟩:=h
 show (H.objs++a)[i]?=some o
 rw [List.getElem?_append_left (List.getElem?_eq_some_iff.1 ho).1]; exact ho
theorem More.bo {H H':GH} (h:More H H'):H'.bo=H.bo:=by obtain ⟨a,rfl⟩:=h; rfl
theorem More.len {H H':GH} (h:More H H'):H.objs.length≤H'.objs.length:=by obtain ⟨a,rfl⟩:=h; simp
theorem More.newObj (H:GH) (o:GObj):More H (H.newObj o):=⟨[o],rfl⟩
theorem More.at {H H':GH} (h:More H H') {s m:Nat} {es:List (GV × GV)} (hs:SAt H s m es):SAt H' s m es:=⟨h.get hs.os,h.get hs.om,by rw [h.bo]; exact hs.bo⟩
theorem zc0 (L:List Ent) (H:GH):More H (zaE L H):=by
 unfold zaE
 split
 ·exact .refl H
 ·exact ⟨_,rfl⟩
theorem zb6 (L:List Ent) (H:GH):More H (zbY L H):=by
 unfold zbY
 split
 ·exact .refl H
 ·exact ⟨_,rfl⟩
theorem Elems.inv {sz:Nat} {v:GV} {xs:List GV} (h:Elems sz v xs):(v=.nilsl∧xs=[])∨∃ t,v=.sl sz xs t:=by
 cases h with
 | nil=>exact .inl ⟨rfl,rfl⟩
 | sl xs t=>exact .inr ⟨t,rfl⟩
theorem zkC (A:List Ent) (i:Nat):(zbu A).take (i * 5)=zbu (A.take i):=by
 induction A generalizing i with
 | nil=>simp [zbu]
 | cons y A ih =>
  have hc:∀ L,zbu (y::L)=zcY y++zbu L:=fun L=>by simp [zbu]
  cases i with
  | zero=>simp [zbu]
  | succ i =>
   rw [hc,List.take_succ_cons,hc,Nat.succ_mul,Nat.add_comm,List.take_append]
   have:(zcY y).length=5:=rfl
   rw [this,← ih i,List.take_of_length_le (by rw [this]; omega),Nat.add_sub_cancel_left]
theorem zqK (A:List Ent) (i:Nat):(zbu A).drop (i * 5)=zbu (A.drop i):=by
 induction A generalizing i with
 | nil=>simp [zbu]
 | cons y A ih =>
  have hc:∀ L,zbu (y::L)=zcY y++zbu L:=fun L=>by simp [zbu]
  cases i with
  | zero=>simp [zbu]
  | succ i =>
   rw [hc,List.drop_succ_cons,Nat.succ_mul,Nat.add_comm,List.drop_append]
   have:(zcY y).length=5:=rfl
   rw [this,← ih i,List.drop_eq_nil_iff.2 (by rw [this]; omega),Nat.add_sub_cancel_left]; rfl
theorem zl7 {f:Nat} {fn:List GV→GH→Option (GV × GH)} (hF:T f=some ⟨8,[],.trap,0,30,fn⟩) {args:List GV} {H:GH} {r:GV × GH} (hn:args.length≤8) (h:fn args H=some r) (hb:r.2.bo=H.bo∧r.2.bt=H.bt):ecall T f args H=some r:=by
 rw [zc4 hF (by show 10≤30; decide) hn]
 simp only [ziz]
 rw [if_neg (by decide)]
 simp only [zw8,h,Option.bind_some]
 rw [if_pos hb]
theorem zuD (A:List Ent) (hd:Dots A) (hA:A.length≤999999) (x:Ent) (w:GV) (hw:Elems 5 w (A.map zbX)) (H:GH) (hbo:H.bo≤H.objs.length) :
 ∃ (i:Nat) (b:Bool) (v1:GV),ecall T zmf [w,zbX x,.func 57 [] []] H=some (.tup [.int .i64 i,.bool b],H)∧ecall T ziB [w] H=some (v1,zaE A H)∧v1.ok=true∧(∀ t,zbx t v1=v1) ∧
  ecall T zuX [v1,.int .i64 i,.sl 5 [zbX x] .exact] (zaE A H)=some (.sl 5 ((zjD A x).map zbX) .imm,zbY A H):=by
 obtain ⟨i,b,hc,hb⟩:=zoB A (by omega) x (hd.split x) w hw H
 obtain ⟨v1,c1,c2⟩:=zfF A w hw (by omega) H
 refine ⟨i,b,v1,hb,c1, ?_, ?_, ?_⟩
 ·rcases c2 with ⟨_,rfl | rfl⟩ | ⟨_,rfl⟩ <;> rfl
 ·intro t; rcases c2 with ⟨_,rfl | rfl⟩ | ⟨_,rfl⟩ <;> rfl
 ·have hput:=hc.put
  refine zl7 zCN (by simp) ?_ (by constructor <;> (unfold zbY zaE; split <;> rfl))
  rcases c2 with ⟨rfl,h⟩ | ⟨hne,rfl⟩
  ·have hi:i=0:=by have:=hc.le; simpa using this
   subst hi
   have hp:(zjD [] x).map zbX=[zbX x]:=rfl
   rw [hp]
   rcases h with rfl | rfl
   ·rfl
   ·rfl
  ·have hrow:(zaE A H).objs[H.objs.length]?=some (.row 96 (zbu A)):=by simp [zaE,hne]
   have hbo':(zaE A H).bo=H.bo:=by simp [zaE,hne]
   simp only [zr9,zwM,hrow,hbo']
   have hle:=hc.le
   rw [if_pos ⟨trivial,trivial,hbo,by decide,by omega,zcv A,by omega,by omega,zhh A⟩]
   have e:(zbu A).take ((i:Int).toNat * 5)++(zbX x).cells++(zbu A).drop ((i:Int).toNat * 5)=zbu (zjD A x):=by
    rw [Int.toNat_natCast,zkC,zqK,← hput,List.append_assoc]
    simp [zbu]
   rw [e,← zjE A x,zdC]
   have:(zaE A H).objs.set H.objs.length .dead=(zbY A H).objs:=by simp [zaE,zbY,hne,zhi]
   simp only [Option.some.injEq,Prod.mk.injEq,true_and,this]
   unfold zbY zaE
   split <;> rfl
set_option maxHeartbeats 1000000 in
theorem zoy (v:GV) (hv:v=.nilsl∨v=.sl 5 [] .exact) (fd:Nat) (fa fb:List GV) (hfa:oks fa=true) (hfb:oks fb=true) (H:GH):ecall T zme [v,.func fd fa fb] H=some (v,H):=by
 have hidx:ecall T zoH [v,.func fd fa fb] H=some (.int .i64 (-1),H):=by
  apply optW.eq
  rw [zad zAo rfl (by simp [zmo]),zab]
  rcases hv with rfl | rfl <;> simp [zmo,zxH,zal,zrC]
 apply optW.eq
 rw [zad zAk rfl (by simp [zmk]),zab]
 rcases hv with rfl | rfl <;> simp [zmk,zxB,hidx]
theorem zjF (L:List Ent) (hL:L.length≤1000000) (v:GV) (hv:Elems 5 v (L.map zbX)) (H:GH) (hbo:H.bo≤H.objs.length) (ev t:Nat) (cs:List GV) (past:List Int) (hp:past.length=16) (h:H.objs[ev]?=some (.cells t cs)) (hc:(cs.drop 2).take 16=past.map fun n=>GV.int .i64 n) (hl:18≤cs.length) :
 ∃ (v1 v2 w:GV) (H1 H2 H3:GH),ecall T ziB [v] H=some (v1,H1)∧v1.ok=true∧(∀ t,zbx t v1=v1)∧ecall T zme [v1,.func 54 [] [.ptr ev 0]] H1=some (v2,H2)∧v2.ok=true∧(∀ t,zbx t v2=v2) ∧
  zaR H2 [v2]=some (w,H3)∧Elems 5 w ((L.filter fun y=>!zbO past y.r y.c).map zbX)∧More H H1∧More H H3:=by
 obtain ⟨v1,c1,c2⟩:=zfF L v hv hL H
 rcases c2 with ⟨rfl,hh⟩ | ⟨hne,rfl⟩
 ·have hd:=zoy v1 hh 54 [] [.ptr ev 0] rfl rfl (zaE [] H)
  refine ⟨v1,v1,v1,_,_,zaE [] H,c1, ?_, ?_,hd, ?_, ?_, ?_, ?_,zc0 _ _,zc0 _ _⟩
  ·rcases hh with rfl | rfl <;> rfl
  ·intro t; rcases hh with rfl | rfl <;> rfl
  ·rcases hh with rfl | rfl <;> rfl
  ·intro t; rcases hh with rfl | rfl <;> rfl
  ·rcases hh with rfl | rfl <;> rfl
  ·rcases hh with rfl | rfl
   ·exact .nil
   ·exact .sl _ _
 ·have hrow:(zaE L H).objs[H.objs.length]?=some (.row 96 (zbu L)):=by simp [zaE,hne]
  have hbo':(zaE L H).bo=H.bo:=by simp [zaE,hne]
  have hevlt:ev<H.objs.length:=(List.getElem?_eq_some_iff.1 h).1
  obtain ⟨R,v2,hd,hleft⟩:=zqJ L hne hL H.objs.length 54 [] [.ptr ev 0] (fun y=>zbO past y.r y.c) (zaE L H) hrow (by rw [hbo']; exact hbo) (fun R e _=>by
   refine zD4 _ ev t cs past hp ?_ hc hl e
   show ((zaE L H).objs.set H.objs.length _)[ev]?=_
   rw [List.getElem?_set_ne (by omega)]
   exact (zc0 L H).get h)
  generalize hA:(L.filter fun e=>!zbO past e.r e.c)=A at *
  have hset:∀ o,(zaE L H).objs.set H.objs.length o=H.objs++[o]:=fun o=>by simp [zaE,hne,zhi]
  have hmore:∀ o,More H { zaE L H with objs:=(zaE L H).objs.set H.objs.length o }:=fun o=>⟨[o],by rw [hset]; unfold zaE; rw [if_neg hne]⟩
  rcases hleft with ⟨hA0,rfl⟩ | ⟨hA0,rfl⟩
  ·refine ⟨_,_,.sl 5 (A.map zbX) .imm,_,_,{ zaE L H with objs:=(zaE L H).objs.set H.objs.length .dead },c1,rfl,fun _=>rfl,hd,rfl,fun _=>rfl, ?_,.sl _ _,zc0 _ _,hmore _⟩
   have hr2:(zbo (zaE L H) H.objs.length (A++R)).objs[H.objs.length]?=some (.row 96 (zbu (A++R))):=zgb (List.getElem?_eq_some_iff.1 hrow).1 _
   have hb2:(zbo (zaE L H) H.objs.length (A++R)).bo=H.bo:=hbo'
   have hl2:=zcv (A++R)
   have ht:(zbu (A++R)).take (A.length * 5)=zbu A:=by rw [zkC,List.take_left']; rfl
   have ho:((List.take (A.length * 5) (List.drop 0 (zbu (A++R)))).all GV.one)=true:=by
    rw [List.drop_zero,ht]; exact zhh A
   simp only [zaR,hr2,hb2]
   rw [if_pos ⟨hbo,by decide,by rw [hl2,List.length_append]; omega,ho⟩,List.drop_zero]
   have hch:za4 5 A.length (zbu (A++R))=A.map zbX:=by
    have key:∀ (n:Nat) (cs cs':List GV),(cs.take (n * 5)=cs'.take (n * 5))→za4 5 n cs=za4 5 n cs':=by
     intro n
     induction n with
     | zero=>intros; rfl
     | succ n ih =>
      intro cs cs' h
      simp only [za4]
      have e1:cs.take 5=cs'.take 5:=by
       have:=congrArg (List.take 5) h
       rwa [List.take_take,List.take_take,Nat.min_eq_left (by omega)] at this
      have e2:(cs.drop 5).take (n * 5)=(cs'.drop 5).take (n * 5):=by
       have:=congrArg (List.drop 5) h
       rwa [List.drop_take,List.drop_take,show (n+1) * 5 - 5=n * 5 by omega] at this
      rw [e1,ih _ _ e2]
    rw [key A.length _ (zbu A) (by rw [ht,← zcv,List.take_length]),zdC]
   rw [hch]
   simp [zbo]
   exact hbo'.symm
  ·refine ⟨_,_,.sl 5 [] .imm,_,_,zbo (zaE L H) H.objs.length (A++R),c1,rfl,fun _=>rfl,hd,rfl,fun _=>rfl,rfl,by rw [hA0]; exact .sl _ _,zc0 _ _,hmore _⟩
theorem zkD (H:GH) (sz:Nat) (xs:List GV) (tag:Tag):zaR H [.sl sz xs tag]=some (.sl sz xs tag,H):=rfl
theorem zxr {op:Int} {x:El} {k n:Int} {t:List UInt8} (h:zky op x k n t=true):op=1∨op=2∨op=3∨op=4:=by
 simp only [zky,Bool.and_eq_true] at h
 replace h:=h.2
 by_cases h1:op=1
 ·exact .inl h1
 ·by_cases h2:op=2
  ·exact .inr (.inl h2)
  ·by_cases h3:op=3
   ·exact .inr (.inr (.inl h3))
   ·by_cases h4:op=4
    ·exact .inr (.inr (.inr h4))
    ·simp [h1,h2,h3,h4] at h
set_option maxHeartbeats 8000000 in
theorem zuE {H:GH} {s m:Nat} {es:List (GV × GV)} (hs:SAt H s m es) (e:Evt) (hf:EvFit e) (hr:ElRange e.x) (L:List Ent) (hL:L.length≤999999) (hv:Has es e.x L) (hd:Dots L) (hbo:H.bo≤H.objs.length) :
 ∃ H1 v',More H H1∧Elems 5 v' ((doL e L).map zbX)∧ecall T zhu [.ptr s 0,.agg (evC e)] H=some (.int .i64 (if evB e then 0 else 1),if evB e then { H1 with objs:=H1.objs.set m (.map true kLs (zul es e.x (doL e L) v')) } else H1):=by
 have hR:=fun H=>zma e hf H
 have hlen:=zfs hf.past
 have hone:=znJ hf.past
 have hk:=zfE hf.x hr
 have h18:=zuM hf.past
 have hel:=zxt hf.past
 have hval:=zqO hf.past
 have hdot:=zqP e
 have hbox:More H (H.newObj (.cells 36 (evC e))):=.newObj H _
 generalize hH0:H.newObj (.cells 36 (evC e))=H0 at hbox
 have hev:H0.objs[H.objs.length]?=some (.cells 36 (evC e)):=by rw [← hH0]; simp [GH.newObj]
 have hs0:=hbox.at hs
 have hbo0:H0.bo≤H0.objs.length:=by rw [hbox.bo]; exact Nat.le_trans hbo hbox.len
 obtain ⟨os0,om0,bo0⟩:=hs0
 have hE:=hv.get
 generalize hv0:(zaX es (elG e.x)).getD .nilsl=v0 at hE
 have hok0:=hE.ok
 have hu0:=zaf hE
 have hfr:∀ H,zaR H [v0]=some (v0,H):=fun H=>by rcases Elems.inv hE with ⟨h,_⟩ | ⟨t,h⟩ <;> rw [h] <;> rfl
 have key:optW (ecall T zhu [.ptr s 0,.agg (evC e)] H) fun q=>∃ H1 v',More H H1∧Elems 5 v' ((doL e L).map zbX)∧q=(.int .i64 (if evB e then 0 else 1),if evB e then { H1 with objs:=H1.objs.set m (.map true kLs (zul es e.x (doL e L) v')) } else H1):=by
  rw [zad zCu rfl (by simp [zrc]),zab]
  simp only [zrc,zzH]
  have ht:List.take 27 (evC e)=evC e:=List.take_of_length_le (by rw [hlen]; exact Nat.le_refl _)
  simp only [elG,elC] at hv0 hk hel
  cases hb:evB e with
  | false =>
   rw [hb] at hR
   simp [hH0,hev,hlen,hone,ht,hR]
   exact ⟨hbox,.sl 5 _ .imm,.sl _ _⟩
  | true =>
   rw [hb] at hR
   have h18':=zqN hf.past
   have hm:zky e.op e.x e.vk e.vn e.vt=true:=by
    simp only [evB,Bool.and_eq_true] at hb
    exact hb.2
   have lay:∀ (H1:GH) (A:List Ent) (w:GV),More H H1→Elems 5 w (A.map zbX)→ecall T zqU [.ptr s 0,.agg [.int .i64 e.x.k,.str (mkB e.x.a),.str (mkB e.x.b),.str (mkB e.x.c),.str (mkB e.x.d)],w] H1=some (.tup [],{ H1 with objs:=H1.objs.set m (.map true kLs (zul es e.x A w)) }):=fun H1 A w h1 hw=>zpf (h1.at hs) e.x hf.x hr A w hw
   -- without what is known: the elements that are put
   have ins:∀ (A:List Ent) (w:GV) (H1:GH),Dots A→A.length≤999999→Elems 5 w (A.map zbX)→More H0 H1→∃ (i:Nat) (b:Bool) (v1:GV) (H2:GH),More H0 H2∧v1.ok=true∧(∀ t,zbx t v1=v1) ∧
    ecall T zmf [w,.agg [.int .i64 e.r,.int .i64 e.c,.int .i64 e.vk,.int .i64 e.vn,.str (mkB e.vt)],.func 57 [] []] H1=some (.tup [.int .i64 i,.bool b],H1)∧ecall T ziB [w] H1=some (v1,zaE A H1) ∧
    ecall T zuX [v1,.int .i64 i,.sl 5 [.agg [.int .i64 e.r,.int .i64 e.c,.int .i64 e.vk,.int .i64 e.vn,.str (mkB e.vt)]] .exact] (zaE A H1)=some (.sl 5 ((zjD A (zgc e)).map zbX) .imm,H2):=fun A w H1 hA hl hw h1=>by
    have hb1:H1.bo≤H1.objs.length:=by rw [h1.bo]; exact Nat.le_trans hbo0 h1.len
    obtain ⟨i,b,v1,q1,q2,q3,q4,q5⟩:=zuD A hA hl (zgc e) w hw H1 hb1
    exact ⟨i,b,v1,zbY A H1,h1.trans (zb6 A H1),q3,q4,q1,q2,q5⟩
   rcases zxr hm with hop | hop | hop | hop
   ·have hcut:ziZ e L=L:=by simp [ziZ,hop]
    have hdo:doL e L=zjD L (zgc e):=by simp [doL,hop,hcut]
    rw [hop] at h18 h18'
    obtain ⟨i,b,v1,H2,q0,q1,q2,q3,q4,q5⟩:=ins L v0 H0 hd hL hE (.refl _)
    have hlay:=lay H2 _ _ (hbox.trans q0) (Elems.sl (sz:=5) ((zjD L (zgc e)).map zbX) .imm)
    have hev2:=q0.get hev
    rw [hdo]
    simp [hH0,hev,hlen,hone,ht,hR,os0,om0,hel,hk,hv0,hfr,h18,h18',hok0,hu0,zbc,zkD,hdot,hval,za6,zae,q1,q2,q3,q4,q5,zaj,hlay,hev2]
    exact ⟨H2,hbox.trans q0,.sl 5 _ .imm,.sl _ _,rfl,rfl,rfl,rfl⟩
   ·have hcut:ziZ e L=L.filter fun y=>!zbO e.past y.r y.c:=by simp [ziZ,hop]
    have hdo:doL e L=L.filter fun y=>!zbO e.past y.r y.c:=by simp [doL,hop,hcut]
    rw [hop] at h18 h18'
    obtain ⟨v1,v2,w,H1,H2,H3,q1,q2,q3,q4,q5,q6,q7,q8,q9,q10⟩:=zjF L (by omega) v0 hE H0 hbo0 H.objs.length 36 (evC e) e.past hf.past hev (zht hf.past) (by omega)
    have hlay:=lay H3 _ _ (hbox.trans q10) q8
    have hev1:=q9.get hev
    have hev2:=q10.get hev
    have wok:=q8.ok
    have wu:=zaf q8
    rw [hdo]
    simp [hH0,hev,hlen,hone,ht,hR,os0,om0,hel,hk,hv0,hfr,h18,h18',hok0,hu0,zbc,hdot,hval,za6,zae,q1,q2,q3,q4,q5,q6,q7,zaj,hlay,hev1,hev2,wok,wu]
    exact ⟨H3,hbox.trans q10,w,q8,rfl,rfl,rfl,rfl⟩
   ·have hcut:ziZ e L=L.filter fun y=>!zbO e.past y.r y.c:=by simp [ziZ,hop]
    have hdo:doL e L=zjD (L.filter fun y=>!zbO e.past y.r y.c) (zgc e):=by simp [doL,hop,hcut]
    rw [hop] at h18 h18'
    obtain ⟨v1,v2,w,H1,H2,H3,q1,q2,q3,q4,q5,q6,q7,q8,q9,q10⟩:=zjF L (by omega) v0 hE H0 hbo0 H.objs.length 36 (evC e) e.past hf.past hev (zht hf.past) (by omega)
    obtain ⟨i,b,v3,H4,p0,p1,p2,p3,p4,p5⟩:=ins (L.filter fun y=>!zbO e.past y.r y.c) w H3 (hd.filter _) (Nat.le_trans (List.length_filter_le _ _) hL) q8 q10
    have hlay:=lay H4 _ _ (hbox.trans p0) (Elems.sl (sz:=5) ((zjD (L.filter fun y=>!zbO e.past y.r y.c) (zgc e)).map zbX) .imm)
    have hev1:=q9.get hev
    have hev2:=q10.get hev
    have hev4:=p0.get hev
    have wok:=q8.ok
    have wu:=zaf q8
    rw [hdo]
    simp [hH0,hev,hlen,hone,ht,hR,os0,om0,hel,hk,hv0,hfr,h18,h18',hok0,hu0,zbc,zkD,hdot,hval,za6,zae,q1,q2,q3,q4,q5,q6,q7,zaj,hlay,hev1,hev2,hev4,wok,wu,p1,p2,p3,p4,p5]
    exact ⟨H4,hbox.trans p0,.sl 5 _ .imm,.sl _ _,rfl,rfl,rfl,rfl⟩
   ·have hcut:ziZ e L=L.filter fun y=>!zbO e.past y.r y.c:=by simp [ziZ,hop]
    have hdo:doL e L=L.filter fun y=>!zbO e.past y.r y.c:=by simp [doL,hop,hcut]
    rw [hop] at h18 h18'
    obtain ⟨v1,v2,w,H1,H2,H3,q1,q2,q3,q4,q5,q6,q7,q8,q9,q10⟩:=zjF L (by omega) v0 hE H0 hbo0 H.objs.length 36 (evC e) e.past hf.past hev (zht hf.past) (by omega)
    have hlay:=lay H3 _ _ (hbox.trans q10) q8
    have hev1:=q9.get hev
    have hev2:=q10.get hev
    have wok:=q8.ok
    have wu:=zaf q8
    rw [hdo]
    simp [hH0,hev,hlen,hone,ht,hR,os0,om0,hel,hk,hv0,hfr,h18,h18',hok0,hu0,zbc,hdot,hval,za6,zae,q1,q2,q3,q4,q5,q6,q7,zaj,hlay,hev1,hev2,wok,wu]
    exact ⟨H3,hbox.trans q10,w,q8,rfl,rfl,rfl,rfl⟩
 obtain ⟨q,h1,H1,v',h2,h3,h4⟩:=key
 exact ⟨H1,v',h2,h3,by rw [h1,h4]⟩
end Go.Proofs.YtchjbidfmhmmhaaGreatDoor
