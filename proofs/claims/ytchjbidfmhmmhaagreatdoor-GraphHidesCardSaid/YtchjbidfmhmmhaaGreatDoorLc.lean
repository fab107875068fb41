/- Own work: the zaG machine and what it shows, part Lc. -/
import Derived.Test.YtchjbidfmhmmhaaGreatDoorLb
import Derived.Test.YtchjbidfmhmmhaaGreatDoorRowA
set_option linter.all false
namespace Go.Proofs.YtchjbidfmhmmhaaGreatDoor
open Go.Sh
set_option maxHeartbeats 4000000
set_option maxRecDepth 100000
theorem zk5:∀ (l:List Evt) (v:List Int),(∀ n∈v,0≤n∧n≤1048576)→(∀ e∈l,evB e=true)→∀ n∈zap v l,0≤n∧n≤1048576
 | [],v,hv,_=>hv
 | e::l,v,hv,hl=>by
  refine zk5 l (znt v e) (fun n hn=>?_) fun y hy=>hl y (List.mem_cons_of_mem _ hy)
  rcases List.mem_or_eq_of_mem_set hn with h | h
  ·exact hv n h
  ·subst h
   have:=zee (hl e List.mem_cons_self)
   omega
def zbH (key:List UInt8) (v:List Int):Evt:=⟨15,zcu v 15+1,v,2,zaw key,0,0,[]⟩
def zcL (key:List UInt8) (v:List Int):Evt:=⟨15,zcu v 15+2,v.set 15 (zcu v 15+1),1,zaw key,0,0,[]⟩
theorem znS (v:List Int) (n:Nat):leB v v n=true:=by
 unfold leB
 rw [List.all_eq_true]
 intro i _
 exact decide_eq_true (Int.le_refl _)
theorem zw7 {v:List Int} (h:∀ n∈v,0≤n∧n≤1048576):zqL v=true:=by
 unfold zqL
 rw [List.all_eq_true]
 intro n hn
 exact decide_eq_true (h n hn)
theorem znT {v:List Int} (hv:v.length=16) (k:Nat) (hk:k<16):zcu v k∈v:=by
 have:=zmF hv hk
 exact List.mem_of_getElem? this
structure Hide (R:List Evt) (key:List UInt8):Prop where
 row:Row R
 le:R.length≤50
 klen:key.length≤50
 there:zdy R key=true
 room:zcu (zap zero16 R) 15<1048574
section
variable {R:List Evt} {key:List UInt8} (h:Hide R key)
include h
theorem Hide.vec:∀ n∈zap zero16 R,0≤n∧n≤1048576 :=
 zk5 R zero16 (fun n hn=>by simp [zero16] at hn; omega) fun e he=>((zdB rfl h.row.causl).2 e he).1
theorem Hide.vlen:(zap zero16 R).length=16:=zjA _ _
theorem Hide.mem:zaw key∈zbg R:=(List.mem_filter.1 (has_mem.2 h.there)).1
theorem Hide.elem:zbl (zaw key).k (zaw key).a (zaw key).b (zaw key).c (zaw key).d=true:=zhd h.row h.mem
theorem Hide.gone:zgp (zap zero16 R) (zbH key (zap zero16 R))=true:=by
 have h1:=h.vec
 have h2:=h.vlen
 have h3:=h.elem
 have h4:=h.room
 have h5:0≤zcu (zap zero16 R) 15∧zcu (zap zero16 R) 15≤1048576:=h1 _ (znT h2 15 (by decide))
 generalize zap zero16 R=v at *
 have hv:=zw7 h1
 have he:=znS v 16
 unfold zgp evB ziA zky zeW zbH
 simp only [hv,he,h3,zjI]
 simp
 omega
theorem Hide.row1:Row (R++[zbH key (zap zero16 R)]):=by
 refine ⟨fun e he=>?_,causl_snoc.2 ⟨h.row.causl,h.gone⟩,by have:=h.le; simp; omega⟩
 rcases List.mem_append.1 he with he | he
 ·exact h.row.fit e he
 ·rw [List.mem_singleton] at he
  subst he
  have:=h.klen
  exact ⟨h.vlen,⟨by simp [zbH]; omega,by simp [zbH],by simp [zbH],by simp [zbH]⟩,by simp [zbH],by simp [zbH],by simp [zbH]⟩
theorem Hide.set1:zap zero16 (R++[zbH key (zap zero16 R)])=(zap zero16 R).set 15 (zcu (zap zero16 R) 15+1):=by
 unfold zap
 rw [List.foldl_append]
 rfl
theorem Hide.back:zgp (zap zero16 (R++[zbH key (zap zero16 R)])) (zcL key (zap zero16 R))=true:=by
 rw [h.set1]
 have h1:=h.vec
 have h2:=h.vlen
 have h3:=h.elem
 have h4:=h.room
 have h5:0≤zcu (zap zero16 R) 15∧zcu (zap zero16 R) 15≤1048576:=h1 _ (znT h2 15 (by decide))
 generalize zap zero16 R=v at *
 have hv:zqL (v.set 15 (zcu v 15+1))=true:=zw7 fun n hn=>by
  rcases List.mem_or_eq_of_mem_set hn with q | q
  ·exact h1 n q
  ·omega
 have he:=znS (v.set 15 (zcu v 15+1)) 16
 have ha:zcu (v.set 15 (zcu v 15+1)) 15=zcu v 15+1:=by
  have:=zt1 h2 (r:=15) (c:=zcu v 15+1) (by decide) (by decide) 15 (by decide)
  simpa using this
 unfold zgp evB ziA zky zeW zcL
 simp only [hv,he,h3,zjI,ha]
 simp
 omega
theorem Hide.row2:Row (R++[zbH key (zap zero16 R)]++[zcL key (zap zero16 R)]):=by
 refine ⟨fun e he=>?_,causl_snoc.2 ⟨h.row1.causl,h.back⟩,by have:=h.le; simp; omega⟩
 rcases List.mem_append.1 he with he | he
 ·exact h.row1.fit e he
 ·rw [List.mem_singleton] at he
  subst he
  have:=h.klen
  have:=h.vlen
  exact ⟨by simp [zcL]; omega,⟨by simp [zcL]; omega,by simp [zcL],by simp [zcL],by simp [zcL]⟩,by simp [zcL],by simp [zcL],by simp [zcL]⟩
theorem Hide.live1 (x:El):zgn (R++[zbH key (zap zero16 R)]) x=if x=zaw key then [] else zgn R x:=by
 rw [zhG h.row.causl h.gone x]
 have e1:(zbH key (zap zero16 R)).x=zaw key:=rfl
 rw [e1]
 by_cases hx:x=zaw key
 ·rw [if_pos hx,if_pos hx]
  have:(zbH key (zap zero16 R)).op=2:=rfl
  rw [this,if_neg (by decide),if_neg (by decide),List.append_nil,List.filter_eq_nil_iff]
  intro a ha
  have hm:=(List.mem_filter.1 ha).1
  obtain ⟨q1,_,q3,_⟩:=(zdB (v:=zero16) rfl h.row.causl).2 a hm
  have hd:zeW a.r a.c=true:=by simp only [zeW,decide_eq_true_eq]; exact zee q1
  have hk:zbO (zap zero16 R) a.r a.c=true:=by
   unfold zbO; rw [hd,Bool.true_and]; exact decide_eq_true q3
  have:(zbH key (zap zero16 R)).past=zap zero16 R:=rfl
  rw [this,hk]; simp
 ·rw [if_neg hx,if_neg hx]
theorem Hide.live2 (x:El):zgn (R++[zbH key (zap zero16 R)]++[zcL key (zap zero16 R)]) x=if x=zaw key then [zcL key (zap zero16 R)] else zgn R x:=by
 rw [zhG h.row1.causl h.back x]
 have e1:(zcL key (zap zero16 R)).x=zaw key:=rfl
 have e2:(zcL key (zap zero16 R)).op=1:=rfl
 rw [e1,e2,h.live1]
 by_cases hx:x=zaw key
 ·rw [if_pos hx,if_pos hx,if_pos rfl,if_pos hx,if_pos (by decide)]; rfl
 ·rw [if_neg hx,if_neg hx,if_neg hx]
theorem Hide.off:zdy (R++[zbH key (zap zero16 R)]) key=false:=by
 unfold zdy zf8
 rw [h.live1,if_pos rfl]; rfl
theorem Hide.has2 (x:El):zf8 (R++[zbH key (zap zero16 R)]++[zcL key (zap zero16 R)]) x=zf8 R x:=by
 have ht:=h.there
 unfold zdy zf8 at ht
 unfold zf8
 rw [h.live2]
 by_cases hx:x=zaw key
 ·rw [if_pos hx,hx,ht]; rfl
 ·rw [if_neg hx]
theorem Hide.elems2:zbg (R++[zbH key (zap zero16 R)]++[zcL key (zap zero16 R)])=zbg R:=by
 refine zmu ordE_ok (zbJ _).1 (zbJ _).1 fun x=>?_
 rw [(zbJ _).2,(zbJ _).2]
 have hm:=((zbJ R).2 _).1 h.mem
 constructor
 ·rintro ⟨e,he,rfl⟩
  rcases List.mem_append.1 he with he | he
  ·rcases List.mem_append.1 he with he | he
   ·exact ⟨e,he,rfl⟩
   ·rw [List.mem_singleton] at he; subst he; exact hm
  ·rw [List.mem_singleton] at he; subst he; exact hm
 ·rintro ⟨e,he,rfl⟩
  exact ⟨e,List.mem_append_left _ (List.mem_append_left _ he),rfl⟩
theorem Hide.lines2:zhE (zpa (R++[zbH key (zap zero16 R)]++[zcL key (zap zero16 R)])) (zbD (R++[zbH key (zap zero16 R)]++[zcL key (zap zero16 R)]))=zhE (zpa R) (zbD R):=by
 have hh:=fun x=>h.has2 x
 have hE:=h.elems2
 have hl:∀ z:El,¬ z.k<4→zgn (R++[zbH key (zap zero16 R)]++[zcL key (zap zero16 R)]) z=zgn R z:=fun z hz=>by
  rw [h.live2,if_neg]
  rintro rfl
  exact hz (show (1:Int)<4 by decide)
 generalize R++[zbH key (zap zero16 R)]++[zcL key (zap zero16 R)]=R2 at hh hE hl
 have hn:∀ k,zdy R2 k=zdy R k:=fun k=>hh _
 have hlk:∀ x,zeT R2 x=zeT R x:=fun x=>by unfold zeT; rw [hh,hn,hn]
 have hs:∀ x,zg3 R2 x=zg3 R x:=fun x=>by unfold zg3; rw [hn,hlk]
 have hv:zbR R2=zbR R:=funext fun z=>by
  unfold zbR
  rw [hs]
  split
  ·rfl
  ·rename_i hc
   simp only [Bool.or_eq_true,decide_eq_true_eq,not_or] at hc
   rw [hl z hc.1]
 have hN:zdS R2=zdS R:=by unfold zdS; rw [hE]; simp only [hn]
 have hL:zbD R2=zbD R:=by unfold zbD; rw [hE]; simp only [hlk]
 have hB:zcm R2=zcm R:=funext fun k=>by unfold zcm; rw [hE]; simp only [hh,hs]
 have hM:zdT R2=zdT R:=funext fun o=>by unfold zdT; rw [hE,hv]
 have e1:zb7 (zpa R2)=zb7 (zpa R):=by
  funext k
  show (zdZ zo5 (k::zcm R2 k)::(zdT R2 (zaw k)).map fun nm=>zdZ zo6 ([k,nm]++(zbR R2 ⟨4,k,[],[],nm⟩).map zg5))=_
  rw [hB,hM,hv]; rfl
 have e2:zcy (zpa R2)=zcy (zpa R):=by
  funext x
  show (zgN x::(zdT R2 (zcl x)).map fun nm=>zdZ zjb ([x.f,x.y,x.t,nm]++(zbR R2 ⟨5,x.f,x.t,x.y,nm⟩).map zg5))=_
  rw [hM,hv]; rfl
 unfold zhE
 rw [e1,e2,hL]
 show (zdS R2).flatMap _++_=(zdS R).flatMap _++_
 rw [hN]
theorem Hide.links1:∀ x∈zbD (R++[zbH key (zap zero16 R)]),x.f≠key∧x.t≠key:=by
 intro x hx
 have h1:=(zk1 h.row1 hx).1
 have h2:=h.off
 unfold zeT at h1
 simp only [Bool.and_eq_true] at h1
 exact ⟨fun e=>by rw [e,h2] at h1; exact absurd h1.2.1 (by decide),fun e=>by rw [e,h2] at h1; exact absurd h1.2.2 (by decide)⟩
theorem Hide.labels1:zcm (R++[zbH key (zap zero16 R)]) key=[]:=by
 have h2:=h.off
 unfold zcm
 rw [List.map_eq_nil_iff,List.filter_eq_nil_iff]
 intro e _
 by_cases hk:e.k=2∧e.a=key
 ·have:zg3 (R++[zbH key (zap zero16 R)]) e=false:=by
   unfold zg3; rw [if_pos (.inl hk.1),hk.2,h2]
  rw [this]; simp
 ·simp [hk]
end
set_option maxHeartbeats 8000000
theorem zmC {w:Vw} {links:List Lk} (h:VwOk w links):(zhE w links).length≤100000:=by
 have h1:∀ (M:List (List UInt8)) ,(M.flatMap (zb7 w)).length≤M.length * 61:=fun M=>by
  induction M with
  | nil=>simp
  | cons a M ih =>
   have:=h.names (zaw a)
   simp only [List.flatMap_cons,List.length_append,List.length_cons,zb7,List.length_map] at ih ⊢
   omega
 have h2:∀ (M:List Lk) ,(M.flatMap (zcy w)).length≤M.length * 61:=fun M=>by
  induction M with
  | nil=>simp
  | cons a M ih =>
   have:=h.names (zcl a)
   simp only [List.flatMap_cons,List.length_append,List.length_cons,zcy,List.length_map] at ih ⊢
   omega
 have h3:=h1 w.nodes
 have h4:=h2 links
 have h5:=Nat.mul_le_mul_right 61 h.nodes
 have h6:=Nat.mul_le_mul_right 61 h.lcount
 unfold zhE
 rw [List.length_append]
 omega
theorem zvy (E:List Evt) (hE:E.length≤9223372036854775807) (hbig:∀ e∈E,EvBig e) (ve:GV) (hve:Elems 27 ve (E.map evG)) (H:GH) :
 ∃ b,ecall T zqR [ve] H=some (.bool b,H)∧(b=true→E.length≤50∧∀ e∈E,ziQ e.x+e.vt.length≤300):=by
 have le:=hve.len
 have ue:=zaf hve
 have oe:=hve.ok
 simp only [List.length_map] at le
 have key:optW (ecall T zqR [ve] H) fun r=>∃ b,r=(.bool b,H)∧(b=true→E.length≤50∧∀ e∈E,ziQ e.x+e.vt.length≤300):=by
  rw [zad zCw rfl (by simp [zrg]),zab]
  simp only [zrg,zzK]
  simp [le,ue,oe]
  rw [zay,zar]
  refine zvr E hE hbig ve hve _ _ H _ (by simp [ue]) (by simp) (by simp) (by simp) ?_ ?_
  ·intro l g k0 hs
   simp [k0,le,ue,oe]
   rcases Nat.lt_or_ge 50 E.length with h | h
   ·exact .inl (by omega)
   ·exact .inr ⟨by omega,by omega,hs⟩
  ·intro l g k2
   simp [k2]
 obtain ⟨r,h,b,rfl,h2⟩:=key
 exact ⟨b,h,h2⟩
theorem zDk {v:List Int} (h:v.length=16):∃ a0 a1 a2 a3 a4 a5 a6 a7 a8 a9 b0 b1 b2 b3 b4 b5,v=[a0,a1,a2,a3,a4,a5,a6,a7,a8,a9,b0,b1,b2,b3,b4,b5]:=by
 match v,h with
 | [a0,a1,a2,a3,a4,a5,a6,a7,a8,a9,b0,b1,b2,b3,b4,b5],_=>exact ⟨_,_,_,_,_,_,_,_,_,_,_,_,_,_,_,_,rfl⟩
theorem zvz (key:List UInt8) (L:List Lk) (hL:L.length≤1000) (hno:∀ x∈L,x.f≠key∧x.t≠key) (v:GV) (hv:Elems 3 v (L.map lkG)) (l0:List GV) (g0:Nat) (H0:GH) (K:GExit × St→Prop)
 (h77:zag l0 77=v) (h78:zag l0 78=.int .i64 L.length) (h79:zag l0 79=.int .i64 0) (h1:zag l0 1=.str (mkB key))
 (he:∀ l g,Fr zq5 l0 l→K (.exit 0,⟨⟨l,g⟩,H0⟩)) :
 optW (erun T2 (.loop zq5) ⟨⟨l0,g0⟩,H0⟩) K:=by
 refine za5 (T:=T2) (n:=L.length) (A:=Unit) (fun _ _=>[]) (fun _ _ _ H'=>H'=H0) (c:=80) (b:=0) (I:=79) (N:=78) (d:=93) rfl (by omega) (by decide) ⟨rfl,rfl⟩ (by simp) ?_ ?_ 0 () _ _ H0 (by omega) rfl (by simp) (.refl _ _ _) h79 h78
 ·intro i a l g H' hi hH hh hf hI
  subst hH
  have k77:=hf.get 77 rfl h77 (by simp [hv.boxy])
  have k1:=hf.get 1 rfl h1 rfl
  obtain ⟨lt,ix,opt,get,⟨t,sv⟩,wr_,mem⟩:=zeU (e:=lkG) hv hi (by omega)
  generalize L[i]'hi=x at opt get mem
  obtain ⟨n1,n2⟩:=hno x mem
  have hlx:(lkC x).length=3:=rfl
  have htx:List.take 3 (lkC x)=lkC x:=rfl
  have hone:(lkC x).all GV.one=true:=rfl
  have hsp:zae [GV.str ⟨#[]⟩,.str ⟨#[]⟩,.str ⟨#[]⟩] 0 (lkC x)=some (lkC x):=rfl
  have hx0:∀ h,(lkC x)[0]'h=.str (mkB x.f):=fun _=>rfl
  have hx1:∀ h,(lkC x)[1]'h=.str (mkB x.t):=fun _=>rfl
  rw [sv] at k77
  simp [k77,k1,hI,ix,opt,get,hlx,htx,hone,hsp,hx0,hx1,n1,n2]
 ·intro a l g H' hH hh hf
  subst hH
  exact he l g hf
theorem zj2 (E:List Evt) (hE:E.length≤9223372036854775807) (hin:∀ e∈E,EvIn e) (ve:GV) (hve:Elems 27 ve (E.map evG)) (key:List UInt8) (hkey:key.length≤1125899906842624) (H:GH) (hbo:H.bo≤H.objs.length) (hbt:H.bt≤H.toks.length) :
 ∃ H',ecall T2 zkJ [ve,.str (mkB key)] H=some (.bool true,H'):=by
 have hfx:=zrZ
 have hix:gIx 16 (GV.int IntKind.i64 15)=some 15:=rfl
 obtain ⟨fb,hfew,hfb⟩:=zvy E hE (fun e he=>(hin e he).big) ve hve H
 have hfew:=up hfew
 have goal:optW (ecall T2 zkJ [ve,.str (mkB key)] H) fun r=>∃ H',r=(.bool true,H'):=by
  rw [zad (zqF _ _ zAj) rfl (by simp [zq6]),zab]
  simp only [zq6,zzD]
  have hue:=zaf hve
  have hok:=hve.ok
  cases fb with
  | false=>simp [hfx,hue,hok,hfew]
  | true =>
   by_cases hkl:(50:Int)<key.length
   ·simp [hfx,hue,hok,hfew,hkl]
   obtain ⟨hl50,hsh⟩:=hfb rfl
   have hfit:∀ e∈E,EvFit e:=fun e he=>(hin e he).fit (hsh e he)
   obtain ⟨vr,H1,hca,hG⟩:=zpj E (by omega) hfit ve hve H hbt
   have hca:=up hca
   have hrow:=zzy (show E.length≤60 by omega) hfit
   have hcl:=(zey E).2
   have hR50:(zbh E).1.length≤50:=Nat.le_trans (zey E).1 hl50
   have hset:=(zgX E).2.1
   generalize (zbh E).1=R at hrow hG hR50 hset
   generalize (zbh E).2=kv at hcl hca hset
   have hrok:=hG.ok
   have hre:=hG.app.elems
   have hru:=zaf hre
   have hbo1:H1.bo≤H1.objs.length:=by rw [hG.step.objs,hG.step.bo]; exact hbo
   have hbt1:H1.bt≤H1.toks.length:=hG.step.btle hbt
   obtain ⟨a0,a1,a2,a3,a4,a5,a6,a7,a8,a9,b0,b1,b2,b3,b4,b5,hkv⟩:=zDk hcl
   subst hkv
   obtain ⟨n,H2,hvw,hV,hB,hn1,hn2,hbt2,hbo2⟩:=zmz hrow vr hre H1 hbo1 hbt1
   have hHas:=up (znP hV key hkey)
   rw [zr1] at hHas
   cases hth:zdy R key with
   | false =>
    rw [hth] at hHas
    simp [hfx,hue,hok,hfew,hkl,hca,hrok,hru,hvw,hHas,zae]
   | true =>
    rw [hth] at hHas
    by_cases hroom:(1048574:Int)≤b5
    ·simp [hfx,hue,hok,hfew,hkl,hca,hrok,hru,hvw,hHas,zae,hix,hroom]
    have hH:Hide R key:=⟨hrow,hR50,by omega,hth,by rw [← hset]; show b5<_; omega⟩
    have hr1:=hH.row1
    have hr2:=hH.row2
    have hof:=hH.off
    have hl1:=hH.links1
    have hb1:=hH.labels1
    have hln:=hH.lines2
    have hb5:=hH.vec b5 (by rw [← hset]; simp)
    rw [← hset] at hr1 hr2 hof hl1 hb1 hln
    have w1:IntKind.i64.wrap (b5+1)=b5+1:=zam (by omega) (by omega)
    have w2:IntKind.i64.wrap (b5+1+1)=b5+2:=by rw [zam (by omega) (by omega)]; omega
    have A1:App H2 27 (.sl 27 [] .exact) []:=.exact _
    obtain ⟨s1,H3,p1,G1⟩:=zbL (ty:=36) (bytes:=256) A1 hre.news hbt2 (by simp only [List.length_map,List.length_nil,room]; omega) (by simp only [List.length_map,List.length_nil,maxLen]; omega)
    have hbt3:=G1.step.btle hbt2
    obtain ⟨s2,H4,p2,G2⟩:=zbL (ty:=36) (bytes:=256) (ys:=[evG (zbH key [a0,a1,a2,a3,a4,a5,a6,a7,a8,a9,b0,b1,b2,b3,b4,b5])]) (x:=.sl 27 [evG (zbH key [a0,a1,a2,a3,a4,a5,a6,a7,a8,a9,b0,b1,b2,b3,b4,b5])] .exact) G1.app (by simp [zbK]) hbt3 (by simp only [List.length_map,List.length_append,List.length_nil,List.length_singleton,room]; omega) (by simp only [List.length_map,List.length_append,List.length_nil,List.length_singleton,maxLen]; omega)
    have hbt4:=G2.step.btle hbt3
    have hbo4:H4.bo≤H4.objs.length:=by rw [G2.step.objs,G2.step.bo,G1.step.objs,G1.step.bo,hbo2]; omega
    have el2:Elems 27 s2 ((R++[zbH key [a0,a1,a2,a3,a4,a5,a6,a7,a8,a9,b0,b1,b2,b3,b4,b5]]).map evG):=by simpa using G2.app.elems
    obtain ⟨n1,H5,v1,V1,B1,m1,m2,hbt5,hbo5⟩:=zmz hr1 s2 el2 H4 hbo4 hbt4
    have A2:App H5 27 (.sl 27 [] .exact) []:=.exact _
    obtain ⟨s3,H6,p3,G3⟩:=zbL (ty:=36) (bytes:=256) A2 hre.news hbt5 (by simp only [List.length_map,List.length_nil,room]; omega) (by simp only [List.length_map,List.length_nil,maxLen]; omega)
    have hbt6:=G3.step.btle hbt5
    obtain ⟨s4,H7,p4,G4⟩:=zbL (ty:=36) (bytes:=256) (ys:=[evG (zbH key [a0,a1,a2,a3,a4,a5,a6,a7,a8,a9,b0,b1,b2,b3,b4,b5]),evG (zcL key [a0,a1,a2,a3,a4,a5,a6,a7,a8,a9,b0,b1,b2,b3,b4,b5])]) (x:=.sl 27 [evG (zbH key [a0,a1,a2,a3,a4,a5,a6,a7,a8,a9,b0,b1,b2,b3,b4,b5]),evG (zcL key [a0,a1,a2,a3,a4,a5,a6,a7,a8,a9,b0,b1,b2,b3,b4,b5])] .exact) G3.app (by simp [zbK]) hbt6 (by simp only [List.length_map,List.length_append,List.length_nil,List.length_cons,room]; omega) (by simp only [List.length_map,List.length_append,List.length_nil,List.length_cons,maxLen]; omega)
    have hbt7:=G4.step.btle hbt6
    have hbo7:H7.bo≤H7.objs.length:=by rw [G4.step.objs,G4.step.bo,G3.step.objs,G3.step.bo,hbo5]; omega
    have el4:Elems 27 s4 ((R++[zbH key [a0,a1,a2,a3,a4,a5,a6,a7,a8,a9,b0,b1,b2,b3,b4,b5]]++[zcL key [a0,a1,a2,a3,a4,a5,a6,a7,a8,a9,b0,b1,b2,b3,b4,b5]]).map evG):=by simpa using G4.app.elems
    obtain ⟨n2,H8,v2,V2,B2,m3,m4,hbt8,hbo8⟩:=zmz hr2 s4 el4 H7 hbo7 hbt7
    have p2':zaU H3 36 27 256 s1 (.sl 27 [GV.agg [.int .i64 15,.int .i64 (b5+1),.int .i64 a0,.int .i64 a1,.int .i64 a2,.int .i64 a3,.int .i64 a4,.int .i64 a5,.int .i64 a6,.int .i64 a7,.int .i64 a8,.int .i64 a9,.int .i64 b0,.int .i64 b1,.int .i64 b2,.int .i64 b3,.int .i64 b4,.int .i64 b5,.int .i64 2,.int .i64 1,.str (mkB key),.str ⟨#[]⟩,.str ⟨#[]⟩,.str ⟨#[]⟩,.int .i64 0,.int .i64 0,.str ⟨#[]⟩]] .exact)=some (s2,H4):=p2
    have p4':zaU H6 36 27 256 s3 (.sl 27 [GV.agg [.int .i64 15,.int .i64 (b5+1),.int .i64 a0,.int .i64 a1,.int .i64 a2,.int .i64 a3,.int .i64 a4,.int .i64 a5,.int .i64 a6,.int .i64 a7,.int .i64 a8,.int .i64 a9,.int .i64 b0,.int .i64 b1,.int .i64 b2,.int .i64 b3,.int .i64 b4,.int .i64 b5,.int .i64 2,.int .i64 1,.str (mkB key),.str ⟨#[]⟩,.str ⟨#[]⟩,.str ⟨#[]⟩,.int .i64 0,.int .i64 0,.str ⟨#[]⟩],GV.agg [.int .i64 15,.int .i64 (b5+2),.int .i64 a0,.int .i64 a1,.int .i64 a2,.int .i64 a3,.int .i64 a4,.int .i64 a5,.int .i64 a6,.int .i64 a7,.int .i64 a8,.int .i64 a9,.int .i64 b0,.int .i64 b1,.int .i64 b2,.int .i64 b3,.int .i64 b4,.int .i64 (b5+1),.int .i64 1,.int .i64 1,.str (mkB key),.str ⟨#[]⟩,.str ⟨#[]⟩,.str ⟨#[]⟩,.int .i64 0,.int .i64 0,.str ⟨#[]⟩]] .exact)=some (s4,H7):=p4
    have u1:=zaf G1.app.elems
    have o1:=G1.ok
    have u2:=zaf el2
    have o2:=el2.ok
    have u3:=zaf G3.app.elems
    have o3:=G3.ok
    have u4:=zaf el4
    have o4:=el4.ok
    have r1:=hre.one
    have rc:=hre.cells
    simp [hfx,hue,hok,hfew,hkl,hca,hrok,hru,hvw,hHas,zae,za6,zaj,hix,hroom,w1,w2,p1,p2',p3,p4',u1,o1,u2,o2,u3,o3,u4,o4,v1,v2]
    have e42:H4.objs=H2.objs:=G2.step.objs.trans G1.step.objs
    have e75:H7.objs=H5.objs:=G4.step.objs.trans G3.step.objs
    have k8:∀ i,i<H5.objs.length→H8.objs[i]?=H5.objs[i]?:=fun i hi=>by rw [B2.keep i (by rw [e75]; exact hi),e75]
    have k5:∀ i,i<H2.objs.length→H5.objs[i]?=H2.objs[i]?:=fun i hi=>by rw [B1.keep i (by rw [e42]; exact hi),e42]
    have l52:H2.objs.length≤H5.objs.length:=by rw [← e42]; omega
    have W1:=VDone.keep V1 (H':=H8) fun i _ h2=>k8 i (by omega)
    have W0:=VDone.keep hV (H':=H8) fun i _ h2=>(k8 i (by omega)).trans (k5 i (by omega))
    generalize hR1:R++[zbH key [a0,a1,a2,a3,a4,a5,a6,a7,a8,a9,b0,b1,b2,b3,b4,b5]]=R1 at *
    generalize hR2:R1++[zcL key [a0,a1,a2,a3,a4,a5,a6,a7,a8,a9,b0,b1,b2,b3,b4,b5]]=R2 at *
    have D2:VDone H8 n2 (zpa R2) (zbD R2) (fun a=>(zbD R2).filter fun x=>decide (x.f=a)) (fun a=>(zbD R2).filter fun x=>decide (x.t=a)):=by rw [← znR hr2]; exact V2
    have D0:VDone H8 n (zpa R) (zbD R) (fun a=>(zbD R).filter fun x=>decide (x.f=a)) (fun a=>(zbD R).filter fun x=>decide (x.t=a)):=by rw [← znR hrow]; exact W0
    obtain ⟨lv,lc,lE⟩:=zja W1 (by have:=zhC hr1; omega)
    have hHas1:=up (znP W1 key hkey)
    rw [zr1,hof] at hHas1
    obtain ⟨bv,bc,bE⟩:=zmy W1 key hkey (by rw [ze6,hb1]; simp)
    rw [ze6,hb1] at bE
    obtain ⟨x2,xc2,xE2⟩:=zjc (zr7 hr2) D2
    obtain ⟨x0,xc0,xE0⟩:=zjc (zr7 hrow) D0
    rw [hln] at xE2
    have cs:=up (zxQ _ (zmC (zr7 hrow)) x2 x0 xE2 xE0 H8)
    have lc:=up lc
    have bc:=up bc
    have xc2:=up xc2
    have xc0:=up xc0
    have ll:=lE.len
    have lu:=zaf lE
    have lo:=lE.ok
    have bl:=bE.len
    have bu:=zaf bE
    have bo':=bE.ok
    have y2u:=zaf xE2
    have y2o:=xE2.ok
    have y0u:=zaf xE0
    have y0o:=xE0.ok
    simp only [List.length_map,List.map_nil,List.length_nil] at ll bl
    simp [lc,ll,lu,lo]
    rw [zay,zar]
    refine zvz key (zbD R1) (by have:=zhC hr1; omega) hl1 lv lE _ _ H8 _ (by simp [lu]) (by simp) (by simp) (by simp) ?_
    intro l g hf
    have k1:=hf.get 1 rfl (v:=.str (mkB key)) (by simp) rfl
    have k7:=hf.get 7 rfl (v:=.ptr (n+6) 0) (by simp) rfl
    have k11:=hf.get 11 rfl (v:=.ptr (n1+6) 0) (by simp) rfl
    have k12:=hf.get 12 rfl (v:=.ptr (n2+6) 0) (by simp) rfl
    simp [k1,k7,k11,k12,hHas1,bc,bl,bu,bo',xc2,xc0,y2u,y2o,y0u,y0o,cs]
 obtain ⟨r,h,H',rfl⟩:=goal
 exact ⟨H',h⟩
open Go.Sh Go.ChangeShapes Go.WideShapes Go.ChangeAt Go.RowKit
theorem zhF (gargs:List GV) (h:ArgsFit [.slice zBS,.str] gargs):∃ H',ecall T2 zkJ gargs (zl3 Tryz.prog.globals.size)=some (.bool true,H'):=by
 cases h with
 | cons h1 t1 =>
 cases t1 with
 | cons h2 t2 =>
  cases t2
  obtain ⟨E,hE,he,hel⟩:=ztw (f:=evG) (fun c hc=>zxW hc) h1
  obtain ⟨t,rfl,ht⟩:=zgq h2
  exact zj2 E (by unfold maxLen at hel; omega) he _ hE t ht _ (by simp [zl3]) (by simp [zl3])
end Go.Proofs.YtchjbidfmhmmhaaGreatDoor
