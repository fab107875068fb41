/- Own work: the zaO machine and what it shows, part Lv. -/
import Derived.Test.YtchjbidfmhmmhaaGreatDoorCo
import Derived.Test.YtchjbidfmhmmhaaGreatDoorEl
set_option linter.all false
namespace Go.Proofs.YtchjbidfmhmmhaaGreatDoor
open Go.Sh
set_option maxHeartbeats 4000000
set_option maxRecDepth 100000
def zhy (v:List Int) (r c:Int):Bool:=decide (c≤zdx v r)
def zcA (x:El) (y a:Evt):Bool:=(decide (y.x=x)&&!decide (y.op=1))&&(!decide (y.r=a.r∧y.c=a.c)&&zhy y.past a.r a.c)
def zcQ (R:List Evt) (x:El) (a:Evt):Bool:=(decide (a.x=x)&&decide (a.op=1∨a.op=3))&&!R.any fun y=>zcA x y a
def zgR (R:List Evt) (x:El):List Evt:=R.filter (zcQ R x)
theorem zgk:∀ {l:List Evt} {v:List Int},v.length=16→zdQ v l→(∀ k:Int,0≤k→zdx v k≤zdx (zcB v l) k)∧∀ y∈l,evB y=true∧zdx v y.r<y.c∧y.c≤zdx (zcB v l) y.r∧∀ k:Int,0≤k→k<16→zdx y.past k≤zdx (zcB v l) k
 | [],v,_,_=>⟨fun k _=>Int.le_refl _,fun y h=>by cases h⟩
 | e::l,v,hv,hc=>by
  obtain ⟨hf,hc⟩:=hc
  obtain ⟨hb,ha,hp⟩:=zh6 hf
  obtain ⟨r0,r1,c0,c1⟩:=zfN hb
  have hat:=zzA hv (c:=e.c) r0 r1
  obtain ⟨h1,h2⟩:=zgk (v:=zr6 v e) (by simp [zr6,hv]) hc
  have up1:∀ k:Int,0≤k→zdx v k≤zdx (zr6 v e) k:=fun k hk=>by
   unfold zr6; rw [hat k hk]; split
   ·rename_i e1; rw [e1]; omega
   ·exact Int.le_refl _
  refine ⟨fun k hk=>Int.le_trans (up1 k hk) (h1 k hk),fun y hy=>?_⟩
  rcases List.mem_cons.1 hy with rfl | hy
  ·refine ⟨hb,by omega, ?_,fun k hk hk2=>?_⟩
   ·have:=h1 y.r r0
    unfold zr6 at this
    rw [hat y.r r0,if_pos rfl] at this
    exact this
   ·have h3:=hp k.toNat (by omega)
    rw [Int.toNat_of_nonneg hk] at h3
    exact Int.le_trans h3 (Int.le_trans (up1 k hk) (h1 k hk))
  ·obtain ⟨q1,q2,q3,q4⟩:=h2 y hy
   have:=up1 y.r (zfN q1).1
   exact ⟨q1,by omega,q3,q4⟩
theorem zuu (L:List Ent) (x:Ent):(zkA L x).Perm (L++[x]):=by
 unfold zkA
 refine List.perm_middle.trans ?_
 refine (List.Perm.cons x (List.filter_append_perm (fun y=>decide (zdT y x<0)) L)).trans ?_
 exact (List.perm_append_singleton x L).symm
theorem zjB {α β:Type} (f:α→β) (p:β→Bool) (l:List α):(l.map f).filter p=(l.filter fun a=>p (f a)).map f:=by
 rw [List.filter_map]; rfl
theorem zuv {l:List Evt} {e:Evt} (hl:zdQ zero16 l) (hf:zle (zcB zero16 l) e=true) (x:El) :
 zgR (l++[e]) x=(if x=e.x then ((if e.op=1 then zgR l x else (zgR l x).filter fun a=>!zcl e.past a.r a.c)++if e.op=1∨e.op=3 then [e] else []) else zgR l x):=by
 obtain ⟨_,hu⟩:=zgk (v:=zero16) rfl hl
 obtain ⟨hb,ha,hp⟩:=zh6 hf
 obtain ⟨r0,r1,c0,c1⟩:=zfN hb
 have hB:∀ a,zcQ (l++[e]) x a=(zcQ l x a&&!zcA x e a):=fun a=>by
  unfold zcQ
  rw [List.any_append]
  simp only [List.any_cons,List.any_nil,Bool.or_false,Bool.not_or,Bool.and_assoc]
 unfold zgR
 rw [List.filter_append]
 by_cases hx:x=e.x
 ·rw [if_pos hx]
  have he : [e].filter (zcQ (l++[e]) x)=if e.op=1∨e.op=3 then [e] else []:=by
   have hn:zcA x e e=false:=by simp [zcA]
   have hany:(l.any fun y=>zcA x y e)=false:=by
    rw [List.any_eq_false]
    intro y hy
    obtain ⟨_,_,_,q4⟩:=hu y hy
    have:=q4 e.r r0 r1
    have hk:zhy y.past e.r e.c=false:=by unfold zhy; exact decide_eq_false (by omega)
    simp [zcA,hk]
   have:zcQ (l++[e]) x e=decide (e.op=1∨e.op=3):=by
    rw [hB,hn]; unfold zcQ; rw [hany,hx]; simp
   rw [List.filter_cons,this]
   by_cases ho:e.op=1∨e.op=3
   ·rw [if_pos ho,if_pos (decide_eq_true ho)]; rfl
   ·rw [if_neg ho,if_neg (by simpa using ho)]; rfl
  rw [he]
  congr 1
  by_cases ho:e.op=1
  ·rw [if_pos ho]
   apply List.filter_congr
   intro a _
   rw [hB]; simp [zcA,ho]
  ·rw [if_neg ho,List.filter_filter]
   apply List.filter_congr
   intro a hm
   obtain ⟨q1,_,q3,_⟩:=hu a hm
   have hd:=zfN q1
   have hne:¬ (e.r=a.r∧e.c=a.c):=fun h=>by
    rw [← h.1,ha] at q3; omega
   have hk:zcl e.past a.r a.c=zhy e.past a.r a.c:=by
    have:zgP a.r a.c=true:=by simp only [zgP,decide_eq_true_eq]; exact hd
    unfold zcl zhy; rw [this,Bool.true_and]
   rw [hB,hk,Bool.and_comm]
   unfold zcA
   rw [hx,decide_eq_false ho,decide_eq_false hne]
   simp
 ·rw [if_neg hx]
  have h0:∀ a,zcA x e a=false:=fun a=>by
   unfold zcA; rw [decide_eq_false (fun h=>hx h.symm)]; rfl
  have he : [e].filter (zcQ (l++[e]) x)=[]:=by
   have:zcQ (l++[e]) x e=false:=by
    rw [hB]; unfold zcQ; rw [decide_eq_false (fun h=>hx h.symm)]; rfl
   rw [List.filter_cons,this]; rfl
  rw [he,List.append_nil]
  apply List.filter_congr
  intro a _
  rw [hB,h0]; simp
theorem zuw {R:List Evt} (h:Row R) (x:El):∀ i≤R.length,(zce (zbK (R.take i)) x).Perm ((zgR (R.take i) x).map zgV)
 | 0,_=>by rw [List.take_zero]; exact .refl _
 | i+1,hi=>by
  have ih:=zuw h x i (by omega)
  obtain ⟨e,he⟩:∃ e,R[i]?=some e:=⟨R[i],List.getElem?_eq_getElem (by omega)⟩
  obtain ⟨hg,hf,hd⟩:=h.at_ he
  have ht:R.take (i+1)=R.take i++[e]:=by rw [List.take_add_one,he]; rfl
  have hc:zdQ zero16 (R.take i):=by
   have:=h.causl
   rw [← List.take_append_drop i R] at this
   exact (causl_app.1 this).1
  rw [hd,ht,zuv hc hf]
  unfold doF
  rw [zpM]
  by_cases hx:x=e.x
  ·rw [if_pos hx,if_pos hx,← hx]
   have hcut:(zjN e (zce (zbK (R.take i)) x)).Perm ((if e.op=1 then zgR (R.take i) x else (zgR (R.take i) x).filter fun a=>!zcl e.past a.r a.c).map zgV):=by
    unfold zjN
    by_cases ho:e.op=1
    ·rw [if_pos ho,if_pos ho]; exact ih
    ·rw [if_neg ho,if_neg ho]
     have:=ih.filter fun y=>!zcl e.past y.r y.c
     rw [zjB] at this
     exact this
   unfold doL
   by_cases ho:e.op=1∨e.op=3
   ·rw [if_pos ho,if_pos ho,List.map_append]
    exact (zuu _ _).trans (hcut.append_right _)
   ·rw [if_neg ho,if_neg ho,List.append_nil]
    exact hcut
  ·rw [if_neg hx,if_neg hx]; exact ih
theorem zlb {R:List Evt} (h:Row R) (x:El):(zce (zbK R) x).Perm ((zgR R x).map zgV):=by
 have:=zuw h x R.length (Nat.le_refl _)
 rwa [List.take_length] at this
theorem zC6 (a b:List UInt8):(mkB a == mkB b)=decide (a=b):=by
 by_cases h:a=b
 ·subst h; rw [zzG]; simp
 ·rw [decide_eq_false h,Bool.eq_false_iff]
  intro e
  have:mkB a=mkB b:=by
   rcases ha:mkB a with ⟨x⟩
   rcases hb:mkB b with ⟨y⟩
   rw [ha,hb] at e
   have e:(x == y)=true:=e
   rw [eq_of_beq e]
  have:=congrArg (fun b:ByteArray=>b.data.toList) this
  simp only [zbn] at this
  exact h this
theorem zin (x y:El):zaH [.int .i64,.str,.str,.str,.str] (elC x) (elC y)=some (decide (x=y)):=by
 have:decide (x=y)=(decide (x.k=y.k)&&(decide (x.a=y.a)&&(decide (x.b=y.b)&&(decide (x.c=y.c)&&decide (x.d=y.d))))):=by
  rw [Bool.eq_iff_iff]
  simp only [Bool.and_eq_true,decide_eq_true_eq]
  constructor
  ·intro h; subst h; exact ⟨rfl,rfl,rfl,rfl,rfl⟩
  ·rintro ⟨h1,h2,h3,h4,h5⟩
   cases x; cases y; simp_all
 rw [this]
 by_cases h1:x.k=y.k <;> by_cases h2:x.a=y.a <;> by_cases h3:x.b=y.b <;> by_cases h4:x.c=y.c <;> by_cases h5:x.d=y.d <;> simp [zaH,zbb,elC,zC6,h1,h2,h3,h4,h5]
theorem zqE (r c r' c':Int):zaH [.int .i64,.int .i64] [.int .i64 r,.int .i64 c] [.int .i64 r',.int .i64 c']=some (decide (r=r'∧c=c')):=by
 by_cases h1:r=r' <;> by_cases h2:c=c' <;> simp [zaH,zbb,h1,h2]
theorem zg5 (k n:Int) (t:List UInt8) (k' n':Int) (t':List UInt8):zaH [.int .i64,.int .i64,.str] [.int .i64 k,.int .i64 n,.str (mkB t)] [.int .i64 k',.int .i64 n',.str (mkB t')]=some (decide (k=k'∧n=n'∧t=t')):=by
 by_cases h1:k=k' <;> by_cases h2:n=n' <;> by_cases h3:t=t' <;> simp [zaH,zbb,zC6,h1,h2,h3]
theorem zux (v:List Int) (hv:v.length=16) (r c:Int) (h0:0≤r) (h1:r<16) (H:GH):ecall T zxa [.agg (v.map zjg),.agg [.int .i64 r,.int .i64 c]] H=some (.bool (zhy v r c),H):=by
 have hi:=zsi h0 h1
 have ha:=zn3 hv (k:=r.toNat) (by omega)
 have hat':zdx v ((r.toNat:Nat):Int)=zdx v r:=by simp only [zdx,Int.toNat_natCast]
 rw [hat'] at ha
 apply optW.eq
 rw [zag zFP rfl (by simp [ztK]),zab]
 simp [ztK,zCA,hi,ha,zhy]
structure EvOk (e:Evt):Prop where
 fit:EvFit e
 ok:evB e=true
theorem EvOk.dot {e:Evt} (h:EvOk e):0≤e.r∧e.r<16∧1≤e.c∧e.c≤1048576:=zfN h.ok
theorem zz6 {R:List Evt} (hR:R.length≤1000) (hok:∀ e∈R,EvOk e) (vr:GV) (hvr:Elems 27 vr (R.map evG)) (x:El) (a:Evt) (ha:EvOk a) (g3 g7:Nat) (l0:List GV) (g0:Nat) (H0:GH) (K:GExit × St→Prop)
 (h31:zad l0 31=vr) (h32:zad l0 32=.int .i64 R.length) (h33:zad l0 33=.int .i64 0) (h3:zad l0 3=.lbox g3 (elC x)) (h7:zad l0 7=.lbox g7 (evC a)) (h8:zad l0 8=.bool true)
 (he:∀ l g,zad l 3=.lbox g3 (elC x)→zad l 7=.lbox g7 (evC a)→zad l 8=.bool (!R.any fun y=>zcA x y a)→Fr zpa l0 l→K (.exit 2,⟨⟨l,g⟩,H0⟩)) :
 optW (erun T (.loop zpa) ⟨⟨l0,g0⟩,H0⟩) K:=by
 refine zau (T:=T) (n:=R.length) (A:=Unit) (fun i _=>[(3,.lbox g3 (elC x)),(7,.lbox g7 (evC a)),(8,.bool (!(R.take i).any fun y=>zcA x y a))]) (fun i _ _ H'=>H'=H0) (c:=34) (b:=2) (I:=33) (N:=32) (d:=60) rfl (by omega) (by decide) ⟨rfl,rfl⟩ (by simp) ?_ ?_ 0 () _ _ H0 (by omega) rfl (by simp [h3,h7,h8]) (.refl _ _ _) h33 h32
 ·intro i u l g H' hi hH hh hf hI
  subst hH
  have h31':=hf.get 31 rfl h31 (by simp [hvr.boxy])
  obtain ⟨lt,ix,opt,get,⟨t,sv⟩,wr_,mem⟩:=zbX (e:=evG) hvr hi (by omega)
  generalize R[i]'hi=y at opt get mem
  obtain ⟨hfy,hby⟩:=hok y mem
  have l1:=zc8 hfy.past
  have l4:List.take 27 (evC y)=evC y:=List.take_of_length_le (by rw [l1]; exact Nat.le_refl _)
  have lo:=zht hfy.past
  have sp:=zir hfy.past
  have l6:=znw hfy.past
  have l5:=zp1 hfy.past
  have l5':=zlP hfy.past
  have l3:=zlQ y
  have l2:=zgX hfy.past
  have a1:=zc8 ha.fit.past
  have a3:=zlQ a
  have le:=zin y.x x
  have ld:=zqE y.r y.c a.r a.c
  have hkn:=fun H=>zux y.past hfy.past a.r a.c ha.dot.1 ha.dot.2.1 H
  simp only [zah,zaj,and_true] at hh
  obtain ⟨hh3,hh7,hh8⟩:=hh
  have hs:(!(R.take (i+1)).any fun y=>zcA x y a)=((!(R.take i).any fun y=>zcA x y a)&&!zcA x y a):=by
   rw [List.take_add_one,opt,List.any_append]; simp
  rw [hs]
  generalize (!(R.take i).any fun y=>zcA x y a)=b8 at hh8
  have hlx:(elC x).length=5:=rfl
  have htx:List.take 5 (elC x)=elC x:=rfl
  rw [sv] at h31'
  unfold zcA
  by_cases c1:y.x=x
  ·rw [c1] at l6 le
   by_cases c2:y.op=1
   ·simp [h31',hI,hh3,hh7,hh8,ix,opt,get,sp,l1,l4,lo,l6,l5,l5',le,c1,c2,hlx,htx]
   ·by_cases c3:y.r=a.r∧y.c=a.c
    ·rw [c3.1,c3.2] at ld
     simp [h31',hI,hh3,hh7,hh8,ix,opt,get,sp,l1,l4,lo,l6,l5,l5',l3,a1,a3,ld,le,c1,c2,c3,hlx,htx]
    ·cases hk:zhy y.past a.r a.c with
     | false =>
      rw [hk] at hkn
      simp [h31',hI,hh3,hh7,hh8,ix,opt,get,sp,l1,l4,lo,l6,l5,l5',l3,l2,a1,a3,ld,le,c1,c2,c3,hkn,hlx,htx]
     | true =>
      rw [hk] at hkn
      simp [h31',hI,hh3,hh7,hh8,ix,opt,get,sp,l1,l4,lo,l6,l5,l5',l3,l2,a1,a3,ld,le,c1,c2,c3,hkn,hlx,htx]
  ·simp [h31',hI,hh3,hh7,hh8,ix,opt,get,sp,l1,l4,lo,l6,le,c1,hlx,htx]
 ·intro u l g H' hH hh hf
  subst hH
  simp only [zah,zaj,and_true] at hh
  rw [List.take_length] at hh
  exact he l g hh.1 hh.2.1 hh.2.2 hf
theorem zuy {R:List Evt} (hR:R.length≤1000) (hok:∀ e∈R,EvOk e) (vr:GV) (hvr:Elems 27 vr (R.map evG)) (x:El) (g3:Nat) (l0:List GV) (g0:Nat) (H0:GH) (hbt:H0.bt≤H0.toks.length) (K:GExit × St→Prop)
 (h0:zad l0 0=vr) (h11:zad l0 11=vr) (h12:zad l0 12=.int .i64 R.length) (h13:zad l0 13=.int .i64 0) (h3:zad l0 3=.lbox g3 (elC x)) (h5:zad l0 5=.nilsl)
 (he:∀ l g H v,zad l 5=v→Grown 27 H0 .nilsl ((zgR R x).map evG) H v→Fr zty l0 l→K (.exit 0,⟨⟨l,g⟩,H⟩)) :
 optW (erun T (.loop zty) ⟨⟨l0,g0⟩,H0⟩) K:=by
 refine zau (T:=T) (n:=R.length) (A:=GV) (fun _ s=>[(3,.lbox g3 (elC x)),(5,s)]) (fun i s _ H'=>Grown 27 H0 .nilsl (((R.take i).filter (zcQ R x)).map evG) H' s) (c:=14) (b:=0) (I:=13) (N:=12) (d:=66) rfl (by omega) (by decide) ⟨rfl,rfl⟩ (by simp) ?_ ?_ 0 .nilsl _ _ H0 (by omega) (by simpa using Grown.refl App.nil) (by simp [h3,h5]) (.refl _ _ _) h13 h12
 ·intro i s l g H' hi hG hh hf hI
  have h0':=hf.get 0 rfl h0 (by simp [hvr.boxy])
  have h11':=hf.get 11 rfl h11 (by simp [hvr.boxy])
  have hl:=hvr.len
  have hu:=zac hvr
  have hk:=hvr.ok
  simp only [List.length_map] at hl
  obtain ⟨lt,ix,opt,get,⟨t,sv⟩,wr_,mem⟩:=zbX (e:=evG) hvr hi (by omega)
  generalize R[i]'hi=a at opt get mem
  have ha:=hok a mem
  have l1:=zc8 ha.fit.past
  have l4:List.take 27 (evC a)=evC a:=List.take_of_length_le (by rw [l1]; exact Nat.le_refl _)
  have lo:=zht ha.fit.past
  have sp:=zir ha.fit.past
  have l6:=znw ha.fit.past
  have l5:=zp1 ha.fit.past
  have l5':=zlP ha.fit.past
  have le:=zin a.x x
  have hlx:(elC x).length=5:=rfl
  have htx:List.take 5 (elC x)=elC x:=rfl
  have ht:R.take (i+1)=R.take i++[a]:=by rw [List.take_add_one,opt]; rfl
  rw [ht,List.filter_append]
  have hfl:((R.take i).filter (zcQ R x)).length≤1000:=Nat.le_trans (List.length_filter_le _ _) (by rw [List.length_take]; omega)
  generalize (R.take i).filter (zcQ R x)=F at hG hfl
  simp only [zah,zaj,and_true] at hh
  obtain ⟨hh3,hh5⟩:=hh
  have h11s:=h11'
  rw [sv] at h11'
  have hsk:=hG.ok
  have hse:=hG.app.elems
  have hsb:=hse.boxy
  by_cases c1:a.x=x
  ·rw [c1] at l6 le
   by_cases c2:a.op=1∨a.op=3
   ·have hlv:zcQ R x a=!R.any fun y=>zcA x y a:=by unfold zcQ; rw [c1,decide_eq_true c2]; simp
    have key:∀ (l1':List GV),zad l1' 31=vr→zad l1' 32=.int .i64 R.length→zad l1' 33=.int .i64 0→zad l1' 3=.lbox g3 (elC x)→zad l1' 7=.lbox g (evC a)→zad l1' 8=.bool true→zad l1' 5=s →
     optW (erun T (.loop zpa) ⟨⟨l1',g+1⟩,H'⟩) fun r=>∃ l2 g2,r=(.exit 2,⟨⟨l2,g2⟩,H'⟩)∧zad l2 3=.lbox g3 (elC x)∧zad l2 7=.lbox g (evC a)∧zad l2 8=.bool (zcQ R x a)∧zad l2 5=s:=fun l1' k31 k32 k33 k3 k7 k8 k5=>by
     refine zz6 hR hok vr hvr x a ha g3 g l1' (g+1) H' _ k31 k32 k33 k3 k7 k8 ?_
     intro l2 g2 j3 j7 j8 hf2
     exact ⟨l2,g2,rfl,j3,j7,by rw [hlv]; exact j8,hf2.get 5 rfl k5 (by simp [hsb])⟩
    rcases c2 with c2 | c2
    all_goals
     simp [h11',h0',hl,hu,hk,hI,hh3,hh5,ix,opt,get,sp,l1,l4,lo,l6,l5,l5',le,c1,c2,hlx,htx]
     rw [zai,zao,zai]
     refine optW.mono (key _ (by simp [hu]) (by simp) (by simp) (by simp [hh3]) (by simp) (by simp) (by simp [hh5])) ?_
     rintro _ ⟨l2,g2,rfl,j3,j7,j8,j5⟩
     cases hb:zcQ R x a with
     | false =>
      rw [hb] at j8
      simp [j3,j5,j8]
      have hf0 : [a].filter (zcQ R x)=[]:=by rw [List.filter_cons,hb]; rfl
      rw [hf0,List.map_nil,List.append_nil]
      exact fun _=>hG
     | true =>
      rw [hb] at j8
      obtain ⟨s',H2,a1,G1⟩:=zbj (ty:=36) (bytes:=256) (ys:=[evG a]) (x:=.sl 27 [evG a] .exact) hG.app (by simp [zbB]) (hG.step.btle hbt) (by simp only [List.length_singleton,List.length_map,zdu]; omega) (by simp only [List.length_singleton,List.length_map,maxLen]; omega)
      have sk':=G1.ok
      have hG2:=hG.trans G1
      simp [j3,j5,j7,j8,l1,l4,lo,zak,zaK,a1,hsk,sk']
      have hf1 : [a].filter (zcQ R x)=[a]:=by rw [List.filter_cons,hb]; rfl
      rw [hf1]
      exact fun _=>hG2
   ·have c3:¬ a.op=1:=fun h=>c2 (.inl h)
    have c4:¬ a.op=3:=fun h=>c2 (.inr h)
    have hn:zcQ R x a=false:=by unfold zcQ; rw [decide_eq_false c2]; simp
    simp [h11',hI,hh3,hh5,ix,opt,get,sp,l1,l4,lo,l6,l5,l5',le,c1,c3,c4,hlx,htx,hn]
    exact fun _=>hG
  ·have hn:zcQ R x a=false:=by unfold zcQ; rw [decide_eq_false c1]; rfl
   simp [h11',hI,hh3,hh5,ix,opt,get,sp,l1,l4,lo,l6,le,c1,hlx,htx,hn]
   exact fun _=>hG
 ·intro s l g H' hG hh hf
  simp only [zah,zaj,and_true] at hh
  rw [List.take_length] at hG
  exact he l g H' s hh.2 hG hf
theorem zpj {R:List Evt} (hR:R.length≤1000) (hok:∀ e∈R,EvOk e) (vr:GV) (hvr:Elems 27 vr (R.map evG)) (x:El) (H:GH) (hbt:H.bt≤H.toks.length) :
 ∃ v H',ecall T zp8 [vr,.agg (elC x)] H=some (v,H')∧Grown 27 H .nilsl ((zgR R x).map evG) H' v:=by
 have hl:=hvr.len
 have hu:=zac hvr
 have hk:=hvr.ok
 simp only [List.length_map] at hl
 have hlx:(elC x).length=5:=rfl
 have key:optW (ecall T zp8 [vr,.agg (elC x)] H) fun r=>∃ v H',r=(v,H')∧Grown 27 H .nilsl ((zgR R x).map evG) H' v:=by
  rw [zag zFA rfl (by simp [ztz]),zab]
  simp only [ztz,zCr]
  simp [hl,hu,hk]
  rw [zao,zai]
  refine zuy hR hok vr hvr x 0 _ _ H hbt _ (by simp [hu]) (by simp [hu]) (by simp) (by simp) (by simp) (by simp) ?_
  intro l g H' v k5 hG hf
  have ok:=hG.ok
  simp [k5,ok]
  exact ⟨v,H',⟨rfl,rfl⟩,hG⟩
 obtain ⟨r,h,v,H',rfl,h2⟩:=key
 exact ⟨v,H',h,h2⟩
def ixP {α:Type} (p:α→Bool) (out:List α):Nat:=(out.takeWhile p).length
def zio {α:Type} (p:α→Bool) (e:α) (out:List α):List α:=out.take (ixP p out)++e::out.drop (ixP p out)
theorem zmq {α:Type} {p:α→Bool} : ∀ {out:List α} {i:Nat},i≤out.length→(∀ k,k<i→∀ y,out[k]?=some y→p y=true)→(∀ y,out[i]?=some y→p y=false)→ixP p out=i
 | [],i,h,_,_=>by simp [ixP] at h ⊢; omega
 | y::out,0,_,_,h2=>by
  have:=h2 y rfl
  simp [ixP,List.takeWhile_cons,this]
 | y::out,i+1,h,h1,h2=>by
  have h0:=h1 0 (by omega) y rfl
  have ih:=zmq (p:=p) (out:=out) (i:=i) (by simpa using h) (fun k hk z hz=>h1 (k+1) (by omega) z (by simpa using hz)) (fun z hz=>h2 z (by simpa using hz))
  simp only [ixP] at ih ⊢
  rw [List.takeWhile_cons,h0]
  simp [ih]
theorem zxE {α:Type} (p:α→Bool) (out:List α):ixP p out≤out.length:=(List.takeWhile_sublist p).length_le
theorem zeO {H:GH} {ty sz bytes:Nat} {a b:GV} {xs ys:List GV} {z:GV} (ha:Elems sz a xs) (hb:Elems sz b ys) (hz:zbB sz (.sl sz [z] .exact)=some [z]) (hbt:H.bt≤H.toks.length) (hl:xs.length+ys.length≤1000) (hby:bytes≤256) :
 ∃ m H1 n H2 r H3,zaV H ty sz bytes (.sl sz [] .exact) a=some (m,H1)∧m.ok=true∧zaV H1 ty sz bytes m (.sl sz [z] .exact)=some (n,H2)∧n.ok=true∧zaV H2 ty sz bytes n b=some (r,H3)∧r.ok=true∧Elems sz r (xs++z::ys)∧TokStep none H H3:=by
 have hm:∀ k:Nat,k≤1001→k * bytes≤zdu:=fun k hk=>Nat.le_trans (Nat.mul_le_mul hk hby) (by simp only [zdu]; omega)
 obtain ⟨m,H1,a1,G1⟩:=zbj (H:=H) (ty:=ty) (bytes:=bytes) (x:=a) (App.exact (sz:=sz) []) ha.news hbt (hm _ (by simp only [List.length_nil]; omega)) (by simp only [List.length_nil,maxLen]; omega)
 obtain ⟨n,H2,a2,G2⟩:=zbj (ty:=ty) (bytes:=bytes) (x:=.sl sz [z] .exact) G1.app hz (G1.step.btle hbt) (hm _ (by simp only [List.length_append,List.length_nil,List.length_singleton]; omega)) (by simp only [List.length_append,List.length_nil,List.length_singleton,maxLen]; omega)
 have G12:=G1.trans G2
 obtain ⟨r,H3,a3,G3⟩:=zbj (ty:=ty) (bytes:=bytes) (x:=b) G2.app hb.news (G12.step.btle hbt) (hm _ (by simp only [List.length_append,List.length_nil,List.length_singleton]; omega)) (by simp only [List.length_append,List.length_nil,List.length_singleton,maxLen]; omega)
 have G:=G12.trans G3
 exact ⟨m,H1,n,H2,r,H3,a1,G1.ok,a2,G2.ok,a3,G.ok,by simpa using G.app.elems,G.step⟩
theorem zcC {n k:Nat} (h:k≤n):zbH n (.int .i64 (k:Int))=some k:=by
 simp only [zbH]; rw [if_pos (by omega)]; simp
theorem insP_mem {α:Type} {p:α→Bool} {e:α} {out:List α} {y:α} : y∈zio p e out↔y=e∨y∈out:=by
 unfold zio
 rw [List.mem_append,List.mem_cons]
 conv=>rhs; rw [← List.take_append_drop (ixP p out) out,List.mem_append]
 constructor
 ·rintro (h | h | h)
  ·exact .inr (.inl h)
  ·exact .inl h
  ·exact .inr (.inr h)
 ·rintro (h | h | h)
  ·exact .inr (.inl h)
  ·exact .inl h
  ·exact .inr (.inr h)
theorem zlc {α:Type} (p:α→Bool) (e:α) (out:List α):(zio p e out).length=out.length+1:=by
 have:=zxE p out
 unfold zio
 rw [List.length_append,List.length_cons,List.length_take,List.length_drop]
 omega
theorem zg6 {x:El} (h:ElBig x) (hr:ElRange x):zaC true kLs (elG x)=true:=by
 obtain ⟨h1,h2⟩:=hr
 have:=h.a; have:=h.b; have:=h.c; have:=h.d
 simp [zaC,elC,zaw,maxLen,IntKind.min,IntKind.max,IntKind.signed,IntKind.bits]
 omega
theorem zpk {x:El} (hk:zaC true kLs (elG x)=true):∀ {es:List (GV × GV)} {S:List Stp},zco zhT es=some S→Has es x (zce S x)
 | [],S,h=>by simp only [zco,Option.some.injEq] at h; subst h; exact .inl ⟨rfl,rfl⟩
 | p::es,S,h=>by
  simp only [zco] at h
  split at h
  ·rename_i a b ha hb
   injection h with h; subst h
   have ih:=zpk hk hb
   have hke:zca p.1 (elG x)=decide (a.1=x):=by
    obtain ⟨e1,_,o1⟩:=zeu ha
    rw [e1,Bool.eq_iff_iff,zaQ (zgm o1.fit o1.range) hk,decide_eq_true_eq]
    exact ⟨zex,fun h=>by rw [h]⟩
   unfold Has za5 zce at ih ⊢
   rw [List.find?_cons,List.find?_cons,hke]
   by_cases e:a.1=x
   ·simp only [e,decide_true]
    obtain ⟨_,⟨t,ht⟩,_⟩:=zeu ha
    exact .inr ⟨p.2,rfl,by rw [ht]; exact .sl _ _⟩
   ·simp only [e,decide_false]; exact ih
  ·cases h
def zxF (H:GH) (s m:Nat) (S:List Stp):Prop:=∃ es,H.objs[s]?=some (.cells 92 [.map m])∧H.objs[m]?=some (.map true kLs es)∧zco zhT es=some S
theorem Sto.rd {H:GH} {s m:Nat} {S:List Stp} (h:Sto H s m S):zxF H s m S:=by
 obtain ⟨⟨es,⟨h1,h2,_⟩,hd⟩,_⟩:=h
 exact ⟨es,h1,h2,hd⟩
theorem zqF {H:GH} {s m:Nat} {S:List Stp} (h:zxF H s m S) (x:El) (hk:zaC true kLs (elG x)=true) (hL:(zce S x).length≤1000000) (hbo:H.bo≤H.objs.length) :
 ∃ v',ecall T zqb [.ptr s 0,.agg (elC x)] H=some (v',zb9 (zce S x) H)∧Elems 5 v' ((zce S x).map zb8):=by
 obtain ⟨es,h1,h2,hd⟩:=h
 have hv:=zpk hk hd
 generalize zce S x=L at hv hL
 obtain ⟨w,c1,c2⟩:=zgn L _ hv.get hL H
 obtain ⟨v',hf,hE⟩:=zqI c2 hbo
 refine ⟨v', ?_,hE⟩
 have hok':w.ok=true:=by rcases c2.elems with ⟨_,h⟩ | ⟨_,h⟩; exact h.ok; subst h; rfl
 have hu':∀ t,zbJ t w=w:=by rcases c2.elems with ⟨_,h⟩ | ⟨_,h⟩; exact zac h; subst h; exact fun _=>rfl
 have gok:=hv.get.ok
 have gu:=zac hv.get
 have vok:=hE.ok
 have vu:=zac hE
 apply optW.eq
 rw [zag zCT rfl (by simp [znO]),zab]
 simp only [elG,elC] at hk c1 gok gu
 simp [znO,zzW,elC,h1,h2,hk,c1,hok',hu',hf,gok,gu,vok,vu,zbk,zdy]
def zfB (x y:El):Bool:=zoP y x
def zr3 (out:List El) (x:El):List El:=if out[ixP (zfB x) out]?=some x then out else zio (zfB x) x out
def zjC (out:List El) (e:Evt):List El:=zr3 out e.x
def za0 (R:List Evt):List El:=R.foldl zjC []
theorem zxG (e:Evt) (he:EvFit e) (out:List El) (ho:out.length≤1000) (v:GV) (hv:Elems 5 v (out.map elG)) (g5:Nat) (l0:List GV) (g0:Nat) (H0:GH) (K:GExit × St→Prop)
 (h3:zad l0 3=v) (h5:zad l0 5=.lbox g5 (evC e)) (h6:zad l0 6=.int .i64 0)
 (hk:∀ l g,zad l 6=.int .i64 (ixP (zfB e.x) out)→Fr zjW l0 l→K (.exit 2,⟨⟨l,g⟩,H0⟩)) :
 optW (erun T (.loop zjW) ⟨⟨l0,g0⟩,H0⟩) K:=by
 refine zcG (l0:=l0) (fun m l g H=>H=H0∧∃ i:Nat,m=out.length - i∧i≤out.length∧zad l 6=.int .i64 i∧∀ k,k<i→∀ y,out[k]?=some y→zfB e.x y=true) ?_ out.length l0 g0 H0 ⟨rfl,0,rfl,Nat.zero_le _,h6,fun k hk=>by omega⟩ (.refl _ _ _)
 intro m l g H ⟨hH,i,hm,hi,q6,lo⟩ hf
 subst hH
 have q3:=hf.get 3 rfl h3 (by simp [hv.boxy])
 have q5:=hf.get 5 rfl h5 rfl
 have hl:=hv.len
 have hu:=zac hv
 have hok:=hv.ok
 simp only [List.length_map] at hl
 have e1:=zc8 he.past
 have e6:=znw he.past
 by_cases hlt:i<out.length
 ·have hlt':(i:Int)<out.length:=by omega
  obtain ⟨lt,ix,opt,get,⟨t,sl⟩,wr_,mem⟩:=zbX (e:=elG) hv hlt (by omega)
  generalize out[i]'hlt=y at opt get mem
  have hle:=fun H=>zwP y e.x H
  have hw:IntKind.i64.wrap ((i:Int)+1)=(i:Int)+1:=zan (by omega) (by omega)
  have hlx:(elC y).length=5:=rfl
  have htx:List.take 5 (elC y)=elC y:=rfl
  rw [sl] at q3
  have hfd:zfB e.x y=zoP y e.x:=rfl
  cases hb:zoP y e.x with
  | true =>
   rw [hb] at hle
   simp [zjW,q3,q5,q6,hl,hlt',ix,opt,e1,e6,hlx,htx,hle,hw]
   refine ⟨out.length - (i+1),by omega,i+1,rfl,by omega,by simp,fun k hk z hz=>?_⟩
   rcases Nat.lt_or_ge k i with h | h
   ·exact lo k h z hz
   ·have:k=i:=by omega
    rw [this,opt] at hz
    injection hz with hz
    rw [← hz,hfd,hb]
  | false =>
   rw [hb] at hle
   have hx:=zmq (p:=zfB e.x) hi lo (fun z hz=>by rw [opt] at hz; injection hz with hz; rw [← hz,hfd,hb])
   simp [zjW,q3,q5,q6,hl,hlt',ix,opt,e1,e6,hlx,htx,hle,hw]
   exact fun hf'=>hk _ _ (by simp [q6,hx]) hf'
 ·have hie:i=out.length:=by omega
  have hx:=zmq (p:=zfB e.x) hi lo (fun z hz=>by rw [hie] at hz; simp at hz)
  simp [zjW,q3,q6,hl,hu,hok,hlt]
  exact fun hf'=>hk _ _ (by simp [q6,hx]) hf'
theorem zxH (out:List El) (x:El):(zr3 out x).length≤out.length+1:=by
 unfold zr3; split
 ·omega
 ·rw [zlc]; exact Nat.le_refl _
theorem zb0 (R:List Evt):(za0 R).length≤R.length:=by
 suffices h:∀ (l:List Evt) (out:List El),(l.foldl zjC out).length≤out.length+l.length by
  have:=h R []; simpa [za0] using this
 intro l
 induction l with
 | nil=>intro out; simp
 | cons e l ih=>intro out; rw [List.foldl_cons,List.length_cons]; have h1:=ih (zjC out e); have h2:(zjC out e).length≤out.length+1:=zxH out e.x; omega
theorem zqG {R:List Evt} (hR:R.length≤500) (hof:∀ y∈R,EvFit y) (vr:GV) (hvr:Elems 27 vr (R.map evG)) (l0:List GV) (g0:Nat) (H0:GH) (hbt:H0.bt≤H0.toks.length) (K:GExit × St→Prop)
 (h7:zad l0 7=vr) (h8:zad l0 8=.int .i64 R.length) (h9:zad l0 9=.int .i64 0) (h3:zad l0 3=.nilsl)
 (he:∀ l g H v,zad l 3=v→Elems 5 v ((za0 R).map elG)→TokStep none H0 H→Fr ztu l0 l→K (.exit 0,⟨⟨l,g⟩,H⟩)) :
 optW (erun T (.loop ztu) ⟨⟨l0,g0⟩,H0⟩) K:=by
 refine zau (T:=T) (n:=R.length) (A:=GV) (fun _ s=>[(3,s)]) (fun i s _ H'=>Elems 5 s ((za0 (R.take i)).map elG)∧TokStep none H0 H') (c:=10) (b:=0) (I:=9) (N:=8) (d:=54) rfl (by omega) (by decide) ⟨rfl,rfl⟩ (by simp) ?_ ?_ 0 .nilsl _ _ H0 (by omega) ⟨by rw [List.take_zero]; exact .nil,.refl _ _⟩ (by simp [h3]) (.refl _ _ _) h9 h8
 ·intro i s l g H' hi ⟨hE,hT⟩ hh hf hI
  have h7':=hf.get 7 rfl h7 (by simp [hvr.boxy])
  obtain ⟨lt,ix,opt,get,⟨t,sv⟩,wr_,mem⟩:=zbX (e:=evG) hvr hi (by omega)
  generalize R[i]'hi=e at opt get mem
  have hfe:=hof e mem
  have l1:=zc8 hfe.past
  have l4:List.take 27 (evC e)=evC e:=List.take_of_length_le (by rw [l1]; exact Nat.le_refl _)
  have lo:=zht hfe.past
  have sp:=zir hfe.past
  have l6:=znw hfe.past
  have hst:za0 (R.take (i+1))=zr3 (za0 (R.take i)) e.x:=by
   unfold za0; rw [zg7 zjC [] R i e opt,zjC]
  have hol:=zb0 (R.take i)
  rw [List.length_take,Nat.min_eq_left (by omega)] at hol
  rw [hst]
  generalize za0 (R.take i)=out at hE hol
  simp only [zah,zaj,and_true] at hh
  rw [sv] at h7'
  have hu:=zac hE
  have hl:=hE.len
  have hk:=hE.ok
  simp only [List.length_map] at hl
  simp [h7',hI,hh,ix,opt,get,sp,l1,l4,lo]
  rw [zai,zao,zai]
  refine zxG e hfe out (by omega) s hE g _ _ H' _ (by simp [hh]) (by simp) (by simp) ?_
  intro l2 g2 k6 hf2
  have k3:=hf2.get 3 rfl (v:=s) (by simp [hh]) (by simp [hE.boxy])
  have k5:=hf2.get 5 rfl (v:=.lbox g (evC e)) (by simp) rfl
  have hix:=zxE (zfB e.x) out
  have hb:=hT.btle hbt
  unfold zr3 zio
  generalize ixP (zfB e.x) out=k at k6 hix
  have go:out[k]?≠some e.x→zad l2 3=s→True:=fun _ _=>trivial
  have g1:zay (out.map elG).length false true false [.int .i64 (k:Int)]=some (0,k,none):=by
   simp only [zay,List.length_map,zcC hix,Option.map_some]
  have g2':zay (out.map elG).length true false false [.int .i64 (k:Int)]=some (k,out.length,none):=by
   simp only [zay,List.length_map,zcC hix,Option.map_some]
  obtain ⟨c1,d1,e1⟩:=hE.cut g1
  obtain ⟨c2,d2,e2⟩:=hE.cut g2'
  have o1:=e1.ok
  have o2:=e2.ok
  obtain ⟨m,H1,n,H2,r,H3,b1,b2,b3,b4,b5,b6,b7,b8⟩:=zeO (H:=H') (ty:=32) (bytes:=72) (z:=elG e.x) e1 e2 (by simp [zbB]) hb (by simp; omega) (by omega)
  have hx:((out.map elG).drop 0).take (k - 0)++elG e.x::((out.map elG).drop k).take (out.length - k)=(out.take k++e.x::out.drop k).map elG:=by
   rw [List.drop_zero,Nat.sub_zero,List.map_append,List.map_cons,List.map_take,List.map_drop,List.take_of_length_le (l:=(out.map elG).drop k) (by simp)]
  rw [hx] at b7
  have hlx:(elC e.x).length=5:=rfl
  have htx:List.take 5 (elC e.x)=elC e.x:=rfl
  have hone:(elC e.x).all GV.one=true:=rfl
  by_cases hlt:k<out.length
  ·have hne:¬ (k:Int)=out.length:=by omega
   have hne':¬ k=out.length:=by omega
   obtain ⟨_,kx,kopt,kget,⟨kt,ksl⟩,_,kmem⟩:=zbX (e:=elG) hE hlt (by omega)
   generalize out[k]'hlt=y at kopt kget kmem
   have le:=zin y e.x
   have hly:(elC y).length=5:=rfl
   have hty:List.take 5 (elC y)=elC y:=rfl
   by_cases hy:y=e.x
   ·rw [if_pos (by rw [kopt,hy])]
    rw [hy] at le kopt kget
    have k3':=k3
    rw [ksl] at k3
    simp [k3,k5,k6,hl,hu,hk,hne,hne',kx,kopt,l1,l6,le,hlx,htx]
    exact fun _=>⟨by rw [← ksl]; exact hE,hT⟩
   ·rw [if_neg (by rw [kopt]; intro h; injection h with h; exact hy h)]
    rw [decide_eq_false hy] at le
    subst ksl
    simp [-zdM,k3,k5,k6,hl,hne,hne',kx,kopt,l1,l6,le,hly,hty,hlx,htx,hone,d1,d2,o1,o2,zak,zaK,b1,b2,b3,b4,b5,b6]
    exact fun _=>⟨by simpa using b7,hT.trans b8⟩
  ·have hke:k=out.length:=by omega
   subst hke
   rw [if_neg (by simp)]
   simp [k3,k5,k6,hl,hu,hk,l1,l6,hlx,htx,hone,d1,d2,o1,o2,zak,zaK,b1,b2,b3,b4,b5,b6]
   exact fun _=>⟨by simpa using b7,hT.trans b8⟩
 ·intro s l g H' ⟨hE,hT⟩ hh hf
  simp only [zah,zaj,and_true] at hh
  rw [List.take_length] at hE
  exact he l g H' s hh hE hT hf
theorem zgl {R:List Evt} (hR:R.length≤500) (hof:∀ y∈R,EvFit y) (vr:GV) (hvr:Elems 27 vr (R.map evG)) (H:GH) (hbt:H.bt≤H.toks.length) :
 ∃ v H',ecall T zlS [vr] H=some (v,H')∧Elems 5 v ((za0 R).map elG)∧TokStep none H H':=by
 have hl:=hvr.len
 have hu:=zac hvr
 have hk:=hvr.ok
 simp only [List.length_map] at hl
 have key:optW (ecall T zlS [vr] H) fun r=>∃ v H',r=(v,H')∧Elems 5 v ((za0 R).map elG)∧TokStep none H H':=by
  rw [zag zFx rfl (by simp [ztv]),zab]
  simp only [ztv,zCq]
  simp [hl,hu,hk]
  rw [zao,zai]
  refine zqG hR hof vr hvr _ _ H hbt _ (by simp [hu]) (by simp) (by simp) (by simp) ?_
  intro l g H' v k3 hE hT hf
  have ok:=hE.ok
  simp [k3,ok]
  exact ⟨v,H',⟨rfl,rfl⟩,hE,hT⟩
 obtain ⟨r,h,v,H',rfl,h2⟩:=key
 exact ⟨v,H',h,h2⟩
theorem ziq {α:Type} {p:α→Bool} {e y:α} {out:List α} : zio p e (y::out)=if p y then y::zio p e out else e::y::out:=by
 unfold zio ixP
 rw [List.takeWhile_cons]
 split <;> simp
theorem zuz {α:Type} (p:α→Bool) (e:α) (out:List α):(zio p e out).Perm (e::out):=by
 unfold zio
 refine List.perm_middle.trans ?_
 rw [List.take_append_drop]
theorem zmr {x y:El} {out:List El} : zr3 (y::out) x=if zfB x y then y::zr3 out x else if y=x then y::out else x::y::out:=by
 unfold zr3
 have hi:ixP (zfB x) (y::out)=if zfB x y then ixP (zfB x) out+1 else 0:=by
  unfold ixP; rw [List.takeWhile_cons]; split <;> simp
 rw [hi]
 by_cases h:zfB x y
 ·rw [if_pos h,if_pos h,List.getElem?_cons_succ]
  split
  ·rfl
  ·rw [ziq,if_pos h]
 ·rw [if_neg h,if_neg h]
  by_cases h2:y=x
  ·rw [if_pos h2,if_pos (by rw [h2]; rfl)]
  ·rw [if_neg h2,if_neg (by simpa using h2),ziq,if_neg h]
def zz7 (l:List El):Prop:=l.Pairwise fun a b=>zdO a b<0
theorem zqH {x y z:El} (h1:zdO x y<0) (h2:zdO y z<0):zdO x z<0:=by
 have hs:=ordE_ok.swo fun p:El=>p
 have:=hs.trans x y z (decide_eq_true h1) (decide_eq_true h2)
 simpa using this
theorem addE_mem {x z:El} : ∀ {out:List El},z∈zr3 out x↔z=x∨z∈out
 | []=>by
  have:zr3 [] x=[x]:=rfl
  rw [this]; simp
 | y::out=>by
  rw [zmr]
  split
  ·rw [List.mem_cons,addE_mem,List.mem_cons]
   constructor
   ·rintro (h | h | h)
    ·exact .inr (.inl h)
    ·exact .inl h
    ·exact .inr (.inr h)
   ·rintro (h | h | h)
    ·exact .inr (.inl h)
    ·exact .inl h
    ·exact .inr (.inr h)
  ·split
   ·rename_i h
    rw [List.mem_cons]
    constructor
    ·exact fun h2=>.inr h2
    ·rintro (h2 | h2)
     ·exact .inl (by rw [h2,h])
     ·exact h2
   ·rw [List.mem_cons]
theorem zms {x:El} : ∀ {out:List El},zz7 out→zz7 (zr3 out x)
 | [],_=>by
  have:zr3 [] x=[x]:=rfl
  rw [this]; exact List.pairwise_singleton _ _
 | y::out,h=>by
  unfold zz7 at h
  rw [List.pairwise_cons] at h
  rw [zmr]
  split
  ·rename_i hl
   have ih:=zms (x:=x) h.2
   refine List.pairwise_cons.2 ⟨fun z hz=>?_,ih⟩
   rcases addE_mem.1 hz with rfl | hz
   ·simpa [zfB,zoP] using hl
   ·exact h.1 z hz
  ·rename_i hl
   split
   ·exact List.pairwise_cons.2 h
   ·rename_i hn
    have h1:¬ zdO y x<0:=by simpa [zfB,zoP] using hl
    have h2:zdO y x≠0:=fun e=>hn (ordE_ok.zero _ _ e)
    have h3:=ordE_ok.swap y x
    have h4:zdO x y<0:=by omega
    refine List.pairwise_cons.2 ⟨fun z hz=>?_,List.pairwise_cons.2 h⟩
    rcases List.mem_cons.1 hz with rfl | hz
    ·exact h4
    ·exact zqH h4 (h.1 z hz)
theorem zdC (R:List Evt):zz7 (za0 R)∧∀ z,z∈za0 R↔∃ e∈R,e.x=z:=by
 suffices h:∀ (l:List Evt) (out:List El),zz7 out→zz7 (l.foldl zjC out)∧∀ z,z∈l.foldl zjC out↔z∈out∨∃ e∈l,e.x=z by
  have:=h R [] List.Pairwise.nil
  exact ⟨this.1,fun z=>(this.2 z).trans (by simp)⟩
 intro l
 induction l with
 | nil=>intro out h; exact ⟨h,fun z=>by simp⟩
 | cons e l ih =>
  intro out h
  obtain ⟨h1,h2⟩:=ih (zjC out e) (zms h)
  refine ⟨h1,fun z=>?_⟩
  rw [List.foldl_cons,h2]
  unfold zjC
  rw [addE_mem]
  constructor
  ·rintro ((h3 | h3) | ⟨a,ha,h3⟩)
   ·exact .inr ⟨e,List.mem_cons_self,h3.symm⟩
   ·exact .inl h3
   ·exact .inr ⟨a,List.mem_cons_of_mem _ ha,h3⟩
  ·rintro (h3 | ⟨a,ha,h3⟩)
   ·exact .inl (.inr h3)
   ·rcases List.mem_cons.1 ha with rfl | ha
    ·exact .inl (.inl h3.symm)
    ·exact .inr ⟨a,ha,h3⟩
def zxI (S:List Stp) (x:El):Bool:=!decide (zce S x=[])
def zld (S:List Stp) (X:List El):List Stp:=(X.filter (zxI S)).map fun x=>(x,zce S x)
theorem zxJ {S:List Stp} {X:List El} (h:zz7 X):(zld S X).Pairwise fun p q=>zdO p.1 q.1<0:=by
 unfold zld
 rw [List.pairwise_map]
 exact h.filter _
theorem zxK {R:List Evt} (h:Row R) {H:GH} {s m:Nat} (hS:Sto H s m (zbK R)):zfh (zbK R)=zld (zbK R) (za0 R):=by
 obtain ⟨hr,hm⟩:=zdC R
 have hp:=zxJ (S:=zbK R) hr
 have nd:(zld (zbK R) (za0 R)).Nodup:=hp.imp fun {a b} hlt e=>by
  rw [e,ordE_ok.self] at hlt; omega
 have nd2:(zbK R).Nodup:=(List.pairwise_map.1 hS.ap).imp fun h e=>h (by rw [e])
 have hperm:(zld (zbK R) (za0 R)).Perm (zbK R):=by
  rw [List.perm_iff_count]
  intro p
  rw [nd.count,nd2.count]
  have key:p∈zld (zbK R) (za0 R)↔p∈zbK R:=by
   unfold zld
   rw [List.mem_map]
   constructor
   ·rintro ⟨x,hx,rfl⟩
    have:=(List.mem_filter.1 hx).2
    simp only [zxI,Bool.not_eq_true',decide_eq_false_iff_not] at this
    exact zwF this
   ·intro hm2
    have e:=zo2 hS.ap hm2
    have hne:zce (zbK R) p.1≠[]:=by rw [e]; exact hS.ne_nil p hm2
    refine ⟨p.1,List.mem_filter.2 ⟨(hm p.1).2 ?_,by simp [zxI,hne]⟩,by rw [e]⟩
    have hl:=zlb h p.1
    have:zgR R p.1≠[]:=fun e0=>by
     rw [e0] at hl
     exact hne hl.eq_nil
    obtain ⟨a,ha⟩:=List.exists_mem_of_ne_nil _ this
    have ha:=List.mem_filter.1 ha
    have hb:=ha.2
    unfold zcQ at hb
    simp only [Bool.and_eq_true,decide_eq_true_eq] at hb
    exact ⟨a,ha.1,hb.1.1⟩
  by_cases hc:p∈zbK R
  ·rw [if_pos hc,if_pos (key.2 hc)]
  ·rw [if_neg hc,if_neg (fun h2=>hc (key.1 h2))]
 have h1:=zf7 hperm (apart_of.2 hS.ap)
 unfold zfh
 rw [← h1]
 refine (zhl (l:=zld (zbK R) (za0 R)) (.refl _) (hp.imp fun {a b} hlt=>?_) znq fun a b ha hb e1 e2=>?_).symm
 ·have:=ordE_ok.swap a.1 b.1
  show decide (zdO b.1 a.1<0)=false
  exact decide_eq_false (by omega)
 ·have e1:decide (zdO a.1 b.1<0)=false:=e1
  have e2:decide (zdO b.1 a.1<0)=false:=e2
  have h2:=of_decide_eq_false e1
  have h3:=of_decide_eq_false e2
  have h4:=ordE_ok.swap a.1 b.1
  have h5:a.1=b.1:=ordE_ok.zero _ _ (by omega)
  obtain ⟨x,_,rfl⟩:=List.mem_map.1 ha
  obtain ⟨y,_,rfl⟩:=List.mem_map.1 hb
  have h5:x=y:=h5
  rw [h5]
end Go.Proofs.YtchjbidfmhmmhaaGreatDoor
