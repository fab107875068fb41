/- Own work: the zaM machine and what it shows, part Lv. -/
import Derived.Test.YtchjbidfmhmmhaaGreatDoorCo
import Derived.Test.YtchjbidfmhmmhaaGreatDoorEl
set_option linter.all false
namespace Go.Proofs.YtchjbidfmhmmhaaGreatDoor
open Go.Sh
set_option maxHeartbeats 4000000
set_option maxRecDepth 100000
def zhE (v:List Int) (r c:Int):Bool:=decide (c≤zdE v r)
def zcA (x:El) (y a:Evt):Bool:=(decide (y.x=x)&&!decide (y.op=1))&&(!decide (y.r=a.r∧y.c=a.c)&&zhE y.past a.r a.c)
def zcN (R:List Evt) (x:El) (a:Evt):Bool:=(decide (a.x=x)&&decide (a.op=1∨a.op=3))&&!R.any fun y=>zcA x y a
def zg6 (R:List Evt) (x:El):List Evt:=R.filter (zcN R x)
theorem zgv:∀ {l:List Evt} {v:List Int},v.length=16→zdT v l→(∀ k:Int,0≤k→zdE v k≤zdE (zcB v l) k)∧∀ y∈l,evB y=true∧zdE v y.r<y.c∧y.c≤zdE (zcB v l) y.r∧∀ k:Int,0≤k→k<16→zdE y.past k≤zdE (zcB v l) k
 | [],v,_,_=>⟨fun k _=>Int.le_refl _,fun y h=>by cases h⟩
 | e::l,v,hv,hc=>by
  obtain ⟨hf,hc⟩:=hc
  obtain ⟨hb,ha,hp⟩:=zid hf
  obtain ⟨r0,r1,c0,c1⟩:=zfY hb
  have hat:=zAv hv (c:=e.c) r0 r1
  obtain ⟨h1,h2⟩:=zgv (v:=zsJ v e) (by simp [zsJ,hv]) hc
  have up1:∀ k:Int,0≤k→zdE v k≤zdE (zsJ v e) k:=fun k hk=>by
   unfold zsJ; rw [hat k hk]; split
   ·rename_i e1; rw [e1]; omega
   ·exact Int.le_refl _
  refine ⟨fun k hk=>Int.le_trans (up1 k hk) (h1 k hk),fun y hy=>?_⟩
  rcases List.mem_cons.1 hy with rfl | hy
  ·refine ⟨hb,by omega, ?_,fun k hk hk2=>?_⟩
   ·have:=h1 y.r r0
    unfold zsJ at this
    rw [hat y.r r0,if_pos rfl] at this
    exact this
   ·have h3:=hp k.toNat (by omega)
    rw [Int.toNat_of_nonneg hk] at h3
    exact Int.le_trans h3 (Int.le_trans (up1 k hk) (h1 k hk))
  ·obtain ⟨q1,q2,q3,q4⟩:=h2 y hy
   have:=up1 y.r (zfY q1).1
   exact ⟨q1,by omega,q3,q4⟩
theorem zuE (L:List Ent) (x:Ent):(zkE L x).Perm (L++[x]):=by
 unfold zkE
 refine List.perm_middle.trans ?_
 refine (List.Perm.cons x (List.filter_append_perm (fun y=>decide (zdV y x<0)) L)).trans ?_
 exact (List.perm_append_singleton x L).symm
theorem zjG {α β:Type} (f:α→β) (p:β→Bool) (l:List α):(l.map f).filter p=(l.filter fun a=>p (f a)).map f:=by
 rw [List.filter_map]; rfl
theorem zuF {l:List Evt} {e:Evt} (hl:zdT zero16 l) (hf:zk9 (zcB zero16 l) e=true) (x:El) :
 zg6 (l++[e]) x=(if x=e.x then ((if e.op=1 then zg6 l x else (zg6 l x).filter fun a=>!zck e.past a.r a.c)++if e.op=1∨e.op=3 then [e] else []) else zg6 l x):=by
 obtain ⟨_,hu⟩:=zgv (v:=zero16) rfl hl
 obtain ⟨hb,ha,hp⟩:=zid hf
 obtain ⟨r0,r1,c0,c1⟩:=zfY hb
 have hB:∀ a,zcN (l++[e]) x a=(zcN l x a&&!zcA x e a):=fun a=>by
  unfold zcN
  rw [List.any_append]
  simp only [List.any_cons,List.any_nil,Bool.or_false,Bool.not_or,Bool.and_assoc]
 unfold zg6
 rw [List.filter_append]
 by_cases hx:x=e.x
 ·rw [if_pos hx]
  have he : [e].filter (zcN (l++[e]) x)=if e.op=1∨e.op=3 then [e] else []:=by
   have hn:zcA x e e=false:=by simp [zcA]
   have hany:(l.any fun y=>zcA x y e)=false:=by
    rw [List.any_eq_false]
    intro y hy
    obtain ⟨_,_,_,q4⟩:=hu y hy
    have:=q4 e.r r0 r1
    have hk:zhE y.past e.r e.c=false:=by unfold zhE; exact decide_eq_false (by omega)
    simp [zcA,hk]
   have:zcN (l++[e]) x e=decide (e.op=1∨e.op=3):=by
    rw [hB,hn]; unfold zcN; rw [hany,hx]; simp
   rw [List.filter_cons,this]
   by_cases ho:e.op=1∨e.op=3
   ·rw [if_pos ho,if_pos (decide_eq_true ho)]; rfl
   ·rw [if_neg ho,if_neg (by simpa using ho)]; rfl
  rw [he]
  congr 1
  by_cases ho:e.op=1
  ·rw [if_pos ho]
   apply List.filter_congr
   intro a _
   rw [hB]; simp [zcA,ho]
  ·rw [if_neg ho,List.filter_filter]
   apply List.filter_congr
   intro a hm
   obtain ⟨q1,_,q3,_⟩:=hu a hm
   have hd:=zfY q1
   have hne:¬ (e.r=a.r∧e.c=a.c):=fun h=>by
    rw [← h.1,ha] at q3; omega
   have hk:zck e.past a.r a.c=zhE e.past a.r a.c:=by
    have:zg4 a.r a.c=true:=by simp only [zg4,decide_eq_true_eq]; exact hd
    unfold zck zhE; rw [this,Bool.true_and]
   rw [hB,hk,Bool.and_comm]
   unfold zcA
   rw [hx,decide_eq_false ho,decide_eq_false hne]
   simp
 ·rw [if_neg hx]
  have h0:∀ a,zcA x e a=false:=fun a=>by
   unfold zcA; rw [decide_eq_false (fun h=>hx h.symm)]; rfl
  have he : [e].filter (zcN (l++[e]) x)=[]:=by
   have:zcN (l++[e]) x e=false:=by
    rw [hB]; unfold zcN; rw [decide_eq_false (fun h=>hx h.symm)]; rfl
   rw [List.filter_cons,this]; rfl
  rw [he,List.append_nil]
  apply List.filter_congr
  intro a _
  rw [hB,h0]; simp
theorem zuG {R:List Evt} (h:Row R) (x:El):∀ i≤R.length,(zcd (zbP (R.take i)) x).Perm ((zg6 (R.take i) x).map zha)
 | 0,_=>by rw [List.take_zero]; exact .refl _
 | i+1,hi=>by
  have ih:=zuG h x i (by omega)
  obtain ⟨e,he⟩:∃ e,R[i]?=some e:=⟨R[i],List.getElem?_eq_getElem (by omega)⟩
  obtain ⟨hg,hf,hd⟩:=h.at_ he
  have ht:R.take (i+1)=R.take i++[e]:=by rw [List.take_add_one,he]; rfl
  have hc:zdT zero16 (R.take i):=by
   have:=h.causl
   rw [← List.take_append_drop i R] at this
   exact (causl_app.1 this).1
  rw [hd,ht,zuF hc hf]
  unfold doF
  rw [zqg]
  by_cases hx:x=e.x
  ·rw [if_pos hx,if_pos hx,← hx]
   have hcut:(zjU e (zcd (zbP (R.take i)) x)).Perm ((if e.op=1 then zg6 (R.take i) x else (zg6 (R.take i) x).filter fun a=>!zck e.past a.r a.c).map zha):=by
    unfold zjU
    by_cases ho:e.op=1
    ·rw [if_pos ho,if_pos ho]; exact ih
    ·rw [if_neg ho,if_neg ho]
     have:=ih.filter fun y=>!zck e.past y.r y.c
     rw [zjG] at this
     exact this
   unfold doL
   by_cases ho:e.op=1∨e.op=3
   ·rw [if_pos ho,if_pos ho,List.map_append]
    exact (zuE _ _).trans (hcut.append_right _)
   ·rw [if_neg ho,if_neg ho,List.append_nil]
    exact hcut
  ·rw [if_neg hx,if_neg hx]; exact ih
theorem zk5 {R:List Evt} (h:Row R) (x:El):(zcd (zbP R) x).Perm ((zg6 R x).map zha):=by
 have:=zuG h x R.length (Nat.le_refl _)
 rwa [List.take_length] at this
theorem zAY (a b:List UInt8):(mkB a == mkB b)=decide (a=b):=by
 by_cases h:a=b
 ·subst h; rw [zAC]; simp
 ·rw [decide_eq_false h,Bool.eq_false_iff]
  intro e
  have:mkB a=mkB b:=by
   rcases ha:mkB a with ⟨x⟩
   rcases hb:mkB b with ⟨y⟩
   rw [ha,hb] at e
   have e:(x == y)=true:=e
   rw [eq_of_beq e]
  have:=congrArg (fun b:ByteArray=>b.data.toList) this
  simp only [zbC] at this
  exact h this
theorem zmt (x y:El):zaC [.int .i64,.str,.str,.str,.str] (elC x) (elC y)=some (decide (x=y)):=by
 have:decide (x=y)=(decide (x.k=y.k)&&(decide (x.a=y.a)&&(decide (x.b=y.b)&&(decide (x.c=y.c)&&decide (x.d=y.d))))):=by
  rw [Bool.eq_iff_iff]
  simp only [Bool.and_eq_true,decide_eq_true_eq]
  constructor
  ·intro h; subst h; exact ⟨rfl,rfl,rfl,rfl,rfl⟩
  ·rintro ⟨h1,h2,h3,h4,h5⟩
   cases x; cases y; simp_all
 rw [this]
 by_cases h1:x.k=y.k <;> by_cases h2:x.a=y.a <;> by_cases h3:x.b=y.b <;> by_cases h4:x.c=y.c <;> by_cases h5:x.d=y.d <;> simp [zaC,za7,elC,zAY,h1,h2,h3,h4,h5]
theorem zq9 (r c r' c':Int):zaC [.int .i64,.int .i64] [.int .i64 r,.int .i64 c] [.int .i64 r',.int .i64 c']=some (decide (r=r'∧c=c')):=by
 by_cases h1:r=r' <;> by_cases h2:c=c' <;> simp [zaC,za7,h1,h2]
theorem zhh (k n:Int) (t:List UInt8) (k' n':Int) (t':List UInt8):zaC [.int .i64,.int .i64,.str] [.int .i64 k,.int .i64 n,.str (mkB t)] [.int .i64 k',.int .i64 n',.str (mkB t')]=some (decide (k=k'∧n=n'∧t=t')):=by
 by_cases h1:k=k' <;> by_cases h2:n=n' <;> by_cases h3:t=t' <;> simp [zaC,za7,zAY,h1,h2,h3]
theorem zuH (v:List Int) (hv:v.length=16) (r c:Int) (h0:0≤r) (h1:r<16) (H:GH):ecall T zxZ [.agg (v.map zft),.agg [.int .i64 r,.int .i64 c]] H=some (.bool (zhE v r c),H):=by
 have hi:=zsU h0 h1
 have ha:=zok hv (k:=r.toNat) (by omega)
 have hat':zdE v ((r.toNat:Nat):Int)=zdE v r:=by simp only [zdE,Int.toNat_natCast]
 rw [hat'] at ha
 apply optW.eq
 rw [zae zHk rfl (by simp [zub]),zab]
 simp [zub,zDL,hi,ha,zhE]
structure EvOk (e:Evt):Prop where
 fit:EvFit e
 ok:evB e=true
theorem EvOk.dot {e:Evt} (h:EvOk e):0≤e.r∧e.r<16∧1≤e.c∧e.c≤1048576:=zfY h.ok
theorem zAZ {R:List Evt} (hR:R.length≤1000) (hok:∀ e∈R,EvOk e) (vr:GV) (hvr:Elems 27 vr (R.map evG)) (x:El) (a:Evt) (ha:EvOk a) (g3 g7:Nat) (l0:List GV) (g0:Nat) (H0:GH) (K:GExit × St→Prop)
 (h31:zai l0 31=vr) (h32:zai l0 32=.int .i64 R.length) (h33:zai l0 33=.int .i64 0) (h3:zai l0 3=.lbox g3 (elC x)) (h7:zai l0 7=.lbox g7 (evC a)) (h8:zai l0 8=.bool true)
 (he:∀ l g,zai l 3=.lbox g3 (elC x)→zai l 7=.lbox g7 (evC a)→zai l 8=.bool (!R.any fun y=>zcA x y a)→Fr zpA l0 l→K (.exit 2,⟨⟨l,g⟩,H0⟩)) :
 optW (erun T (.loop zpA) ⟨⟨l0,g0⟩,H0⟩) K:=by
 refine zaN (T:=T) (n:=R.length) (A:=Unit) (fun i _=>[(3,.lbox g3 (elC x)),(7,.lbox g7 (evC a)),(8,.bool (!(R.take i).any fun y=>zcA x y a))]) (fun i _ _ H'=>H'=H0) (c:=34) (b:=2) (I:=33) (N:=32) (d:=60) rfl (by omega) (by decide) ⟨rfl,rfl⟩ (by simp) ?_ ?_ 0 () _ _ H0 (by omega) rfl (by simp [h3,h7,h8]) (.refl _ _ _) h33 h32
 ·intro i u l g H' hi hH hh hf hI
  subst hH
  have h31':=hf.get 31 rfl h31 (by simp [hvr.boxy])
  obtain ⟨lt,ix,opt,get,⟨t,sv⟩,wr_,mem⟩:=zbL (e:=evG) hvr hi (by omega)
  generalize R[i]'hi=y at opt get mem
  obtain ⟨hfy,hby⟩:=hok y mem
  have l1:=zdv hfy.past
  have l4:List.take 27 (evC y)=evC y:=List.take_of_length_le (by rw [l1]; exact Nat.le_refl _)
  have lo:=zih hfy.past
  have sp:=zkb hfy.past
  have l6:=zsW hfy.past
  have l5:=zqC hfy.past
  have l5':=zlR hfy.past
  have l3:=zlS y
  have l2:=zhc hfy.past
  have a1:=zdv ha.fit.past
  have a3:=zlS a
  have le:=zmt y.x x
  have ld:=zq9 y.r y.c a.r a.c
  have hkn:=fun H=>zuH y.past hfy.past a.r a.c ha.dot.1 ha.dot.2.1 H
  simp only [zaE,zaL,and_true] at hh
  obtain ⟨hh3,hh7,hh8⟩:=hh
  have hs:(!(R.take (i+1)).any fun y=>zcA x y a)=((!(R.take i).any fun y=>zcA x y a)&&!zcA x y a):=by
   rw [List.take_add_one,opt,List.any_append]; simp
  rw [hs]
  generalize (!(R.take i).any fun y=>zcA x y a)=b8 at hh8
  have hlx:(elC x).length=5:=rfl
  have htx:List.take 5 (elC x)=elC x:=rfl
  rw [sv] at h31'
  unfold zcA
  by_cases c1:y.x=x
  ·rw [c1] at l6 le
   by_cases c2:y.op=1
   ·simp [h31',hI,hh3,hh7,hh8,ix,opt,get,sp,l1,l4,lo,l6,l5,l5',le,c1,c2,hlx,htx]
   ·by_cases c3:y.r=a.r∧y.c=a.c
    ·rw [c3.1,c3.2] at ld
     simp [h31',hI,hh3,hh7,hh8,ix,opt,get,sp,l1,l4,lo,l6,l5,l5',l3,a1,a3,ld,le,c1,c2,c3,hlx,htx]
    ·cases hk:zhE y.past a.r a.c with
     | false =>
      rw [hk] at hkn
      simp [h31',hI,hh3,hh7,hh8,ix,opt,get,sp,l1,l4,lo,l6,l5,l5',l3,l2,a1,a3,ld,le,c1,c2,c3,hkn,hlx,htx]
     | true =>
      rw [hk] at hkn
      simp [h31',hI,hh3,hh7,hh8,ix,opt,get,sp,l1,l4,lo,l6,l5,l5',l3,l2,a1,a3,ld,le,c1,c2,c3,hkn,hlx,htx]
  ·simp [h31',hI,hh3,hh7,hh8,ix,opt,get,sp,l1,l4,lo,l6,le,c1,hlx,htx]
 ·intro u l g H' hH hh hf
  subst hH
  simp only [zaE,zaL,and_true] at hh
  rw [List.take_length] at hh
  exact he l g hh.1 hh.2.1 hh.2.2 hf
theorem zuI {R:List Evt} (hR:R.length≤1000) (hok:∀ e∈R,EvOk e) (vr:GV) (hvr:Elems 27 vr (R.map evG)) (x:El) (g3:Nat) (l0:List GV) (g0:Nat) (H0:GH) (hbt:H0.bt≤H0.toks.length) (K:GExit × St→Prop)
 (h0:zai l0 0=vr) (h11:zai l0 11=vr) (h12:zai l0 12=.int .i64 R.length) (h13:zai l0 13=.int .i64 0) (h3:zai l0 3=.lbox g3 (elC x)) (h5:zai l0 5=.nilsl)
 (he:∀ l g H v,zai l 5=v→Grown 27 H0 .nilsl ((zg6 R x).map evG) H v→Fr ztU l0 l→K (.exit 0,⟨⟨l,g⟩,H⟩)) :
 optW (erun T (.loop ztU) ⟨⟨l0,g0⟩,H0⟩) K:=by
 refine zaN (T:=T) (n:=R.length) (A:=GV) (fun _ s=>[(3,.lbox g3 (elC x)),(5,s)]) (fun i s _ H'=>Grown 27 H0 .nilsl (((R.take i).filter (zcN R x)).map evG) H' s) (c:=14) (b:=0) (I:=13) (N:=12) (d:=66) rfl (by omega) (by decide) ⟨rfl,rfl⟩ (by simp) ?_ ?_ 0 .nilsl _ _ H0 (by omega) (by simpa using Grown.refl App.nil) (by simp [h3,h5]) (.refl _ _ _) h13 h12
 ·intro i s l g H' hi hG hh hf hI
  have h0':=hf.get 0 rfl h0 (by simp [hvr.boxy])
  have h11':=hf.get 11 rfl h11 (by simp [hvr.boxy])
  have hl:=hvr.len
  have hu:=zad hvr
  have hk:=hvr.ok
  simp only [List.length_map] at hl
  obtain ⟨lt,ix,opt,get,⟨t,sv⟩,wr_,mem⟩:=zbL (e:=evG) hvr hi (by omega)
  generalize R[i]'hi=a at opt get mem
  have ha:=hok a mem
  have l1:=zdv ha.fit.past
  have l4:List.take 27 (evC a)=evC a:=List.take_of_length_le (by rw [l1]; exact Nat.le_refl _)
  have lo:=zih ha.fit.past
  have sp:=zkb ha.fit.past
  have l6:=zsW ha.fit.past
  have l5:=zqC ha.fit.past
  have l5':=zlR ha.fit.past
  have le:=zmt a.x x
  have hlx:(elC x).length=5:=rfl
  have htx:List.take 5 (elC x)=elC x:=rfl
  have ht:R.take (i+1)=R.take i++[a]:=by rw [List.take_add_one,opt]; rfl
  rw [ht,List.filter_append]
  have hfl:((R.take i).filter (zcN R x)).length≤1000:=Nat.le_trans (List.length_filter_le _ _) (by rw [List.length_take]; omega)
  generalize (R.take i).filter (zcN R x)=F at hG hfl
  simp only [zaE,zaL,and_true] at hh
  obtain ⟨hh3,hh5⟩:=hh
  have h11s:=h11'
  rw [sv] at h11'
  have hsk:=hG.ok
  have hse:=hG.app.elems
  have hsb:=hse.boxy
  by_cases c1:a.x=x
  ·rw [c1] at l6 le
   by_cases c2:a.op=1∨a.op=3
   ·have hlv:zcN R x a=!R.any fun y=>zcA x y a:=by unfold zcN; rw [c1,decide_eq_true c2]; simp
    have key:∀ (l1':List GV),zai l1' 31=vr→zai l1' 32=.int .i64 R.length→zai l1' 33=.int .i64 0→zai l1' 3=.lbox g3 (elC x)→zai l1' 7=.lbox g (evC a)→zai l1' 8=.bool true→zai l1' 5=s →
     optW (erun T (.loop zpA) ⟨⟨l1',g+1⟩,H'⟩) fun r=>∃ l2 g2,r=(.exit 2,⟨⟨l2,g2⟩,H'⟩)∧zai l2 3=.lbox g3 (elC x)∧zai l2 7=.lbox g (evC a)∧zai l2 8=.bool (zcN R x a)∧zai l2 5=s:=fun l1' k31 k32 k33 k3 k7 k8 k5=>by
     refine zAZ hR hok vr hvr x a ha g3 g l1' (g+1) H' _ k31 k32 k33 k3 k7 k8 ?_
     intro l2 g2 j3 j7 j8 hf2
     exact ⟨l2,g2,rfl,j3,j7,by rw [hlv]; exact j8,hf2.get 5 rfl k5 (by simp [hsb])⟩
    rcases c2 with c2 | c2
    all_goals
     simp [h11',h0',hl,hu,hk,hI,hh3,hh5,ix,opt,get,sp,l1,l4,lo,l6,l5,l5',le,c1,c2,hlx,htx]
     rw [zap,zav,zap]
     refine optW.mono (key _ (by simp [hu]) (by simp) (by simp) (by simp [hh3]) (by simp) (by simp) (by simp [hh5])) ?_
     rintro _ ⟨l2,g2,rfl,j3,j7,j8,j5⟩
     cases hb:zcN R x a with
     | false =>
      rw [hb] at j8
      simp [j3,j5,j8]
      have hf0 : [a].filter (zcN R x)=[]:=by rw [List.filter_cons,hb]; rfl
      rw [hf0,List.map_nil,List.append_nil]
      exact fun _=>hG
     | true =>
      rw [hb] at j8
      obtain ⟨s',H2,a1,G1⟩:=zbT (ty:=36) (bytes:=256) (ys:=[evG a]) (x:=.sl 27 [evG a] .exact) hG.app (by simp [zbS]) (hG.step.btle hbt) (by simp only [List.length_singleton,List.length_map,zeu]; omega) (by simp only [List.length_singleton,List.length_map,maxLen]; omega)
      have sk':=G1.ok
      have hG2:=hG.trans G1
      simp [j3,j5,j7,j8,l1,l4,lo,zan,zaf,a1,hsk,sk']
      have hf1 : [a].filter (zcN R x)=[a]:=by rw [List.filter_cons,hb]; rfl
      rw [hf1]
      exact fun _=>hG2
   ·have c3:¬ a.op=1:=fun h=>c2 (.inl h)
    have c4:¬ a.op=3:=fun h=>c2 (.inr h)
    have hn:zcN R x a=false:=by unfold zcN; rw [decide_eq_false c2]; simp
    simp [h11',hI,hh3,hh5,ix,opt,get,sp,l1,l4,lo,l6,l5,l5',le,c1,c3,c4,hlx,htx,hn]
    exact fun _=>hG
  ·have hn:zcN R x a=false:=by unfold zcN; rw [decide_eq_false c1]; rfl
   simp [h11',hI,hh3,hh5,ix,opt,get,sp,l1,l4,lo,l6,le,c1,hlx,htx,hn]
   exact fun _=>hG
 ·intro s l g H' hG hh hf
  simp only [zaE,zaL,and_true] at hh
  rw [List.take_length] at hG
  exact he l g H' s hh.2 hG hf
theorem zpK {R:List Evt} (hR:R.length≤1000) (hok:∀ e∈R,EvOk e) (vr:GV) (hvr:Elems 27 vr (R.map evG)) (x:El) (H:GH) (hbt:H.bt≤H.toks.length) :
 ∃ v H',ecall T zqI [vr,.agg (elC x)] H=some (v,H')∧Grown 27 H .nilsl ((zg6 R x).map evG) H' v:=by
 have hl:=hvr.len
 have hu:=zad hvr
 have hk:=hvr.ok
 simp only [List.length_map] at hl
 have hlx:(elC x).length=5:=rfl
 have key:optW (ecall T zqI [vr,.agg (elC x)] H) fun r=>∃ v H',r=(v,H')∧Grown 27 H .nilsl ((zg6 R x).map evG) H' v:=by
  rw [zae zG3 rfl (by simp [ztV]),zab]
  simp only [ztV,zDx]
  simp [hl,hu,hk]
  rw [zav,zap]
  refine zuI hR hok vr hvr x 0 _ _ H hbt _ (by simp [hu]) (by simp [hu]) (by simp) (by simp) (by simp) (by simp) ?_
  intro l g H' v k5 hG hf
  have ok:=hG.ok
  simp [k5,ok]
  exact ⟨v,H',⟨rfl,rfl⟩,hG⟩
 obtain ⟨r,h,v,H',rfl,h2⟩:=key
 exact ⟨v,H',h,h2⟩
def ixP {α:Type} (p:α→Bool) (out:List α):Nat:=(out.takeWhile p).length
def zlF {α:Type} (p:α→Bool) (e:α) (out:List α):List α:=out.take (ixP p out)++e::out.drop (ixP p out)
theorem zyq {α:Type} {p:α→Bool} : ∀ {out:List α} {i:Nat},i≤out.length→(∀ k,k<i→∀ y,out[k]?=some y→p y=true)→(∀ y,out[i]?=some y→p y=false)→ixP p out=i
 | [],i,h,_,_=>by simp [ixP] at h ⊢; omega
 | y::out,0,_,_,h2=>by
  have:=h2 y rfl
  simp [ixP,List.takeWhile_cons,this]
 | y::out,i+1,h,h1,h2=>by
  have h0:=h1 0 (by omega) y rfl
  have ih:=zyq (p:=p) (out:=out) (i:=i) (by simpa using h) (fun k hk z hz=>h1 (k+1) (by omega) z (by simpa using hz)) (fun z hz=>h2 z (by simpa using hz))
  simp only [ixP] at ih ⊢
  rw [List.takeWhile_cons,h0]
  simp [ih]
theorem zEv {α:Type} (p:α→Bool) (out:List α):ixP p out≤out.length:=(List.takeWhile_sublist p).length_le
theorem zmu {H:GH} {ty sz bytes:Nat} {a b:GV} {xs ys:List GV} {z:GV} (ha:Elems sz a xs) (hb:Elems sz b ys) (hz:zbS sz (.sl sz [z] .exact)=some [z]) (hbt:H.bt≤H.toks.length) (hl:xs.length+ys.length≤1000) (hby:bytes≤256) :
 ∃ m H1 n H2 r H3,zbb H ty sz bytes (.sl sz [] .exact) a=some (m,H1)∧m.ok=true∧zbb H1 ty sz bytes m (.sl sz [z] .exact)=some (n,H2)∧n.ok=true∧zbb H2 ty sz bytes n b=some (r,H3)∧r.ok=true∧Elems sz r (xs++z::ys)∧TokStep none H H3:=by
 have hm:∀ k:Nat,k≤1001→k * bytes≤zeu:=fun k hk=>Nat.le_trans (Nat.mul_le_mul hk hby) (by simp only [zeu]; omega)
 obtain ⟨m,H1,a1,G1⟩:=zbT (H:=H) (ty:=ty) (bytes:=bytes) (x:=a) (App.exact (sz:=sz) []) ha.news hbt (hm _ (by simp only [List.length_nil]; omega)) (by simp only [List.length_nil,maxLen]; omega)
 obtain ⟨n,H2,a2,G2⟩:=zbT (ty:=ty) (bytes:=bytes) (x:=.sl sz [z] .exact) G1.app hz (G1.step.btle hbt) (hm _ (by simp only [List.length_append,List.length_nil,List.length_singleton]; omega)) (by simp only [List.length_append,List.length_nil,List.length_singleton,maxLen]; omega)
 have G12:=G1.trans G2
 obtain ⟨r,H3,a3,G3⟩:=zbT (ty:=ty) (bytes:=bytes) (x:=b) G2.app hb.news (G12.step.btle hbt) (hm _ (by simp only [List.length_append,List.length_nil,List.length_singleton]; omega)) (by simp only [List.length_append,List.length_nil,List.length_singleton,maxLen]; omega)
 have G:=G12.trans G3
 exact ⟨m,H1,n,H2,r,H3,a1,G1.ok,a2,G2.ok,a3,G.ok,by simpa using G.app.elems,G.step⟩
theorem zfX {n k:Nat} (h:k≤n):zb8 n (.int .i64 (k:Int))=some k:=by
 simp only [zb8]; rw [if_pos (by omega)]; simp
theorem insP_mem {α:Type} {p:α→Bool} {e:α} {out:List α} {y:α} : y∈zlF p e out↔y=e∨y∈out:=by
 unfold zlF
 rw [List.mem_append,List.mem_cons]
 conv=>rhs; rw [← List.take_append_drop (ixP p out) out,List.mem_append]
 constructor
 ·rintro (h | h | h)
  ·exact .inr (.inl h)
  ·exact .inl h
  ·exact .inr (.inr h)
 ·rintro (h | h | h)
  ·exact .inr (.inl h)
  ·exact .inl h
  ·exact .inr (.inr h)
theorem zyr {α:Type} (p:α→Bool) (e:α) (out:List α):(zlF p e out).length=out.length+1:=by
 have:=zEv p out
 unfold zlF
 rw [List.length_append,List.length_cons,List.length_take,List.length_drop]
 omega
theorem zk6 {x:El} (h:ElBig x) (hr:ElRange x):zaI true kLs (elG x)=true:=by
 obtain ⟨h1,h2⟩:=hr
 have:=h.a; have:=h.b; have:=h.c; have:=h.d
 simp [zaI,elC,zaA,maxLen,IntKind.min,IntKind.max,IntKind.signed,IntKind.bits]
 omega
theorem zpL {x:El} (hk:zaI true kLs (elG x)=true):∀ {es:List (GV × GV)} {S:List Stp},zco zh1 es=some S→Has es x (zcd S x)
 | [],S,h=>by simp only [zco,Option.some.injEq] at h; subst h; exact .inl ⟨rfl,rfl⟩
 | p::es,S,h=>by
  simp only [zco] at h
  split at h
  ·rename_i a b ha hb
   injection h with h; subst h
   have ih:=zpL hk hb
   have hke:zb9 p.1 (elG x)=decide (a.1=x):=by
    obtain ⟨e1,_,o1⟩:=zex ha
    rw [e1,Bool.eq_iff_iff,zaR (zgw o1.fit o1.range) hk,decide_eq_true_eq]
    exact ⟨zeA,fun h=>by rw [h]⟩
   unfold Has zbd zcd at ih ⊢
   rw [List.find?_cons,List.find?_cons,hke]
   by_cases e:a.1=x
   ·simp only [e,decide_true]
    obtain ⟨_,⟨t,ht⟩,_⟩:=zex ha
    exact .inr ⟨p.2,rfl,by rw [ht]; exact .sl _ _⟩
   ·simp only [e,decide_false]; exact ih
  ·cases h
def zys (H:GH) (s m:Nat) (S:List Stp):Prop:=∃ es,H.objs[s]?=some (.cells 92 [.map m])∧H.objs[m]?=some (.map true kLs es)∧zco zh1 es=some S
theorem Sto.rd {H:GH} {s m:Nat} {S:List Stp} (h:Sto H s m S):zys H s m S:=by
 obtain ⟨⟨es,⟨h1,h2,_⟩,hd⟩,_⟩:=h
 exact ⟨es,h1,h2,hd⟩
theorem zra {H:GH} {s m:Nat} {S:List Stp} (h:zys H s m S) (x:El) (hk:zaI true kLs (elG x)=true) (hL:(zcd S x).length≤1000000) (hbo:H.bo≤H.objs.length) :
 ∃ v',ecall T zjX [.ptr s 0,.agg (elC x)] H=some (v',zb7 (zcd S x) H)∧Elems 5 v' ((zcd S x).map zb6):=by
 obtain ⟨es,h1,h2,hd⟩:=h
 have hv:=zpL hk hd
 generalize zcd S x=L at hv hL
 obtain ⟨w,c1,c2⟩:=zgx L _ hv.get hL H
 obtain ⟨v',hf,hE⟩:=zrc c2 hbo
 refine ⟨v', ?_,hE⟩
 have hok':w.ok=true:=by rcases c2.elems with ⟨_,h⟩ | ⟨_,h⟩; exact h.ok; subst h; rfl
 have hu':∀ t,zbl t w=w:=by rcases c2.elems with ⟨_,h⟩ | ⟨_,h⟩; exact zad h; subst h; exact fun _=>rfl
 have gok:=hv.get.ok
 have gu:=zad hv.get
 have vok:=hE.ok
 have vu:=zad hE
 apply optW.eq
 rw [zae zAe rfl (by simp [zio]),zab]
 simp only [elG,elC] at hk c1 gok gu
 simp [zio,zt3,elC,h1,h2,hk,c1,hok',hu',hf,gok,gu,vok,vu,zbj,zdF]
def zk7 (x y:El):Bool:=zBV y x
def zAh (out:List El) (x:El):List El:=if out[ixP (zk7 x) out]?=some x then out else zlF (zk7 x) x out
def zuJ (out:List El) (e:Evt):List El:=zAh out e.x
def zdj (R:List Evt):List El:=R.foldl zuJ []
theorem ziz {α:Type} {p:α→Bool} {e y:α} {out:List α} : zlF p e (y::out)=if p y then y::zlF p e out else e::y::out:=by
 unfold zlF ixP
 rw [List.takeWhile_cons]
 split <;> simp
theorem zuK {α:Type} (p:α→Bool) (e:α) (out:List α):(zlF p e out).Perm (e::out):=by
 unfold zlF
 refine List.perm_middle.trans ?_
 rw [List.take_append_drop]
theorem zmv {x y:El} {out:List El} : zAh (y::out) x=if zk7 x y then y::zAh out x else if y=x then y::out else x::y::out:=by
 unfold zAh
 have hi:ixP (zk7 x) (y::out)=if zk7 x y then ixP (zk7 x) out+1 else 0:=by
  unfold ixP; rw [List.takeWhile_cons]; split <;> simp
 rw [hi]
 by_cases h:zk7 x y
 ·rw [if_pos h,if_pos h,List.getElem?_cons_succ]
  split
  ·rfl
  ·rw [ziz,if_pos h]
 ·rw [if_neg h,if_neg h]
  by_cases h2:y=x
  ·rw [if_pos h2,if_pos (by rw [h2]; rfl)]
  ·rw [if_neg h2,if_neg (by simpa using h2),ziz,if_neg h]
def zA0 (l:List El):Prop:=l.Pairwise fun a b=>zdU a b<0
theorem zrb {x y z:El} (h1:zdU x y<0) (h2:zdU y z<0):zdU x z<0:=by
 have hs:=ordE_ok.swo fun p:El=>p
 have:=hs.trans x y z (decide_eq_true h1) (decide_eq_true h2)
 simpa using this
theorem addE_mem {x z:El} : ∀ {out:List El},z∈zAh out x↔z=x∨z∈out
 | []=>by
  have:zAh [] x=[x]:=rfl
  rw [this]; simp
 | y::out=>by
  rw [zmv]
  split
  ·rw [List.mem_cons,addE_mem,List.mem_cons]
   constructor
   ·rintro (h | h | h)
    ·exact .inr (.inl h)
    ·exact .inl h
    ·exact .inr (.inr h)
   ·rintro (h | h | h)
    ·exact .inr (.inl h)
    ·exact .inl h
    ·exact .inr (.inr h)
  ·split
   ·rename_i h
    rw [List.mem_cons]
    constructor
    ·exact fun h2=>.inr h2
    ·rintro (h2 | h2)
     ·exact .inl (by rw [h2,h])
     ·exact h2
   ·rw [List.mem_cons]
theorem zmw {x:El} : ∀ {out:List El},zA0 out→zA0 (zAh out x)
 | [],_=>by
  have:zAh [] x=[x]:=rfl
  rw [this]; exact List.pairwise_singleton _ _
 | y::out,h=>by
  unfold zA0 at h
  rw [List.pairwise_cons] at h
  rw [zmv]
  split
  ·rename_i hl
   have ih:=zmw (x:=x) h.2
   refine List.pairwise_cons.2 ⟨fun z hz=>?_,ih⟩
   rcases addE_mem.1 hz with rfl | hz
   ·simpa [zk7,zBV] using hl
   ·exact h.1 z hz
  ·rename_i hl
   split
   ·exact List.pairwise_cons.2 h
   ·rename_i hn
    have h1:¬ zdU y x<0:=by simpa [zk7,zBV] using hl
    have h2:zdU y x≠0:=fun e=>hn (ordE_ok.zero _ _ e)
    have h3:=ordE_ok.swap y x
    have h4:zdU x y<0:=by omega
    refine List.pairwise_cons.2 ⟨fun z hz=>?_,List.pairwise_cons.2 h⟩
    rcases List.mem_cons.1 hz with rfl | hz
    ·exact h4
    ·exact zrb h4 (h.1 z hz)
theorem zeU (R:List Evt):zA0 (zdj R)∧∀ z,z∈zdj R↔∃ e∈R,e.x=z:=by
 suffices h:∀ (l:List Evt) (out:List El),zA0 out→zA0 (l.foldl zuJ out)∧∀ z,z∈l.foldl zuJ out↔z∈out∨∃ e∈l,e.x=z by
  have:=h R [] List.Pairwise.nil
  exact ⟨this.1,fun z=>(this.2 z).trans (by simp)⟩
 intro l
 induction l with
 | nil=>intro out h; exact ⟨h,fun z=>by simp⟩
 | cons e l ih =>
  intro out h
  obtain ⟨h1,h2⟩:=ih (zuJ out e) (zmw h)
  refine ⟨h1,fun z=>?_⟩
  rw [List.foldl_cons,h2]
  unfold zuJ
  rw [addE_mem]
  constructor
  ·rintro ((h3 | h3) | ⟨a,ha,h3⟩)
   ·exact .inr ⟨e,List.mem_cons_self,h3.symm⟩
   ·exact .inl h3
   ·exact .inr ⟨a,List.mem_cons_of_mem _ ha,h3⟩
  ·rintro (h3 | ⟨a,ha,h3⟩)
   ·exact .inl (.inr h3)
   ·rcases List.mem_cons.1 ha with rfl | ha
    ·exact .inl (.inl h3.symm)
    ·exact .inr ⟨a,ha,h3⟩
def zyt (S:List Stp) (x:El):Bool:=!decide (zcd S x=[])
def zk8 (S:List Stp) (X:List El):List Stp:=(X.filter (zyt S)).map fun x=>(x,zcd S x)
theorem zyu {S:List Stp} {X:List El} (h:zA0 X):(zk8 S X).Pairwise fun p q=>zdU p.1 q.1<0:=by
 unfold zk8
 rw [List.pairwise_map]
 exact h.filter _
theorem zyv {R:List Evt} (h:Row R) {H:GH} {s m:Nat} (hS:Sto H s m (zbP R)):zfs (zbP R)=zk8 (zbP R) (zdj R):=by
 obtain ⟨hr,hm⟩:=zeU R
 have hp:=zyu (S:=zbP R) hr
 have nd:(zk8 (zbP R) (zdj R)).Nodup:=hp.imp fun {a b} hlt e=>by
  rw [e,ordE_ok.self] at hlt; omega
 have nd2:(zbP R).Nodup:=(List.pairwise_map.1 hS.ap).imp fun h e=>h (by rw [e])
 have hperm:(zk8 (zbP R) (zdj R)).Perm (zbP R):=by
  rw [List.perm_iff_count]
  intro p
  rw [nd.count,nd2.count]
  have key:p∈zk8 (zbP R) (zdj R)↔p∈zbP R:=by
   unfold zk8
   rw [List.mem_map]
   constructor
   ·rintro ⟨x,hx,rfl⟩
    have:=(List.mem_filter.1 hx).2
    simp only [zyt,Bool.not_eq_true',decide_eq_false_iff_not] at this
    exact zxh this
   ·intro hm2
    have e:=zpo hS.ap hm2
    have hne:zcd (zbP R) p.1≠[]:=by rw [e]; exact hS.ne_nil p hm2
    refine ⟨p.1,List.mem_filter.2 ⟨(hm p.1).2 ?_,by simp [zyt,hne]⟩,by rw [e]⟩
    have hl:=zk5 h p.1
    have:zg6 R p.1≠[]:=fun e0=>by
     rw [e0] at hl
     exact hne hl.eq_nil
    obtain ⟨a,ha⟩:=List.exists_mem_of_ne_nil _ this
    have ha:=List.mem_filter.1 ha
    have hb:=ha.2
    unfold zcN at hb
    simp only [Bool.and_eq_true,decide_eq_true_eq] at hb
    exact ⟨a,ha.1,hb.1.1⟩
  by_cases hc:p∈zbP R
  ·rw [if_pos hc,if_pos (key.2 hc)]
  ·rw [if_neg hc,if_neg (fun h2=>hc (key.1 h2))]
 have h1:=zgi hperm (apart_of.2 hS.ap)
 unfold zfs
 rw [← h1]
 refine (zhw (l:=zk8 (zbP R) (zdj R)) (.refl _) (hp.imp fun {a b} hlt=>?_) znC fun a b ha hb e1 e2=>?_).symm
 ·have:=ordE_ok.swap a.1 b.1
  show decide (zdU b.1 a.1<0)=false
  exact decide_eq_false (by omega)
 ·have e1:decide (zdU a.1 b.1<0)=false:=e1
  have e2:decide (zdU b.1 a.1<0)=false:=e2
  have h2:=of_decide_eq_false e1
  have h3:=of_decide_eq_false e2
  have h4:=ordE_ok.swap a.1 b.1
  have h5:a.1=b.1:=ordE_ok.zero _ _ (by omega)
  obtain ⟨x,_,rfl⟩:=List.mem_map.1 ha
  obtain ⟨y,_,rfl⟩:=List.mem_map.1 hb
  have h5:x=y:=h5
  rw [h5]
end Go.Proofs.YtchjbidfmhmmhaaGreatDoor
