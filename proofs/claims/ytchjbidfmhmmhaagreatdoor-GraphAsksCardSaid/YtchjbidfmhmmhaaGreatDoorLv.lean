/- Own work: the zaN machine and what it shows, part Lv. -/
import Derived.Test.YtchjbidfmhmmhaaGreatDoorCo
import Derived.Test.YtchjbidfmhmmhaaGreatDoorEl
set_option linter.all false
namespace Go.Proofs.YtchjbidfmhmmhaaGreatDoor
open Go.Sh
set_option maxHeartbeats 4000000
set_option maxRecDepth 100000
def zgU (v:List Int) (r c:Int):Bool:=decide (c≤zdb v r)
def zcl (x:El) (y a:Evt):Bool:=(decide (y.x=x)&&!decide (y.op=1))&&(!decide (y.r=a.r∧y.c=a.c)&&zgU y.past a.r a.c)
def zcJ (R:List Evt) (x:El) (a:Evt):Bool:=(decide (a.x=x)&&decide (a.op=1∨a.op=3))&&!R.any fun y=>zcl x y a
def zgg (R:List Evt) (x:El):List Evt:=R.filter (zcJ R x)
theorem zhj:∀ {l:List Evt} {v:List Int},v.length=16→zdp v l→(∀ k:Int,0≤k→zdb v k≤zdb (zcm v l) k)∧∀ y∈l,evB y=true∧zdb v y.r<y.c∧y.c≤zdb (zcm v l) y.r∧∀ k:Int,0≤k→k<16→zdb y.past k≤zdb (zcm v l) k
  | [],v,_,_=>⟨fun k _=>Int.le_refl _,fun y h=>by cases h⟩
  | e::l,v,hv,hc=>by
    obtain ⟨hf,hc⟩:=hc
    obtain ⟨hb,ha,hp⟩:=zhq hf
    obtain ⟨r0,r1,c0,c1⟩:=zfa hb
    have hat:=zxa hv (c:=e.c) r0 r1
    obtain ⟨h1,h2⟩:=zhj (v:=zqv v e) (by simp [zqv,hv]) hc
    have up1:∀ k:Int,0≤k→zdb v k≤zdb (zqv v e) k:=fun k hk=>by
      unfold zqv; rw [hat k hk]; split
      · rename_i e1; rw [e1]; omega
      · exact Int.le_refl _
    refine ⟨fun k hk=>Int.le_trans (up1 k hk) (h1 k hk),fun y hy=>?_⟩
    rcases List.mem_cons.1 hy with rfl | hy
    · refine ⟨hb,by omega, ?_,fun k hk hk2=>?_⟩
      · have:=h1 y.r r0
        unfold zqv at this
        rw [hat y.r r0,if_pos rfl] at this
        exact this
      · have h3:=hp k.toNat (by omega)
        rw [Int.toNat_of_nonneg hk] at h3
        exact Int.le_trans h3 (Int.le_trans (up1 k hk) (h1 k hk))
    · obtain ⟨q1,q2,q3,q4⟩:=h2 y hy
      have:=up1 y.r (zfa q1).1
      exact ⟨q1,by omega,q3,q4⟩
theorem zsg (L:List Ent) (x:Ent):(zjx L x).Perm (L++[x]):=by
  unfold zjx
  refine List.perm_middle.trans ?_
  refine (List.Perm.cons x (List.filter_append_perm (fun y=>decide (zdr y x<0)) L)).trans ?_
  exact (List.perm_append_singleton x L).symm
theorem ziM {α β:Type} (f:α→β) (p:β→Bool) (l:List α):(l.map f).filter p=(l.filter fun a=>p (f a)).map f:=by
  rw [List.filter_map]; rfl
theorem zsh {l:List Evt} {e:Evt} (hl:zdp zero16 l) (hf:zj1 (zcm zero16 l) e=true) (x:El) :
    zgg (l++[e]) x=(if x=e.x then ((if e.op=1 then zgg l x else (zgg l x).filter fun a=>!zb6 e.past a.r a.c)++if e.op=1∨e.op=3 then [e] else []) else zgg l x):=by
  obtain ⟨_,hu⟩:=zhj (v:=zero16) rfl hl
  obtain ⟨hb,ha,hp⟩:=zhq hf
  obtain ⟨r0,r1,c0,c1⟩:=zfa hb
  have hB:∀ a,zcJ (l++[e]) x a=(zcJ l x a&&!zcl x e a):=fun a=>by
    unfold zcJ
    rw [List.any_append]
    simp only [List.any_cons,List.any_nil,Bool.or_false,Bool.not_or,Bool.and_assoc]
  unfold zgg
  rw [List.filter_append]
  by_cases hx:x=e.x
  · rw [if_pos hx]
    have he : [e].filter (zcJ (l++[e]) x)=if e.op=1∨e.op=3 then [e] else []:=by
      have hn:zcl x e e=false:=by simp [zcl]
      have hany:(l.any fun y=>zcl x y e)=false:=by
        rw [List.any_eq_false]
        intro y hy
        obtain ⟨_,_,_,q4⟩:=hu y hy
        have:=q4 e.r r0 r1
        have hk:zgU y.past e.r e.c=false:=by unfold zgU; exact decide_eq_false (by omega)
        simp [zcl,hk]
      have:zcJ (l++[e]) x e=decide (e.op=1∨e.op=3):=by
        rw [hB,hn]; unfold zcJ; rw [hany,hx]; simp
      rw [List.filter_cons,this]
      by_cases ho:e.op=1∨e.op=3
      · rw [if_pos ho,if_pos (decide_eq_true ho)]; rfl
      · rw [if_neg ho,if_neg (by simpa using ho)]; rfl
    rw [he]
    congr 1
    by_cases ho:e.op=1
    · rw [if_pos ho]
      apply List.filter_congr
      intro a _
      rw [hB]; simp [zcl,ho]
    · rw [if_neg ho,List.filter_filter]
      apply List.filter_congr
      intro a hm
      obtain ⟨q1,_,q3,_⟩:=hu a hm
      have hd:=zfa q1
      have hne:¬ (e.r=a.r∧e.c=a.c):=fun h=>by
        rw [← h.1,ha] at q3; omega
      have hk:zb6 e.past a.r a.c=zgU e.past a.r a.c:=by
        have:zgf a.r a.c=true:=by simp only [zgf,decide_eq_true_eq]; exact hd
        unfold zb6 zgU; rw [this,Bool.true_and]
      rw [hB,hk,Bool.and_comm]
      unfold zcl
      rw [hx,decide_eq_false ho,decide_eq_false hne]
      simp
  · rw [if_neg hx]
    have h0:∀ a,zcl x e a=false:=fun a=>by
      unfold zcl; rw [decide_eq_false (fun h=>hx h.symm)]; rfl
    have he : [e].filter (zcJ (l++[e]) x)=[]:=by
      have:zcJ (l++[e]) x e=false:=by
        rw [hB]; unfold zcJ; rw [decide_eq_false (fun h=>hx h.symm)]; rfl
      rw [List.filter_cons,this]; rfl
    rw [he,List.append_nil]
    apply List.filter_congr
    intro a _
    rw [hB,h0]; simp
theorem zsi {R:List Evt} (h:Row R) (x:El):∀ i≤R.length,(zb1 (zbD (R.take i)) x).Perm ((zgg (R.take i) x).map zgk)
  | 0,_=>by rw [List.take_zero]; exact .refl _
  | i+1,hi=>by
    have ih:=zsi h x i (by omega)
    obtain ⟨e,he⟩:∃ e,R[i]?=some e:=⟨R[i],List.getElem?_eq_getElem (by omega)⟩
    obtain ⟨hg,hf,hd⟩:=h.at_ he
    have ht:R.take (i+1)=R.take i++[e]:=by rw [List.take_add_one,he]; rfl
    have hc:zdp zero16 (R.take i):=by
      have:=h.causl
      rw [← List.take_append_drop i R] at this
      exact (causl_app.1 this).1
    rw [hd,ht,zsh hc hf]
    unfold doF
    rw [zoi]
    by_cases hx:x=e.x
    · rw [if_pos hx,if_pos hx,← hx]
      have hcut:(ziY e (zb1 (zbD (R.take i)) x)).Perm ((if e.op=1 then zgg (R.take i) x else (zgg (R.take i) x).filter fun a=>!zb6 e.past a.r a.c).map zgk):=by
        unfold ziY
        by_cases ho:e.op=1
        · rw [if_pos ho,if_pos ho]; exact ih
        · rw [if_neg ho,if_neg ho]
          have:=ih.filter fun y=>!zb6 e.past y.r y.c
          rw [ziM] at this
          exact this
      unfold doL
      by_cases ho:e.op=1∨e.op=3
      · rw [if_pos ho,if_pos ho,List.map_append]
        exact (zsg _ _).trans (hcut.append_right _)
      · rw [if_neg ho,if_neg ho,List.append_nil]
        exact hcut
    · rw [if_neg hx,if_neg hx]; exact ih
theorem zjX {R:List Evt} (h:Row R) (x:El):(zb1 (zbD R) x).Perm ((zgg R x).map zgk):=by
  have:=zsi h x R.length (Nat.le_refl _)
  rwa [List.take_length] at this
end Go.Proofs.YtchjbidfmhmmhaaGreatDoor
namespace Go.Proofs.YtchjbidfmhmmhaaGreatDoor
open Go.Sh
set_option maxHeartbeats 4000000
set_option maxRecDepth 100000
theorem zAI (a b:List UInt8):(mkB a == mkB b)=decide (a=b):=by
  by_cases h:a=b
  · subst h; rw [zxf]; simp
  · rw [decide_eq_false h,Bool.eq_false_iff]
    intro e
    have:mkB a=mkB b:=by
      rcases ha:mkB a with ⟨x⟩
      rcases hb:mkB b with ⟨y⟩
      rw [ha,hb] at e
      have e:(x == y)=true:=e
      rw [eq_of_beq e]
    have:=congrArg (fun b:ByteArray=>b.data.toList) this
    simp only [zbn] at this
    exact h this
theorem zhH (x y:El):zaC [.int .i64,.str,.str,.str,.str] (elC x) (elC y)=some (decide (x=y)):=by
  have:decide (x=y)=(decide (x.k=y.k)&&(decide (x.a=y.a)&&(decide (x.b=y.b)&&(decide (x.c=y.c)&&decide (x.d=y.d))))):=by
    rw [Bool.eq_iff_iff]
    simp only [Bool.and_eq_true,decide_eq_true_eq]
    constructor
    · intro h; subst h; exact ⟨rfl,rfl,rfl,rfl,rfl⟩
    · rintro ⟨h1,h2,h3,h4,h5⟩
      cases x; cases y; simp_all
  rw [this]
  by_cases h1:x.k=y.k <;> by_cases h2:x.a=y.a <;> by_cases h3:x.b=y.b <;> by_cases h4:x.c=y.c <;> by_cases h5:x.d=y.d <;> simp [zaC,za1,elC,zAI,h1,h2,h3,h4,h5]
theorem zo5 (r c r' c':Int):zaC [.int .i64,.int .i64] [.int .i64 r,.int .i64 c] [.int .i64 r',.int .i64 c']=some (decide (r=r'∧c=c')):=by
  by_cases h1:r=r' <;> by_cases h2:c=c' <;> simp [zaC,za1,h1,h2]
theorem zgu (k n:Int) (t:List UInt8) (k' n':Int) (t':List UInt8):zaC [.int .i64,.int .i64,.str] [.int .i64 k,.int .i64 n,.str (mkB t)] [.int .i64 k',.int .i64 n',.str (mkB t')]=some (decide (k=k'∧n=n'∧t=t')):=by
  by_cases h1:k=k' <;> by_cases h2:n=n' <;> by_cases h3:t=t' <;> simp [zaC,za1,zAI,h1,h2,h3]
theorem zsj (v:List Int) (hv:v.length=16) (r c:Int) (h0:0≤r) (h1:r<16) (H:GH):ecall T zu4 [.agg (v.map ziy),.agg [.int .i64 r,.int .i64 c]] H=some (.bool (zgU v r c),H):=by
  have hi:=zqH h0 h1
  have ha:=zmG hv (k:=r.toNat) (by omega)
  have hat':zdb v ((r.toNat:Nat):Int)=zdb v r:=by simp only [zdb,Int.toNat_natCast]
  rw [hat'] at ha
  apply optW.eq
  rw [zad zDv rfl (by simp [zrO]),zab]
  simp [zrO,zAl,hi,ha,zgU]
structure EvOk (e:Evt):Prop where
  fit:EvFit e
  ok:evB e=true
theorem EvOk.dot {e:Evt} (h:EvOk e):0≤e.r∧e.r<16∧1≤e.c∧e.c≤1048576:=zfa h.ok
theorem zxK {R:List Evt} (hR:R.length≤1000) (hok:∀ e∈R,EvOk e) (vr:GV) (hvr:Elems 27 vr (R.map evG)) (x:El) (a:Evt) (ha:EvOk a) (g3 g7:Nat) (l0:List GV) (g0:Nat) (H0:GH) (K:GExit × St→Prop)
    (h31:zae l0 31=vr) (h32:zae l0 32=.int .i64 R.length) (h33:zae l0 33=.int .i64 0) (h3:zae l0 3=.lbox g3 (elC x)) (h7:zae l0 7=.lbox g7 (evC a)) (h8:zae l0 8=.bool true)
    (he:∀ l g,zae l 3=.lbox g3 (elC x)→zae l 7=.lbox g7 (evC a)→zae l 8=.bool (!R.any fun y=>zcl x y a)→Fr znI l0 l→K (.exit 2,⟨⟨l,g⟩,H0⟩)) :
    optW (erun T (.loop znI) ⟨⟨l0,g0⟩,H0⟩) K:=by
  refine zaV (T:=T) (n:=R.length) (A:=Unit) (fun i _=>[(3,.lbox g3 (elC x)),(7,.lbox g7 (evC a)),(8,.bool (!(R.take i).any fun y=>zcl x y a))]) (fun i _ _ H'=>H'=H0) (c:=34) (b:=2) (I:=33) (N:=32) (d:=60) rfl (by omega) (by decide) ⟨rfl,rfl⟩ (by simp) ?_ ?_ 0 () _ _ H0 (by omega) rfl (by simp [h3,h7,h8]) (.refl _ _ _) h33 h32
  · intro i u l g H' hi hH hh hf hI
    subst hH
    have h31':=hf.get 31 rfl h31 (by simp [hvr.boxy])
    obtain ⟨lt,ix,opt,get,⟨t,sv⟩,wr_,mem⟩:=zc1 (e:=evG) hvr hi (by omega)
    generalize R[i]'hi=y at opt get mem
    obtain ⟨hfy,hby⟩:=hok y mem
    have l1:=zcN hfy.past
    have l4:List.take 27 (evC y)=evC y:=List.take_of_length_le (by rw [l1]; exact Nat.le_refl _)
    have lo:=zgP hfy.past
    have sp:=zhJ hfy.past
    have l6:=zl9 hfy.past
    have l5:=zox hfy.past
    have l5':=zkE hfy.past
    have l3:=zkF y
    have l2:=zgm hfy.past
    have a1:=zcN ha.fit.past
    have a3:=zkF a
    have le:=zhH y.x x
    have ld:=zo5 y.r y.c a.r a.c
    have hkn:=fun H=>zsj y.past hfy.past a.r a.c ha.dot.1 ha.dot.2.1 H
    simp only [zax,zaE,and_true] at hh
    obtain ⟨hh3,hh7,hh8⟩:=hh
    have hs:(!(R.take (i+1)).any fun y=>zcl x y a)=((!(R.take i).any fun y=>zcl x y a)&&!zcl x y a):=by
      rw [List.take_add_one,opt,List.any_append]; simp
    rw [hs]
    generalize (!(R.take i).any fun y=>zcl x y a)=b8 at hh8
    have hlx:(elC x).length=5:=rfl
    have htx:List.take 5 (elC x)=elC x:=rfl
    rw [sv] at h31'
    unfold zcl
    by_cases c1:y.x=x
    · rw [c1] at l6 le
      by_cases c2:y.op=1
      · simp [h31',hI,hh3,hh7,hh8,ix,opt,get,sp,l1,l4,lo,l6,l5,l5',le,c1,c2,hlx,htx]
      · by_cases c3:y.r=a.r∧y.c=a.c
        · rw [c3.1,c3.2] at ld
          simp [h31',hI,hh3,hh7,hh8,ix,opt,get,sp,l1,l4,lo,l6,l5,l5',l3,a1,a3,ld,le,c1,c2,c3,hlx,htx]
        · cases hk:zgU y.past a.r a.c with
          | false =>
            rw [hk] at hkn
            simp [h31',hI,hh3,hh7,hh8,ix,opt,get,sp,l1,l4,lo,l6,l5,l5',l3,l2,a1,a3,ld,le,c1,c2,c3,hkn,hlx,htx]
          | true =>
            rw [hk] at hkn
            simp [h31',hI,hh3,hh7,hh8,ix,opt,get,sp,l1,l4,lo,l6,l5,l5',l3,l2,a1,a3,ld,le,c1,c2,c3,hkn,hlx,htx]
    · simp [h31',hI,hh3,hh7,hh8,ix,opt,get,sp,l1,l4,lo,l6,le,c1,hlx,htx]
  · intro u l g H' hH hh hf
    subst hH
    simp only [zax,zaE,and_true] at hh
    rw [List.take_length] at hh
    exact he l g hh.1 hh.2.1 hh.2.2 hf
theorem zsk {R:List Evt} (hR:R.length≤1000) (hok:∀ e∈R,EvOk e) (vr:GV) (hvr:Elems 27 vr (R.map evG)) (x:El) (g3:Nat) (l0:List GV) (g0:Nat) (H0:GH) (hbt:H0.bt≤H0.toks.length) (K:GExit × St→Prop)
    (h0:zae l0 0=vr) (h11:zae l0 11=vr) (h12:zae l0 12=.int .i64 R.length) (h13:zae l0 13=.int .i64 0) (h3:zae l0 3=.lbox g3 (elC x)) (h5:zae l0 5=.nilsl)
    (he:∀ l g H v,zae l 5=v→Grown 27 H0 .nilsl ((zgg R x).map evG) H v→Fr zrD l0 l→K (.exit 0,⟨⟨l,g⟩,H⟩)) :
    optW (erun T (.loop zrD) ⟨⟨l0,g0⟩,H0⟩) K:=by
  refine zaV (T:=T) (n:=R.length) (A:=GV) (fun _ s=>[(3,.lbox g3 (elC x)),(5,s)]) (fun i s _ H'=>Grown 27 H0 .nilsl (((R.take i).filter (zcJ R x)).map evG) H' s) (c:=14) (b:=0) (I:=13) (N:=12) (d:=66) rfl (by omega) (by decide) ⟨rfl,rfl⟩ (by simp) ?_ ?_ 0 .nilsl _ _ H0 (by omega) (by simpa using Grown.refl App.nil) (by simp [h3,h5]) (.refl _ _ _) h13 h12
  · intro i s l g H' hi hG hh hf hI
    have h0':=hf.get 0 rfl h0 (by simp [hvr.boxy])
    have h11':=hf.get 11 rfl h11 (by simp [hvr.boxy])
    have hl:=hvr.len
    have hu:=zah hvr
    have hk:=hvr.ok
    simp only [List.length_map] at hl
    obtain ⟨lt,ix,opt,get,⟨t,sv⟩,wr_,mem⟩:=zc1 (e:=evG) hvr hi (by omega)
    generalize R[i]'hi=a at opt get mem
    have ha:=hok a mem
    have l1:=zcN ha.fit.past
    have l4:List.take 27 (evC a)=evC a:=List.take_of_length_le (by rw [l1]; exact Nat.le_refl _)
    have lo:=zgP ha.fit.past
    have sp:=zhJ ha.fit.past
    have l6:=zl9 ha.fit.past
    have l5:=zox ha.fit.past
    have l5':=zkE ha.fit.past
    have le:=zhH a.x x
    have hlx:(elC x).length=5:=rfl
    have htx:List.take 5 (elC x)=elC x:=rfl
    have ht:R.take (i+1)=R.take i++[a]:=by rw [List.take_add_one,opt]; rfl
    rw [ht,List.filter_append]
    have hfl:((R.take i).filter (zcJ R x)).length≤1000:=Nat.le_trans (List.length_filter_le _ _) (by rw [List.length_take]; omega)
    generalize (R.take i).filter (zcJ R x)=F at hG hfl
    simp only [zax,zaE,and_true] at hh
    obtain ⟨hh3,hh5⟩:=hh
    have h11s:=h11'
    rw [sv] at h11'
    have hsk:=hG.ok
    have hse:=hG.app.elems
    have hsb:=hse.boxy
    by_cases c1:a.x=x
    · rw [c1] at l6 le
      by_cases c2:a.op=1∨a.op=3
      · have hlv:zcJ R x a=!R.any fun y=>zcl x y a:=by unfold zcJ; rw [c1,decide_eq_true c2]; simp
        have key:∀ (l1':List GV),zae l1' 31=vr→zae l1' 32=.int .i64 R.length→zae l1' 33=.int .i64 0→zae l1' 3=.lbox g3 (elC x)→zae l1' 7=.lbox g (evC a)→zae l1' 8=.bool true→zae l1' 5=s →
            optW (erun T (.loop znI) ⟨⟨l1',g+1⟩,H'⟩) fun r=>∃ l2 g2,r=(.exit 2,⟨⟨l2,g2⟩,H'⟩)∧zae l2 3=.lbox g3 (elC x)∧zae l2 7=.lbox g (evC a)∧zae l2 8=.bool (zcJ R x a)∧zae l2 5=s:=fun l1' k31 k32 k33 k3 k7 k8 k5=>by
          refine zxK hR hok vr hvr x a ha g3 g l1' (g+1) H' _ k31 k32 k33 k3 k7 k8 ?_
          intro l2 g2 j3 j7 j8 hf2
          exact ⟨l2,g2,rfl,j3,j7,by rw [hlv]; exact j8,hf2.get 5 rfl k5 (by simp [hsb])⟩
        rcases c2 with c2 | c2
        all_goals
          simp [h11',h0',hl,hu,hk,hI,hh3,hh5,ix,opt,get,sp,l1,l4,lo,l6,l5,l5',le,c1,c2,hlx,htx]
          rw [zal,zat,zal]
          refine optW.mono (key _ (by simp [hu]) (by simp) (by simp) (by simp [hh3]) (by simp) (by simp) (by simp [hh5])) ?_
          rintro _ ⟨l2,g2,rfl,j3,j7,j8,j5⟩
          cases hb:zcJ R x a with
          | false =>
            rw [hb] at j8
            simp [j3,j5,j8]
            have hf0 : [a].filter (zcJ R x)=[]:=by rw [List.filter_cons,hb]; rfl
            rw [hf0,List.map_nil,List.append_nil]
            exact fun _=>hG
          | true =>
            rw [hb] at j8
            obtain ⟨s',H2,a1,G1⟩:=zbH (ty:=36) (bytes:=256) (ys:=[evG a]) (x:=.sl 27 [evG a] .exact) hG.app (by simp [zbG]) (hG.step.btle hbt) (by simp only [List.length_singleton,List.length_map,zdY]; omega) (by simp only [List.length_singleton,List.length_map,maxLen]; omega)
            have sk':=G1.ok
            have hG2:=hG.trans G1
            simp [j3,j5,j7,j8,l1,l4,lo,zam,zaS,a1,hsk,sk']
            have hf1 : [a].filter (zcJ R x)=[a]:=by rw [List.filter_cons,hb]; rfl
            rw [hf1]
            exact fun _=>hG2
      · have c3:¬ a.op=1:=fun h=>c2 (.inl h)
        have c4:¬ a.op=3:=fun h=>c2 (.inr h)
        have hn:zcJ R x a=false:=by unfold zcJ; rw [decide_eq_false c2]; simp
        simp [h11',hI,hh3,hh5,ix,opt,get,sp,l1,l4,lo,l6,l5,l5',le,c1,c3,c4,hlx,htx,hn]
        exact fun _=>hG
    · have hn:zcJ R x a=false:=by unfold zcJ; rw [decide_eq_false c1]; rfl
      simp [h11',hI,hh3,hh5,ix,opt,get,sp,l1,l4,lo,l6,le,c1,hlx,htx,hn]
      exact fun _=>hG
  · intro s l g H' hG hh hf
    simp only [zax,zaE,and_true] at hh
    rw [List.take_length] at hG
    exact he l g H' s hh.2 hG hf
theorem znP {R:List Evt} (hR:R.length≤1000) (hok:∀ e∈R,EvOk e) (vr:GV) (hvr:Elems 27 vr (R.map evG)) (x:El) (H:GH) (hbt:H.bt≤H.toks.length) :
    ∃ v H',ecall T zoD [vr,.agg (elC x)] H=some (v,H')∧Grown 27 H .nilsl ((zgg R x).map evG) H' v:=by
  have hl:=hvr.len
  have hu:=zah hvr
  have hk:=hvr.ok
  simp only [List.length_map] at hl
  have hlx:(elC x).length=5:=rfl
  have key:optW (ecall T zoD [vr,.agg (elC x)] H) fun r=>∃ v H',r=(v,H')∧Grown 27 H .nilsl ((zgg R x).map evG) H' v:=by
    rw [zad zDg rfl (by simp [zrE]),zab]
    simp only [zrE,zAa]
    simp [hl,hu,hk]
    rw [zat,zal]
    refine zsk hR hok vr hvr x 0 _ _ H hbt _ (by simp [hu]) (by simp [hu]) (by simp) (by simp) (by simp) (by simp) ?_
    intro l g H' v k5 hG hf
    have ok:=hG.ok
    simp [k5,ok]
    exact ⟨v,H',⟨rfl,rfl⟩,hG⟩
  obtain ⟨r,h,v,H',rfl,h2⟩:=key
  exact ⟨v,H',h,h2⟩
end Go.Proofs.YtchjbidfmhmmhaaGreatDoor
namespace Go.Proofs.YtchjbidfmhmmhaaGreatDoor
open Go.Sh
set_option maxHeartbeats 4000000
set_option maxRecDepth 100000
def ixP {α:Type} (p:α→Bool) (out:List α):Nat:=(out.takeWhile p).length
def zjY {α:Type} (p:α→Bool) (e:α) (out:List α):List α:=out.take (ixP p out)++e::out.drop (ixP p out)
theorem zo6 {α:Type} {p:α→Bool} : ∀ {out:List α} {i:Nat},i≤out.length→(∀ k,k<i→∀ y,out[k]?=some y→p y=true)→(∀ y,out[i]?=some y→p y=false)→ixP p out=i
  | [],i,h,_,_=>by simp [ixP] at h ⊢; omega
  | y::out,0,_,_,h2=>by
    have:=h2 y rfl
    simp [ixP,List.takeWhile_cons,this]
  | y::out,i+1,h,h1,h2=>by
    have h0:=h1 0 (by omega) y rfl
    have ih:=zo6 (p:=p) (out:=out) (i:=i) (by simpa using h) (fun k hk z hz=>h1 (k+1) (by omega) z (by simpa using hz)) (fun z hz=>h2 z (by simpa using hz))
    simp only [ixP] at ih ⊢
    rw [List.takeWhile_cons,h0]
    simp [ih]
theorem zxL {α:Type} (p:α→Bool) (out:List α):ixP p out≤out.length:=(List.takeWhile_sublist p).length_le
theorem zgV {H:GH} {ty sz bytes:Nat} {a b:GV} {xs ys:List GV} {z:GV} (ha:Elems sz a xs) (hb:Elems sz b ys) (hz:zbG sz (.sl sz [z] .exact)=some [z]) (hbt:H.bt≤H.toks.length) (hl:xs.length+ys.length≤1000) (hby:bytes≤256) :
    ∃ m H1 n H2 r H3,za4 H ty sz bytes (.sl sz [] .exact) a=some (m,H1)∧m.ok=true∧za4 H1 ty sz bytes m (.sl sz [z] .exact)=some (n,H2)∧n.ok=true∧za4 H2 ty sz bytes n b=some (r,H3)∧r.ok=true∧Elems sz r (xs++z::ys)∧TokStep none H H3:=by
  have hm:∀ k:Nat,k≤1001→k * bytes≤zdY:=fun k hk=>Nat.le_trans (Nat.mul_le_mul hk hby) (by simp only [zdY]; omega)
  obtain ⟨m,H1,a1,G1⟩:=zbH (H:=H) (ty:=ty) (bytes:=bytes) (x:=a) (App.exact (sz:=sz) []) ha.news hbt (hm _ (by simp only [List.length_nil]; omega)) (by simp only [List.length_nil,maxLen]; omega)
  obtain ⟨n,H2,a2,G2⟩:=zbH (ty:=ty) (bytes:=bytes) (x:=.sl sz [z] .exact) G1.app hz (G1.step.btle hbt) (hm _ (by simp only [List.length_append,List.length_nil,List.length_singleton]; omega)) (by simp only [List.length_append,List.length_nil,List.length_singleton,maxLen]; omega)
  have G12:=G1.trans G2
  obtain ⟨r,H3,a3,G3⟩:=zbH (ty:=ty) (bytes:=bytes) (x:=b) G2.app hb.news (G12.step.btle hbt) (hm _ (by simp only [List.length_append,List.length_nil,List.length_singleton]; omega)) (by simp only [List.length_append,List.length_nil,List.length_singleton,maxLen]; omega)
  have G:=G12.trans G3
  exact ⟨m,H1,n,H2,r,H3,a1,G1.ok,a2,G2.ok,a3,G.ok,by simpa using G.app.elems,G.step⟩
theorem zdw {n k:Nat} (h:k≤n):zbX n (.int .i64 (k:Int))=some k:=by
  simp only [zbX]; rw [if_pos (by omega)]; simp
theorem insP_mem {α:Type} {p:α→Bool} {e:α} {out:List α} {y:α} : y∈zjY p e out↔y=e∨y∈out:=by
  unfold zjY
  rw [List.mem_append,List.mem_cons]
  conv=>rhs; rw [← List.take_append_drop (ixP p out) out,List.mem_append]
  constructor
  · rintro (h | h | h)
    · exact .inr (.inl h)
    · exact .inl h
    · exact .inr (.inr h)
  · rintro (h | h | h)
    · exact .inr (.inl h)
    · exact .inl h
    · exact .inr (.inr h)
theorem znQ {α:Type} (p:α→Bool) (e:α) (out:List α):(zjY p e out).length=out.length+1:=by
  have:=zxL p out
  unfold zjY
  rw [List.length_append,List.length_cons,List.length_take,List.length_drop]
  omega
end Go.Proofs.YtchjbidfmhmmhaaGreatDoor
namespace Go.Proofs.YtchjbidfmhmmhaaGreatDoor
open Go.Sh
set_option maxHeartbeats 4000000
set_option maxRecDepth 100000
theorem zjZ {x:El} (h:ElBig x) (hr:ElRange x):zay true kLs (elG x)=true:=by
  obtain ⟨h1,h2⟩:=hr
  have:=h.a; have:=h.b; have:=h.c; have:=h.d
  simp [zay,elC,zas,maxLen,IntKind.min,IntKind.max,IntKind.signed,IntKind.bits]
  omega
theorem znR {x:El} (hk:zay true kLs (elG x)=true):∀ {es:List (GV × GV)} {S:List Stp},zb9 zhg es=some S→Has es x (zb1 S x)
  | [],S,h=>by simp only [zb9,Option.some.injEq] at h; subst h; exact .inl ⟨rfl,rfl⟩
  | p::es,S,h=>by
    simp only [zb9] at h
    split at h
    · rename_i a b ha hb
      injection h with h; subst h
      have ih:=znR hk hb
      have hke:zbY p.1 (elG x)=decide (a.1=x):=by
        obtain ⟨e1,_,o1⟩:=zd0 ha
        rw [e1,Bool.eq_iff_iff,zaK (zfJ o1.fit o1.range) hk,decide_eq_true_eq]
        exact ⟨zd3,fun h=>by rw [h]⟩
      unfold Has zaZ zb1 at ih ⊢
      rw [List.find?_cons,List.find?_cons,hke]
      by_cases e:a.1=x
      · simp only [e,decide_true]
        obtain ⟨_,⟨t,ht⟩,_⟩:=zd0 ha
        exact .inr ⟨p.2,rfl,by rw [ht]; exact .sl _ _⟩
      · simp only [e,decide_false]; exact ih
    · cases h
def zvu (H:GH) (s m:Nat) (S:List Stp):Prop:=∃ es,H.objs[s]?=some (.cells 92 [.map m])∧H.objs[m]?=some (.map true kLs es)∧zb9 zhg es=some S
theorem Sto.rd {H:GH} {s m:Nat} {S:List Stp} (h:Sto H s m S):zvu H s m S:=by
  obtain ⟨⟨es,⟨h1,h2,_⟩,hd⟩,_⟩:=h
  exact ⟨es,h1,h2,hd⟩
theorem zo7 {H:GH} {s m:Nat} {S:List Stp} (h:zvu H s m S) (x:El) (hk:zay true kLs (elG x)=true) (hL:(zb1 S x).length≤1000000) (hbo:H.bo≤H.objs.length) :
    ∃ v',ecall T zoG [.ptr s 0,.agg (elC x)] H=some (v',zbW (zb1 S x) H)∧Elems 5 v' ((zb1 S x).map zbV):=by
  obtain ⟨es,h1,h2,hd⟩:=h
  have hv:=znR hk hd
  generalize zb1 S x=L at hv hL
  obtain ⟨w,c1,c2⟩:=zfK L _ hv.get hL H
  obtain ⟨v',hf,hE⟩:=zpa c2 hbo
  refine ⟨v', ?_,hE⟩
  have hok':w.ok=true:=by rcases c2.elems with ⟨_,h⟩ | ⟨_,h⟩; exact h.ok; subst h; rfl
  have hu':∀ t,zbC t w=w:=by rcases c2.elems with ⟨_,h⟩ | ⟨_,h⟩; exact zah h; subst h; exact fun _=>rfl
  have gok:=hv.get.ok
  have gu:=zah hv.get
  have vok:=hE.ok
  have vu:=zah hE
  apply optW.eq
  rw [zad zAv rfl (by simp [zmq]),zab]
  simp only [elG,elC] at hk c1 gok gu
  simp [zmq,zxx,elC,h1,h2,hk,c1,hok',hu',hf,gok,gu,vok,vu,zbc,zdc]
end Go.Proofs.YtchjbidfmhmmhaaGreatDoor
namespace Go.Proofs.YtchjbidfmhmmhaaGreatDoor
open Go.Sh
set_option maxHeartbeats 4000000
set_option maxRecDepth 100000
def zeY (x y:El):Bool:=znr y x
def zqs (out:List El) (x:El):List El:=if out[ixP (zeY x) out]?=some x then out else zjY (zeY x) x out
def ziN (out:List El) (e:Evt):List El:=zqs out e.x
def zbd (R:List Evt):List El:=R.foldl ziN []
theorem zvv (e:Evt) (he:EvFit e) (out:List El) (ho:out.length≤1000) (v:GV) (hv:Elems 5 v (out.map elG)) (g5:Nat) (l0:List GV) (g0:Nat) (H0:GH) (K:GExit × St→Prop)
    (h3:zae l0 3=v) (h5:zae l0 5=.lbox g5 (evC e)) (h6:zae l0 6=.int .i64 0)
    (hk:∀ l g,zae l 6=.int .i64 (ixP (zeY e.x) out)→Fr zi5 l0 l→K (.exit 2,⟨⟨l,g⟩,H0⟩)) :
    optW (erun T (.loop zi5) ⟨⟨l0,g0⟩,H0⟩) K:=by
  refine zcU (l0:=l0) (fun m l g H=>H=H0∧∃ i:Nat,m=out.length - i∧i≤out.length∧zae l 6=.int .i64 i∧∀ k,k<i→∀ y,out[k]?=some y→zeY e.x y=true) ?_ out.length l0 g0 H0 ⟨rfl,0,rfl,Nat.zero_le _,h6,fun k hk=>by omega⟩ (.refl _ _ _)
  intro m l g H ⟨hH,i,hm,hi,q6,lo⟩ hf
  subst hH
  have q3:=hf.get 3 rfl h3 (by simp [hv.boxy])
  have q5:=hf.get 5 rfl h5 rfl
  have hl:=hv.len
  have hu:=zah hv
  have hok:=hv.ok
  simp only [List.length_map] at hl
  have e1:=zcN he.past
  have e6:=zl9 he.past
  by_cases hlt:i<out.length
  · have hlt':(i:Int)<out.length:=by omega
    obtain ⟨lt,ix,opt,get,⟨t,sl⟩,wr_,mem⟩:=zc1 (e:=elG) hv hlt (by omega)
    generalize out[i]'hlt=y at opt get mem
    have hle:=fun H=>zuC y e.x H
    have hw:IntKind.i64.wrap ((i:Int)+1)=(i:Int)+1:=zaq (by omega) (by omega)
    have hlx:(elC y).length=5:=rfl
    have htx:List.take 5 (elC y)=elC y:=rfl
    rw [sl] at q3
    have hfd:zeY e.x y=znr y e.x:=rfl
    cases hb:znr y e.x with
    | true =>
      rw [hb] at hle
      simp [zi5,q3,q5,q6,hl,hlt',ix,opt,e1,e6,hlx,htx,hle,hw]
      refine ⟨out.length - (i+1),by omega,i+1,rfl,by omega,by simp,fun k hk z hz=>?_⟩
      rcases Nat.lt_or_ge k i with h | h
      · exact lo k h z hz
      · have:k=i:=by omega
        rw [this,opt] at hz
        injection hz with hz
        rw [← hz,hfd,hb]
    | false =>
      rw [hb] at hle
      have hx:=zo6 (p:=zeY e.x) hi lo (fun z hz=>by rw [opt] at hz; injection hz with hz; rw [← hz,hfd,hb])
      simp [zi5,q3,q5,q6,hl,hlt',ix,opt,e1,e6,hlx,htx,hle,hw]
      exact fun hf'=>hk _ _ (by simp [q6,hx]) hf'
  · have hie:i=out.length:=by omega
    have hx:=zo6 (p:=zeY e.x) hi lo (fun z hz=>by rw [hie] at hz; simp at hz)
    simp [zi5,q3,q6,hl,hu,hok,hlt]
    exact fun hf'=>hk _ _ (by simp [q6,hx]) hf'
theorem zvw (out:List El) (x:El):(zqs out x).length≤out.length+1:=by
  unfold zqs; split
  · omega
  · rw [znQ]; exact Nat.le_refl _
theorem zde (R:List Evt):(zbd R).length≤R.length:=by
  suffices h:∀ (l:List Evt) (out:List El),(l.foldl ziN out).length≤out.length+l.length by
    have:=h R []; simpa [zbd] using this
  intro l
  induction l with
  | nil=>intro out; simp
  | cons e l ih=>intro out; rw [List.foldl_cons,List.length_cons]; have h1:=ih (ziN out e); have h2:(ziN out e).length≤out.length+1:=zvw out e.x; omega
theorem zo8 {R:List Evt} (hR:R.length≤500) (hof:∀ y∈R,EvFit y) (vr:GV) (hvr:Elems 27 vr (R.map evG)) (l0:List GV) (g0:Nat) (H0:GH) (hbt:H0.bt≤H0.toks.length) (K:GExit × St→Prop)
    (h7:zae l0 7=vr) (h8:zae l0 8=.int .i64 R.length) (h9:zae l0 9=.int .i64 0) (h3:zae l0 3=.nilsl)
    (he:∀ l g H v,zae l 3=v→Elems 5 v ((zbd R).map elG)→TokStep none H0 H→Fr zrA l0 l→K (.exit 0,⟨⟨l,g⟩,H⟩)) :
    optW (erun T (.loop zrA) ⟨⟨l0,g0⟩,H0⟩) K:=by
  refine zaV (T:=T) (n:=R.length) (A:=GV) (fun _ s=>[(3,s)]) (fun i s _ H'=>Elems 5 s ((zbd (R.take i)).map elG)∧TokStep none H0 H') (c:=10) (b:=0) (I:=9) (N:=8) (d:=54) rfl (by omega) (by decide) ⟨rfl,rfl⟩ (by simp) ?_ ?_ 0 .nilsl _ _ H0 (by omega) ⟨by rw [List.take_zero]; exact .nil,.refl _ _⟩ (by simp [h3]) (.refl _ _ _) h9 h8
  · intro i s l g H' hi ⟨hE,hT⟩ hh hf hI
    have h7':=hf.get 7 rfl h7 (by simp [hvr.boxy])
    obtain ⟨lt,ix,opt,get,⟨t,sv⟩,wr_,mem⟩:=zc1 (e:=evG) hvr hi (by omega)
    generalize R[i]'hi=e at opt get mem
    have hfe:=hof e mem
    have l1:=zcN hfe.past
    have l4:List.take 27 (evC e)=evC e:=List.take_of_length_le (by rw [l1]; exact Nat.le_refl _)
    have lo:=zgP hfe.past
    have sp:=zhJ hfe.past
    have l6:=zl9 hfe.past
    have hst:zbd (R.take (i+1))=zqs (zbd (R.take i)) e.x:=by
      unfold zbd; rw [zja ziN [] R i e opt,ziN]
    have hol:=zde (R.take i)
    rw [List.length_take,Nat.min_eq_left (by omega)] at hol
    rw [hst]
    generalize zbd (R.take i)=out at hE hol
    simp only [zax,zaE,and_true] at hh
    rw [sv] at h7'
    have hu:=zah hE
    have hl:=hE.len
    have hk:=hE.ok
    simp only [List.length_map] at hl
    simp [h7',hI,hh,ix,opt,get,sp,l1,l4,lo]
    rw [zal,zat,zal]
    refine zvv e hfe out (by omega) s hE g _ _ H' _ (by simp [hh]) (by simp) (by simp) ?_
    intro l2 g2 k6 hf2
    have k3:=hf2.get 3 rfl (v:=s) (by simp [hh]) (by simp [hE.boxy])
    have k5:=hf2.get 5 rfl (v:=.lbox g (evC e)) (by simp) rfl
    have hix:=zxL (zeY e.x) out
    have hb:=hT.btle hbt
    unfold zqs zjY
    generalize ixP (zeY e.x) out=k at k6 hix
    have go:out[k]?≠some e.x→zae l2 3=s→True:=fun _ _=>trivial
    have g1:zaA (out.map elG).length false true false [.int .i64 (k:Int)]=some (0,k,none):=by
      simp only [zaA,List.length_map,zdw hix,Option.map_some]
    have g2':zaA (out.map elG).length true false false [.int .i64 (k:Int)]=some (k,out.length,none):=by
      simp only [zaA,List.length_map,zdw hix,Option.map_some]
    obtain ⟨c1,d1,e1⟩:=hE.cut g1
    obtain ⟨c2,d2,e2⟩:=hE.cut g2'
    have o1:=e1.ok
    have o2:=e2.ok
    obtain ⟨m,H1,n,H2,r,H3,b1,b2,b3,b4,b5,b6,b7,b8⟩:=zgV (H:=H') (ty:=32) (bytes:=72) (z:=elG e.x) e1 e2 (by simp [zbG]) hb (by simp; omega) (by omega)
    have hx:((out.map elG).drop 0).take (k - 0)++elG e.x::((out.map elG).drop k).take (out.length - k)=(out.take k++e.x::out.drop k).map elG:=by
      rw [List.drop_zero,Nat.sub_zero,List.map_append,List.map_cons,List.map_take,List.map_drop,List.take_of_length_le (l:=(out.map elG).drop k) (by simp)]
    rw [hx] at b7
    have hlx:(elC e.x).length=5:=rfl
    have htx:List.take 5 (elC e.x)=elC e.x:=rfl
    have hone:(elC e.x).all GV.one=true:=rfl
    by_cases hlt:k<out.length
    · have hne:¬ (k:Int)=out.length:=by omega
      have hne':¬ k=out.length:=by omega
      obtain ⟨_,kx,kopt,kget,⟨kt,ksl⟩,_,kmem⟩:=zc1 (e:=elG) hE hlt (by omega)
      generalize out[k]'hlt=y at kopt kget kmem
      have le:=zhH y e.x
      have hly:(elC y).length=5:=rfl
      have hty:List.take 5 (elC y)=elC y:=rfl
      by_cases hy:y=e.x
      · rw [if_pos (by rw [kopt,hy])]
        rw [hy] at le kopt kget
        have k3':=k3
        rw [ksl] at k3
        simp [k3,k5,k6,hl,hu,hk,hne,hne',kx,kopt,l1,l6,le,hlx,htx]
        exact fun _=>⟨by rw [← ksl]; exact hE,hT⟩
      · rw [if_neg (by rw [kopt]; intro h; injection h with h; exact hy h)]
        rw [decide_eq_false hy] at le
        subst ksl
        simp [-zep,k3,k5,k6,hl,hne,hne',kx,kopt,l1,l6,le,hly,hty,hlx,htx,hone,d1,d2,o1,o2,zam,zaS,b1,b2,b3,b4,b5,b6]
        exact fun _=>⟨by simpa using b7,hT.trans b8⟩
    · have hke:k=out.length:=by omega
      subst hke
      rw [if_neg (by simp)]
      simp [k3,k5,k6,hl,hu,hk,l1,l6,hlx,htx,hone,d1,d2,o1,o2,zam,zaS,b1,b2,b3,b4,b5,b6]
      exact fun _=>⟨by simpa using b7,hT.trans b8⟩
  · intro s l g H' ⟨hE,hT⟩ hh hf
    simp only [zax,zaE,and_true] at hh
    rw [List.take_length] at hE
    exact he l g H' s hh hE hT hf
theorem zk6 {R:List Evt} (hR:R.length≤500) (hof:∀ y∈R,EvFit y) (vr:GV) (hvr:Elems 27 vr (R.map evG)) (H:GH) (hbt:H.bt≤H.toks.length) :
    ∃ v H',ecall T zoC [vr] H=some (v,H')∧Elems 5 v ((zbd R).map elG)∧TokStep none H H':=by
  have hl:=hvr.len
  have hu:=zah hvr
  have hk:=hvr.ok
  simp only [List.length_map] at hl
  have key:optW (ecall T zoC [vr] H) fun r=>∃ v H',r=(v,H')∧Elems 5 v ((zbd R).map elG)∧TokStep none H H':=by
    rw [zad zDe rfl (by simp [zrB]),zab]
    simp only [zrB,zz8]
    simp [hl,hu,hk]
    rw [zat,zal]
    refine zo8 hR hof vr hvr _ _ H hbt _ (by simp [hu]) (by simp) (by simp) (by simp) ?_
    intro l g H' v k3 hE hT hf
    have ok:=hE.ok
    simp [k3,ok]
    exact ⟨v,H',⟨rfl,rfl⟩,hE,hT⟩
  obtain ⟨r,h,v,H',rfl,h2⟩:=key
  exact ⟨v,H',h,h2⟩
theorem zhI {α:Type} {p:α→Bool} {e y:α} {out:List α} : zjY p e (y::out)=if p y then y::zjY p e out else e::y::out:=by
  unfold zjY ixP
  rw [List.takeWhile_cons]
  split <;> simp
theorem zsl {α:Type} (p:α→Bool) (e:α) (out:List α):(zjY p e out).Perm (e::out):=by
  unfold zjY
  refine List.perm_middle.trans ?_
  rw [List.take_append_drop]
end Go.Proofs.YtchjbidfmhmmhaaGreatDoor
namespace Go.Proofs.YtchjbidfmhmmhaaGreatDoor
open Go.Sh
set_option maxHeartbeats 4000000
set_option maxRecDepth 100000
theorem zk7 {x y:El} {out:List El} : zqs (y::out) x=if zeY x y then y::zqs out x else if y=x then y::out else x::y::out:=by
  unfold zqs
  have hi:ixP (zeY x) (y::out)=if zeY x y then ixP (zeY x) out+1 else 0:=by
    unfold ixP; rw [List.takeWhile_cons]; split <;> simp
  rw [hi]
  by_cases h:zeY x y
  · rw [if_pos h,if_pos h,List.getElem?_cons_succ]
    split
    · rfl
    · rw [zhI,if_pos h]
  · rw [if_neg h,if_neg h]
    by_cases h2:y=x
    · rw [if_pos h2,if_pos (by rw [h2]; rfl)]
    · rw [if_neg h2,if_neg (by simpa using h2),zhI,if_neg h]
def zxM (l:List El):Prop:=l.Pairwise fun a b=>zdo a b<0
theorem zo9 {x y z:El} (h1:zdo x y<0) (h2:zdo y z<0):zdo x z<0:=by
  have hs:=ordE_ok.swo fun p:El=>p
  have:=hs.trans x y z (decide_eq_true h1) (decide_eq_true h2)
  simpa using this
theorem addE_mem {x z:El} : ∀ {out:List El},z∈zqs out x↔z=x∨z∈out
  | []=>by
    have:zqs [] x=[x]:=rfl
    rw [this]; simp
  | y::out=>by
    rw [zk7]
    split
    · rw [List.mem_cons,addE_mem,List.mem_cons]
      constructor
      · rintro (h | h | h)
        · exact .inr (.inl h)
        · exact .inl h
        · exact .inr (.inr h)
      · rintro (h | h | h)
        · exact .inr (.inl h)
        · exact .inl h
        · exact .inr (.inr h)
    · split
      · rename_i h
        rw [List.mem_cons]
        constructor
        · exact fun h2=>.inr h2
        · rintro (h2 | h2)
          · exact .inl (by rw [h2,h])
          · exact h2
      · rw [List.mem_cons]
theorem zk8 {x:El} : ∀ {out:List El},zxM out→zxM (zqs out x)
  | [],_=>by
    have:zqs [] x=[x]:=rfl
    rw [this]; exact List.pairwise_singleton _ _
  | y::out,h=>by
    unfold zxM at h
    rw [List.pairwise_cons] at h
    rw [zk7]
    split
    · rename_i hl
      have ih:=zk8 (x:=x) h.2
      refine List.pairwise_cons.2 ⟨fun z hz=>?_,ih⟩
      rcases addE_mem.1 hz with rfl | hz
      · simpa [zeY,znr] using hl
      · exact h.1 z hz
    · rename_i hl
      split
      · exact List.pairwise_cons.2 h
      · rename_i hn
        have h1:¬ zdo y x<0:=by simpa [zeY,znr] using hl
        have h2:zdo y x≠0:=fun e=>hn (ordE_ok.zero _ _ e)
        have h3:=ordE_ok.swap y x
        have h4:zdo x y<0:=by omega
        refine List.pairwise_cons.2 ⟨fun z hz=>?_,List.pairwise_cons.2 h⟩
        rcases List.mem_cons.1 hz with rfl | hz
        · exact h4
        · exact zo9 h4 (h.1 z hz)
theorem zeg (R:List Evt):zxM (zbd R)∧∀ z,z∈zbd R↔∃ e∈R,e.x=z:=by
  suffices h:∀ (l:List Evt) (out:List El),zxM out→zxM (l.foldl ziN out)∧∀ z,z∈l.foldl ziN out↔z∈out∨∃ e∈l,e.x=z by
    have:=h R [] List.Pairwise.nil
    exact ⟨this.1,fun z=>(this.2 z).trans (by simp)⟩
  intro l
  induction l with
  | nil=>intro out h; exact ⟨h,fun z=>by simp⟩
  | cons e l ih =>
    intro out h
    obtain ⟨h1,h2⟩:=ih (ziN out e) (zk8 h)
    refine ⟨h1,fun z=>?_⟩
    rw [List.foldl_cons,h2]
    unfold ziN
    rw [addE_mem]
    constructor
    · rintro ((h3 | h3) | ⟨a,ha,h3⟩)
      · exact .inr ⟨e,List.mem_cons_self,h3.symm⟩
      · exact .inl h3
      · exact .inr ⟨a,List.mem_cons_of_mem _ ha,h3⟩
    · rintro (h3 | ⟨a,ha,h3⟩)
      · exact .inl (.inr h3)
      · rcases List.mem_cons.1 ha with rfl | ha
        · exact .inl (.inl h3.symm)
        · exact .inr ⟨a,ha,h3⟩
def zvx (S:List Stp) (x:El):Bool:=!decide (zb1 S x=[])
def zj0 (S:List Stp) (X:List El):List Stp:=(X.filter (zvx S)).map fun x=>(x,zb1 S x)
theorem zvy {S:List Stp} {X:List El} (h:zxM X):(zj0 S X).Pairwise fun p q=>zdo p.1 q.1<0:=by
  unfold zj0
  rw [List.pairwise_map]
  exact h.filter _
theorem zvz {R:List Evt} (h:Row R) {H:GH} {s m:Nat} (hS:Sto H s m (zbD R)):zeI (zbD R)=zj0 (zbD R) (zbd R):=by
  obtain ⟨hr,hm⟩:=zeg R
  have hp:=zvy (S:=zbD R) hr
  have nd:(zj0 (zbD R) (zbd R)).Nodup:=hp.imp fun {a b} hlt e=>by
    rw [e,ordE_ok.self] at hlt; omega
  have nd2:(zbD R).Nodup:=(List.pairwise_map.1 hS.ap).imp fun h e=>h (by rw [e])
  have hperm:(zj0 (zbD R) (zbd R)).Perm (zbD R):=by
    rw [List.perm_iff_count]
    intro p
    rw [nd.count,nd2.count]
    have key:p∈zj0 (zbD R) (zbd R)↔p∈zbD R:=by
      unfold zj0
      rw [List.mem_map]
      constructor
      · rintro ⟨x,hx,rfl⟩
        have:=(List.mem_filter.1 hx).2
        simp only [zvx,Bool.not_eq_true',decide_eq_false_iff_not] at this
        exact zus this
      · intro hm2
        have e:=znD hS.ap hm2
        have hne:zb1 (zbD R) p.1≠[]:=by rw [e]; exact hS.ne_nil p hm2
        refine ⟨p.1,List.mem_filter.2 ⟨(hm p.1).2 ?_,by simp [zvx,hne]⟩,by rw [e]⟩
        have hl:=zjX h p.1
        have:zgg R p.1≠[]:=fun e0=>by
          rw [e0] at hl
          exact hne hl.eq_nil
        obtain ⟨a,ha⟩:=List.exists_mem_of_ne_nil _ this
        have ha:=List.mem_filter.1 ha
        have hb:=ha.2
        unfold zcJ at hb
        simp only [Bool.and_eq_true,decide_eq_true_eq] at hb
        exact ⟨a,ha.1,hb.1.1⟩
    by_cases hc:p∈zbD R
    · rw [if_pos hc,if_pos (key.2 hc)]
    · rw [if_neg hc,if_neg (fun h2=>hc (key.1 h2))]
  have h1:=zft hperm (apart_of.2 hS.ap)
  unfold zeI
  rw [← h1]
  refine (zgI (l:=zj0 (zbD R) (zbd R)) (.refl _) (hp.imp fun {a b} hlt=>?_) zl2 fun a b ha hb e1 e2=>?_).symm
  · have:=ordE_ok.swap a.1 b.1
    show decide (zdo b.1 a.1<0)=false
    exact decide_eq_false (by omega)
  · have e1:decide (zdo a.1 b.1<0)=false:=e1
    have e2:decide (zdo b.1 a.1<0)=false:=e2
    have h2:=of_decide_eq_false e1
    have h3:=of_decide_eq_false e2
    have h4:=ordE_ok.swap a.1 b.1
    have h5:a.1=b.1:=ordE_ok.zero _ _ (by omega)
    obtain ⟨x,_,rfl⟩:=List.mem_map.1 ha
    obtain ⟨y,_,rfl⟩:=List.mem_map.1 hb
    have h5:x=y:=h5
    rw [h5]
end Go.Proofs.YtchjbidfmhmmhaaGreatDoor
