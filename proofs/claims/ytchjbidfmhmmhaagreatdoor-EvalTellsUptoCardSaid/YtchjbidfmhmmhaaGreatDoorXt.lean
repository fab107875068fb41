/- Own work: the zaM machine and what it shows, part Xt. -/
import Derived.Test.YtchjbidfmhmmhaaGreatDoorXq
import Derived.Test.YtchjbidfmhmmhaaGreatDoorXs
set_option linter.all false
namespace Go.Proofs.YtchjbidfmhmmhaaGreatDoor
open Go.Sh
set_option maxHeartbeats 4000000
set_option maxRecDepth 100000
theorem zwV (a:List UInt8) (ha:a.length≤9223372036854775807) (H:GH):ecall T zgj [.str (mkB a)] H=some (.bool (zaz a),H):=by
 have:=zda (mkB a) (by rw [zfo]; omega) H
 rwa [zbC] at this
theorem zwW (H:GH):ecall T ztb [] H=some (.sl 1 (wordsL.map zbB) .exact,H):=by
 apply optW.eq
 rw [zae zHt rfl (by simp [zug]),zab]
 simp [zug,zDU,zan,wordsL]
 and_intros
 all_goals rfl
theorem zFK (L:List (List UInt8)) (hL:L.length≤1000) (v:GV) (hv:Elems 1 v (L.map zbB)) (w:List UInt8) (H:GH):ecall T zqO [v,.str (mkB w)] H=some (.bool (decide (w∈L)),H):=by
 have a1:=hv.len
 have a2:=zad hv
 have a3:=hv.ok
 simp only [List.length_map] at a1
 apply optW.eq
 rw [zae zHs rfl (by simp [zuf]),zab]
 simp only [zuf,zDT]
 simp [a1,a2,a3]
 rw [zav,zap]
 refine zaN (T:=T) (n:=L.length) (A:=Unit) (fun _ _=>[]) (fun i _ _ H'=>H'=H∧w ∉ L.take i) (c:=10) (b:=0) (I:=9) (N:=8) (d:=16) rfl (by omega) (by decide) ⟨rfl,rfl⟩ (by simp) ?_ ?_ 0 () _ _ H (by omega) ⟨rfl,by simp⟩ (by simp) (.refl _ _ _) (by simp) (by simp)
 ·intro i a l g H' hi ⟨hH,hno⟩ hh hf hI
  subst hH
  have h7:=hf.get 7 rfl (v:=v) (by simp [a2]) (by simp [hv.boxy])
  have h1:=hf.get 1 rfl (v:=.str (mkB w)) (by simp) rfl
  obtain ⟨lt,ix,opt,get,⟨t',sl⟩,_,mem⟩:=zbL (e:=zbB) hv hi (by omega)
  generalize L[i]'hi=x at opt get mem
  have htake:L.take (i+1)=L.take i++[x]:=by rw [List.take_add_one,opt]; rfl
  have hc0:(zbB x).cells=[.str (mkB x)]:=rfl
  rw [sl] at h7
  by_cases hx:x=w
  ·subst hx
   simp [h7,h1,hI,ix,opt,get,hc0,mem]
  ·simp [h7,h1,hI,ix,opt,get,hc0,hx]
   refine fun _=>?_
   rw [htake]; simp [hno]
   exact fun h=>hx h.symm
 ·intro a l g H' ⟨hH,hno⟩ hh hf
  subst hH
  rw [List.take_length] at hno
  simp [hno]
theorem zCh (s:List UInt8) (hs:s.length≤9223372036854775807) (H:GH):ecall T zx0 [.agg [.int .i64 1,.int .i64 0,.str (mkB s)]] H=some (.tup [.str (mkB s),.bool (zdc s)],H):=by
 have h1:=fun H=>zwV s hs H
 have h2:=fun H=>zwW H
 have h3:=fun H=>zFK wordsL (by decide) (.sl 1 (wordsL.map zbB) .exact) (.sl _ _) s H
 unfold zdc
 generalize wordsL=W at *
 apply optW.eq
 rw [zae zHl rfl (by simp [zqZ]),zab]
 cases hn:zaz s with
 | false=>rw [hn] at h1; simp [zqZ,zAP,h1]
 | true=>rw [hn] at h1; simp [zqZ,zAP,h1,h2,h3]
theorem zlE (s:List UInt8) (hs:s.length≤9223372036854775807) (H:GH):ecall T znO [.str (mkB s)] H=some (.bool (zdc s),H):=by
 have h1:=fun H=>zCh s hs H
 apply optW.eq
 rw [zae zG6 rfl (by simp [ztX]),zab]
 simp [ztX,zDA,zaf,zaa,h1]
structure ExBig (e:Ex):Prop where
 t:e.v.t.length≤9223372036854775807
 var:e.var.length≤9223372036854775807
 prop:e.prop.length≤9223372036854775807
def nth:Nat→ICode→ICode
 | 0,c=>c
 | n+1,.seq _ c=>nth n c
 | _,c=>c
def zGf (e:Ex) (N L R:Bool):Bool :=
 if e.k=1 then (okV e.v&&(decide (e.v.k≠5)&&(decide (e.v.k≠4) || zdc e.v.t)))&&(decide (e.var=[])&&(decide (e.prop=[])&&(decide (e.l=0)&&decide (e.r=0))))
 else if e.k=2 then N&&(zdc e.var&&(decide (e.prop=[])&&(decide (e.l=0)&&decide (e.r=0))))
 else if e.k=3∨e.k=4 then N&&(zdc e.var&&(zdc e.prop&&(decide (e.l=0)&&decide (e.r=0))))
 else if 5≤e.k∧e.k≤7 then N&&(decide (e.var=[])&&(decide (e.prop=[])&&(L&&decide (e.r=0))))
 else if 8≤e.k∧e.k≤18 then N&&(decide (e.var=[])&&(decide (e.prop=[])&&(L&&R)))
 else false
theorem zCi (e:Ex) (a:Int):zGf e (decide (e.v=zaV)) (decide (0≤e.l)&&decide (e.l<a)) (decide (0≤e.r)&&decide (e.r<a))=zgh e a:=by
 obtain ⟨k,v,var,prop,l,r⟩:=e
 unfold zGf zgh okX zzR okV
 simp only
 split
 ·subst_vars
  simp only [Ex.mk.injEq,true_and,Bool.decide_and]
 ·split
  ·simp only [Ex.mk.injEq,true_and,Bool.decide_and]
   cases zdc var <;> cases decide (v=zaV) <;> simp
  ·split
   ·simp only [Ex.mk.injEq,true_and,Bool.decide_and]
    cases zdc var <;> cases zdc prop <;> cases decide (v=zaV) <;> simp
   ·split
    ·simp only [Ex.mk.injEq,true_and,Bool.decide_and]
     cases decide (v=zaV) <;> cases decide (var=[]) <;> cases decide (prop=[]) <;> cases decide (0≤l) <;> cases decide (l<a) <;> simp
    ·split
     ·simp only [Ex.mk.injEq,true_and,Bool.decide_and]
      cases decide (v=zaV) <;> cases decide (var=[]) <;> cases decide (prop=[]) <;> cases decide (0≤l) <;> cases decide (l<a) <;> cases decide (0≤r) <;> cases decide (r<a) <;> simp
     ·simp
theorem zzW (e:Ex) (he:ExBig e) (N L R:Bool) (l:List GV) (g g2:Nat) (H:GH) (h2:zai l 2=.lbox g2 (exC e)) (h5:zai l 5=.bool N) (h6:zai l 6=.bool L) (h7:zai l 7=.bool R) :
 optW (erun T (nth 3 ztz) ⟨⟨l,g⟩,H⟩) fun r=>∃ l' g',r=(.ret,⟨⟨l',g'⟩,H⟩)∧zai l' 4=.bool (zGf e N L R):=by
 have hR:=fun H=>zkA e.v he.t H
 have hN1:=fun H=>zlE e.v.t he.t H
 have hN2:=fun H=>zlE e.var he.var H
 have hN3:=fun H=>zlE e.prop he.prop H
 simp only [ztz,nth]
 unfold zGf
 obtain ⟨k,v,var,prop,lx,rx⟩:=e
 obtain ⟨vk,vn,vt⟩:=v
 simp only [vlC,exC] at hR hN1 hN2 hN3 h2 ⊢
 by_cases h1:k=1
 ·subst h1
  simp only [if_true]
  cases q1:okV ⟨vk,vn,vt⟩ <;> rw [q1] at hR
  ·simp [zaf,zaa,h2,h5,h6,h7,hR]
  have tl:∀ b:Bool,b=true→True:=fun _ _=>trivial
  by_cases q2:vk=5
  ·subst q2; simp [zaf,zaa,h2,h5,h6,h7,hR]
  by_cases q3:vk=4
  ·subst q3
   cases q4:zdc vt <;> rw [q4] at hN1
   ·simp [zaf,zaa,h2,h5,h6,h7,hR,hN1]
   by_cases c1:var=[]; rotate_left
   ·simp [zaf,zaa,h2,h5,h6,h7,hR,hN1,c1]
   by_cases c2:prop=[]; rotate_left
   ·simp [zaf,zaa,h2,h5,h6,h7,hR,hN1,c1,c2]
   by_cases c3:lx=0; rotate_left
   ·simp [zaf,zaa,h2,h5,h6,h7,hR,hN1,c1,c2,c3]
   by_cases c4:rx=0 <;> simp [zaf,zaa,h2,h5,h6,h7,hR,hN1,c1,c2,c3,c4]
  by_cases c1:var=[]; rotate_left
  ·simp [zaf,zaa,h2,h5,h6,h7,hR,q2,q3,c1]
  by_cases c2:prop=[]; rotate_left
  ·simp [zaf,zaa,h2,h5,h6,h7,hR,q2,q3,c1,c2]
  by_cases c3:lx=0; rotate_left
  ·simp [zaf,zaa,h2,h5,h6,h7,hR,q2,q3,c1,c2,c3]
  by_cases c4:rx=0 <;> simp [zaf,zaa,h2,h5,h6,h7,hR,q2,q3,c1,c2,c3,c4]
 by_cases k2:k=2
 ·subst k2
  simp only [if_neg h1,if_true]
  cases N
  ·simp [zaf,zaa,h2,h5,h6,h7]
  cases q4:zdc var <;> rw [q4] at hN2
  ·simp [zaf,zaa,h2,h5,h6,h7,hN2]
  by_cases c2:prop=[]; rotate_left
  ·simp [zaf,zaa,h2,h5,h6,h7,hN2,c2]
  by_cases c3:lx=0; rotate_left
  ·simp [zaf,zaa,h2,h5,h6,h7,hN2,c2,c3]
  by_cases c4:rx=0 <;> simp [zaf,zaa,h2,h5,h6,h7,hN2,c2,c3,c4]
 by_cases h3:k=3∨k=4
 ·simp only [if_neg h1,if_neg k2,if_pos h3]
  rcases h3 with rfl | rfl
  all_goals
   cases N
   ·simp [zaf,zaa,h2,h5,h6,h7]
   cases q4:zdc var <;> rw [q4] at hN2
   ·simp [zaf,zaa,h2,h5,h6,h7,hN2]
   cases q5:zdc prop <;> rw [q5] at hN3
   ·simp [zaf,zaa,h2,h5,h6,h7,hN2,hN3]
   by_cases c3:lx=0; rotate_left
   ·simp [zaf,zaa,h2,h5,h6,h7,hN2,hN3,c3]
   by_cases c4:rx=0 <;> simp [zaf,zaa,h2,h5,h6,h7,hN2,hN3,c3,c4]
 obtain ⟨h3a,h3b⟩:=not_or.1 h3
 by_cases h57:5≤k∧k≤7
 ·simp only [if_neg h1,if_neg k2,if_neg h3,if_pos h57]
  have hk:k=5∨k=6∨k=7:=by omega
  rcases hk with rfl | rfl | rfl
  all_goals
   cases N
   ·simp [zaf,zaa,h2,h5,h6,h7]
   by_cases c1:var=[]; rotate_left
   ·simp [zaf,zaa,h2,h5,h6,h7,c1]
   by_cases c2:prop=[]; rotate_left
   ·simp [zaf,zaa,h2,h5,h6,h7,c1,c2]
   cases L
   ·simp [zaf,zaa,h2,h5,h6,h7,c1,c2]
   by_cases c4:rx=0 <;> simp [zaf,zaa,h2,h5,h6,h7,c1,c2,c4]
 have n57:¬ k=5∧¬ k=6∧¬ k=7:=by omega
 obtain ⟨n5,n6,n7⟩:=n57
 simp only [if_neg h1,if_neg k2,if_neg h3,if_neg h57]
 by_cases h8:8≤k; rotate_left
 ·have n8:¬ (8≤k∧k≤18):=by omega
  simp [zaf,zaa,h2,h5,h6,h7,h1,k2,h3a,h3b,n5,n6,n7,h8]
 by_cases h18:k≤18; rotate_left
 ·simp [zaf,zaa,h2,h5,h6,h7,h1,k2,h3a,h3b,n5,n6,n7,h8,h18]
 cases N
 ·simp [zaf,zaa,h2,h5,h6,h7,h1,k2,h3a,h3b,n5,n6,n7,h8,h18]
 by_cases c1:var=[]; rotate_left
 ·simp [zaf,zaa,h2,h5,h6,h7,h1,k2,h3a,h3b,n5,n6,n7,h8,h18,c1]
 by_cases c2:prop=[]; rotate_left
 ·simp [zaf,zaa,h2,h5,h6,h7,h1,k2,h3a,h3b,n5,n6,n7,h8,h18,c1,c2]
 cases L
 ·simp [zaf,zaa,h2,h5,h6,h7,h1,k2,h3a,h3b,n5,n6,n7,h8,h18,c1,c2]
 cases R <;> simp [zaf,zaa,h2,h5,h6,h7,h1,k2,h3a,h3b,n5,n6,n7,h8,h18,c1,c2]
theorem zCj (e:Ex) (he:ExBig e) (a:Int) (H:GH):ecall T zxA [exG e,.int .i64 a] H=some (.bool (zgh e a),H):=by
 have hz:zaC [.int .i64,.int .i64,.str] (vlC e.v) [.int .i64 0,.int .i64 0,.str ⟨#[]⟩]=some (decide (e.v=zaV)):=zaj e.v zaV
 have tail:=fun L R l g g2 H=>zzW e he (decide (e.v=zaV)) L R l g g2 H
 rw [← zCi]
 have hl:(exC e).length=8:=rfl
 have ht:List.take 8 (exC e)=exC e:=rfl
 have ho:(exC e).all GV.one=true:=rfl
 have x6:∀ h,(exC e)[6]'h=.int .i64 e.l:=fun _=>rfl
 have x7:∀ h,(exC e)[7]'h=.int .i64 e.r:=fun _=>rfl
 have xv:List.take 3 (List.drop 1 (exC e))=vlC e.v:=rfl
 have xv':List.take 3 (List.tail (exC e))=vlC e.v:=rfl
 apply optW.eq
 rw [zae zGE rfl (by simp [ztA]),zab]
 simp only [ztA]
 show optW (erun T (.seq _ (.seq _ (.seq _ (nth 3 ztz)))) _) _
 generalize nth 3 ztz=rest at tail
 generalize decide (e.v=zaV)=N at *
 by_cases b1:0≤e.l <;> by_cases b2:0≤e.r <;> by_cases b3:e.l<a <;> by_cases b4:e.r<a <;> simp [zaf,zaa,hz,b1,b2,b3,b4,hl,ht,ho,x6,x7,xv,xv']
 all_goals
  refine (tail (decide (0≤e.l)&&decide (e.l<a)) (decide (0≤e.r)&&decide (e.r<a)) _ _ 0 H (by simp) (by simp) (by simp [b1,b3]) (by simp [b2,b4])).mono ?_
  rintro _ ⟨l',g',rfl,h4⟩
  simp [h4,b1,b2,b3,b4]
theorem zjR (row:List Ex) (hL:row.length≤9223372036854775807) (hok:∀ e∈row,ExBig e) (v:GV) (hv:Elems 8 v (row.map exG)) (l0:List GV) (g0:Nat) (H0:GH) (K:GExit × St→Prop)
 (h5:zai l0 5=v) (h6:zai l0 6=.int .i64 row.length) (h7:zai l0 7=.int .i64 0)
 (hr:∀ l g,zcc row=false→zai l 2=.bool false→K (.ret,⟨⟨l,g⟩,H0⟩))
 (he:∀ l g,zcc row=true→K (.exit 0,⟨⟨l,g⟩,H0⟩)) :
 optW (erun T (.loop zz1) ⟨⟨l0,g0⟩,H0⟩) K:=by
 refine zaN (T:=T) (n:=row.length) (A:=Unit) (fun i _=>[]) (fun i _ _ H'=>H'=H0∧∀ (j:Nat) (e:Ex),j<i→row[j]?=some e→zgh e j=true) (c:=8) (b:=0) (I:=7) (N:=6) (d:=16) rfl (by omega) (by decide) ⟨rfl,rfl⟩ (by simp) ?_ ?_ 0 () _ _ H0 (by omega) ⟨rfl,fun j e hj=>by omega⟩ (by simp) (.refl _ _ _) h7 h6
 ·intro i u l g H' hi ⟨hH,hyes⟩ hh hf hI
  subst hH
  have k5:=hf.get 5 rfl h5 (by simp [hv.boxy])
  obtain ⟨lt,ix,opt,get,⟨t,sv⟩,_,mem⟩:=zbL (e:=exG) hv hi (by omega)
  generalize row[i]'hi=e at opt get mem
  have hm:=fun H=>zCj e (hok e mem) i H
  rw [sv] at k5
  have hl:(exC e).length=8:=rfl
  have ht:List.take 8 (exC e)=exC e:=rfl
  have ho:(exC e).all GV.one=true:=rfl
  have hs:zaa [GV.int .i64 0,.int .i64 0,.int .i64 0,.str ⟨#[]⟩,.str ⟨#[]⟩,.str ⟨#[]⟩,.int .i64 0,.int .i64 0] 0 (exC e)=some (exC e):=rfl
  cases hb:zgh e i with
  | false =>
   rw [hb] at hm
   simp [k5,hI,ix,opt,get,hl,ht,ho,hs,hm]
   exact fun _=>hr _ _ (znq opt hb) (by simp)
  | true =>
   rw [hb] at hm
   simp [k5,hI,ix,opt,get,hl,ht,ho,hs,hm]
   intro _ j e' hj he'
   rcases Nat.lt_or_ge j i with h | h
   ·exact hyes j e' h he'
   ·have:j=i:=by omega
    subst this
    rw [opt] at he'
    injection he' with he'
    rw [← he']; exact hb
 ·intro u l g H' ⟨hH,hyes⟩ hh hf
  subst hH
  exact he l g (zkz fun i e h=>hyes i e (List.getElem?_eq_some_iff.1 h).1 h)
theorem zwX (row:List Ex) (hL:row.length≤9223372036854775807) (hok:∀ e∈row,ExBig e) (v:GV) (hv:Elems 8 v (row.map exG)) (H:GH):ecall T zxy [v] H=some (.bool (zcc row),H):=by
 have a1:=hv.len
 have a2:=zad hv
 have a3:=hv.ok
 simp only [List.length_map] at a1
 apply optW.eq
 rw [zae zGr rfl (by simp [ztj]),zab]
 simp only [ztj,zC2]
 simp [a1,a2,a3]
 rw [zav,zap]
 refine zjR row hL hok v hv _ _ _ _ (by simp [a2]) (by simp) (by simp) ?_ ?_
 ·intro l g hno h2
  simp [h2,hno]
 ·intro l g hyes
  simp [hyes]
theorem zwY (row:List Ex) (hL:row.length≤1000) (hmay:∀ (i:Nat) (e:Ex),row[i]?=some e→zgh e i=true) (k:Int) (v:GV) (hv:Elems 8 v (row.map exG)) (l0:List GV) (g0:Nat) (H0:GH) (hbt:H0.bt≤H0.toks.length) (K:GExit × St→Prop)
 (h9:zai l0 9=v) (h10:zai l0 10=.int .i64 row.length) (h11:zai l0 11=.int .i64 0) (h1:zai l0 1=.int .i64 k) (h5:zai l0 5=.nilsl)
 (hr:∀ l g n H,H.objs=H0.objs→H.bo=H0.bo→H.bt=H0.bt→H0.toks.length≤H.toks.length→zai l 4=.int .i64 n→K (.ret,⟨⟨l,g⟩,H⟩))
 (he:∀ l g H,H.objs=H0.objs→H.bo=H0.bo→H.bt=H0.bt→H0.toks.length≤H.toks.length→K (.exit 0,⟨⟨l,g⟩,H⟩)) :
 optW (erun T (.loop zz2) ⟨⟨l0,g0⟩,H0⟩) K:=by
 refine zaN (T:=T) (n:=row.length) (A:=GV × List Int) (fun i p=>[(5,p.1)]) (fun i p _ H'=>p.2.length=i∧App H' 1 p.1 (p.2.map zft)∧H'.objs=H0.objs∧H'.bo=H0.bo∧H'.bt=H0.bt∧H0.toks.length≤H'.toks.length) (c:=12) (b:=0) (I:=11) (N:=10) (d:=48) rfl (by omega) (by decide) ⟨rfl,rfl⟩ (by simp) ?_ ?_ 0 (.nilsl,[]) _ _ H0 (by omega) ⟨rfl,.nil,rfl,rfl,rfl,Nat.le_refl _⟩ (by simp [h5]) (.refl _ _ _) h11 h10
 ·intro i p l g H' hi ⟨hpl,ha,q1,q2,q3,q4⟩ hh hf hI
  obtain ⟨s,M⟩:=p
  simp only at hpl ha hh
  simp only [zaE,zaL,and_true] at hh
  have k9:=hf.get 9 rfl h9 (by simp [hv.boxy])
  have k1:=hf.get 1 rfl h1 rfl
  obtain ⟨lt,ix,opt,get,⟨t,sv⟩,_,mem⟩:=zbL (e:=exG) hv hi (by omega)
  generalize row[i]'hi=e at opt get mem
  have hm:=hmay i e opt
  rw [sv] at k9
  have hl:(exC e).length=8:=rfl
  have ht:List.take 8 (exC e)=exC e:=rfl
  have ho:(exC e).all GV.one=true:=rfl
  have hs:zaa [GV.int .i64 0,.int .i64 0,.int .i64 0,.str ⟨#[]⟩,.str ⟨#[]⟩,.str ⟨#[]⟩,.int .i64 0,.int .i64 0] 0 (exC e)=some (exC e):=rfl
  have x0:∀ h,(exC e)[0]'h=.int .i64 e.k:=fun _=>rfl
  have x6:∀ h,(exC e)[6]'h=.int .i64 e.l:=fun _=>rfl
  have x7:∀ h,(exC e)[7]'h=.int .i64 e.r:=fun _=>rfl
  have app:=fun m=>zbT (ty:=3) (bytes:=8) (ys:=[zft m]) (x:=.sl 1 [zft m] .exact) ha (by simp [zbS]) (by rw [q3]; exact Nat.le_trans hbt q4) (by simp only [List.length_singleton,List.length_map,zeu]; omega) (by simp only [List.length_singleton,List.length_map,maxLen]; omega)
  obtain ⟨w,hw⟩:=Classical.skolem.1 app
  obtain ⟨H2,hw⟩:=Classical.skolem.1 hw
  have a1:=fun m=>(hw m).1
  have G1:=fun m=>(hw m).2
  have su:=zad ha.elems
  have so:=ha.elems.ok
  have w2:=fun m=>zad (G1 m).app.elems
  have w3:=fun m=>(G1 m).ok
  have w4:=fun m=>(G1 m).app.elems.one
  have fin:∀ m,App (H2 m) 1 (w m) ((M++[m]).map zft):=fun m=>by simpa using (G1 m).app
  have at':=fun m=>zbL (e:=zft) (fin m).elems (show i<(M++[m]).length by simp; omega) (by simp; omega)
  obtain ⟨tg,hsv⟩:=Classical.skolem.1 fun m=>(at' m).sl
  have hix:=fun m=>(at' m).ix
  have hlw:∀ m,(M++[m])[i]?=some m:=fun m=>by rw [List.getElem?_append_right (by omega)]; simp [hpl]
  have hix':gIx (M.length+1) (.int .i64 (i:Int))=some i:=by simpa using hix 0
  have hgx:∀ m,(List.map zft M++[zft m])[i]?=some (zft m):=fun m=>by
   rw [List.getElem?_append_right (by simp; omega)]; simp [hpl]
  have keep:∀ m,(M++[m]).length=i+1∧App (H2 m) 1 (w m) ((M++[m]).map zft)∧(H2 m).objs=H0.objs∧(H2 m).bo=H0.bo∧(H2 m).bt=H0.bt∧H0.toks.length≤(H2 m).toks.length:=fun m =>
   ⟨by simp [hpl],fin m,(G1 m).step.objs.trans q1,(G1 m).step.bo.trans q2,(G1 m).step.bt.trans q3,Nat.le_trans q4 (G1 m).step.len⟩
  have out:=fun m l g n=>hr l g n (H2 m) (keep m).2.2.1 (keep m).2.2.2.1 (keep m).2.2.2.2.1 (keep m).2.2.2.2.2
  by_cases g5:5≤e.k
  ·obtain ⟨l0,l1⟩:=zB7 hm g5
   have hll:e.l.toNat<M.length:=by omega
   obtain ⟨_,ixl,optl,getl,⟨tl,svl⟩,_,_⟩:=zbL (e:=zft) ha.elems hll (by omega)
   rw [show ((e.l.toNat:Nat):Int)=e.l by omega] at ixl
   generalize M[e.l.toNat]'hll=ml at optl getl
   subst svl
   by_cases g8:8≤e.k
   ·obtain ⟨r0,r1⟩:=zB8 hm g8
    have hrr:e.r.toNat<M.length:=by omega
    obtain ⟨_,ixr,optr,getr,_,_,_⟩:=zbL (e:=zft) ha.elems hrr (by omega)
    rw [show ((e.r.toNat:Nat):Int)=e.r by omega] at ixr
    generalize M[e.r.toNat]'hrr=mr at optr getr
    by_cases gk:(i:Int)=k
    ·subst gk
     simp [k9,k1,hh,hI,ix,opt,get,hl,ht,ho,hs,x0,x6,x7,g5,g8,a1,zan,ixl,optl,getl,ixr,optr,getr,hsv,hix',hgx]
     intro _; refine out _ _ _ (if 5000<IntKind.i64.wrap (IntKind.i64.wrap (1+ml)+mr) then 5000 else IntKind.i64.wrap (IntKind.i64.wrap (1+ml)+mr)) ?_; simp
    ·simp [k9,k1,hh,hI,ix,opt,get,hl,ht,ho,hs,x0,x6,x7,g5,g8,a1,zan,ixl,optl,getl,ixr,optr,getr,w2,w3,w4,gk]
     exact fun _=>⟨_,keep _⟩
   ·by_cases gk:(i:Int)=k
    ·subst gk
     simp [k9,k1,hh,hI,ix,opt,get,hl,ht,ho,hs,x0,x6,x7,g5,g8,a1,zan,ixl,optl,getl,hsv,hix',hgx]
     intro _; refine out _ _ _ (if 5000<IntKind.i64.wrap (1+ml) then 5000 else IntKind.i64.wrap (1+ml)) ?_; simp
    ·simp [k9,k1,hh,hI,ix,opt,get,hl,ht,ho,hs,x0,x6,x7,g5,g8,a1,zan,ixl,optl,getl,w2,w3,w4,gk]
     exact fun _=>⟨_,keep _⟩
  ·have g8:¬ 8≤e.k:=by omega
   by_cases gk:(i:Int)=k
   ·subst gk
    simp [k9,k1,hh,hI,ix,opt,get,hl,ht,ho,hs,x0,x6,x7,g5,g8,a1,zan,su,so,hsv,hix',hgx]
    intro _; refine out _ _ _ 1 ?_; simp
   ·simp [k9,k1,hh,hI,ix,opt,get,hl,ht,ho,hs,x0,x6,x7,g5,g8,a1,zan,su,so,w2,w3,w4,gk]
    exact fun _=>⟨_,keep _⟩
 ·intro p l g H' ⟨hpl,ha,q1,q2,q3,q4⟩ hh hf
  exact he l g H' q1 q2 q3 q4
structure ExU (e:Ex):Prop where
 t:e.v.t.length≤1073741824
 n1 : -9223372036854775808≤e.v.n
 n2:e.v.n≤9223372036854775807
 var:e.var.length≤1073741824
 prop:e.prop.length≤1073741824
theorem zqr {R:List Evt} (h:Row R) (row:List Ex) (hrl:row.length≤1000) (hin:∀ e∈row,ExU e) (vr:GV) (hvr:Elems 8 vr (row.map exG)) (i:Int) (hi1 : -9223372036854775808≤i) (hi2:i≤9223372036854775807) (b:List Bd) (hbl:b.length≤1000) (hb:∀ x∈b,BdOk x) (ve:GV) (hve:Elems 4 ve (b.map bdG)) (n:Nat) (H:GH) (hV:zus H n R) (hm:n+7≤H.objs.length) :
 ecall T zw3 [vr,.int .i64 i,ve,.ptr (n+6) 0] H=some (.tup [.agg (vlC (zh0 (zg3 R b) row i b).1),.int .i64 (zh0 (zg3 R b) row i b).2],H):=by
 have hw:∀ z,((zj9 R).values z).length≤1000:=fun z=>by
  rw [ziu (zpH h)]
  have:=zka h z
  omega
 have hV':VDone H n (zj9 R) (zgr R) (fun a=>(zgr R).filter fun x=>decide (x.f=a)) (fun a=>(zgr R).filter fun x=>decide (x.t=a)):=hV
 have:=zwF (zwL (zj9 R) b) row hrl (fun e he=>⟨(hin e he).t,(hin e he).n1,(hin e he).n2,by have:=(hin e he).var; omega,by have:=(hin e he).prop; omega⟩) vr hvr i hi1 hi2 b (by omega) hb ve hve (.ptr (n+6) 0) ⟨rfl,fun _=>rfl,rfl,rfl⟩ H (fun e he hk _ H' out ho hk'=>by
  have hlt:=(List.getElem?_eq_some_iff.1 ho).1
  exact zwM (hV'.keep fun j h1 h2=>hk' j (by omega)) (by omega) H.objs.length vr ve out ho b hbl hve hb e (by have:=(hin e he).prop; omega) hw)
 rwa [zwU h b] at this
theorem zwZ (F:Ex→Vl) {row:List Ex} {i:Int} {b:List Bd} (hr:zcc row=true) (h0:0≤i) (h1:i<row.length) (hb:∀ x∈b,okV x.v=true):zh0 F row i b=(evD F row i.toNat,0):=by
 rw [zwG F row i b hb]
 unfold zh0
 rw [if_pos ⟨h0,h1⟩,if_pos hr,if_neg (by simp)]
 unfold evD
 rw [show ((i.toNat:Nat):Int)=i by omega]
theorem zzX (F:Ex→Vl) {row:List Ex} {i:Int} {b:List Bd} (h:¬ (zcc row=true∧0≤i∧i<row.length∧∀ x∈b,okV x.v=true)):zh0 F row i b=(zaV,1):=by
 unfold zh0
 by_cases h1:0≤i∧i<row.length
 ·rw [if_pos h1]
  by_cases h2:zcc row=true
  ·rw [if_pos h2]
   have h3:¬ ∀ x∈b,okV x.v=true:=fun hb=>h ⟨h2,h1.1,h1.2,hb⟩
   rw [if_pos]
   rw [List.any_eq_true]
   obtain ⟨x,hx⟩:=Classical.not_forall.1 h3
   obtain ⟨hx,hn⟩:=Classical.not_imp.1 hx
   refine ⟨x,hx, ?_⟩
   unfold okV at hn
   simpa using hn
  ·rw [if_neg h2]
 ·rw [if_neg h1]
theorem zsF (E:List Evt) (hE:E.length≤9223372036854775807) (hbig:∀ e∈E,EvBig e) (ve:GV) (hve:Elems 27 ve (E.map evG)) (l0:List GV) (g0:Nat) (H0:GH) (K:GExit × St→Prop)
 (h38:zai l0 38=ve) (h39:zai l0 39=.int .i64 E.length) (h40:zai l0 40=.int .i64 0)
 (he:∀ l g,(∀ e∈E,zmy e.x+e.vt.length≤300)→Fr ztd l0 l→K (.exit 0,⟨⟨l,g⟩,H0⟩))
 (hr:∀ l g,zai l 8=.bool true→K (.ret,⟨⟨l,g⟩,H0⟩)) :
 optW (erun T2 (.loop ztd) ⟨⟨l0,g0⟩,H0⟩) K:=by
 refine zaN (T:=T2) (n:=E.length) (A:=Unit) (fun _ _=>[]) (fun i _ _ H'=>H'=H0∧∀ e∈E.take i,zmy e.x+e.vt.length≤300) (c:=41) (b:=0) (I:=40) (N:=39) (d:=47) rfl (by omega) (by decide) ⟨rfl,rfl⟩ (by simp) ?_ ?_ 0 () _ _ H0 (by omega) ⟨rfl,by simp⟩ (by simp) (.refl _ _ _) h40 h39
 ·intro i a l g H' hi ⟨hH,hall⟩ hh hf hIx
  subst hH
  have k38:=hf.get 38 rfl h38 (by simp [hve.boxy])
  obtain ⟨lt,ix,opt,get,⟨t,sv⟩,wr_,mem⟩:=zbL (e:=evG) hve hi (by omega)
  generalize E[i]'hi=e at opt get mem
  have hfe:=hbig e mem
  have hsh:=fun H=>up (zuM e hfe H)
  have l1:=zdv hfe.past
  have l4:List.take 27 (evC e)=evC e:=List.take_of_length_le (by rw [l1]; exact Nat.le_refl _)
  have lo:=zih hfe.past
  have sp:=zkb hfe.past
  have htake:E.take (i+1)=E.take i++[e]:=by rw [List.take_add_one,opt]; rfl
  rw [sv] at k38
  by_cases hs:zmy e.x+e.vt.length≤300
  ·simp [k38,hIx,ix,opt,get,sp,l1,l4,lo,hsh,hs]
   intro _ e' he'
   rw [htake] at he'
   rcases List.mem_append.1 he' with he' | he'
   ·exact hall e' he'
   ·rw [List.mem_singleton] at he'; subst he'; exact hs
  ·simp [k38,hIx,ix,opt,get,sp,l1,l4,lo,hsh,hs]
   exact fun _=>hr _ _ (by simp)
 ·intro a l g H' ⟨hH,hall⟩ hh hf
  subst hH
  rw [List.take_length] at hall
  exact he l g hall hf
theorem zw0 (b:List Bd) (hL:b.length≤1000) (hin:∀ x∈b,BdOk x) (v:GV) (hv:Elems 4 v (b.map bdG)) (r:Bool) (l0:List GV) (g0:Nat) (H0:GH) (K:GExit × St→Prop)
 (h60:zai l0 60=v) (h61:zai l0 61=.int .i64 b.length) (h62:zai l0 62=.int .i64 0) (h11:zai l0 11=.bool r)
 (hr:∀ l g,zai l 8=.bool true→K (.ret,⟨⟨l,g⟩,H0⟩))
 (he:∀ l g,zai l 11=.bool (r&&b.all fun x=>okV x.v)→Fr zte l0 l→K (.exit 2,⟨⟨l,g⟩,H0⟩)) :
 optW (erun T2 (.loop zte) ⟨⟨l0,g0⟩,H0⟩) K:=by
 refine zaN (T:=T2) (n:=b.length) (A:=Unit) (fun i _=>[(11,.bool (r&&(b.take i).all fun x=>okV x.v))]) (fun i _ _ H'=>H'=H0) (c:=63) (b:=2) (I:=62) (N:=61) (d:=77) rfl (by omega) (by decide) ⟨rfl,rfl⟩ (by simp) ?_ ?_ 0 () _ _ H0 (by omega) rfl (by simp [h11]) (.refl _ _ _) h62 h61
 ·intro i u l g H' hi hH hh hf hI
  subst hH
  have k60:=hf.get 60 rfl h60 (by simp [hv.boxy])
  obtain ⟨lt,ix,opt,get,⟨t,sv⟩,_,mem⟩:=zbL (e:=bdG) hv hi (by omega)
  generalize b[i]'hi=e at opt get mem
  have hx:=hin e mem
  rw [sv] at k60
  have htake:b.take (i+1)=b.take i++[e]:=by rw [List.take_add_one,opt]; rfl
  have hl:(bdC e).length=4:=rfl
  have ht:List.take 4 (bdC e)=bdC e:=rfl
  have ho:(bdC e).all GV.one=true:=rfl
  have hs:zaa [GV.str ⟨#[]⟩,.int .i64 0,.int .i64 0,.str ⟨#[]⟩] 0 (bdC e)=some (bdC e):=rfl
  have x3:∀ h,(bdC e)[3]'h=.str (mkB e.v.t):=fun _=>rfl
  have xd:List.take 3 (List.drop 1 (bdC e))=vlC e.v:=rfl
  have xd':List.take 3 (List.tail (bdC e))=vlC e.v:=rfl
  have hR:=fun H=>up (zkA e.v (by have:=hx.t; omega) H)
  simp only [zaE,zaL,and_true] at hh
  have hacc:(r&&(b.take (i+1)).all fun x=>okV x.v)=((r&&(b.take i).all fun x=>okV x.v)&&okV e.v):=by rw [htake,List.all_append,← Bool.and_assoc]; simp
  simp only [hacc]
  generalize (r&&(b.take i).all fun x=>okV x.v)=acc at hh ⊢
  by_cases q2:200<e.v.t.length
  ·have q2':(200:Int)<e.v.t.length:=by omega
   simp [k60,hI,ix,opt,get,hl,ht,ho,hs,x3,q2,q2']
   exact fun _=>hr _ _ (by simp)
  ·have q2':¬ (200:Int)<e.v.t.length:=by omega
   cases acc with
   | false=>simp [k60,hI,ix,opt,get,hl,ht,ho,hs,x3,q2,q2',xd,xd',hh]
   | true => 
    generalize okV e.v=o at *
    simp [k60,hI,ix,opt,get,hl,ht,ho,hs,x3,q2,q2',xd,xd',hR,zak,hh]
 ·intro u l g H' hH hh hf
  subst hH
  simp only [zaE,zaL,and_true,List.take_length] at hh
  exact he l g hh hf
theorem zCk {R:List Evt} (hR:Row R) (vr:GV) (hvr:Elems 27 vr (R.map evG)) (s m:Nat) (l0:List GV) (g0:Nat) (H0:GH) (hS:Sto H0 s m []) (hbo:H0.bo≤H0.objs.length) (K:GExit × St→Prop)
 (h84:zai l0 84=vr) (h85:zai l0 85=.int .i64 R.length) (h86:zai l0 86=.int .i64 0) (h16:zai l0 16=.ptr s 0)
 (he:∀ l g H,Sto H s m (zbP R)→Stepm m H0 H→Fr ztf l0 l→K (.exit 4,⟨⟨l,g⟩,H⟩)) :
 optW (erun T2 (.loop ztf) ⟨⟨l0,g0⟩,H0⟩) K:=by
 have hle:=hR.le
 refine zaN (T:=T2) (n:=R.length) (A:=Unit) (fun _ _=>[]) (fun i _ _ H'=>Sto H' s m (zbP (R.take i))∧Stepm m H0 H') (c:=87) (b:=4) (I:=86) (N:=85) (d:=93) rfl (by omega) (by decide) ⟨rfl,rfl⟩ (by simp) ?_ ?_ 0 () _ _ H0 (by omega) ⟨hS,.refl _ _⟩ (by simp) (.refl _ _ _) h86 h85
 ·intro i a l g H' hi ⟨hA,hSt⟩ hh hf hI
  have k84:=hf.get 84 rfl h84 (by simp [hvr.boxy])
  have k16:=hf.get 16 rfl h16 rfl
  obtain ⟨lt,ix,opt,get,⟨t,sv⟩,wr_,mem⟩:=zbL (e:=evG) hvr hi (by omega)
  generalize R[i]'hi=e at opt get mem
  have hfe:=hR.fit e mem
  have l1:=zdv hfe.past
  have l4:List.take 27 (evC e)=evC e:=List.take_of_length_le (by rw [l1]; exact Nat.le_refl _)
  have lo:=zih hfe.past
  have sp:=zkb hfe.past
  obtain ⟨H1,hd,hA1,hSt1⟩:=hR.step opt hA (hSt.bole hbo)
  rw [sv] at k84
  simp [k84,k16,hI,ix,opt,get,sp,l1,l4,lo,hd]
  exact fun _=>⟨hA1,hSt.trans hSt1⟩
 ·intro a l g H' ⟨hA,hSt⟩ hh hf
  rw [List.take_length] at hA
  exact he l g H' hA hSt hf
set_option maxHeartbeats 8000000
theorem right_all {r:Bool} {b:List Bd} : (r&&b.all fun x=>okV x.v)=true↔r=true∧∀ x∈b,okV x.v=true:=by
 rw [Bool.and_eq_true,List.all_eq_true]
theorem zzY (row:List Ex) (hL:row.length≤1000) (hmay:∀ (i:Nat) (e:Ex),row[i]?=some e→zgh e i=true) (k:Int) (v:GV) (hv:Elems 8 v (row.map exG)) (H:GH):∃ n:Int,ecall T zs0 [v,.int .i64 k] H=some (.int .i64 n,H):=by
 have a1:=hv.len
 have a2:=zad hv
 have a3:=hv.ok
 simp only [List.length_map] at a1
 have hcl:∀ n,zaJ H.objs.length H.toks.length 100 (.int .i64 n)=some (.int .i64 n):=fun _=>rfl
 have goal:optW (ecall T zs0 [v,.int .i64 k] H) fun r=>∃ n:Int,r=(.int .i64 n,H):=by
  rw [zbc zGy rfl (by simp [ztt,a3]),zab]
  simp only [ztt,zC9]
  simp [a1,a2,a3]
  rw [zav,zap]
  refine zwY row hL hmay k v hv _ _ H.over (Nat.le_refl _) _ (by simp [a2]) (by simp) (by simp) (by simp) (by simp) ?_ ?_
  ·intro l g n H1 q1 q2 q3 q4 h4
   simp [h4,hcl]
  ·intro l g H1 q1 q2 q3 q4
   simp [hcl]
 obtain ⟨r,h,n,rfl⟩:=goal
 exact ⟨n,h⟩
theorem zsG (row:List Ex) (hrl:row.length≤40) (hin:∀ e∈row,ExU e) (vw:GV) (hvw:Elems 8 vw (row.map exG)) (i:Int) (hi1 : -9223372036854775808≤i) (hi2:i≤9223372036854775807) (b:List Bd) (hbl:b.length≤12) (hb:∀ x∈b,BdOk x) (ve:GV) (hve:Elems 4 ve (b.map bdG))
 (E:List Evt) (hE:E.length≤30) (hfit:∀ e∈E,EvFit e) (vl:GV) (hvl:Elems 27 vl (E.map evG)) (H:GH) (hbo:H.bo≤H.objs.length) (hbt:H.bt≤H.toks.length)
 (rt:Bool) (hrt:rt=true↔zcc row=true∧0≤i∧i<row.length) (l:List GV) (g:Nat) (h0:zai l 0=vw) (h1:zai l 1=.int .i64 i) (h2:zai l 2=ve) (h3:zai l 3=vl) (h11:zai l 11=.bool rt) :
 optW (erun T2 (nth 5 ztg) ⟨⟨l,g⟩,H⟩) fun r=>∃ l' g' H',r=(.ret,⟨⟨l',g'⟩,H'⟩)∧zai l' 8=.bool true:=by
 have r1:=hvw.len
 have r2:=zad hvw
 have r3:=hvw.ok
 have r4:=hvw.one
 have e1:=hve.len
 have e2:=zad hve
 have e3:=hve.ok
 have e4:=hve.one
 have l1:=hvl.len
 have l2:=zad hvl
 have l3:=hvl.ok
 simp only [List.length_map] at r1 e1 l1
 simp only [ztg,nth]
 simp [h2,e1,e2,e3]
 rw [zav,zap]
 refine zw0 b (by omega) hb ve hve rt _ _ _ _ (by simp [e2]) (by simp) (by simp) (by simp [h11]) (fun l g h8=>by simp [h8]) ?_
 intro lb gb b11 hfb
 have b0:=hfb.get 0 rfl (v:=vw) (by simp [h0]) (by simp [hvw.boxy])
 have b1:=hfb.get 1 rfl (v:=.int .i64 i) (by simp [h1]) rfl
 have b2:=hfb.get 2 rfl (v:=ve) (by simp [h2]) (by simp [hve.boxy])
 have b3:=hfb.get 3 rfl (v:=vl) (by simp [h3]) (by simp [hvl.boxy])
 clear hfb
 obtain ⟨vr,H1,hca,hG⟩:=zrg E (by omega) hfit vl hvl H hbt
 have hca:=up hca
 have hrow:=zCU (show E.length≤60 by omega) hfit
 have hcl:=(zhj E).2
 generalize (zbt E).1=R at hrow hG
 generalize (zbt E).2=kv at hcl hca
 have hrok:=hG.ok
 have hre:=hG.app.elems
 have hrlen:=hre.len
 have hru:=zad hre
 simp only [List.length_map] at hrlen
 have hbo1:H1.bo≤H1.objs.length:=by rw [hG.step.objs,hG.step.bo]; exact hbo
 have hbt1:H1.bt≤H1.toks.length:=hG.step.btle hbt
 have hone:∀ z:List GV,z.length=16→zaa z 0 (kv.map zft)=some (kv.map zft):=fun z hz=>by
  simp only [zaa,hz,List.length_map,hcl]; simp [hcl,hz]
 have ho2:kv.all (GV.one ∘ zft)=true:=by rw [List.all_eq_true]; intros; rfl
 have t3:List.take 16 kv=kv:=List.take_of_length_le (by omega)
 have n1:=zCV H1
 have s1:=Sto.new H1 hbo1
 have m1:=zxi H1
 have hbtn:(zzZ H1).bt≤(zzZ H1).toks.length:=hbt1
 generalize hHn:zzZ H1=Hn at n1 s1 m1 hbtn
 have hbon:Hn.bo≤Hn.objs.length:=by rw [m1.bo]; exact Nat.le_trans hbo1 m1.len
 simp [b3,l2,l3,hca,hrok,hru,hrlen,hcl,hone,ho2,t3,n1]
 rw [zav,zap]
 refine zCk hrow vr hre (H1.objs.length+1) H1.objs.length _ _ Hn s1 hbon _ (by simp [hru]) (by simp) (by simp) (by simp) ?_
 intro lc gc H2 hS hSt hfc
 have c0:=hfc.get 0 rfl (v:=vw) (by simp [b0]) (by simp [hvw.boxy])
 have c1:=hfc.get 1 rfl (v:=.int .i64 i) (by simp [b1]) rfl
 have c2:=hfc.get 2 rfl (v:=ve) (by simp [b2]) (by simp [hve.boxy])
 have c11:=hfc.get 11 rfl (v:=.bool (rt&&b.all fun x=>okV x.v)) (by simp [b11]) rfl
 have c14:=hfc.get 14 rfl (v:=vr) (by simp [hru]) (by simp [hre.boxy])
 have c16:=hfc.get 16 rfl (v:=.ptr (H1.objs.length+1) 0) (by simp) rfl
 clear hfc
 have hsz:=hrow.good.size
 have hle:=hrow.le
 obtain ⟨H3,d1,d2,d3,d4,d5⟩:=zym hS (by omega) (zAV hrow hS) (hSt.bole hbon) (by rw [hSt.bt,hSt.toks]; exact hbtn)
 rw [zur hrow hS,zzL _ (zuk R),(zq5 hrow _).1] at d2
 have hV:zus H3 H2.objs.length R:=d2
 have hVo:zus H3.over H2.objs.length R:=VDone.keep d2 fun _ _ _=>rfl
 have hm:H2.objs.length+7≤H3.objs.length:=d5
 have hEv:=up (zqr hrow row (by omega) hin vw hvw i hi1 hi2 b (by omega) hb ve hve H2.objs.length H3 hV hm)
 have hEo:=zqr hrow row (by omega) hin vw hvw i hi1 hi2 b (by omega) hb ve hve H2.objs.length H3.over hVo hm
 have hTr:=up (zwP vw ve (.ptr (H2.objs.length+6) 0) i ⟨r3,r2⟩ ⟨e3,e2⟩ ⟨rfl,fun _=>rfl⟩ _ _ H3 hEo)
 have hz:zaa [GV.int .i64 0,.int .i64 0,.str ⟨#[]⟩] 0 (vlC zaV)=some (vlC zaV):=rfl
 cases hok:(rt&&b.all fun x=>okV x.v) with
 | false =>
  have hno:¬ (zcc row=true∧0≤i∧i<row.length∧∀ x∈b,okV x.v=true):=fun ⟨q1,q2,q3,q4⟩=>by
   have:=right_all.2 ⟨hrt.2 ⟨q1,q2,q3⟩,q4⟩
   rw [hok] at this; cases this
  rw [zzX (zg3 R b) hno] at hEv hTr
  rw [hok] at c11
  have hlv:zaC [.int .i64,.int .i64,.str] (vlC zaV) [.int .i64 0,.int .i64 0,.str ⟨#[]⟩]=some (decide (zaV=zaV)):=zaj zaV zaV
  rw [decide_eq_true rfl] at hlv
  have hf:decide ((1:Int)=0)=false:=by decide
  simp only [hf,Bool.false_and] at hTr
  simp [c16,d1,c0,c1,c2,c11,r2,r3,e2,e3,hEv,hTr,zaf,zaa,hlv,zak,zah,zal]
 | true =>
  obtain ⟨q0,q4⟩:=right_all.1 hok
  obtain ⟨q1,q2,q3⟩:=hrt.1 q0
  have hlt:i.toNat<row.length:=by omega
  have hmay:=zzV q1
  rw [zwZ (zg3 R b) q1 q2 q3 q4] at hEv hTr
  rw [hok] at c11
  obtain ⟨n,hSz⟩:=zzY row (by omega) hmay i vw hvw H3
  have hSz:=up hSz
  obtain ⟨va,vb,hEnv,hva,hvb⟩:=zwQ b (by omega) ve hve H3
  have hEnv:=up hEnv
  have hvr:RowV R vr:=⟨hrow,hre⟩
  have hRef:=up (zsD hvr row (by omega) hmay vw hvw b (by omega) q4 va vb hva hvb (fun j _=>zFJ hrow q4 q1 j) (i.toNat+1) i.toNat row[i.toNat] (by omega) (List.getElem?_eq_getElem hlt) H3)
  rw [show ((i.toNat:Nat):Int)=i by omega] at hRef
  generalize evD (zg3 R b) row i.toNat=x at hEv hTr hRef
  have a2:=zad hva
  have a3:=hva.ok
  have a4:=hva.one
  have b2:=zad hvb
  have b3:=hvb.ok
  have b4:=hvb.one
  have hlv:=zaj x x
  simp only [decide_true] at hlv
  have hlb:zaC [.int .i64,.int .i64,.str] (vlC x) [.int .i64 1,.int .i64 1,.str ⟨#[]⟩]=some (decide (x=zcr true)):=zaj x (zcr true)
  simp only [decide_true,Bool.true_and] at hTr
  by_cases hn:400<n
  ·simp [c16,d1,c0,c1,c2,c11,r2,r3,e2,e3,hEv,hSz,hn,zaf,zaa,zak,zah,zal]
  ·simp [c16,d1,c0,c1,c2,c11,c14,hru,hrok,r2,r3,e2,e3,hEv,hTr,hSz,hn,hEnv,a2,a3,a4,b2,b3,b4,hRef,zaf,zaa,hlv,hlb,zak,zah,zal]
theorem znu (row:List Ex) (hrl:row.length≤9223372036854775807) (hin:∀ e∈row,ExU e) (vw:GV) (hvw:Elems 8 vw (row.map exG)) (i:Int) (hi1 : -9223372036854775808≤i) (hi2:i≤9223372036854775807) (b:List Bd) (hbl:b.length≤9223372036854775807) (hb:∀ x∈b,BdOk x) (ve:GV) (hve:Elems 4 ve (b.map bdG))
 (E:List Evt) (hE:E.length≤9223372036854775807) (hEin:∀ e∈E,EvIn e) (vl:GV) (hvl:Elems 27 vl (E.map evG)) (H:GH) (hbo:H.bo≤H.objs.length) (hbt:H.bt≤H.toks.length) :
 ∃ H',ecall T2 zlT [vw,.int .i64 i,ve,vl] H=some (.bool true,H'):=by
 have hfx:=zsy
 have r1:=hvw.len
 have r2:=zad hvw
 have r3:=hvw.ok
 have e1:=hve.len
 have e2:=zad hve
 have e3:=hve.ok
 have l1:=hvl.len
 have l2:=zad hvl
 have l3:=hvl.ok
 simp only [List.length_map] at r1 e1 l1
 have tail:=fun h1 h2 h3 hf rt hrt l g=>zsG row h1 hin vw hvw i hi1 hi2 b h2 hb ve hve E h3 hf vl hvl H hbo hbt rt hrt l g
 have goal:optW (ecall T2 zlT [vw,.int .i64 i,ve,vl] H) fun r=>∃ H',r=(.bool true,H'):=by
  rw [zae (zxg _ _ zDZ) rfl (by simp [zth]),zab]
  simp only [zth]
  show optW (erun T2 (.seq _ (.seq _ (.seq _ (.seq _ (.seq _ (nth 5 ztg)))))) _) _
  generalize nth 5 ztg=rest at tail
  by_cases g1:(40:Int)<row.length
  ·simp [hfx,r1,r2,r3,e1,e2,e3,l1,l2,l3,g1]
  by_cases g2:(12:Int)<b.length
  ·simp [hfx,r1,r2,r3,e1,e2,e3,l1,l2,l3,g1,g2]
  by_cases g3:(30:Int)<E.length
  ·simp [hfx,r1,r2,r3,e1,e2,e3,l1,l2,l3,g1,g2,g3]
  simp [hfx,r1,r2,r3,e1,e2,e3,l1,l2,l3,g1,g2,g3]
  rw [zav,zap]
  refine zsF E hE (fun e he=>(hEin e he).big) vl hvl _ _ _ _ (by simp [l2]) (by simp) (by simp) ?_ (fun l g h8=>by simp [h8])
  intro la ga hsh hfa
  have a0:=hfa.get 0 rfl (v:=vw) (by simp) (by simp [hvw.boxy])
  have a1:=hfa.get 1 rfl (v:=.int .i64 i) (by simp) rfl
  have a2:=hfa.get 2 rfl (v:=ve) (by simp) (by simp [hve.boxy])
  have a3:=hfa.get 3 rfl (v:=vl) (by simp) (by simp [hvl.boxy])
  have hRt:=fun H=>up (zwX row (by omega) (fun e he=>⟨by have:=(hin e he).t; omega,by have:=(hin e he).var; omega,by have:=(hin e he).prop; omega⟩) vw hvw H)
  have tail:=tail (by omega) (by omega) (by omega) (fun e he=>(hEin e he).fit (hsh e he))
  cases hr:zcc row <;> rw [hr] at hRt
  ·simp [a0,a1,a2,a3,r2,r3,hRt]
   refine (tail false (by simp [hr]) _ _ (by simp [a0]) (by simp [a1]) (by simp [a2]) (by simp [a3]) (by simp)).mono ?_
   rintro _ ⟨l',g',H',rfl,h8⟩
   simp [h8]
  by_cases q0:0≤i; rotate_left
  ·simp [a0,a1,a2,a3,r2,r3,hRt,q0]
   refine (tail false (by simp [q0]) _ _ (by simp [a0]) (by simp [a1]) (by simp [a2]) (by simp [a3]) (by simp)).mono ?_
   rintro _ ⟨l',g',H',rfl,h8⟩
   simp [h8]
  by_cases q1:i<row.length
  ·simp [a0,a1,a2,a3,r1,r2,r3,hRt,q0,q1]
   refine (tail true (by simp [hr,q0,q1]) _ _ (by simp [a0]) (by simp [a1]) (by simp [a2]) (by simp [a3]) (by simp)).mono ?_
   rintro _ ⟨l',g',H',rfl,h8⟩
   simp [h8]
  ·simp [a0,a1,a2,a3,r1,r2,r3,hRt,q0,q1]
   refine (tail false (by simp [q1]) _ _ (by simp [a0]) (by simp [a1]) (by simp [a2]) (by simp [a3]) (by simp)).mono ?_
   rintro _ ⟨l',g',H',rfl,h8⟩
   simp [h8]
 obtain ⟨r,h,H',rfl⟩:=goal
 exact ⟨H',h⟩
end Go.Proofs.YtchjbidfmhmmhaaGreatDoor
