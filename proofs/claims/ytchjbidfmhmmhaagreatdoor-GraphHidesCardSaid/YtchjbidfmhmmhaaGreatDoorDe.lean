/- Own work: the zaG machine and what it shows, part De. -/
import Derived.Test.YtchjbidfmhmmhaaGreatDoorEn
set_option linter.all false
namespace Go.Proofs.YtchjbidfmhmmhaaGreatDoor
open Go.Sh
set_option maxRecDepth 100000
theorem zqI {L:List Ent} {i:Nat} {e:Ent} (h:L[i]?=some e):((zbu L).drop (i * 5)).take 5=zcY e:=by
 induction L generalizing i with
 | nil=>simp at h
 | cons y L ih =>
  have hc:zbu (y::L)=zcY y++zbu L:=by simp [zbu]
  rw [hc]
  cases i with
  | zero =>
   simp at h; subst h
   simp [zcY]
  | succ i =>
   simp only [List.getElem?_cons_succ] at h
   have:(zcY y++zbu L).drop ((i+1) * 5)=(zbu L).drop (i * 5):=by
    rw [show (i+1) * 5=5+i * 5 by omega,← List.drop_drop]
    simp [zcY]
   rw [this]; exact ih h
set_option maxHeartbeats 4000000 in
theorem zuz (L:List Ent) (hL:L.length≤1000000) (id fd:Nat) (fa fb:List GV) (p:Ent→Bool) (l0:List GV) (g0:Nat) (H0:GH) (K:GExit × St→Prop)
 (hrow:H0.objs[id]?=some (.row 96 (zbu L))) (hcall:∀ e∈L,ecall T fd (fa++[zbX e]++fb) H0=some (.bool (p e),H0))
 (h0:zag l0 0=.hsl id 0 L.length 5 false) (h1:zag l0 1=.func fd fa fb) (h7:zag l0 7=.int .i64 L.length) (h8:zag l0 8=.int .i64 0)
 (he:∀ l g,(∀ e∈L,p e=false)→K (.exit 0,⟨⟨l,g⟩,H0⟩))
 (hr:∀ l g (i:Nat) e,L[i]?=some e→p e=true→(∀ x∈L.take i,p x=false)→zag l 4=.int .i64 i→K (.ret,⟨⟨l,g⟩,H0⟩)) :
 optW (erun T (.loop zrC) ⟨⟨l0,g0⟩,H0⟩) K:=by
 refine za5 (T:=T) (n:=L.length) (A:=Unit) (fun _ _=>[]) (fun i _ _ H'=>H'=H0∧∀ x∈L.take i,p x=false) (c:=9) (b:=0) (I:=8) (N:=7) (d:=18) rfl (by omega) (by decide) ⟨rfl,rfl⟩ (by simp) ?_ ?_ 0 () _ _ H0 (by omega) ⟨rfl,by simp⟩ (by simp) (.refl _ _ _) h8 h7
 ·intro i a l g H' hi ⟨hH,hall⟩ hh hf hI
  subst hH
  have q0:=hf.get 0 rfl h0 (by simp [GV.boxy])
  have q1:=hf.get 1 rfl h1 (by simp [GV.boxy])
  have opt:L[i]?=some L[i]:=List.getElem?_eq_getElem hi
  have mem:L[i]∈L:=List.getElem_mem hi
  generalize L[i]'hi=e at opt mem
  have hat:=zqI opt
  have hlen:=zcv L
  have hc:=hcall e mem
  simp only [zbX,zcY,List.append_assoc,List.cons_append,List.nil_append] at hc
  have htake:L.take (i+1)=L.take i++[e]:=by rw [List.take_add_one,opt]; rfl
  have ix:gIx L.length (.int .i64 (i:Int))=some i:=by simp only [gIx]; rw [if_pos (by omega)]; simp
  have hle:i * 5+5≤(zbu L).length:=by omega
  cases hp:p e with
  | true =>
   rw [hp] at hc
   simp [q0,q1,hI,ix,hrow,hc,hat,zcY,hle]
   exact fun _=>hr _ _ i e opt hp hall (by simp)
  | false =>
   rw [hp] at hc
   simp [q0,q1,hI,ix,hrow,hc,hat,zcY,hle]
   intro _ x hx
   rw [htake] at hx
   rcases List.mem_append.1 hx with hx | hx
   ·exact hall x hx
   ·rw [List.mem_singleton] at hx; subst hx; exact hp
 ·intro a l g H' ⟨hH,hall⟩ hh hf
  subst hH
  rw [List.take_length] at hall
  exact he l g hall
theorem zuA (L:List Ent) (hL:L.length≤1000000) (id fd:Nat) (fa fb:List GV) (p:Ent→Bool) (H:GH)
 (hrow:H.objs[id]?=some (.row 96 (zbu L))) (hcall:∀ e∈L,ecall T fd (fa++[zbX e]++fb) H=some (.bool (p e),H)) (hok:(GV.func fd fa fb).ok=true) :
 ∃ r:Int,ecall T zoH [.hsl id 0 L.length 5 false,.func fd fa fb] H=some (.int .i64 r,H) ∧
  ((r=-1∧∀ e∈L,p e=false)∨∃ (i:Nat) (e:Ent),r=i∧L[i]?=some e∧p e=true∧∀ x∈L.take i,p x=false):=by
 have key:optW (ecall T zoH [.hsl id 0 L.length 5 false,.func fd fa fb] H) fun q=>∃ r:Int,q=(.int .i64 r,H) ∧
  ((r=-1∧∀ e∈L,p e=false)∨∃ (i:Nat) (e:Ent),r=i∧L[i]?=some e∧p e=true∧∀ x∈L.take i,p x=false):=by
  rw [zad zAo rfl (by simp [zmo]),zab]
  simp only [zmo,zxH]
  simp
  rw [zay,zar]
  refine zuz L hL id fd fa fb p _ _ H _ hrow hcall (by simp) (by simp) (by simp) (by simp) ?_ ?_
  ·intro l g h
   simp
   exact h
  ·intro l g i e h1 h2 h3 h4
   simp [h4]
   exact ⟨i,rfl,e,h1,h2,h3⟩
 obtain ⟨⟨v,H'⟩,h1,r,h2,h3⟩:=key
 exact ⟨r,by rw [h1,h2],h3⟩
theorem zdw (A B:List Ent):zbu (A++B)=zbu A++zbu B:=by simp [zbu]
theorem zuB (A:List Ent) (y e:Ent) (B:List Ent):(zbu (A++y::B)).take (A.length * 5)++(zcY e++(zbu (A++y::B)).drop (A.length * 5+5))=zbu (A++e::B):=by
 have hA:=zcv A
 have hc:∀ z,zbu (z::B)=zcY z++zbu B:=fun z=>by simp [zbu]
 rw [zdw,zdw,hc,hc]
 have e1:(zbu A++(zcY y++zbu B)).take (A.length * 5)=zbu A:=by rw [← hA,List.take_left']; rfl
 have e2:(zbu A++(zcY y++zbu B)).drop (A.length * 5+5)=zbu B:=by
  rw [← hA,List.drop_append]
  simp [zcY]
 rw [e1,e2]
theorem zD4 (H:GH) (ev:Nat) (t:Nat) (cs:List GV) (past:List Int) (hp:past.length=16) (h:H.objs[ev]?=some (.cells t cs)) (hc:(cs.drop 2).take 16=past.map fun n=>GV.int .i64 n) (hl:18≤cs.length) (e:Ent) :
 ecall T zuV [zbX e,.ptr ev 0] H=some (.bool (zbO past e.r e.c),H):=by
 have hk:=fun H=>zkF past hp e.r e.c H
 simp only [zoA] at hk
 apply optW.eq
 rw [zad zCJ rfl (by simp [zru]),zab]
 simp [zru,zzV,zcY,h,hc,hl,hk]
def zbo (H:GH) (id:Nat) (R:List Ent):GH:={ H with objs:=H.objs.set id (.row 96 (zbu R)) }
theorem zgb {H:GH} {id:Nat} (h:id<H.objs.length) (R:List Ent):(zbo H id R).objs[id]?=some (.row 96 (zbu R)):=by simp [zbo,h]
set_option maxHeartbeats 4000000 in
theorem zuC (L:List Ent) (hL:L.length≤1000000) (id fd:Nat) (fa fb:List GV) (p:Ent→Bool) (l0:List GV) (g0:Nat) (H0:GH) (K:GExit × St→Prop) (i0 j0:Nat) (hij:i0≤j0) (hj0:j0≤L.length)
 (hid:id<H0.objs.length) (hbo:H0.bo≤id) (hcall:∀ R,∀ e∈L,ecall T fd (fa++[zbX e]++fb) (zbo H0 id R)=some (.bool (p e),zbo H0 id R))
 (hK0:((L.take j0).filter fun e=>!p e)=L.take i0)
 (h0:zag l0 0=.hsl id 0 L.length 5 false) (h1:zag l0 1=.func fd fa fb) (h5:zag l0 5=.int .i64 i0) (h6:zag l0 6=.int .i64 j0)
 (he:∀ l g,zag l 5=.int .i64 (L.filter fun e=>!p e).length→Fr zgL l0 l→K (.exit 0,⟨⟨l,g⟩,zbo H0 id ((L.filter fun e=>!p e)++L.drop (L.filter fun e=>!p e).length)⟩)) :
 optW (erun T (.loop zgL) ⟨⟨l0,g0⟩,zbo H0 id L⟩) K:=by
 refine zeH (l0:=l0) (fun m l g H=>∃ (j:Nat) (A:List Ent),m=L.length - j∧j≤L.length∧A.length≤j∧A=((L.take j).filter fun e=>!p e)∧H=zbo H0 id (A++L.drop A.length)∧zag l 5=.int .i64 A.length∧zag l 6=.int .i64 j) ?_ (L.length - j0) l0 g0 _ ⟨j0,L.take i0,rfl,hj0,by rw [List.length_take]; omega,hK0.symm,by rw [List.length_take,Nat.min_eq_left (by omega),List.take_append_drop],by rw [List.length_take,Nat.min_eq_left (by omega)]; exact h5,h6⟩ (.refl _ _ _)
 intro m l g H ⟨j,A,hm,hj,hA,hAe,hH,q5,q6⟩ hf
 subst hH
 have q0:=hf.get 0 rfl h0 (by simp [GV.boxy])
 have q1:=hf.get 1 rfl h1 (by simp [GV.boxy])
 by_cases hlt:j<L.length
 ·have hlt':(j:Int)<L.length:=by omega
  have hlA:A.length<L.length:=by omega
  obtain ⟨y,B,hyB⟩:∃ y B,L.drop A.length=y::B:=by
   cases h:L.drop A.length with
   | nil=>have:=congrArg List.length h; simp at this; omega
   | cons y B=>exact ⟨y,B,rfl⟩
  have opt:L[j]?=some L[j]:=List.getElem?_eq_getElem hlt
  have mem:L[j]∈L:=List.getElem_mem hlt
  generalize L[j]'hlt=e at opt mem
  have optR:(A++L.drop A.length)[j]?=some e:=by
   rw [List.getElem?_append_right hA,List.getElem?_drop,show A.length+(j - A.length)=j by omega]; exact opt
  have hat:=zqI optR
  have hlen:=zcv (A++L.drop A.length)
  have hRl:(A++L.drop A.length).length=L.length:=by rw [List.length_append,List.length_drop]; omega
  have hle:j * 5+5≤(zbu (A++L.drop A.length)).length:=by omega
  have hle2:A.length * 5+5≤(zbu (A++L.drop A.length)).length:=by omega
  have hc:=hcall (A++L.drop A.length) e mem
  have hrow:=zgb hid (A++L.drop A.length)
  simp only [zbX,zcY,List.append_assoc,List.cons_append,List.nil_append] at hc
  have ix:gIx L.length (.int .i64 (j:Int))=some j:=by simp only [gIx]; rw [if_pos (by omega)]; simp
  have ix2:gIx L.length (.int .i64 (A.length:Int))=some A.length:=by simp only [gIx]; rw [if_pos (by omega)]; simp
  have w1:IntKind.i64.wrap ((j:Int)+1)=(j:Int)+1:=zam (by omega) (by omega)
  have w2:IntKind.i64.wrap ((A.length:Int)+1)=(A.length:Int)+1:=zam (by omega) (by omega)
  have htake:L.take (j+1)=L.take j++[e]:=by rw [List.take_add_one,opt]; rfl
  have hbo':(zbo H0 id (A++L.drop A.length)).bo≤id:=hbo
  cases hp:p e with
  | true =>
   rw [hp] at hc
   simp [zgL,q0,q1,q5,q6,hlt',ix,hrow,hat,hle,hc,zcY,zae,w1]
   refine ⟨L.length - (j+1),by omega,j+1,rfl,by omega,A,by omega, ?_,rfl,rfl,rfl⟩
   rw [htake,List.filter_append,← hAe]
   simp [hp]
  | false =>
   rw [hp] at hc
   have hst:(⟨(zbo H0 id (A++L.drop A.length)).objs.set id (.row 96 ((zbu (A++L.drop A.length)).take (A.length * 5)++(.int .i64 e.r::.int .i64 e.c::.int .i64 e.k::.int .i64 e.n::.str (mkB e.t)::(zbu (A++L.drop A.length)).drop (A.length * 5+5)))),(zbo H0 id (A++L.drop A.length)).toks,(zbo H0 id (A++L.drop A.length)).bo,(zbo H0 id (A++L.drop A.length)).bt⟩:GH)=zbo H0 id (A++e::B):=by
    have:=zuB A y e B
    simp only [zcY,List.cons_append,List.nil_append] at this
    rw [hyB,this]
    simp [zbo]
   have hB:B=L.drop (A.length+1):=by
    have:=congrArg (List.drop 1) hyB
    simpa [List.drop_drop] using this.symm
   simp [zgL,q0,q1,q5,q6,hlt',ix,ix2,hrow,hat,hle,hle2,hc,zcY,zae,w1,w2,hbo',hst]
   refine ⟨L.length - (j+1),by omega,j+1,rfl,by omega,A++[e],by simp; omega, ?_, ?_,by simp,rfl⟩
   ·rw [htake,List.filter_append,← hAe]
    simp [hp]
   ·rw [hB]; simp
 ·have hlt':¬ (j:Int)<L.length:=by omega
  have hjl:j=L.length:=by omega
  subst hjl
  rw [List.take_length] at hAe
  subst hAe
  simp [zgL,q0,q5,q6]
  exact he _ _ (by simp [q5])
def zzA (A:List Ent) (id:Nat) (v:GV):Prop:=(A≠[]∧v=.hsl id 0 A.length 5 false)∨(A=[]∧v=.sl 5 [] .imm)
set_option maxHeartbeats 4000000 in
theorem zqJ (L:List Ent) (hne:L≠[]) (hL:L.length≤1000000) (id fd:Nat) (fa fb:List GV) (p:Ent→Bool) (H:GH)
 (hrow:H.objs[id]?=some (.row 96 (zbu L))) (hbo:H.bo≤id) (hcall:∀ R,∀ e∈L,ecall T fd (fa++[zbX e]++fb) (zbo H id R)=some (.bool (p e),zbo H id R)) :
 ∃ R v,ecall T zme [.hsl id 0 L.length 5 false,.func fd fa fb] H=some (v,zbo H id ((L.filter fun e=>!p e)++R))∧zzA (L.filter fun e=>!p e) id v:=by
 have hid:id<H.objs.length:=(List.getElem?_eq_some_iff.1 hrow).1
 have hsame:zbo H id L=H:=by
  have:H.objs.set id (.row 96 (zbu L))=H.objs:=by
   apply List.ext_getElem?
   intro k
   by_cases hk:id=k
   ·subst hk; rw [List.getElem?_set_self hid,hrow]
   ·rw [List.getElem?_set_ne hk]
  simp [zbo,this]
 obtain ⟨r,hidx,hcase⟩:=zuA L hL id fd fa fb p H hrow (fun e he=>by have:=hcall L e he; rwa [hsame] at this) rfl
 have key:optW (ecall T zme [.hsl id 0 L.length 5 false,.func fd fa fb] H) fun q=>∃ R,q.2=zbo H id ((L.filter fun e=>!p e)++R)∧zzA (L.filter fun e=>!p e) id q.1:=by
  rw [zad zAk rfl (by simp [zmk]),zab]
  simp only [zmk,zxB]
  rcases hcase with ⟨rfl,hno⟩ | ⟨i,e,rfl,opt,hp,hall⟩
  ·have hf:(L.filter fun e=>!p e)=L:=List.filter_eq_self.2 fun e he=>by simp [hno e he]
   rw [hf]
   simp [hidx]
   exact ⟨⟨[],by rw [List.append_nil,hsame]⟩,.inl ⟨hne,rfl⟩⟩
  ·have hi:i<L.length:=(List.getElem?_eq_some_iff.1 opt).1
   have hne:¬ ((i:Int)=-1):=by omega
   have w1:IntKind.i64.wrap ((i:Int)+1)=((i+1:Nat):Int):=by rw [zam (by omega) (by omega)]; omega
   simp [hidx,hne,w1]
   rw [zay,zar]
   have hlo:∀ (l0:List GV) (g0:Nat) (K:GExit × St→Prop),optW (erun T (.loop zgL) ⟨⟨l0,g0⟩,zbo H id L⟩) K→optW (erun T (.loop zgL) ⟨⟨l0,g0⟩,H⟩) K:=fun l0 g0 K h=>by rwa [hsame] at h
   refine hlo _ _ _ (zuC L hL id fd fa fb p _ _ H _ i (i+1) (by omega) (by omega) hid hbo hcall ?_ (by simp) (by simp) (by simp) (by simp [w1]) ?_)
   ·rw [List.take_add_one,opt,List.filter_append,List.filter_eq_self.2 (fun x hx=>by simp [hall x hx])]
    simp [hp]
   ·intro l g h5 hf
    have q0:=hf.get 0 rfl (v:=.hsl id 0 L.length 5 false) (by simp) (by simp [GV.boxy])
    have hn:(L.filter fun e=>!p e).length<L.length:=by
     rcases Nat.lt_or_ge (L.filter fun e=>!p e).length L.length with h | h
     ·exact h
     ·have hs:=List.filter_sublist (p:=fun e=>!p e) (l:=L)
      have he:=hs.eq_of_length_le h
      have:=List.filter_eq_self.1 he e (List.mem_of_getElem? opt)
      simp [hp] at this
    generalize hA:(L.filter fun e=>!p e)=A at *
    have b1:zaO L.length true false false [.int .i64 A.length]=some (A.length,L.length,none):=by simp [zaO,zce]; omega
    have b2:zaO L.length false true false [.int .i64 A.length]=some (0,A.length,none):=by simp [zaO,zce]; omega
    have hrow':=zgb hid (A++L.drop A.length)
    have hlen:=zcv (A++L.drop A.length)
    have hRl:(A++L.drop A.length).length=L.length:=by rw [List.length_append,List.length_drop]; omega
    have hAL:A.length+(L.length - A.length)=L.length:=by omega
    have s1:∀ l g H',zao (ecall T) (.slsl 5 true false false) [.hsl id 0 L.length 5 false,.int .i64 A.length] ⟨l,g⟩ H'=some ⟨.hsl id (A.length * 5) (L.length - A.length) 5 false,none,H',g⟩:=fun l g H'=>by
     show (Option.map _ (if (5:Nat)=5 then (zaO L.length true false false [.int .i64 A.length]).map _ else none))=_
     rw [b1]
     simp [hn]
    have s2:∀ l g H',zao (ecall T) (.slsl 5 false true false) [.hsl id 0 L.length 5 false,.int .i64 A.length] ⟨l,g⟩ H'=some ⟨if 0<A.length then .hsl id 0 A.length 5 false else .sl 5 [] .imm,none,H',g⟩:=fun l g H'=>by
     show (Option.map _ (if (5:Nat)=5 then (zaO L.length false true false [.int .i64 A.length]).map _ else none))=_
     rw [b2]
     simp
    have hrest:L.length - A.length > 0:=by omega
    obtain ⟨Z,hZ⟩:∃ Z:List Ent,Z=List.replicate (L.length - A.length) ⟨0,0,0,0,[]⟩:=⟨_,rfl⟩
    have hcl:ze0 (zbo H id (A++L.drop A.length)) 5 (.agg [.int .i64 0,.int .i64 0,.int .i64 0,.int .i64 0,.str ⟨#[]⟩]) [.hsl id (A.length * 5) (L.length - A.length) 5 false]=some (.tup [],zbo H id (A++Z)):=by
     simp only [ze0,hrow']
     rw [if_pos (by refine ⟨trivial,hbo,hrest, ?_,rfl,rfl⟩; rw [hlen,hRl]; omega)]
     have e1:(zbu (A++L.drop A.length)).take (A.length * 5)=zbu A:=by
      rw [zdw,← zcv A,List.take_left']; rfl
     have e2:(zbu (A++L.drop A.length)).drop (A.length * 5+(L.length - A.length) * 5)=[]:=List.drop_eq_nil_iff.2 (by rw [hlen,hRl]; omega)
     have e3:(List.replicate (L.length - A.length) (GV.agg [.int .i64 0,.int .i64 0,.int .i64 0,.int .i64 0,.str ⟨#[]⟩])).flatMap GV.cells=zbu Z:=by
      rw [hZ,zbu,List.map_replicate]
      rfl
     rw [e1,e2,e3,List.append_nil,← zdw]
     simp [zbo]
    rcases Nat.eq_zero_or_pos A.length with h0 | h0
    ·have hA0:A=[]:=List.length_eq_zero_iff.1 h0
     have s3:∀ l g H',zao (ecall T) (.slsl 5 false true false) [.hsl id 0 L.length 5 false,.int .i64 A.length] ⟨l,g⟩ H'=some ⟨.sl 5 [] .imm,none,H',g⟩:=fun l g H'=>by rw [s2,if_neg (by omega)]
     clear s2
     simp [h5,q0,s1,s3,hcl]
     exact ⟨⟨Z,rfl⟩,.inr ⟨hA0,rfl⟩⟩
    ·have hA0:A≠[]:=fun h=>by rw [h] at h0; simp at h0
     have s3:∀ l g H',zao (ecall T) (.slsl 5 false true false) [.hsl id 0 L.length 5 false,.int .i64 A.length] ⟨l,g⟩ H'=some ⟨.hsl id 0 A.length 5 false,none,H',g⟩:=fun l g H'=>by rw [s2,if_pos h0]
     clear s2
     simp [h5,q0,s1,s3,hcl]
     exact ⟨⟨Z,rfl⟩,.inl ⟨hA0,rfl⟩⟩
 obtain ⟨⟨v,H'⟩,h1,R,h2,h3⟩:=key
 exact ⟨R,v,by rw [h1]; exact congrArg some (Prod.ext rfl h2),h3⟩
end Go.Proofs.YtchjbidfmhmmhaaGreatDoor
