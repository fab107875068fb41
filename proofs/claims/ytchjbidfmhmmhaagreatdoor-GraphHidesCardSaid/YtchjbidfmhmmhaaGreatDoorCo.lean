/- Own work: the zaG machine and what it shows, part Co. -/
import Derived.Test.YtchjbidfmhmmhaaGreatDoorSt
set_option linter.all false
namespace Go.Proofs.YtchjbidfmhmmhaaGreatDoor
open Go.Sh
set_option maxHeartbeats 4000000
set_option maxRecDepth 100000
theorem zCm {T:Nat→Option IFun} {f:Nat} {fn:List GV→GH→Option (GV × GH)} (hF:T f=some ⟨8,[],.trap,0,15,fn⟩) {args:List GV} {H:GH} {r:GV × GH} (hn:args.length≤8) (h:fn args H=some r):ecall T f args H=some (r.1,H):=by
 rw [zc4 hF (by show 10≤15; decide) hn]
 simp only [ziz]
 rw [if_pos (by decide)]
 simp [zmI,h]
def zeJ (S:List Stp):List Stp:=za3 (ltC cfS) S
theorem znE {α β:Type} {f:α→Option β} : ∀ {l:List α} {r:List β},zca f l=some r→l.length=r.length
 | [],r,h=>by simp only [zca,Option.some.injEq] at h; subst h; rfl
 | x::l,r,h=>by
  simp only [zca] at h
  split at h
  ·rename_i a b ha hb
   injection h with h; subst h
   rw [List.length_cons,List.length_cons,znE hb]
  ·cases h
theorem ziY (S:List Stp):(zeJ S).Perm S:=zaW _
theorem zqG (S:List Stp):(zeJ S).length=S.length:=(ziY S).length_eq
theorem zzx {H:GH} {s m:Nat} {S:List Stp} (h:Sto H s m S) (hl:S.length≤100000):∃ v,ecall T2 zzC [.ptr s 0] H=some (v,H)∧Elems 6 v ((zeJ S).map itG):=by
 obtain ⟨⟨es,ha,hd⟩,hp⟩:=h
 have hf:zot [.ptr s 0] H=some (if S.isEmpty then .nilsl else .sl 6 ((zeJ S).map itG) .imm,H):=by
  simp only [zot,ha.os,ha.om,hd,znE hd]
  rw [if_pos ⟨trivial,hl⟩]
  simp only [Option.bind_some,apart_of.2 hp,if_true]
  rfl
 refine ⟨_,zCm zzw (by simp) hf, ?_⟩
 show Elems 6 (if S.isEmpty then GV.nilsl else _) _
 cases S with
 | nil=>exact .nil
 | cons p S=>exact .sl _ _
theorem znF {S:List Stp} (hp:ziq S) {p:Stp} (h:p∈S):zb2 S p.1=p.2:=by
 unfold zb2
 induction S with
 | nil=>cases h
 | cons q S ih =>
  rw [List.find?_cons]
  unfold ziq at hp
  rw [List.map_cons,List.nodup_cons] at hp
  rcases List.mem_cons.1 h with rfl | h
  ·simp
  ·have:¬ q.1=p.1:=fun e=>hp.1 (by rw [e]; exact List.mem_map_of_mem h)
   simp only [this,decide_false]
   exact ih hp.2 h
theorem zux {S:List Stp} {x:El} (h:zb2 S x≠[]):(x,zb2 S x)∈S:=by
 unfold zb2 at h ⊢
 cases hf:S.find? (fun p=>decide (p.1=x)) with
 | none=>rw [hf] at h; exact absurd rfl h
 | some p =>
  have h1:=List.mem_of_find?_eq_some hf
  have h2:p.1=x:=by simpa using List.find?_some hf
  simp only [Option.map_some,Option.getD_some]
  rw [← h2]; exact h1
theorem causl_app:∀ {v:List Int} {a b:List Evt},zdq v (a++b)↔zdq v a∧zdq (zap v a) b
 | v,[],b=>by simp [zdq,zap]
 | v,e::a,b=>by
  rw [List.cons_append]
  simp only [zdq,zap,List.foldl_cons,causl_app,and_assoc]
structure Row (R:List Evt):Prop where
 fit:∀ e∈R,EvFit e
 causl:zdq zero16 R
 le:R.length≤60
theorem Row.at_ {R:List Evt} (h:Row R) {i:Nat} {e:Evt} (hi:R[i]?=some e):Good (zap zero16 (R.take i)) i (zby (R.take i))∧zgp (zap zero16 (R.take i)) e=true∧zby (R.take (i+1))=doF (zby (R.take i)) e:=by
 have hlt:=(List.getElem?_eq_some_iff.1 hi).1
 have ht:R.take (i+1)=R.take i++[e]:=by rw [List.take_add_one,hi]; rfl
 have hc:zdq zero16 (R.take (i+1)):=by
  have:=h.causl
  rw [← List.take_append_drop (i+1) R] at this
  exact (causl_app.1 this).1
 rw [ht] at hc
 have hc:=causl_snoc.1 hc
 refine ⟨?_,hc.2,by unfold zby; rw [ht,List.foldl_append]; rfl⟩
 have:=zkv (R.take i) Good.nil rfl (fun e he=>h.fit e (List.mem_of_mem_take he)) hc.1
 rw [Nat.zero_add,List.length_take,Nat.min_eq_left (by omega)] at this
 exact this
theorem Row.good {R:List Evt} (h:Row R):Good (zap zero16 R) R.length (zby R):=by
 have:=zkv R Good.nil rfl h.fit h.causl
 rwa [Nat.zero_add] at this
theorem Row.step {R:List Evt} (h:Row R) {i:Nat} {e:Evt} (hi:R[i]?=some e) {H:GH} {s m:Nat} (hS:Sto H s m (zby (R.take i))) (hbo:H.bo≤H.objs.length) :
 ∃ H1,ecall T2 zhu [.ptr s 0,.agg (evC e)] H=some (.int .i64 0,H1)∧Sto H1 s m (zby (R.take (i+1)))∧Stepm m H H1:=by
 obtain ⟨hg,hf,he⟩:=h.at_ hi
 have hb:=(zhp hf).1
 have hlt:=(List.getElem?_eq_some_iff.1 hi).1
 have:=h.le
 have hl:=hg.len e.x
 rw [he]
 exact zyT hS e (h.fit e (List.mem_of_getElem? hi)) (zjB (zku hb)) (hg.dots _) (by omega) hb hbo
theorem dec_ne:∀ {es:List (GV × GV)} {S:List Stp},zca zhb es=some S→∀ p∈S,p.2≠[]
 | [],S,h=>by simp only [zca,Option.some.injEq] at h; subst h; intro p hp; cases hp
 | q::es,S,h=>by
  simp only [zca] at h
  split at h
  ·rename_i a b ha hb
   injection h with h; subst h
   intro p hp
   rcases List.mem_cons.1 hp with rfl | hp
   ·exact (zd2 ha).2.2.ne
   ·exact dec_ne hb p hp
  ·cases h
theorem Sto.ne_nil {H:GH} {s m:Nat} {S:List Stp} (h:Sto H s m S):∀ p∈S,p.2≠[]:=by
 obtain ⟨⟨es,_,hd⟩,_⟩:=h
 exact dec_ne hd
structure ItOk (p:Stp):Prop where
 fit:ElFit p.1
 range:ElRange p.1
 le:p.2.length≤100000
 ent:∀ e∈p.2,EntFit e
 ok:zAF p.1 p.2=true
theorem zxq (a:ByteArray):(a == a)=true:=by
 rcases a with ⟨a⟩
 show (a == a)=true
 exact beq_self_eq_true _
theorem zqH (p:Stp):(itG p).cells=[.int .i64 p.1.k,.str (mkB p.1.a),.str (mkB p.1.b),.str (mkB p.1.c),.str (mkB p.1.d),.sl 5 (p.2.map zbX) .imm]:=rfl
structure EvIn (e:Evt):Prop where
 big:EvBig e
 n1 : -9223372036854775808≤e.vn
 n2:e.vn≤9223372036854775807
theorem EvIn.fit {e:Evt} (h:EvIn e) (hs:ziQ e.x+e.vt.length≤300):EvFit e:=by
 unfold ziQ at hs
 exact ⟨h.big.past,⟨by omega,by omega,by omega,by omega⟩,by omega,h.n1,h.n2⟩
theorem zzy {E:List Evt} (hE:E.length≤60) (hf:∀ e∈E,EvFit e):Row (zbh E).1:=by
 obtain ⟨h1,h2,h3⟩:=zgX E
 exact ⟨fun e he=>hf e (h3 e he),h1,Nat.le_trans (zey E).1 hE⟩
def zox (H:GH):GH:={ H with objs:=H.objs++[.map true kLs [],.cells 92 [.map H.objs.length]] }
theorem zzz (H:GH):ecall T2 zoE [] H=some (.ptr (H.objs.length+1) 0,zox H):=up (zsn H)
theorem Sto.new (H:GH) (hbo:H.bo≤H.objs.length):Sto (zox H) (H.objs.length+1) H.objs.length [] :=
 ⟨⟨[],⟨by simp [zox],by simp [zox],hbo⟩,rfl⟩,List.nodup_nil⟩
theorem zuy (H:GH):More H (zox H):=⟨_,rfl⟩
end Go.Proofs.YtchjbidfmhmmhaaGreatDoor
