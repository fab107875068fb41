/- Own work: the zaG machine and what it shows, part ShH. -/
import Derived.Test.YtchjbidfmhmmhaaGreatDoorShF
import Derived.Shelf.SlSortCmp.NoneTotal
import Derived.Shelf.SlSortCmp.Insertion
import Derived.Maps.RangeRun
import Derived.Laws.IdiomRangeMap
set_option linter.all false
namespace Go.Sh
def znq (k:Nat):Nat→List GV→List (List GV)
 | 0,_=>[]
 | n+1,cs=>cs.take k::znq k n (cs.drop k)
def zuq {β:Type} (lt:β→β→Bool) (x:β):List β→List β
 | []=>[x]
 | y::l=>if lt y x then y::zuq lt x l else x::y::l
def za3 {β:Type} (lt:β→β→Bool) (l:List β):List β:=l.foldr (zuq lt) []
def zur {β:Type} (de:List GV→Option β):List (List GV)→Option (List β)
 | []=>some []
 | x::l=>match de x,zur de l with
  | some a,some b=>some (a::b)
  | _,_=>none
def ltC {β:Type} (cf:β→β→Int) (x y:β):Bool:=decide (cf x y<0)
def zgW {β:Type} (g k:Nat) (de:List GV→Option β) (en:β→List GV) (cf:β→β→Int) (chk:List β→Bool):List GV→GH→Option (GV × GH)
 | [.nilsl,.func _ _ _],H=>some (.tup [],H)
 | [.hsl id 0 len sz _,.func g' [] []],H=>match H.objs[id]? with
  | some (.row ty cs)=>if g'=g∧sz=k∧H.bo≤id∧0<len∧0<k∧len≤1000000∧cs.length=len * k∧cs.all GV.one=true then
   (zur de (znq k len cs)).bind fun bs=>if chk bs=true then
     some (.tup [],{ H with objs:=H.objs.set id (.row ty ((za3 (ltC cf) bs).flatMap en)) }) else none
   else none
  | _=>none
 | _,_=>none
section
variable {β:Type} {lt:β→β→Bool}
theorem zii (x:β):∀ l,(zuq lt x l).Perm (x::l)
 | []=>.refl _
 | y::l=>by
  unfold zuq
  split
  ·exact ((zii x l).cons y).trans (.swap x y l)
  ·exact .refl _
theorem zaW:∀ l,(za3 lt l).Perm l
 | []=>.refl _
 | x::l=>(zii x _).trans ((zaW l).cons x)
theorem zij (hO:Sort.SWO lt) (x:β):∀ l:List β,l.Pairwise (fun a b=>lt b a=false)→(zuq lt x l).Pairwise (fun a b=>lt b a=false)
 | [],_=>by simp [zuq]
 | y::l,h=>by
  have h':=List.pairwise_cons.1 h
  unfold zuq
  split
  ·rename_i hyx
   refine List.pairwise_cons.2 ⟨fun z hz=>?_,zij hO x l h'.2⟩
   rcases List.mem_cons.1 ((zii x l).mem_iff.1 hz) with rfl | hz
   ·cases hc:lt z y with
    | false=>rfl
    | true=>have:=hO.trans _ _ _ hyx hc; rw [hO.irrefl] at this; cases this
   ·exact h'.1 z hz
  ·rename_i hyx
   have hyx:lt y x=false:=by simpa using hyx
   refine List.pairwise_cons.2 ⟨fun z hz=>?_,h⟩
   rcases List.mem_cons.1 hz with rfl | hz
   ·exact hyx
   ·exact hO.ntrans _ _ _ (h'.1 z hz) hyx
theorem zcK (hO:Sort.SWO lt):∀ l:List β,(za3 lt l).Pairwise (fun a b=>lt b a=false)
 | []=>List.Pairwise.nil
 | x::l=>zij hO x _ (zcK hO l)
theorem zgD {l l':List β} (hp:l'.Perm l) (hs:l'.Pairwise (fun a b=>lt b a=false)) (hO:Sort.SWO lt) (hT:∀ a b,a∈l→b∈l→lt a b=false→lt b a=false→a=b):l'=za3 lt l :=
 List.Perm.eq_of_pairwise (le:=fun a b=>lt b a=false) (fun a b ha hb h1 h2=>hT a b (hp.mem_iff.1 ha) ((zaW l).mem_iff.1 hb) h2 h1) hs (zcK hO l) (hp.trans (zaW l).symm)
theorem zoh (k:Nat):∀ n cs,(znq k n cs).length=n
 | 0,_=>rfl
 | n+1,cs=>by simp [znq,zoh k n]
theorem zkr (k:Nat):∀ n cs i,i<n→(znq k n cs)[i]?=some ((cs.drop (i * k)).take k)
 | 0,_,_,h=>by omega
 | n+1,cs,0,_=>by simp [znq]
 | n+1,cs,i+1,h=>by
  simp only [znq,List.getElem?_cons_succ]
  rw [zkr k n (cs.drop k) i (by omega),List.drop_drop]
  congr 3
  rw [Nat.succ_mul]; omega
theorem zoi {de:List GV→Option β} : ∀ {l:List (List GV)} {bs:List β},zur de l=some bs→bs.length=l.length∧∀ (i:Nat) x,l[i]?=some x→∃ b,bs[i]?=some b∧de x=some b
 | [],bs,h=>by simp only [zur,Option.some.injEq] at h; subst h; exact ⟨rfl,fun i x h=>by simp at h⟩
 | x::l,bs,h=>by
  simp only [zur] at h
  split at h
  ·rename_i a b ha hb
   injection h with h; subst h
   obtain ⟨h1,h2⟩:=zoi hb
   refine ⟨by simp [h1],fun i y hy=>?_⟩
   cases i with
   | zero=>simp only [List.getElem?_cons_zero,Option.some.injEq] at hy; subst hy; exact ⟨a,rfl,ha⟩
   | succ i=>exact h2 i y (by simpa using hy)
  ·cases h
theorem zf4 {k:Nat} {en:β→List GV} (hk:∀ b,(en b).length=k):∀ (bs:List β),znq k bs.length (bs.flatMap en)=bs.map en
 | []=>rfl
 | b::bs=>by
  have h1:(en b++bs.flatMap en).take k=en b:=by rw [← hk b]; simp
  have h2:(en b++bs.flatMap en).drop k=bs.flatMap en:=by rw [← hk b]; simp
  simp only [List.length_cons,znq,List.flatMap_cons,h1,h2,zf4 hk bs,List.map_cons]
theorem zhn {de:List GV→Option β} {en:β→List GV} : ∀ (bs:List β),(∀ b∈bs,de (en b)=some b)→zur de (bs.map en)=some bs
 | [],_=>rfl
 | b::bs,h=>by simp only [List.map_cons,zur,h b (by simp),zhn bs (fun c hc=>h c (by simp [hc]))]
end
theorem zik {β:Type} {k:Nat} (hk0:0<k) {en:β→List GV} : ∀ (l:List β),(∀ b∈l,(en b).length=k)→∀ (i:Nat) c,(l.flatMap en)[i]?=some c→∃ b,l[i / k]?=some b∧(en b)[i % k]?=some c
 | [],_,i,c,h=>by simp at h
 | b::l,hl,i,c,h=>by
  rw [List.flatMap_cons] at h
  have hb:=hl b (by simp)
  by_cases hi:i<k
  ·rw [List.getElem?_append_left (by omega)] at h
   exact ⟨b,by simp [Nat.div_eq_of_lt hi],by rw [Nat.mod_eq_of_lt hi]; exact h⟩
  ·rw [List.getElem?_append_right (by omega),hb] at h
   obtain ⟨b',h1,h2⟩:=zik hk0 l (fun b hb=>hl b (by simp [hb])) (i - k) c h
   have e1:i / k=(i - k) / k+1:=by
    have:i=(i - k)+k:=by omega
    rw [this,Nat.add_div_right _ hk0]; simp
   have e2:i % k=(i - k) % k:=by
    have:i=(i - k)+k:=by omega
    rw [this,Nat.add_mod_right]; simp
   exact ⟨b',by rw [e1]; simpa using h1,by rw [e2]; exact h2⟩
theorem zil {β:Type} {k:Nat} {en:β→List GV} : ∀ (l:List β),(∀ b∈l,(en b).length=k)→(l.flatMap en).length=l.length * k
 | [],_=>by simp
 | b::l,hl=>by
  rw [List.flatMap_cons,List.length_append,hl b (by simp),zil l (fun b hb=>hl b (by simp [hb])),List.length_cons,Nat.succ_mul]; omega
section
variable [Facts] {P:Program} {β:Type}
open Go.Sort Go.Proofs
theorem zks {f:FuncId} {F:IFun} {g k:Nat} {de:List GV→Option β} {en:β→List GV} {cf:β→β→Int} {chk:List β→Bool} (hF:F.mode=30) (hfn:F.fn=zgW g k de en cf chk) (hb:HasBody P f)
 (hde:∀ x b,de x=some b→x=en b) (hO:SWO (ltC cf)) (hT:∀ bs,chk bs=true→∀ a b,a∈bs→b∈bs→ltC cf a b=false→ltC cf b a=false→a=b)
 (hnone:∀ (p:Option Addr) (cap:Nat) (fv:Value) (w:World),Calls P f #[.slice p 0 cap,fv] w fun e w'=>e=.returned (.tuple #[])∧w'=w)
 (hsort:∀ (enc:Nat→List Value),(∀ x,(enc x).length=k)→(∀ x,∀ v∈enc x,v.oneCell'=true)→∀ (cf':Nat→Nat→Int),SWO (ltOf cf')→∀ (blk off cap:Nat) (d:Array Nat) (w:World),CmpLays P g #[] enc k cf' blk off d.size w →
   HoldsK enc k w blk off d→blk<w.heap.size→d.size<4611686018427387904 →
   Calls P f #[.slice (some ⟨blk,off,none⟩) d.size cap,.func (.func g) #[] #[]] w fun e w'=>e=.returned (.tuple #[])∧∃ d' n os,PermIn 0 d.size d d'∧SortedIn (ltOf cf') 0 d.size d'∧w'=sortWorldK enc k w blk off n d' os)
 (hcmp:∀ (K:Ctx) (H:GH) (a b:β) (vx vy:List Value),de (en a)=some a→de (en b)=some b→HR P.globals.size K H→CR K (en a) vx.toArray→CR K (en b) vy.toArray→Calls P g #[.agg vx.toArray,.agg vy.toArray] K.w fun e w'=>e=.returned (.int .i64 (cf a b))∧∃ q os',w'=grow (K.w.drewN q) os') :
 zcO P f F:=by
 intro args H v H' hv hok K us hr hc
 obtain ⟨fn,c,b1,b2,b3⟩:=hb.ex
 refine za1 b1 b2 b3 ?_
 have hm:¬ F.mode<20:=by omega
 unfold ziz at hv
 rw [if_neg hm] at hv
 unfold zw8 at hv
 rw [hF,hfn] at hv
 simp only [Option.bind_eq_some_iff] at hv
 obtain ⟨r,hv,hkeep⟩:=hv
 split at hkeep
 case isFalse=>cases hkeep
 injection hkeep with hkeep; subst hkeep
 unfold zgW at hv
 split at hv
 ·-- nil
  simp only [Option.some.injEq,Prod.mk.injEq] at hv
  obtain ⟨rfl,rfl⟩:=hv
  obtain ⟨a,c',rfl,ha,hc'⟩:=hc.two
  cases ha
  refine (hnone none 0 c' K.w).mono fun e w' he=>?_
  obtain ⟨rfl,rfl⟩:=he
  exact ⟨_,K,rfl,rfl,hr,.tup rfl (fun i c v h=>by simp at h),.refl _ _ _ _⟩
 ·rename_i id len sz ag g'
  split at hv
  case h_2=>cases hv
  rename_i ty cs hob
  split at hv
  case isFalse=>cases hv
  rename_i hcond
  obtain ⟨rfl,rfl,hbo,hlen,hk0,hle,hcs,hone⟩:=hcond
  simp only [Option.bind_eq_some_iff] at hv
  obtain ⟨bs,hbs,hv⟩:=hv
  split at hv
  case isFalse=>cases hv
  rename_i hchk
  simp only [Option.some.injEq,Prod.mk.injEq] at hv
  obtain ⟨rfl,rfl⟩:=hv
  obtain ⟨a,c',rfl,ha,hc'⟩:=hc.two
  obtain ⟨hidn,hro,b,vs,h3,h4,hκ,h6,h6'⟩:=hr.obj id _ hob
  cases ha with
  | @hsl _ _ _ _ _ b' oo cap hid hh hcap hmax =>
  obtain ⟨rfl,rfl,hcapκ⟩:=hh b h3
  cases hc' with
  | @func _ _ _ us' vs' hx hy h1 h2 =>
  obtain rfl:us' = #[]:=Array.eq_empty_of_size_eq_zero hx.symm
  obtain rfl:vs' = #[]:=Array.eq_empty_of_size_eq_zero hy.symm
  obtain ⟨hbl,hget⟩:=zoi hbs
  rw [zoh] at hbl
  obtain ⟨b0,hb0⟩:∃ b0,bs[0]?=some b0:=⟨bs[0]'(by omega),by simp⟩
  obtain ⟨B,hB⟩:∃ B:Nat→β,∀ i,B i=bs.getD i b0:=⟨_,fun _=>rfl⟩
  have hBi:∀ i,i<len→bs[i]?=some (B i):=fun i hi=>by
   rw [hB,List.getD_eq_getElem?_getD,List.getElem?_eq_getElem (by omega)]; rfl
  obtain ⟨val,hval⟩:∃ val:Nat→List Value,∀ i,val i=(vs.toList.drop (i * sz)).take sz:=⟨_,fun _=>rfl⟩
  have hcell:∀ i j,i<len→j<sz→i * sz+j<cs.length:=fun i j hi hj=>by
   rw [hcs]
   have:(i+1) * sz≤len * sz:=Nat.mul_le_mul_right _ (by omega)
   rw [Nat.succ_mul] at this; omega
  have hvlen:∀ i,i<len→(val i).length=sz:=fun i hi=>by
   have:=hcell i (sz - 1) hi (by omega)
   rw [hval,List.length_take,List.length_drop,Array.length_toList]; omega
  have hvget:∀ i j,i<len→j<sz→(val i)[j]?=vs[i * sz+j]?:=fun i j hi hj=>by
   rw [hval,List.getElem?_take,if_pos hj,List.getElem?_drop,Array.getElem?_toList]
  have hen:∀ i,i<len→en (B i)=(cs.drop (i * sz)).take sz:=fun i hi=>by
   obtain ⟨b',q1,q2⟩:=hget i _ (zkr sz len cs i hi)
   rw [hBi i hi] at q1; injection q1 with q1; subst q1
   exact (hde _ _ q2).symm
  have hde1:∀ i,i<len→de (en (B i))=some (B i):=fun i hi=>by
   obtain ⟨b',q1,q2⟩:=hget i _ (zkr sz len cs i hi)
   rw [hBi i hi] at q1; injection q1 with q1; subst q1
   rw [hen i hi]; exact q2
  have henl:∀ i,i<len→(en (B i)).length=sz:=fun i hi=>by
   have:=hcell i (sz - 1) hi (by omega)
   rw [hen i hi,List.length_take,List.length_drop]; omega
  have heng:∀ i j,i<len→j<sz→(en (B i))[j]?=cs[i * sz+j]?:=fun i j hi hj=>by
   rw [hen i hi,List.getElem?_take,if_pos hj,List.getElem?_drop]
  have hcr:∀ i,i<len→CR K (en (B i)) (val i).toArray:=fun i hi=>by
   refine ⟨by rw [henl i hi,List.size_toArray,hvlen i hi],fun j c v hc hv=>?_⟩
   have hj:j<sz:=by rw [← henl i hi]; exact (List.getElem?_eq_some_iff.1 hc).1
   rw [heng i j hi hj] at hc
   rw [List.getElem?_toArray,hvget i j hi hj] at hv
   exact h6' _ c v hc hv
  have hone':∀ i,i<len→∀ v∈val i,v.oneCell'=true:=fun i hi v hv=>by
   obtain ⟨j,hj,rfl⟩:=List.mem_iff_getElem.1 hv
   have hj':j<sz:=by rw [← hvlen i hi]; exact hj
   have q1:(val i).toArray[j]?=some (val i)[j]:=by simp
   have q2:=hcell i j hi hj'
   have q3:cs[i * sz+j]?=some cs[i * sz+j]:=List.getElem?_eq_getElem q2
   exact ((hcr i hi).2 j _ _ ((heng i j hi hj').trans q3) q1).one (List.all_eq_true.1 hone _ (List.getElem_mem q2))
  have hmod:∀ i,i % len<len:=fun i=>Nat.mod_lt _ hlen
  obtain ⟨enc,henc⟩:∃ enc:Nat→List Value,∀ i,enc i=val (i % len):=⟨_,fun _=>rfl⟩
  have hd:(Array.range len).size=len:=by simp
  have hdg:∀ i,i<len→(Array.range len)[i]! = i:=fun i hi=>by simp [hi]
  have hdm:∀ j,j<len * sz→j / sz<len∧j % sz<sz∧j / sz * sz+j % sz=j:=fun j hj =>
   ⟨Nat.div_lt_of_lt_mul (by rw [Nat.mul_comm]; exact hj),Nat.mod_lt _ hk0,by rw [Nat.mul_comm]; exact Nat.div_add_mod j sz⟩
  have hflat:∀ (e:Array Nat) (j:Nat),e.size=len→j<len * sz→vs[e[j / sz]! % len * sz+j % sz]?=some (flatK enc sz e)[j]! := fun e j he hj=>by
   obtain ⟨m1,m2,m3⟩:=hdm j hj
   rw [get_flatK enc sz e j (by rw [he]; exact hj),henc]
   have q:=hvget (e[j / sz]! % len) (j % sz) (hmod _) m2
   have ql:j % sz<(val (e[j / sz]! % len)).length:=by rw [hvlen _ (hmod _)]; exact m2
   rw [← q,List.getElem?_eq_getElem ql]
   exact congrArg some (getElem!_pos (val (e[j / sz]! % len)) (j % sz) ql).symm
  have hs:=hsort enc (fun x=>by rw [henc]; exact hvlen _ (hmod _)) (fun x v hv=>by rw [henc] at hv; exact hone' _ (hmod _) v hv) (fun i j=>cf (B (i % len)) (B (j % len)))
   ⟨fun x=>hO.irrefl _,fun x y z h1 h2=>hO.trans _ _ _ h1 h2,fun x y z h1 h2=>hO.ntrans _ _ _ h1 h2⟩ b 0 cap (Array.range len) K.w
   (fun m os dk _ x y=>by
     have hw1:WSet K.w (putRowK enc sz (Sort.ahead K.w m) b 0 dk) b:=⟨by simp [putRowK,putRow,mapBlock,Sort.ahead],rfl,rfl,rfl,fun t ht=>by simp only [putRowK,putRow,mapBlock,Sort.ahead,Array.getElem?_modify]; rw [if_neg (Ne.symm ht)],fun _=>Nat.le_add_right _ _⟩
     obtain ⟨r1,x1⟩:=hr.obj_set h3 hbo hw1 (o:=.dead) trivial
     have hg1:WGrow (putRowK enc sz (Sort.ahead K.w m) b 0 dk) (grow (putRowK enc sz (Sort.ahead K.w m) b 0 dk) os):=⟨by simp,rfl,rfl,rfl,fun t ht=>by rw [heap_grow_old _ _ ht],fun _=>Nat.le_refl _⟩
     obtain ⟨r2,x2⟩:=zer r1 hg1
     have:=hcmp _ _ (B (x % len)) (B (y % len)) _ _ (hde1 _ (hmod x)) (hde1 _ (hmod y)) r2 (((hcr _ (hmod x)).ext x1).ext x2) (((hcr _ (hmod y)).ext x1).ext x2)
     rw [← henc x,← henc y] at this
     rw [Array.append_empty]
     exact this)
   (fun j hj=>by
     have hj':j<len * sz:=by simpa using hj
     obtain ⟨m1,m2,m3⟩:=hdm j hj'
     have q:=hflat (Array.range len) j hd hj'
     rw [hdg _ m1,Nat.mod_eq_of_lt m1,m3] at q
     refine ⟨?_,by simp [World.frozen?,h4]⟩
     rw [Nat.zero_add]
     simp only [World.cell?,h4,Option.isSome_none,Bool.false_eq_true,if_false]
     exact q)
   (hr.dom id _ h3).2.1 (by rw [hd]; omega)
  rw [hd] at hs
  refine hs.mono fun e w' he=>?_
  obtain ⟨rfl,d',m,os,hperm,hsorted,rfl⟩:=he
  obtain ⟨p1,_,p3⟩:=hperm
  rw [hd] at p1
  have hex:∀ e:Array Nat,e.size=len→(e.extract 0 len).toList=e.toList:=fun e he=>by rw [← he,Array.extract_size]
  rw [hex _ p1,hex _ hd] at p3
  -- the sorted row,as plain elements
  obtain ⟨L,hL⟩:∃ L:List β,L=d'.toList.map fun i=>B (i % len):=⟨_,rfl⟩
  have hbsr:bs=(Array.range len).toList.map fun i=>B (i % len):=by
   apply List.ext_getElem?
   intro i
   rw [List.getElem?_map]
   by_cases hi:i<len
   ·rw [hBi i hi]; simp [hi,Nat.mod_eq_of_lt hi]
   ·rw [List.getElem?_eq_none (by omega)]; simp [hi]
  have hLs:L=za3 (ltC cf) bs:=by
   refine zgD (by rw [hL,hbsr]; exact p3.map _) ?_ hO (hT bs hchk)
   rw [hL,List.pairwise_map,List.pairwise_iff_getElem]
   intro i j hi hj hij
   have hj':j<len:=by rw [← p1]; simpa using hj
   have:=hsorted i j (Nat.zero_le _) hij hj'
   rw [getElem!_pos d' i (by omega),getElem!_pos d' j (by omega)] at this
   exact this
  have hLg:∀ t,t<len→L[t]?=some (B (d'[t]! % len)):=fun t ht=>by
   rw [hL,List.getElem?_map]
   simp [p1,ht]
  rw [← hLs]
  have hLl:L.length=len:=by rw [hL]; simpa using p1
  have hLk:∀ b∈L,(en b).length=sz:=fun b hb=>by
   rw [hL,List.mem_map] at hb
   obtain ⟨i,_,rfl⟩:=hb
   exact henl _ (hmod i)
  -- the world
  obtain ⟨hs1,hs2⟩:(flatK enc sz d').size=len * sz∧len * sz≤vs.size:=⟨by simp [p1],by omega⟩
  obtain ⟨W1,hW1⟩:∃ W1,W1=putRowK enc sz (Sort.ahead K.w m) b 0 d':=⟨_,rfl⟩
  have hheap:∀ t,W1.heap[t]?=if b=t then (K.w.heap[t]?).map (onCells (putCells _root_.id 0 (flatK enc sz d'))) else K.w.heap[t]?:=fun t=>by
   rw [hW1]
   simp only [putRowK,putRow,mapBlock,Sort.ahead,Array.getElem?_modify]
  have hw:WSet K.w W1 b:=⟨by rw [hW1]; simp [putRowK,putRow,mapBlock,Sort.ahead],by rw [hW1]; rfl,by rw [hW1]; rfl,by rw [hW1]; rfl,fun t ht=>by rw [hheap,if_neg (Ne.symm ht)],fun _=>by rw [hW1]; exact Nat.le_add_right _ _⟩
  have hrow:W1.heap[b]?=some (.cells (putCells _root_.id 0 (flatK enc sz d') vs) ty (0,0)):=by rw [hheap,if_pos rfl,h4]; rfl
  have x0:=(hr.obj_set h3 hbo hw (o:=.dead) trivial).2
  have hfl:=zil (en:=en) L hLk
  rw [hLl] at hfl
  have hsz:(putCells _root_.id 0 (flatK enc sz d') vs).size=vs.size:=by simp [putCells]
  obtain ⟨hr',x1⟩:=hr.obj_set h3 hbo hw (o:=.row ty (L.flatMap en)) ⟨hidn,hro,b,_,h3,hrow,by rw [hsz]; exact hκ,by rw [hsz,hfl]; exact hs2,fun i c v hc hv=>by
   have hi:i<len * sz:=by rw [← hfl]; exact (List.getElem?_eq_some_iff.1 hc).1
   obtain ⟨m1,m2,m3⟩:=hdm i hi
   obtain ⟨b1,q1,q2⟩:=zik hk0 L hLk i c hc
   rw [hLg _ m1] at q1; injection q1 with q1; subst q1
   have q3:=hflat d' i p1 hi
   have hiv:i<vs.size:=by omega
   have q4:v=(flatK enc sz d')[i]! := by
    simp only [putCells,Array.getElem?_mapIdx,Array.getElem?_eq_getElem hiv,Option.map_some,Option.some.injEq] at hv
    rw [if_pos ⟨Nat.zero_le _,by rw [hs1]; omega⟩] at hv
    simpa using hv.symm
   rw [← q4] at q3
   have q5:(val (d'[i / sz]! % len)).toArray[i % sz]?=some v:=by rw [List.getElem?_toArray,hvget _ _ (hmod _) m2]; exact q3
   exact ((hcr _ (hmod (d'[i / sz]!))).2 (i % sz) c v q2 q5).ext x0⟩
  have hg:WGrow W1 (grow W1 os):=⟨by simp,rfl,rfl,rfl,fun t ht=>by rw [heap_grow_old _ _ ht],fun _=>Nat.le_refl _⟩
  obtain ⟨hr2,x2⟩:=zer hr' hg
  refine ⟨_,(K.at W1).at (grow W1 os),rfl, ?_,hr2,.tup rfl (fun i c v h=>by simp at h),x1.trans x2 (fun b _ h=>h)⟩
  show sortWorldK enc sz K.w b 0 m d' os=grow W1 os
  rw [hW1]; rfl
 ·cases hv
def zgE:Nat→GV→Bool
 | 0,_=>false
 | n+1,v=>match v with
  | .bool _ | .int _ _ | .str _ | .nilptr | .nilsl | .nilmap | .nilfunc | .niliface=>true
  | .sl _ xs tag=>xs.all (fun x=>x.cells.all (zgE n))&&(match tag with | .tok _ _ _=>false | _=>true)
  | .agg cs=>cs.all (zgE n)
  | _=>false
def Ctx.isoN (ro:Nat) (K:Ctx):Ctx:={ φ:=fun _=>none,κ:=fun _=>0,τ:=fun _=>none,ρ:=fun _=>False,w:=K.w,toks:=[],nO:=ro,N:=K.w.heap.size }
theorem HR.isoN {ro:Nat} {K:Ctx} {H:GH} (hr:HR ro K H):HR ro (K.isoN ro) (zl3 ro) :=
 { nO:=by simp [zl3,Ctx.isoN],toks:=rfl,bo:=Nat.le_refl _,bt:=Nat.le_refl _,
   obj:=by
    intro id o ho
    have:o=.dead:=by
     simp only [zl3,List.getElem?_replicate] at ho
     split at ho
     ·injection ho with ho; exact ho.symm
     ·cases ho
    subst this
    trivial
   inj:=fun _ _ _ h=>by cases h
   dom:=fun _ _ h=>by cases h
   glob:=fun _ _ _ h=>by cases h
   roN:=Nat.le_refl _
   tok:=fun _ _ h=>by cases h
   tinj:=fun _ _ _ _ h=>by cases h
   size:=Nat.le_refl _
   loc:=fun _ h=>h.elim
   dat:=fun w' h=>hr.dat w' (fun b hb=>h b (Nat.lt_of_lt_of_le hb hr.size)) }
theorem zyK {ro:Nat} {K:Ctx} : ∀ (n:Nat) (g:GV) (v:Value),zgE n g=true→VR K g v→VR (K.isoN ro) g v:=by
 intro n
 induction n with
 | zero=>intro g v h; cases h
 | succ n ih =>
  intro g v h hv
  cases hv with
  | bool b=>exact .bool b
  | int k n=>exact .int k n
  | str s=>exact .str s
  | nilptr=>exact .nilptr
  | nilsl=>exact .nilsl
  | nilmap=>exact .nilmap
  | nilfunc=>exact .nilfunc
  | niliface=>exact .niliface
  | emp a ht=>exact .emp a ht
  | @sl sz xs tag b off cap cv hcap hmax hsz hI hvv htag =>
   simp only [zgE,Bool.and_eq_true] at h
   obtain ⟨h1,h2⟩:=h
   refine .sl (cv:=cv) hcap hmax hsz (fun i x j c hx hc=>?_) (fun i x j c hx hc=>?_) ?_
   ·obtain ⟨q1,q2⟩:=hI i x j c hx hc
    exact ⟨⟨q1.1,fun h=>h,fun id h=>(by cases h),fun t ti h=>(by cases h)⟩,q2⟩
   ·exact ih c _ (List.all_eq_true.1 (List.all_eq_true.1 h1 x (List.mem_of_getElem? hx)) c (List.mem_of_getElem? hc)) (hvv i x j c hx hc)
   ·cases tag with
    | imm=>trivial
    | exact=>exact htag
    | tok t p ty=>cases h2
  | agg hl hc =>
   simp only [zgE] at h
   exact .agg hl (fun i c v h1 h2=>ih c v (List.all_eq_true.1 h c (List.mem_of_getElem? h1)) (hc i c v h1 h2))
  | _=>simp [zgE] at h
theorem zim (hmono:Facts.mono) (hm:P.follows .mixedOrders=true) (hl:laidOutB P=true) {T:Nat→Option IFun} (hT:zcq P T) {g:FuncId} {F:IFun} (hF:T g=some F) (h10:F.mode<10)
 {K:Ctx} {H:GH} (hr:HR P.globals.size K H) {xs ys:List GV} {vx vy:List Value} (hx:CR K xs vx.toArray) (hy:CR K ys vy.toArray) {n:Nat} (sx:xs.all (zgE n)=true) (sy:ys.all (zgE n)=true) {c:Int}
 (h:∀ H,ecall T g [.agg xs,.agg ys] H=some (.int .i64 c,H)) :
 Calls P g #[.agg vx.toArray,.agg vy.toArray] K.w fun e w'=>e=.returned (.int .i64 c)∧∃ q os',w'=grow (K.w.drewN q) os':=by
 have ag:∀ {xs:List GV} {vx:List Value},CR K xs vx.toArray→xs.all (zgE n)=true→VR (K.isoN P.globals.size) (.agg xs) (.agg vx.toArray):=fun hx sx =>
  .agg hx.1 (fun i c v h1 h2=>zyK n c v (List.all_eq_true.1 sx c (List.mem_of_getElem? h1)) (hx.2 i c v h1 h2))
 refine (ze2 (K:=K.isoN P.globals.size) (args := #[.agg vx.toArray,.agg vy.toArray]) hm hl hT hF h10 (h (zl3 P.globals.size)) rfl hr.isoN ⟨rfl,fun i c v h1 h2=>?_⟩).mono fun e w' he=>?_
 ·match i with
  | 0=>simp at h1 h2; subst h1 h2; exact ag hx sx
  | 1=>simp at h1 h2; subst h1 h2; exact ag hy sy
  | n+2=>simp at h1
 ·obtain ⟨rv,K',rfl,rfl,_,hv,x⟩:=he
  cases hv
  refine ⟨rfl,K'.w.drawn - K.w.drawn,K'.w.heap.extract K.w.heap.size K'.w.heap.size, ?_⟩
  have hd:=x.drawn hmono
  have hs:=x.size
  have ht:=x.tape
  have ho:=x.os
  have hp:=x.output
  have hold:=x.below
  generalize K'.w=W at *
  obtain ⟨hh,tt,dd,oo,pp⟩:=W
  have hd':K.w.drawn≤dd:=hd
  have hs':K.w.heap.size≤hh.size:=hs
  have ht':tt=K.w.tape:=ht
  have ho':oo=K.w.os:=ho
  have hp':pp=K.w.output:=hp
  have hold':∀ b,b<K.w.heap.size→hh[b]?=K.w.heap[b]?:=hold
  subst ht' ho' hp'
  simp only [grow,World.drewN,World.mk.injEq,and_true,true_and]
  refine ⟨?_,by omega⟩
  apply Array.ext_getElem?
  intro i
  by_cases hi:i<K.w.heap.size
  ·rw [Array.getElem?_append_left hi]; exact hold' i hi
  ·rw [Array.getElem?_append_right (by omega),Array.getElem?_extract]
   have:K.w.heap.size+(i - K.w.heap.size)=i:=by omega
   rw [this]
   split
   ·rfl
   ·rename_i h1
    rw [Array.getElem?_eq_none]
    simp at h1
    omega
end
def zwM (k:Nat):List GV→GH→Option (GV × GH)
 | [.hsl id 0 len sz _,.int .i64 i,.sl sz' [x] _],H=>match H.objs[id]? with
  | some (.row _ cs)=>if sz=k∧sz'=k∧H.bo≤id∧0<k∧len≤1000000∧cs.length=len * k∧0≤i∧i≤(len:Int)∧cs.all GV.one=true then
   some (.sl k (za4 k (len+1) (cs.take (i.toNat * k)++x.cells++cs.drop (i.toNat * k))) .imm,{ H with objs:=H.objs.set id .dead }) else none
  | _=>none
 | [.nilsl,.int .i64 0,.sl sz' [x] _],H=>if sz'=k∧0<k then some (.sl k (za4 k 1 x.cells) .imm,H) else none
 | [.sl _ [] .exact,.int .i64 0,.sl sz' [x] _],H=>if sz'=k∧0<k then some (.sl k (za4 k 1 x.cells) .imm,H) else none
 | _,_=>none
def zBH [Facts] (P:Program) (f:FuncId) (k:Nat):Prop :=
 ∀ (base:Option Addr) (n c i vb voff vc:Nat) (cs vs:List Value) (w:World),n≤1000000→n≤c→c≤maxLen→i≤n→cs.length=n * k→vs.length=k→(∀ v∈cs,v.oneCell'=true)→(∀ v∈vs,v.oneCell'=true) →
  ((∃ (b:Nat) (cur:Array Value) (ty:TypeId),base=some ⟨b,0,none⟩∧w.heap[b]?=some (.cells cur ty (0,0))∧c * k≤cur.size∧(∀ (j:Nat) v,cs[j]?=some v→cur[j]?=some v)∧vb≠b)∨(n=0∧c=0)) →
  (∀ (j:Nat) v,vs[j]?=some v→w.cell? ⟨vb,voff+j,none⟩=some v) →
  Calls P f #[.slice base n c,.int .i64 i,.slice (some ⟨vb,voff,none⟩) 1 vc] w fun e w' =>
   ∃ (b' c':Nat) (cur':Array Value) (ty':TypeId),e=.returned (.slice (some ⟨b',0,none⟩) (n+1) c')∧n+1≤c'∧c'≤maxLen∧w'.heap[b']?=some (.cells cur' ty' (0,0)) ∧
    (∀ (j:Nat) v,(cs.take (i * k)++vs++cs.drop (i * k))[j]?=some v→cur'[j]?=some v)∧((base=some ⟨b',0,none⟩∧0<c∧WSet w w' b')∨(w.heap.size≤b'∧WGrow w w'))
section
variable [Facts] {P:Program}
theorem CR.three {K:Ctx} {u v x:GV} {us:Array Value} (h:CR K [u,v,x] us):∃ a b c,us = #[a,b,c]∧VR K u a∧VR K v b∧VR K x c:=by
 obtain ⟨h1,h2⟩:=h
 obtain ⟨l⟩:=us
 match l,h1 with
 | [a,b,c],_=>exact ⟨a,b,c,rfl,h2 0 _ _ rfl rfl,h2 1 _ _ rfl rfl,h2 2 _ _ rfl rfl⟩
theorem CR.take {K:Ctx} {cs:List GV} {vs:List Value} (h:CR K cs vs.toArray) (n:Nat):CR K (cs.take n) (vs.take n).toArray:=by
 refine ⟨by have:=h.1; simp at this ⊢; omega,fun i c v hc hv=>?_⟩
 rw [List.getElem?_take] at hc
 rw [List.getElem?_toArray,List.getElem?_take] at hv
 split at hc
 ·rename_i hi
  rw [if_pos hi] at hv
  exact h.2 i c v hc (by rw [List.getElem?_toArray]; exact hv)
 ·cases hc
theorem CR.drop {K:Ctx} {cs:List GV} {vs:List Value} (h:CR K cs vs.toArray) (n:Nat):CR K (cs.drop n) (vs.drop n).toArray:=by
 refine ⟨by have:=h.1; simp at this ⊢; omega,fun i c v hc hv=>?_⟩
 rw [List.getElem?_drop] at hc
 rw [List.getElem?_toArray,List.getElem?_drop] at hv
 exact h.2 _ c v hc (by rw [List.getElem?_toArray]; exact hv)
theorem CR.app {K:Ctx} {cs cs':List GV} {vs vs':List Value} (h:CR K cs vs.toArray) (h':CR K cs' vs'.toArray):CR K (cs++cs') (vs++vs').toArray:=by
 have hl:=h.1
 have hl':=h'.1
 simp only [List.size_toArray] at hl hl'
 refine ⟨by simp; omega,fun i c v hc hv=>?_⟩
 rw [List.getElem?_append] at hc
 rw [List.getElem?_toArray,List.getElem?_append] at hv
 split at hc
 ·rename_i hi
  rw [if_pos (by omega)] at hv
  exact h.2 i c v hc (by rw [List.getElem?_toArray]; exact hv)
 ·rename_i hi
  rw [if_neg (by omega),← hl] at hv
  exact h'.2 _ c v hc (by rw [List.getElem?_toArray]; exact hv)
theorem ztM {K:Ctx} {k n c' b' ty:Nat} {xs:List GV} {cells:List GV} {vals:List Value} {cur:Array Value} (hk:0<k) (hxs:xs=za4 k n cells) (hl:n * k≤cells.length) (hone:∀ c∈cells,c.one=true)
 (hn:n≤c') (hc:c'≤maxLen) (hb:K.w.heap[b']?=some (.cells cur ty (0,0))) (hI:∀ o,Imm K b' o) (hcr:CR K cells vals.toArray) (hv:∀ (j:Nat) v,vals[j]?=some v→cur[j]?=some v):VR K (.sl k xs .imm) (.slice (some ⟨b',0,none⟩) n c'):=by
 subst hxs
 have hget:=zeD hk n cells hl (fun c hc=>hone c (List.mem_of_mem_take hc))
 have hval:∀ i x j c,(za4 k n cells)[i]?=some x→x.cells[j]?=some c→∃ v,vals[i * k+j]?=some v∧cur[i * k+j]?=some v∧VR K c v:=fun i x j c hx hc=>by
  have h:=((hget i x hx).2.2 j c hc).2
  have hlt:=(List.getElem?_eq_some_iff.1 h).1
  have hlt2:i * k+j<vals.length:=by have:=hcr.1; simp at this; omega
  refine ⟨vals[i * k+j],List.getElem?_eq_getElem hlt2,hv _ _ (List.getElem?_eq_getElem hlt2),hcr.2 _ c _ h ?_⟩
  rw [List.getElem?_toArray,List.getElem?_eq_getElem hlt2]
 have:=VR.sl (K:=K) (sz:=k) (xs:=za4 k n cells) (tag:=.imm) (b:=b') (off:=0) (cap:=c') (cv:=fun i j=>(cur[i * k+j]?).getD undef) (by rw [zb8]; exact hn) hc (fun x hx=>?_) (fun i x j c hx hc=>?_) (fun i x j c hx hc=>?_) trivial
 ·rwa [zb8] at this
 ·obtain ⟨i,hi,rfl⟩:=List.mem_iff_getElem.1 hx
  obtain ⟨h1,h2,_⟩:=hget i _ (List.getElem?_eq_getElem hi)
  exact ⟨h1,h2⟩
 ·obtain ⟨v,_,h2,_⟩:=hval i x j c hx hc
  refine ⟨hI _, ?_⟩
  simp only [World.cell?,hb,Option.isSome_none,Bool.false_eq_true,if_false,Nat.zero_add,h2,Option.getD_some]
 ·obtain ⟨v,_,h2,h3⟩:=hval i x j c hx hc
  rw [h2]; exact h3
theorem zyL {f:FuncId} {F:IFun} {k:Nat} (hF:F.mode=30) (hfn:F.fn=zwM k) (hb:HasBody P f) (hins:zBH P f k):zcO P f F:=by
 intro args H v H' hv hok K us hr hc
 obtain ⟨fn,c,b1,b2,b3⟩:=hb.ex
 refine za1 b1 b2 b3 ?_
 have hm:¬ F.mode<20:=by omega
 unfold ziz at hv
 rw [if_neg hm] at hv
 unfold zw8 at hv
 rw [hF,hfn] at hv
 simp only [Option.bind_eq_some_iff] at hv
 obtain ⟨r,hv,hkeep⟩:=hv
 split at hkeep
 case isFalse=>cases hkeep
 injection hkeep with hkeep; subst hkeep
 -- the element
 have elt:∀ {x:GV} {tag:Tag} {u:Value},VR K (.sl k [x] tag) u→∃ (vb voff vc:Nat) (vs:List Value),u=.slice (some ⟨vb,voff,none⟩) 1 vc∧vs.length=k∧x.cells.length=k∧x.flat=true∧CR K x.cells vs.toArray∧(∀ v∈vs,v.oneCell'=true) ∧
  (∀ (j:Nat) v,vs[j]?=some v→K.w.cell? ⟨vb,voff+j,none⟩=some v∧Imm K vb (voff+j)):=by
  intro x tag u hu
  have hu':=hu
  generalize hz : [x]=zs at hu
  cases hu with
  | emp=>cases hz
  | @sl _ _ _ vb voff vc cv hcap hmax hsz hI hvv htag =>
   subst hz
   obtain ⟨vs,v1,v2,v3⟩:=VR.flat hu'
   obtain ⟨h1,h2⟩:=hsz x (by simp)
   simp only [fl,List.flatMap_cons,List.flatMap_nil,List.append_nil] at v2
   refine ⟨vb,voff,_,vs,rfl,by simpa using v1,h1,h2,v2,fun v hv=>?_,fun j v hj=>⟨(v3 j v hj).1,(v3 j v hj).2.1⟩⟩
   obtain ⟨j,hj⟩:=List.mem_iff_getElem?.1 hv
   exact (v3 j v hj).2.2
 have fresh:∀ {K':Ctx} {b':Nat} {w':World},K'.w=w'→(∀ b,K'.ρ b→b<K.w.heap.size)→(∀ id b,K'.φ id=some b→b<K.w.heap.size)→(∀ t ti,K'.τ t=some ti→ti.b<K.w.heap.size)→K.w.heap.size≤b'→b'<w'.heap.size→∀ o,Imm K' b' o:=by
  intro K' b' w' h1 h2 h3 h4 h5 h6 o
  refine ⟨by rw [h1]; exact h6,fun h=>?_,fun id h=>?_,fun t ti h hb=>?_⟩
  ·have:=h2 _ h; omega
  ·have:=h3 _ _ h; omega
  ·have:=h4 _ _ h; omega
 -- at no element
 have none_case:∀ {x:GV} {tag:Tag} {base:Option Addr} {u:Value},0<k→VR K (.sl k [x] tag) u→Calls P f #[.slice base 0 0,.int .i64 0,u] K.w fun e w'=>∃ rv K',e=.returned rv∧w'=K'.w∧HR P.globals.size K' H∧VR K' (.sl k (za4 k 1 x.cells) .imm) rv∧Ext (fun _=>False) H.bo H.bt K K':=by
  intro x tag base u hk hu
  obtain ⟨vb,voff,vc,vs,rfl,e1,e2,e3,e4,e5,e6⟩:=elt hu
  refine (hins base 0 0 0 vb voff vc [] vs K.w (by omega) (Nat.le_refl _) (Nat.zero_le _) (Nat.le_refl _) (by simp) e1 (by simp) e5 (.inr ⟨rfl,rfl⟩) (fun j v h=>(e6 j v h).1)).mono fun e w' he=>?_
  obtain ⟨b',c',cur',ty',rfl,p1,p2,p3,p4,p5⟩:=he
  rcases p5 with ⟨_,h,_⟩ | ⟨p5,p6⟩
  ·omega
  obtain ⟨hr',x1⟩:=zer hr p6
  have hbs:=(Array.getElem?_eq_some_iff.1 p3).1
  refine ⟨_,K.at w',rfl,rfl,hr', ?_,x1⟩
  exact ztM (n:=0+1) (cells:=x.cells) (vals:=vs) hk rfl (by omega) (fun c hc=>List.all_eq_true.1 e3 c hc) p1 p2 p3 (fresh (K':=K.at w') rfl (fun b h=>(hr.loc b h).2) (fun id b h=>(hr.dom id b h).2.1) (fun t ti h=>(hr.tok t ti h).2.1) p5 hbs) (e4.ext x1) (fun j v h=>p4 j v (by simpa using h))
 unfold zwM at hv
 split at hv
 ·rename_i id len sz ag i sz' x tag
  split at hv
  case h_2=>cases hv
  rename_i ty cs hob
  split at hv
  case isFalse=>cases hv
  rename_i hcond
  obtain ⟨rfl,rfl,hbo,hk,hle,hcs,hi0,hil,hone⟩:=hcond
  simp only [Option.some.injEq,Prod.mk.injEq] at hv
  obtain ⟨rfl,rfl⟩:=hv
  obtain ⟨a,ua,ux,rfl,ha,hua,hux⟩:=hc.three
  cases hua
  obtain ⟨vb,voff,vc,vs,rfl,e1,e2,e3,e4,e5,e6⟩:=elt hux
  obtain ⟨hidn,hro,b,cur,h3,h4,hκ,h6,h6'⟩:=hr.obj id _ hob
  cases ha with
  | @hsl _ _ _ _ _ b' oo cap hid hh hcap hmax =>
  obtain ⟨rfl,rfl,hcapκ⟩:=hh b h3
  obtain ⟨j,rfl⟩:∃ j:Nat,i=(j:Int):=⟨i.toNat,by omega⟩
  have hj:j≤len:=by omega
  have hne:vb≠b:=fun h=>by
   have hv0:vs[0]?=some (vs[0]'(by omega)):=List.getElem?_eq_getElem _
   exact (e6 0 _ hv0).2.2.2.1 id (h ▸ h3)
  have hcr0:CR K cs (cur.extract 0 cs.length).toList.toArray:=by rw [Array.toArray_toList]; exact crp h6 h6'
  generalize hovs:(cur.extract 0 cs.length).toList=ovs at hcr0
  have hol:ovs.length=len * sz':=by have:=hcr0.1; simp at this; omega
  have hov:∀ (t:Nat) v,ovs[t]?=some v→cur[t]?=some v:=fun t v h=>by
   rw [← hovs,Array.getElem?_toList,zb3] at h
   split at h
   ·exact h
   ·cases h
  have hoc:∀ v∈ovs,v.oneCell'=true:=fun v hv=>by
   obtain ⟨t,ht⟩:=List.mem_iff_getElem?.1 hv
   have htl:=(List.getElem?_eq_some_iff.1 ht).1
   have hct:cs[t]?=some (cs[t]'(by omega)):=List.getElem?_eq_getElem _
   exact (hcr0.2 t _ v hct (by rw [List.getElem?_toArray]; exact ht)).one (List.all_eq_true.1 hone _ (List.getElem_mem _))
  refine (hins (some ⟨b,0,none⟩) len cap j vb voff vc ovs vs K.w hle hcap hmax hj hol e1 hoc e5 (.inl ⟨b,cur,ty,rfl,h4,by omega,hov,hne⟩) (fun t v h=>(e6 t v h).1)).mono fun e w' he=>?_
  obtain ⟨b2,c',cur',ty',rfl,p1,p2,p3,p4,p5⟩:=he
  have hcr:CR K (cs.take (j * sz')++x.cells++cs.drop (j * sz')) (ovs.take (j * sz')++vs++ovs.drop (j * sz')).toArray:=((hcr0.take _).app e4).app (hcr0.drop _)
  have hcl:(len+1) * sz'≤(cs.take (j * sz')++x.cells++cs.drop (j * sz')).length:=by
   have:j * sz'≤len * sz':=Nat.mul_le_mul_right _ hj
   simp only [List.length_append,List.length_take,List.length_drop,hcs,e2,Nat.succ_mul]
   omega
  have hall:∀ c∈cs.take (j * sz')++x.cells++cs.drop (j * sz'),c.one=true:=fun c hc=>by
   rcases List.mem_append.1 hc with h | h
   ·rcases List.mem_append.1 h with h | h
    ·exact List.all_eq_true.1 hone _ (List.mem_of_mem_take h)
    ·exact List.all_eq_true.1 e3 _ h
   ·exact List.all_eq_true.1 hone _ (List.mem_of_mem_drop h)
  have hbs:=(Array.getElem?_eq_some_iff.1 p3).1
  rcases p5 with ⟨q1,_,q2⟩ | ⟨q1,q2⟩
  ·-- in its own block
   injection q1 with q1; injection q1 with q1 _ _
   subst q1
   obtain ⟨hr1,x1⟩:=hr.obj_set h3 hbo q2 (o:=.dead) trivial
   obtain ⟨hr2,x2⟩:=hr1.kill (id:=id) hbo
   simp only [List.set_set] at hr2
   refine ⟨_,zaJ (K.at w') id,rfl,rfl,hr2, ?_,x1.trans x2 (fun b _ h=>h)⟩
   refine ztM hk rfl hcl hall p1 p2 p3 (fun o=>⟨by show b<w'.heap.size; exact hbs,(hr.dom id b h3).2.2.1,fun i hi=>?_,fun t ti ht hb=>absurd (hb ▸ h3) ((hr.tok t ti ht).2.2.2.2.1 id)⟩) ((hcr.ext x1).ext x2) p4
   simp only [zaJ] at hi
   split at hi
   ·cases hi
   ·rename_i hne'; exact hne' (hr.inj i id b hi h3)
  ·-- in a new one
   obtain ⟨hr1,x1⟩:=zer hr q2
   obtain ⟨hr2,x2⟩:=hr1.kill (id:=id) hbo
   refine ⟨_,zaJ (K.at w') id,rfl,rfl,hr2, ?_,x1.trans x2 (fun b _ h=>h)⟩
   refine ztM hk rfl hcl hall p1 p2 p3 (fresh (K':=zaJ (K.at w') id) rfl (fun b h=>(hr.loc b h).2) (fun i b h=>?_) (fun t ti h=>(hr.tok t ti h).2.1) q1 hbs) ((hcr.ext x1).ext x2) p4
   simp only [zaJ] at h
   split at h
   ·cases h
   ·exact (hr.dom i b h).2.1
 ·rename_i sz' x tag
  split at hv
  case isFalse=>cases hv
  rename_i hcond
  obtain ⟨rfl,hk⟩:=hcond
  simp only [Option.some.injEq,Prod.mk.injEq] at hv
  obtain ⟨rfl,rfl⟩:=hv
  obtain ⟨a,ua,ux,rfl,ha,hua,hux⟩:=hc.three
  cases ha
  cases hua
  exact none_case hk hux
 ·rename_i sz sz' x tag
  split at hv
  case isFalse=>cases hv
  rename_i hcond
  obtain ⟨rfl,hk⟩:=hcond
  simp only [Option.some.injEq,Prod.mk.injEq] at hv
  obtain ⟨rfl,rfl⟩:=hv
  obtain ⟨a,ua,ux,rfl,ha,hua,hux⟩:=hc.three
  cases hua
  generalize hz:([]:List GV)=zs at ha
  cases ha with
  | emp a _=>exact none_case hk hux
  | @sl _ _ _ b off cap cv hcap hmax hsz hI hvv htag =>
   subst hz
   have:cap=0:=htag
   subst this
   exact none_case hk hux
 ·cases hv
end
theorem ba_ext {a b:ByteArray} (h:a.data.toList=b.data.toList):a=b:=by
 rcases a with ⟨a⟩; rcases b with ⟨b⟩
 have:a=b:=Array.toList_inj.1 h
 rw [this]
theorem ba_size (l:List UInt8):(⟨l.toArray⟩:ByteArray).size=l.length:=by
 show l.toArray.size=_
 simp
theorem bs_size (a:ByteArray):a.size=a.data.toList.length:=by simp
def mkB (l:List UInt8):ByteArray:=⟨l.toArray⟩
@[simp] theorem zbE (l:List UInt8):(mkB l).data.toList=l:=by simp [mkB]
@[simp] theorem zho (l:List UInt8):(mkB l).size=l.length:=ba_size l
theorem zgF (s:ByteArray):mkB s.data.toList=s:=ba_ext (by simp)
@[simp] theorem zyM {a b:List UInt8} : mkB a=mkB b↔a=b:=by
  constructor
  ·intro h
   have:=congrArg (fun s:ByteArray=>s.data.toList) h
   simpa using this
  ·intro h; rw [h]
@[simp] theorem zf5:mkB []=⟨#[]⟩:=rfl
@[simp] theorem zDJ {a:List UInt8} : mkB a=⟨#[]⟩↔a=[]:=(zyM (b:=[]))
def zin (a b:Int):Int:=if a<b then -1 else if a > b then 1 else 0
def zzr (a b:ByteArray):Int:=if Op.bytesLess a.toList b.toList=true then -1 else if a.toList=b.toList then 0 else 1
def zc5:List UInt8→List UInt8→Int
 | [],[]=>0
 | [],_::_=>-1
 | _::_,[]=>1
 | x::a,y::b=>if x=y then zc5 a b else if x<y then -1 else 1
theorem zoj:∀ (a b:List UInt8),(if Op.bytesLess a b=true then (-1:Int) else if a=b then 0 else 1)=zc5 a b
 | [],[]=>by simp [Op.bytesLess,zc5]
 | [],_::_=>by simp [Op.bytesLess,zc5]
 | _::_,[]=>by simp [Op.bytesLess,zc5]
 | x::a,y::b=>by
  have ih:=zoj a b
  by_cases h:x=y
  ·subst h
   have hx:¬ x<x:=by rw [UInt8.lt_iff_toNat_lt]; omega
   simp only [Op.bytesLess,zc5,hx,decide_false,beq_self_eq_true,Bool.true_and,Bool.false_or,if_true,List.cons.injEq,true_and]
   exact ih
  ·by_cases h2:x<y <;> simp [Op.bytesLess,zc5,h,h2]
theorem zok:∀ a,zc5 a a=0
 | []=>rfl
 | x::a=>by simp [zc5,zok a]
theorem zol:∀ a b,zc5 a b=0→a=b
 | [],[],_=>rfl
 | [],_::_,h=>by simp [zc5] at h
 | _::_,[],h=>by simp [zc5] at h
 | x::a,y::b,h=>by
  simp only [zc5] at h
  split at h
  ·rename_i e; subst e; rw [zol a b h]
  ·split at h <;> simp at h
theorem zom:∀ a b,zc5 b a=- zc5 a b
 | [],[]=>rfl
 | [],_::_=>rfl
 | _::_,[]=>rfl
 | x::a,y::b=>by
  simp only [zc5]
  by_cases h:x=y
  ·subst h; simp [zom a b]
  ·have h':¬ y=x:=fun e=>h e.symm
   by_cases h2:x<y
   ·have h3:¬ y<x:=by rw [UInt8.lt_iff_toNat_lt] at *; omega
    simp [h,h',h2,h3]
   ·have h3:y<x:=by
     have:x.toNat≠y.toNat:=fun e=>h (UInt8.toNat_inj.1 e)
     rw [UInt8.lt_iff_toNat_lt] at *; omega
    simp [h,h',h2,h3]
theorem zlT:∀ a b c,zc5 a b≤0→zc5 b c≤0→zc5 a c≤0
 | [],_,[],_,_=>by simp [zc5]
 | [],_,_::_,_,_=>by simp [zc5]
 | _::_,[],_,h,_=>by simp [zc5] at h
 | _::_,_::_,[],_,h=>by simp [zc5] at h
 | x::a,y::b,z::c,h1,h2=>by
  simp only [zc5] at h1 h2 ⊢
  by_cases e1:x=y
  ·subst e1
   by_cases e2:x=z
   ·subst e2
    simp only [if_true] at h1 h2 ⊢
    exact zlT a b c h1 h2
   ·simp only [e2,if_false] at h2 ⊢
    exact h2
  ·simp only [e1,if_false] at h1
   have l1:x<y:=by
    by_cases l:x<y
    ·exact l
    ·simp [l] at h1
   by_cases e2:y=z
   ·subst e2
    simp [e1,l1]
   ·simp only [e2,if_false] at h2
    have l2:y<z:=by
     by_cases l:y<z
     ·exact l
     ·simp [l] at h2
    have l3:x<z:=by rw [UInt8.lt_iff_toNat_lt] at *; omega
    have e3:¬ x=z:=by rintro rfl; rw [UInt8.lt_iff_toNat_lt] at l3; omega
    simp [e3,l3]
theorem zon (a b:ByteArray):zzr a b=zc5 a.data.toList b.data.toList:=by
 unfold zzr
 rw [ByteArray.toList_eq,ByteArray.toList_eq]
 exact zoj _ _
def orL:List Int→Int
 | []=>0
 | x::l=>if x≠0 then x else orL l
structure El where
 k:Int
 a:List UInt8
 b:List UInt8
 c:List UInt8
 d:List UInt8
def elC (x:El):List GV:=[.int .i64 x.k,.str (mkB x.a),.str (mkB x.b),.str (mkB x.c),.str (mkB x.d)]
structure Ent where
 r:Int
 c:Int
 k:Int
 n:Int
 t:List UInt8
def zcY (x:Ent):List GV:=[.int .i64 x.r,.int .i64 x.c,.int .i64 x.k,.int .i64 x.n,.str (mkB x.t)]
def zdu (x y:El):Int:=orL [zin x.k y.k,zc5 x.a y.a,zc5 x.b y.b,zc5 x.c y.c,zc5 x.d y.d]
def zdv (x y:Ent):Int:=orL [zin x.r y.r,zin x.c y.c]
def zyN (x y:El):Bool:=decide (zdu x y<0)
theorem zlU (a b:Int):zin a b=0↔a=b:=by unfold zin; split <;> (try split) <;> omega
structure CmpOk {α:Type} (c:α→α→Int):Prop where
 self:∀ x,c x x=0
 swap:∀ x y,c y x=- c x y
 trans:∀ x y z,c x y≤0→c y z≤0→c x z≤0
 zero:∀ x y,c x y=0→x=y
theorem zbt:CmpOk zin where
 self:=fun x=>(zlU x x).2 rfl
 swap:=fun x y=>by unfold zin; split <;> (try split) <;> (try split) <;> (try split) <;> omega
 trans:=fun x y z h1 h2=>by
  unfold zin at *
  split at h1 <;> (try split at h1) <;> split at h2 <;> (try split at h2) <;> split <;> (try split) <;> omega
 zero:=fun x y h=>(zlU x y).1 h
theorem zaN:CmpOk zc5:=⟨zok,zom,zlT,zol⟩
def zd1 {α β:Type} (c:α→α→Int) (d:β→β→Int) (x y:α × β):Int:=if c x.1 y.1≠0 then c x.1 y.1 else d x.2 y.2
theorem zau {α β:Type} {c:α→α→Int} {d:β→β→Int} (hc:CmpOk c) (hd:CmpOk d):CmpOk (zd1 c d) where
 self:=fun x=>by simp [zd1,hc.self,hd.self]
 swap:=fun x y=>by
  have:=hc.swap x.1 y.1
  unfold zd1
  by_cases h:c x.1 y.1=0
  ·have h':c y.1 x.1=0:=by omega
   simp [h,h',hd.swap x.2 y.2]
  ·have h':¬ c y.1 x.1=0:=by omega
   simp [h,h',this]
 trans:=fun x y z h1 h2=>by
  unfold zd1 at *
  by_cases e1:c x.1 y.1=0
  ·have e1':=hc.zero _ _ e1
   simp only [e1,ne_eq,not_true_eq_false,if_false] at h1
   rw [e1']
   by_cases e2:c y.1 z.1=0
   ·simp only [e2,ne_eq,not_true_eq_false,if_false] at h2 ⊢
    exact hd.trans _ _ _ h1 h2
   ·simp only [e2,ne_eq,not_false_eq_true,if_true] at h2 ⊢
    exact h2
  ·simp only [e1,ne_eq,not_false_eq_true,if_true] at h1
   by_cases e2:c y.1 z.1=0
   ·have e2':=hc.zero _ _ e2
    rw [← e2']
    simp only [e1,ne_eq,not_false_eq_true,if_true]
    exact h1
   ·simp only [e2,ne_eq,not_false_eq_true,if_true] at h2
    have h3:=hc.trans _ _ _ h1 h2
    have h4:c x.1 z.1≠0:=fun h=>by
     have:=hc.zero _ _ h
     have s:=hc.swap x.1 y.1
     rw [← this] at h2
     omega
    simp only [h4,ne_eq,not_false_eq_true,if_true]
    exact h3
 zero:=fun x y h=>by
  unfold zd1 at h
  by_cases e:c x.1 y.1=0
  ·simp only [e,ne_eq,not_true_eq_false,if_false] at h
   exact Prod.ext (hc.zero _ _ e) (hd.zero _ _ h)
  ·simp only [e,ne_eq,not_false_eq_true,if_true] at h
theorem CmpOk.swo {α β:Type} {c:β→β→Int} (hc:CmpOk c) (f:α→β):Sort.SWO (fun x y:α=>decide (c (f x) (f y)<0)) where
 irrefl:=fun x=>by simp [hc.self]
 trans:=fun x y z h1 h2=>by
  simp only [decide_eq_true_eq] at *
  have h3:=hc.trans (f x) (f y) (f z) (by omega) (by omega)
  have:c (f x) (f z)≠0:=fun h=>by
   have e:=hc.zero _ _ h
   have s:=hc.swap (f x) (f y)
   rw [← e] at h2
   omega
  omega
 ntrans:=fun x y z h1 h2=>by
  simp only [decide_eq_false_iff_not] at *
  have s1:=hc.swap (f x) (f y)
  have s2:=hc.swap (f y) (f z)
  have s3:=hc.swap (f x) (f z)
  have h3:=hc.trans (f z) (f y) (f x) (by omega) (by omega)
  omega
theorem CmpOk.eq {α:Type} {c:α→α→Int} (hc:CmpOk c) {x y:α} (h1:¬ c x y<0) (h2:¬ c y x<0):x=y:=by
 have s:=hc.swap x y
 exact hc.zero x y (by omega)
def elK (x:El):Int × List UInt8 × List UInt8 × List UInt8 × List UInt8:=(x.k,x.a,x.b,x.c,x.d)
theorem ztN {x y:El} (h:elK x=elK y):x=y:=by
 cases x; cases y
 simp only [elK,Prod.mk.injEq] at h
 obtain ⟨rfl,rfl,rfl,rfl,rfl⟩:=h
 rfl
theorem zfl (x y:El):zdu x y=zd1 zin (zd1 zc5 (zd1 zc5 (zd1 zc5 zc5))) (elK x) (elK y):=by
 simp [zdu,orL,zd1,elK]
 split <;> (try split) <;> (try split) <;> (try split) <;> (try split) <;> simp_all
theorem ordE_ok:CmpOk zdu where
 self:=fun x=>by rw [zfl]; exact (zau zbt (zau zaN (zau zaN (zau zaN zaN)))).self _
 swap:=fun x y=>by rw [zfl,zfl]; exact (zau zbt (zau zaN (zau zaN (zau zaN zaN)))).swap _ _
 trans:=fun x y z=>by rw [zfl,zfl,zfl]; exact (zau zbt (zau zaN (zau zaN (zau zaN zaN)))).trans _ _ _
 zero:=fun x y h=>by rw [zfl] at h; exact ztN ((zau zbt (zau zaN (zau zaN (zau zaN zaN)))).zero _ _ h)
structure Vl where
 k:Int
 n:Int
 t:List UInt8
def vlC (x:Vl):List GV:=[.int .i64 x.k,.int .i64 x.n,.str (mkB x.t)]
def zfm (x y:Vl):Int:=orL [zin x.k y.k,zin x.n y.n,zc5 x.t y.t]
def vlK (x:Vl):Int × Int × List UInt8:=(x.k,x.n,x.t)
theorem zyO {x y:Vl} (h:vlK x=vlK y):x=y:=by
 cases x; cases y
 simp only [vlK,Prod.mk.injEq] at h
 obtain ⟨rfl,rfl,rfl⟩:=h
 rfl
theorem zfn (x y:Vl):zfm x y=zd1 zin (zd1 zin zc5) (vlK x) (vlK y):=by
 simp [zfm,orL,zd1,vlK]
 split <;> (try split) <;> (try split) <;> simp_all
theorem ordV_ok:CmpOk zfm where
 self:=fun x=>by rw [zfn]; exact (zau zbt (zau zbt zaN)).self _
 swap:=fun x y=>by rw [zfn,zfn]; exact (zau zbt (zau zbt zaN)).swap _ _
 trans:=fun x y z=>by rw [zfn,zfn,zfn]; exact (zau zbt (zau zbt zaN)).trans _ _ _
 zero:=fun x y h=>by rw [zfn] at h; exact zyO ((zau zbt (zau zbt zaN)).zero _ _ h)
variable [Facts]
open Go.ChangeMaps (setBlock)
section
variable {P:Program} {ro:Nat} {hp:List Nat} {nt:Nat} {K K':Ctx} {H:GH} {l:List GV} {a:Act} {w:World}
structure At0 (ro:Nat) (K:Ctx) (nt:Nat) (l:List GV) (H:GH) (a:Act):Prop where
 hr:HR ro K H
 size:a.tmps.size=nt
 defers:a.defers=[]
 slot:∀ t,SR K (fun _=>none) (zag l t) (a.tmps.getD t undef)
theorem At0.sim (h:At0 ro K nt l H a):Sim ro K H nt ⟨⟨l,0⟩,H⟩ a K.w K (fun _=>none) :=
 ⟨rfl,h.hr,⟨h.size,h.defers,h.slot,fun n b h=>(by cases h),fun n n' b h=>(by cases h),fun n _=>rfl,fun t t' n hb hb'=>by
   exfalso
   have:=h.slot t
   have hb:zdE (zag l t) n:=hb
   cases hv:zag l t <;> rw [hv] at hb this <;> try (exact hb)
   ·obtain ⟨b,_,_,q,_⟩:=this; cases q
   ·obtain ⟨b,q,_⟩:=this; cases q⟩,.refl _ _ _ _,fun n b h=>(by cases h),rfl,rfl⟩
def zwN (l' l:List GV):Prop:=∀ t,zag l' t=.junk∨(zag l' t=zag l t∧(zag l' t).ok=true)
theorem SR.none_of {lam:Nat→Option Nat} {g:GV} {v:Value} (h:SR K lam g v) (hg:g.ok=true):SR K (fun _=>none) g v:=SR.of (h.vr hg)
theorem Sim.at0 {K0:Ctx} {H0:GH} {s:St} {lam:Nat→Option Nat} (h:Sim ro K0 H0 nt s a w K lam) {l':List GV} (hw:zwN l' s.e.s):At0 ro K nt l' s.H a :=
 ⟨h.hr,h.fr.size,h.fr.defers,fun t=>by
   rcases hw t with h1 | ⟨h1,h2⟩
   ·rw [h1]; trivial
   ·have:=h.fr.slot t
    rw [← h1] at this
    exact this.none_of h2⟩
theorem At0.ext (h:At0 ro K nt l H a) {L:Nat→Prop} {bo bt:Nat} (hr':HR ro K' H) (x:Ext L bo bt K K'):At0 ro K' nt l H a :=
 ⟨hr',h.size,h.defers,fun t=>by
   have:=h.slot t
   cases hv:zag l t <;> rw [hv] at this <;> first | trivial | exact VR.ext x this | skip
   ·obtain ⟨b,_,_,q,_⟩:=this; cases q
   ·obtain ⟨b,q,_⟩:=this; cases q⟩
theorem zcU (a:Act) (d:Nat) (v:Value) (t:Nat) (hd:d<a.tmps.size):(a.put (some d) v).tmps.getD t undef=if t=d then v else a.tmps.getD t undef:=by
 show (a.tmps.setIfInBounds d v).getD t undef=_
 exact znY _ _ _ _ _ hd
theorem At0.junk (h:At0 ro K nt l H a) {d:Nat} (hd:d<nt) (hj:zag l d=.junk) (v:Value):At0 ro K nt l H (a.put (some d) v) :=
 ⟨h.hr,by show (a.tmps.setIfInBounds d v).size=nt; rw [Array.size_setIfInBounds]; exact h.size,h.defers,fun t=>by
   rw [zcU _ _ _ _ (by rw [h.size]; exact hd)]
   by_cases ht:t=d
   ·subst ht; rw [hj]; trivial
   ·rw [if_neg ht]; exact h.slot t⟩
theorem At0.put (h:At0 ro K nt l H a) {d:Nat} (hd:d<nt) {g:GV} {v:Value} (hv:VR K g v):At0 ro K nt (lput l d g) H (a.put (some d) v) :=
 ⟨h.hr,by show (a.tmps.setIfInBounds d v).size=nt; rw [Array.size_setIfInBounds]; exact h.size,h.defers,fun t=>by
   rw [zcU _ _ _ _ (by rw [h.size]; exact hd),zah]
   by_cases ht:t=d
   ·subst ht; rw [if_pos rfl,if_pos rfl]; exact SR.of hv
   ·rw [if_neg ht,if_neg ht]; exact h.slot t⟩
theorem zb4 {ops:Array Oper} {Q:Exit→Act→World→Prop} {i:Nat} {rest:List Nat} {o:Oper} (ho:ops[i]?=some o) (hg:o.guard=none) {v:Value} {w':World} (hrun:(execOp a.eval o).run P w=.ok (.value v) w') (h:wpOps P ops Q rest (a.put o.dst v) w') :
 wpOps P ops Q (i::rest) a w:=by
 unfold wpOps
 simp only [ho]
 rw [if_pos (by simp [Region.wanted,hg])]
 left
 unfold Oper.wp
 rw [hrun]
 exact h
theorem zjy {ops:Array Oper} {K0:Ctx} {H0:GH} {call:Nat→List GV→GH→Option (GV × GH)} (hcall:zbe P ro call) (hk:zbr call) (hρ:∀ b,K0.ρ b→b<K0.w.heap.size) {s':St} {Q:Exit→Act→World→Prop} {more:List Nat} (hn:∀ a' w',SimS ro K0 H0 nt s' a' w'→wpOps P ops Q more a' w') :
 ∀ (l:List Oper) (k:Nat) (ios:List IOp) (s:St) (a:Act) (w:World),(∀ j o,l[j]?=some o→ops[k+j]?=some o)→l.mapM (zkz P ro hp nt ops.toList)=some ios →
  zbC call ios s=some s'→SimS ro K0 H0 nt s a w→wpOps P ops Q (List.range' k l.length++more) a w:=by
 intro l
 induction l with
 | nil =>
  intro k ios s a w _ hm hg hs
  simp only [List.mapM_nil,Option.pure_def,Option.some.injEq] at hm
  subst hm
  simp only [zbC,Option.some.injEq] at hg
  subst hg
  exact hn _ _ hs
 | cons o l ih =>
  intro k ios s a w hl hm hg hs
  simp only [List.mapM_cons,Option.bind_eq_bind,Option.bind_eq_some_iff,Option.pure_def,Option.some.injEq] at hm
  obtain ⟨io,h1,ios',h2,rfl⟩:=hm
  simp only [zbC,Option.bind_eq_some_iff] at hg
  obtain ⟨s1,h3,h4⟩:=hg
  have h5:ops[k]?=some o:=hl 0 o rfl
  simp only [List.length_cons,List.range'_succ,List.cons_append,wpOps,h5]
  exact zsX hcall hk hs hρ h1 h3 (fun a' w' hs'=>ih (k+1) ios' s1 a' w' (fun j o' hj=>by have:=hl (j+1) o' hj; rwa [show k+(j+1)=k+1+j by omega] at this) h2 h4 hs')
theorem zjz (T:Nat→Option IFun):zbr (ecall T):=fun f args H v H' h=>by
 obtain ⟨n,hn⟩:=ecall_iff.1 h
 exact (zfY T n).2 f args H v H' hn
def zcj (Z:List ((GV × GV) × MapEntry)) (seen:Array Nat):List ((GV × GV) × MapEntry):=Z.filter fun z=>!seen.contains z.2.born
theorem ztO {Z:List ((GV × GV) × MapEntry)} {seen:Array Nat} (hn:Z.Pairwise fun a b=>a.2.born≠b.2.born) {z:(GV × GV) × MapEntry} (hz:z∈Z) (hs:seen.contains z.2.born=false):(zcj Z seen).Perm (z::zcj Z (seen.push z.2.born)):=by
 induction Z with
 | nil=>cases hz
 | cons y Z ih =>
  obtain ⟨h1,h2⟩:=List.pairwise_cons.1 hn
  have hc:∀ x:Nat,(seen.push z.2.born).contains x=(seen.contains x || (x == z.2.born)):=fun x=>by by_cases h:x=z.2.born <;> simp [h]
  rcases List.mem_cons.1 hz with rfl | hz
  ·have hrest:zcj Z (seen.push z.2.born)=zcj Z seen:=by
    unfold zcj
    apply List.filter_congr
    intro x hx
    have:(x.2.born == z.2.born)=false:=by simpa using Ne.symm (h1 x hx)
    rw [hc,this,Bool.or_false]
   have e1:zcj (z::Z) seen=z::zcj Z seen:=by
    unfold zcj; rw [List.filter_cons,hs]; rfl
   have e2:zcj (z::Z) (seen.push z.2.born)=zcj Z (seen.push z.2.born):=by
    unfold zcj; rw [List.filter_cons,hc]; simp
   rw [e1,e2,hrest]
  ·have hne:(y.2.born == z.2.born)=false:=by simpa using h1 z hz
   have ih':=ih h2 hz
   have e2:zcj (y::Z) (seen.push z.2.born)=if seen.contains y.2.born=true then zcj Z (seen.push z.2.born) else y::zcj Z (seen.push z.2.born):=by
    unfold zcj; rw [List.filter_cons,hc,hne,Bool.or_false]
    cases seen.contains y.2.born <;> simp
   have e1:zcj (y::Z) seen=if seen.contains y.2.born=true then zcj Z seen else y::zcj Z seen:=by
    unfold zcj; rw [List.filter_cons]
    cases seen.contains y.2.born <;> simp
   rw [e1,e2]
   split
   ·exact ih'
   ·exact (ih'.cons y).trans (.swap z y _)
theorem Ext.mono_bo {L:Nat→Prop} {bo bo' bt:Nat} {K K':Ctx} (h:Ext L bo' bt K K') (hb:bo≤bo'):Ext L bo bt K K':={ h with prot:=fun id h1 h2=>h.prot id (Nat.lt_of_lt_of_le h1 hb) h2 }
theorem HR.with_bo (hr:HR ro K H) (bo:Nat) (h:ro≤bo):HR ro K { H with bo:=bo }:=⟨hr.nO,hr.toks,h,hr.bt,hr.obj,hr.inj,hr.dom,hr.glob,hr.roN,hr.tok,hr.tinj,hr.size,hr.loc,hr.dat⟩
theorem zdP (a:Act) (t:Nat):a.eval (.tmp t)=a.tmps.getD t undef:=rfl
theorem zes {o:Oper} {a:Act} {w:World} {x:Nat} {vs:Array Value} {v:Value} (q:o.op=.extract (.tmp x) 0) (hx:a.tmps.getD x undef=.tuple vs) (hv:vs[0]?=some v):(execOp a.eval o).run P w=.ok (.value v) w:=by
 simp [execOp,q,zdP,hx,Instr.extract,hv]
theorem zqr (hm:P.follows .mixedOrders=true) (hl:laidOutB P=true) {T:Nat→Option IFun} (hT:zcq P T) (hro:ro=P.globals.size) (hpu:MildOk T hp)
 {ops5 ops6:Array Oper} {i5 i6 b0 b1 it nx okT en kv:Nat} {o1 o2 o3 o4:Oper} {rest6:List Oper} {c7:Code} {ic7:ICode} {ios6:List IOp}
 (h5:ops5 = #[o1,o2]) (q1:o1.op=.next (.tmp it) false) (d1:o1.dst=some nx) (g1:o1.guard=none) (q2:o2.op=.extract (.tmp nx) 0) (d2:o2.dst=some okT) (g2:o2.guard=none)
 (h6:ops6.toList=o3::o4::rest6) (q3:o3.op=.entry (.tmp it)) (d3:o3.dst=some en) (g3:o3.guard=none) (q4:o4.op=.extract (.tmp en) 0) (d4:o4.dst=some kv) (g4:o4.guard=none)
 (lt:it<nt∧nx<nt∧okT<nt∧en<nt∧kv<nt) (ne:it≠nx∧it≠okT∧it≠en∧it≠kv)
 (hr6:rest6.mapM (zkz P ro hp nt ops6.toList)=some ios6) (h7:zd0 P ro hp nt c7=some ic7)
 {K0:Ctx} {bo0 bo bt:Nat} {r bm id idr:Nat} {ents:Array MapEntry} {clock:Nat} (hid:id<bo0) (hidr:bo0≤idr∧idr<bo) (hrob:ro≤bo0) (hold:∀ x∈ents.toList,x.born<clock)
 {Z:List ((GV × GV) × MapEntry)} (hZ:Z.map (·.2)=ents.toList) (hZn:Z.Pairwise fun a b=>a.2.born≠b.2.born)
 (Inv:List (GV × GV)→List GV→GH→Prop) (hperm:∀ x y l H,x.Perm y→Inv x l H→Inv y l H)
 (hjunk:∀ x l H,Inv x l H→zag l it=.ptr idr 0∧zag l nx=.junk∧zag l okT=.junk∧zag l en=.junk∧H.objs[idr]?=some .dead)
 (hbody:∀ p x l H,p∈Z.map (·.1)→Inv (p::x) l H→∃ s1 s2 l3,zbC (ecall T) ios6 ⟨⟨lput l kv p.1,0⟩,H⟩=some s1∧erun T ic7 s1=some (.normal,s2)∧zwN l3 s2.e.s∧Inv x l3 s2.H)
 {Q:Exit→Act→World→Prop} (hexit:∀ K l H a,At0 ro K nt l H a→Ext (fun _=>False) bo0 bt K0 K→H.bo=bo→H.bt=bt→Inv [] l H→Q (.exit b0) a K.w) :
 ∀ (n:Nat) (K:Ctx) (l:List GV) (H:GH) (a:Act) (seen:Array Nat) (c0:Nat),(zcj Z seen).length=n→At0 ro K nt l H a→Ext (fun _=>False) bo0 bt K0 K→H.bo=bo→H.bt=bt→K.φ id=some bm→K.w.heap[bm]?=some (.map ents clock) →
  K.φ idr=some r→K.w.heap[r]?=some (.mapIter (some bm) clock seen c0)→clock≤c0 →
  (∀ z∈Z,VR K z.1.1 z.2.key)→Inv ((zcj Z seen).map (·.1)) l H →
  Code.rounds P (.seq (.region i5 ops5 false) (.seq (.cond (.tmp okT) .skip (.exit b0)) (.block b1 (.seq (.region i6 ops6 false) c7)))) Q (n+1) a K.w:=by
 intro n
 induction n using Nat.strongRecOn with
 | ind n ih =>
  intro K l H a seen c0 hn h hx hbo hbt hφ hbm hφr hrb hcc hkey hinv
  obtain ⟨lt1,lt2,lt3,lt4,lt5⟩:=lt
  obtain ⟨ne1,ne2,ne3,ne4⟩:=ne
  obtain ⟨j1,j2,j3,j4,j5⟩:=hjunk _ _ _ hinv
  rw [rounds_succ]
  have hit:a.tmps.getD it undef=.pointer (some ⟨r,0,none⟩):=by
   have:=h.slot it
   rw [j1] at this
   have hv:VR K (.ptr idr 0) (a.tmps.getD it undef):=this
   generalize a.tmps.getD it undef=v at hv
   cases hv with
   | @ptr _ _ b o hidn hp =>
    obtain ⟨rfl,rfl⟩:=hp r hφr
    rfl
  have hlist:(zcj Z seen).map (·.2)=(leftOf ents seen).toList:=by
   unfold leftOf zcj
   rw [Array.toList_filter,← hZ,List.filter_map]
   rfl
  refine wp_seq (wp_region ?_)
  subst h5
  show wpOps P #[o1,o2] _ [0,1] a K.w
  have hstep:=run_next_at (P:=P) K.w o1.type r bm clock c0 seen ents clock hrb hbm hold hcc
  rcases hstep with ⟨hz,hrun⟩ | ⟨e,he,w1,hw1,hrun⟩
  ·-- nothing is left
   have hl0:zcj Z seen=[]:=by
    have:((zcj Z seen).map (·.2)).length=0:=by rw [hlist,Array.length_toList,hz]
    exact List.length_eq_zero_iff.1 (by simpa using this)
   refine zb4 (o:=o1) rfl g1 (v:=.tuple #[.bool false]) (w':=K.w) ?_ ?_
   ·simp [execOp,q1,zdP,hit,hrun]
   rw [d1]
   have h1:=h.junk lt2 j2 (.tuple #[.bool false])
   refine zb4 (o:=o2) rfl g2 (v:=.bool false) (w':=K.w) (zes (vs := #[.bool false]) q2 (by rw [zcU _ _ _ _ (by rw [h.size]; exact lt2),if_pos rfl]) rfl) ?_
   rw [d2]
   have h2:=h1.junk lt3 j3 (.bool false)
   show (Code.seq (.cond (.tmp okT) .skip (.exit b0)) _).wp P _ _ _
   refine wp_seq (wp_cond_false ?_ (wp_exit ?_))
   ·rw [zdP,zcU _ _ _ _ (by rw [h1.size]; exact lt3),if_pos rfl]
   ·rw [hl0] at hinv
    exact hexit K l H _ h2 hx hbo hbt hinv
  ·-- an entry comes
   have he2:e∈(zcj Z seen).map (·.2):=by rw [hlist]; exact he
   obtain ⟨z,hz,rfl⟩:=List.mem_map.1 he2
   have hzZ:z∈Z:=(List.mem_filter.1 hz).1
   have hzs:seen.contains z.2.born=false:=by
    have:=(List.mem_filter.1 hz).2
    simpa using this
   have hpush:=ztO hZn hzZ hzs
   have hlen:=hpush.length_eq
   rw [hn,List.length_cons] at hlen
   obtain ⟨m,rfl⟩:∃ m,n=m+1:=⟨n - 1,by omega⟩
   obtain ⟨w2,hw2⟩:∃ w2,w2=setBlock w1 r (.mapIter (some bm) clock (seen.push z.2.born) clock):=⟨_,rfl⟩
   rw [← hw2] at hrun
   have hrlt:r<K.w.heap.size:=(h.hr.dom idr r hφr).2.1
   have hne:bm≠r:=fun e=>by have:=h.hr.inj id idr r (e ▸ hφ) hφr; omega
   have hh1:w1.heap=K.w.heap:=by rcases hw1 with rfl | rfl <;> rfl
   have hset:WSet K.w w2 r:=by
    rw [hw2]
    refine ⟨?_, ?_, ?_, ?_,fun k hk=>?_,fun _=>?_⟩
    ·simp [setBlock,hh1]
    ·rcases hw1 with rfl | rfl <;> rfl
    ·rcases hw1 with rfl | rfl <;> rfl
    ·rcases hw1 with rfl | rfl <;> rfl
    ·simp [setBlock,hh1,Array.getElem?_setIfInBounds,Ne.symm hk]
    ·rcases hw1 with rfl | rfl
     ·exact Nat.le_refl _
     ·exact Nat.le_succ _
   have hr2:w2.heap[r]?=some (.mapIter (some bm) clock (seen.push z.2.born) clock):=by
    rw [hw2]; simp [setBlock,hh1,hrlt]
   have hb2:w2.heap[bm]?=some (.map ents clock):=(hset.old bm hne).trans hbm
   obtain ⟨hr',xx⟩:=(h.hr.with_bo bo0 hrob).obj_set hφr hidr.1 hset (o:=.dead) trivial
   have hsame:H.objs.set idr .dead=H.objs:=by
    apply List.ext_getElem?
    intro k
    have hlt:=(List.getElem?_eq_some_iff.1 j5).1
    by_cases hk:idr=k
    ·subst hk; rw [List.getElem?_set_self hlt,j5]
    ·rw [List.getElem?_set_ne hk]
   have hr1:HR ro (K.at w2) H:=by
    have:=hr'.with_bo H.bo (by rw [hbo]; omega)
    simp only [hsame] at this
    exact this
   have xx':Ext (fun _=>False) bo0 bt K (K.at w2):=by rw [← hbt]; exact xx
   have x1:Ext (fun _=>False) bo0 bt K0 (K.at w2):=hx.trans xx' (fun b _ h=>h)
   refine zb4 (o:=o1) rfl g1 (v:=.tuple #[.bool true,z.2.key,z.2.val]) (w':=w2) ?_ ?_
   ·simp [execOp,q1,zdP,hit,hrun]
   rw [d1]
   have h1:=(h.ext hr1 xx').junk lt2 j2 (.tuple #[.bool true,z.2.key,z.2.val])
   refine zb4 (o:=o2) rfl g2 (v:=.bool true) (w':=w2) (zes (vs := #[.bool true,z.2.key,z.2.val]) q2 (by rw [zcU _ _ _ _ (by rw [h.size]; exact lt2),if_pos rfl]) rfl) ?_
   rw [d2]
   have h2:=h1.junk lt3 j3 (.bool true)
   have hit2:((a.put (some nx) (.tuple #[.bool true,z.2.key,z.2.val])).put (some okT) (.bool true)).tmps.getD it undef=.pointer (some ⟨r,0,none⟩):=by
    rw [zcU _ _ _ _ (by rw [h1.size]; exact lt3),if_neg ne2,zcU _ _ _ _ (by rw [h.size]; exact lt2),if_neg ne1]; exact hit
   have hc2:((a.put (some nx) (.tuple #[.bool true,z.2.key,z.2.val])).put (some okT) (.bool true)).eval (.tmp okT)=.bool true:=by
    rw [zdP,zcU _ _ _ _ (by rw [h1.size]; exact lt3),if_pos rfl]
   generalize (a.put (some nx) (.tuple #[.bool true,z.2.key,z.2.val])).put (some okT) (.bool true)=a2 at h2 hit2 hc2
   show (Code.seq (.cond (.tmp okT) .skip (.exit b0)) _).wp P _ a2 w2
   refine wp_seq (wp_cond_true hc2 (wp_skip ?_))
   show (Code.block b1 _).wp P _ a2 w2
   refine wp_block (wp_seq (wp_region ?_))
   have hsz:ops6.size=rest6.length+2:=by rw [← Array.length_toList,h6]; rfl
   have hrange:List.range ops6.size=0::1::(List.range' 2 rest6.length++[]):=by
    rw [hsz,List.range_eq_range',List.range'_succ,List.range'_succ,List.append_nil]
   rw [hrange]
   have get:∀ j o,(o3::o4::rest6)[j]?=some o→ops6[j]?=some o:=fun j o h=>by rw [← h6,Array.getElem?_toList] at h; exact h
   have hnd:(ents.toList.map (·.born)).Nodup:=by
    rw [← hZ,List.map_map,List.Nodup,List.pairwise_map]
    exact hZn
   have hent:=run_entry_at (P:=P) w2 r bm clock seen ents clock z.2 hr2 hb2 (mem_left he).1 hnd
   refine zb4 (o:=o3) (get 0 o3 rfl) g3 (v:=.tuple #[z.2.key,z.2.val]) (w':=w2) ?_ ?_
   ·simp [execOp,q3,zdP,hit2,hent]
   rw [d3]
   have h3:=h2.junk lt4 j4 (.tuple #[z.2.key,z.2.val])
   refine zb4 (o:=o4) (get 1 o4 rfl) g4 (v:=z.2.key) (w':=w2) (zes (vs := #[z.2.key,z.2.val]) q4 (by rw [zcU _ _ _ _ (by rw [h2.size]; exact lt4),if_pos rfl]) rfl) ?_
   rw [d4]
   have hkz:VR (K.at w2) z.1.1 z.2.key:=(hkey z hzZ).ext xx'
   have h4:=h3.put lt5 hkz
   generalize (a2.put (some en) (.tuple #[z.2.key,z.2.val])).put (some kv) z.2.key=a4 at h4
   obtain ⟨s1,s2,l3,e1,e2,e3,e4⟩:=hbody z.1 ((zcj Z (seen.push z.2.born)).map (·.1)) l H (List.mem_map.2 ⟨z,hzZ,rfl⟩) (hperm _ _ _ _ (hpush.map _) hinv)
   have hcall:=zm3 hm hl hT
   rw [← hro] at hcall
   have hρ:∀ b,(K.at w2).ρ b→b<(K.at w2).w.heap.size:=fun b hb=>(hr1.loc b hb).2
   have hs4:SimS ro (K.at w2) H nt ⟨⟨lput l kv z.1.1,0⟩,H⟩ a4 w2:=⟨_,_,h4.sim⟩
   refine zjy hcall (zjz T) hρ (s':=s1) (fun a' w' hs'=>?_) rest6 2 ios6 _ a4 w2 (fun j o hj=>get (2+j) o (by rw [Nat.add_comm]; exact hj)) hr6 e1 hs4
   show c7.wp P _ a' w'
   obtain ⟨n7,e2'⟩:=erun_iff.1 e2
   have hex:=(zaG hm hl hT n7).1
   rw [← hro] at hex
   refine hex (K.at w2) H hp nt c7 ic7 s1 .normal s2 a' w' _ hpu hρ h7 e2' hs' (fun a'' w'' hs''=>?_)
   obtain ⟨K3,lam3,hs3⟩:=hs''
   have hw3:=hs3.w
   subst hw3
   show Code.rounds P _ Q (m+1) a'' K3.w
   have x3:=hs3.ext
   rw [hbo,hbt] at x3
   have p1:=x3.prot id (by omega) (h.hr.dom id bm hφ).1
   have p2:=x3.prot idr hidr.2 (h.hr.dom idr r hφr).1
   refine ih m (by omega) K3 l3 s2.H a'' (seen.push z.2.born) clock (by omega) (hs3.at0 e3) (x1.trans (x3.mono_bo (by omega)) (fun b _ h=>h)) (hs3.bo.trans hbo) (hs3.bt.trans hbt) (p1.1.trans hφ) ((p1.2 bm hφ).trans hb2) (p2.1.trans hφr) ((p2.2 r hφr).trans hr2) (Nat.le_refl _) (fun z' hz'=>((hkey z' hz').ext xx').ext x3) e4
theorem ztP (hm:P.follows .mixedOrders=true) (hl:laidOutB P=true) {T:Nat→Option IFun} (hT:zcq P T) (hro:ro=P.globals.size) (hpu:MildOk T hp)
 {ops4 ops5 ops6:Array Oper} {i4 i5 i6 b0 b1 it nx okT en kv mt:Nat} {or o1 o2 o3 o4:Oper} {pre4 rest6:List Oper} {c7:Code} {ic7:ICode} {ios4 ios6:List IOp} {ty tk tv:TypeId}
 (h4:ops4.toList=pre4++[or]) (q0:or.op=.range ty (.tmp mt)) (d0:or.dst=some it) (g0:or.guard=none) (hty:P.underlying ty=some (.map tk tv))
 (h5:ops5 = #[o1,o2]) (q1:o1.op=.next (.tmp it) false) (d1:o1.dst=some nx) (g1:o1.guard=none) (q2:o2.op=.extract (.tmp nx) 0) (d2:o2.dst=some okT) (g2:o2.guard=none)
 (h6:ops6.toList=o3::o4::rest6) (q3:o3.op=.entry (.tmp it)) (d3:o3.dst=some en) (g3:o3.guard=none) (q4:o4.op=.extract (.tmp en) 0) (d4:o4.dst=some kv) (g4:o4.guard=none)
 (lt:it<nt∧nx<nt∧okT<nt∧en<nt∧kv<nt) (ne:it≠nx∧it≠okT∧it≠en∧it≠kv)
 (hr4:pre4.mapM (zkz P ro hp nt ops4.toList)=some ios4) (hr6:rest6.mapM (zkz P ro hp nt ops6.toList)=some ios6) (h7:zd0 P ro hp nt c7=some ic7)
 {K0:Ctx} {H0:GH} (hρ:∀ b,K0.ρ b→b<K0.w.heap.size) {s s4:St} (hs:SimS ro K0 H0 nt s a w) (hg:zbC (ecall T) ios4 s=some s4)
 {id:Nat} {ag:Bool} {ls:List Leaf} {es:List (GV × GV)} (hmt:zag s4.e.s mt=.map id) (hob:s4.H.objs[id]?=some (.map ag ls es)) (hid:id<H0.bo) (hbl:H0.bo≤s4.H.objs.length)
 {l4:List GV} (hw4:zwN l4 s4.e.s) (hj:zag l4 it=.junk∧zag l4 nx=.junk∧zag l4 okT=.junk∧zag l4 en=.junk)
 (Inv:List (GV × GV)→List GV→GH→Prop) (hperm:∀ x y l H,x.Perm y→Inv x l H→Inv y l H)
 (hjunk:∀ x l H,Inv x l H→zag l it=.ptr s4.H.objs.length 0∧zag l nx=.junk∧zag l okT=.junk∧zag l en=.junk∧H.objs[s4.H.objs.length]?=some .dead)
 (hinit:Inv es (lput l4 it (.ptr s4.H.objs.length 0)) { s4.H.newObj .dead with bo:=s4.H.objs.length+1 })
 (hbody:∀ p x l H,p∈es→Inv (p::x) l H→∃ s1 s2 l3,zbC (ecall T) ios6 ⟨⟨lput l kv p.1,0⟩,H⟩=some s1∧erun T ic7 s1=some (.normal,s2)∧zwN l3 s2.e.s∧Inv x l3 s2.H)
 {Q:Exit→Act→World→Prop} (hfin:∀ K l H a,At0 ro K nt l H a→Ext (fun _=>False) H0.bo H0.bt K0 K→H.bo=s4.H.objs.length+1→H.bt=H0.bt→Inv [] l H→Q .normal a K.w) :
 (Code.seq (.region i4 ops4 false) (.block b0 (.loop (.seq (.region i5 ops5 false) (.seq (.cond (.tmp okT) .skip (.exit b0)) (.block b1 (.seq (.region i6 ops6 false) c7))))))).wp P Q a w:=by
 have hcall:=zm3 hm hl hT
 rw [← hro] at hcall
 refine wp_seq (wp_region ?_)
 have hsz:ops4.size=pre4.length+1:=by rw [← Array.length_toList,h4]; simp
 have hrange:List.range ops4.size=List.range' 0 pre4.length++[pre4.length]:=by
  rw [hsz,List.range_succ,List.range_eq_range']
 rw [hrange]
 have get:∀ j o,(pre4++[or])[j]?=some o→ops4[j]?=some o:=fun j o h=>by rw [← h4,Array.getElem?_toList] at h; exact h
 refine zjy hcall (zjz T) hρ (s':=s4) (fun a' w' hs'=>?_) pre4 0 ios4 s a w (fun j o hj'=>by rw [Nat.zero_add]; exact get j o (by rw [List.getElem?_append_left (List.getElem?_eq_some_iff.1 hj').1]; exact hj')) hr4 hg hs
 obtain ⟨K4,lam,hs4⟩:=hs'
 have hw:=hs4.w
 subst hw
 have h0:=hs4.at0 hw4
 -- the map
 obtain ⟨hwf,bm,ents,clock,p1,p2,⟨⟨s1,s2⟩,es',p3,p4,p5⟩⟩:=hs4.hr.obj id _ hob
 have hmv:a'.tmps.getD mt undef=.map (some bm):=by
  have:=hs4.fr.slot mt
  rw [hmt] at this
  have hv:VR K4 (.map id) (a'.tmps.getD mt undef):=this
  generalize a'.tmps.getD mt undef=v at hv
  cases hv with
  | @map _ b hidn hp=>rw [hp bm p1]
 have hrun:=run_range_map (P:=P) K4.w ty tk tv bm ents clock hty p2
 refine zb4 (o:=or) (get _ _ (by simp)) g0 (v:=.pointer (some ⟨K4.w.heap.size,0,none⟩)) (w':=K4.w.alloc (.mapIter (some bm) clock #[] clock)) ?_ ?_
 ·simp [execOp,q0,zdP,hmv,hrun]
 rw [d0]
 show (Code.block b0 _).wp P Q _ _
 -- the iterator
 have hnO:s4.H.objs.length=K4.nO:=hs4.hr.nO
 have hf:=zcC hs4.hr K4.w.drawn (.mapIter (some bm) clock #[] clock)
 have x5:=hf.ext hs4.hr (fun t _ _=>⟨rfl,rfl⟩) (fun _=>False)
 have hr5:=hs4.hr.newObj K4.w.drawn (.mapIter (some bm) clock #[] clock) .dead trivial
 have hr5':HR ro (zaq K4 K4.w.drawn (.mapIter (some bm) clock #[] clock)) { s4.H.newObj .dead with bo:=s4.H.objs.length+1 }:=hr5.with_bo _ (by have:=hs4.hr.roN; omega)
 have a5:At0 ro (zaq K4 K4.w.drawn (.mapIter (some bm) clock #[] clock)) nt l4 { s4.H.newObj .dead with bo:=s4.H.objs.length+1 } a' :=
  ⟨hr5',h0.size,h0.defers,fun t=>by
    rcases hw4 t with h1 | ⟨h1,h2⟩
    ·rw [h1]; trivial
    ·exact SR.of (((h0.slot t).vr h2).ext x5)⟩
 have hφr:(zaq K4 K4.w.drawn (.mapIter (some bm) clock #[] clock)).φ s4.H.objs.length=some K4.w.heap.size:=by simp [zaq,hnO]
 have hptr:VR (zaq K4 K4.w.drawn (.mapIter (some bm) clock #[] clock)) (.ptr s4.H.objs.length 0) (.pointer (some ⟨K4.w.heap.size,0,none⟩)) :=
  .ptr (by simp [zaq,hnO]) (fun c hc=>by rw [hφr] at hc; injection hc with hc; exact ⟨hc.symm,rfl⟩)
 have a6:=a5.put lt.1 hptr
 have hbmlt:bm<K4.w.heap.size:=(Array.getElem?_eq_some_iff.1 p2).1
 have hidn:id<K4.nO:=(hs4.hr.dom id bm p1).1
 have hφi:(zaq K4 K4.w.drawn (.mapIter (some bm) clock #[] clock)).φ id=some bm:=by
  simp only [zaq]; rw [if_neg (by omega)]; exact p1
 -- pairs
 have hzl:es'.length=ents.toList.length:=by simpa using p4
 have hZ2:(es'.zip ents.toList).map (·.2)=ents.toList:=by
  rw [List.map_snd_zip (by omega)]
 have hZ1:(es'.zip ents.toList).map (·.1)=es':=by
  rw [List.map_fst_zip (by omega)]
 have hl0:zcj (es'.zip ents.toList) #[]=es'.zip ents.toList:=by
  unfold zcj
  rw [List.filter_eq_self.2 (fun z _=>by simp)]
 have hZn:(es'.zip ents.toList).Pairwise fun a b=>a.2.born≠b.2.born:=by
  have:((es'.zip ents.toList).map (·.2)).Pairwise (fun a b=>a.born≠b.born):=by rw [hZ2]; exact s2
  rwa [List.pairwise_map] at this
 have hkey:∀ z∈es'.zip ents.toList,VR (zaq K4 K4.w.drawn (.mapIter (some bm) clock #[] clock)) z.1.1 z.2.key:=fun z hz=>by
  obtain ⟨i,hi,rfl⟩:=List.mem_iff_getElem.1 hz
  rw [List.length_zip] at hi
  have e1:es'[i]?=some (es'.zip ents.toList)[i].1:=by
   rw [List.getElem_zip]; exact List.getElem?_eq_getElem (by omega)
  have e2:ents[i]?=some (es'.zip ents.toList)[i].2:=by
   rw [List.getElem_zip,← Array.getElem?_toList]; exact List.getElem?_eq_getElem (by omega)
  exact ((p5 i _ _ e1 e2).1).ext x5
 have hbo4:=hs4.bo
 have hbt4:=hs4.bt
 refine wp_block (wp_loop_rounds ((es'.zip ents.toList).length+1) ?_)
 have x6:Ext (fun _=>False) H0.bo H0.bt K0 (zaq K4 K4.w.drawn (.mapIter (some bm) clock #[] clock)):=by
  have:Ext (fun _=>False) H0.bo H0.bt K4 (zaq K4 K4.w.drawn (.mapIter (some bm) clock #[] clock)):=by rw [← hbo4,← hbt4]; exact x5
  exact hs4.ext.trans this (fun b _ h=>h)
 have hworld:(zaq K4 K4.w.drawn (.mapIter (some bm) clock #[] clock)).w=K4.w.alloc (.mapIter (some bm) clock #[] clock):=rfl
 rw [← hworld]
 refine zqr hm hl hT hro hpu h5 q1 d1 g1 q2 d2 g2 h6 q3 d3 g3 q4 d4 g4 lt ne hr6 h7 (K0:=K0) (bo0:=H0.bo) (bo:=s4.H.objs.length+1) (bt:=H0.bt) (r:=K4.w.heap.size) (bm:=bm) (id:=id) (idr:=s4.H.objs.length) (ents:=ents) (clock:=clock) hid ⟨hbl,by omega⟩ (by rw [← hbo4]; exact hs4.hr.bo) s1 hZ2 hZn Inv hperm hjunk
  (fun p x l H hp=>by rw [hZ1] at hp; exact hbody p x l H (p3.mem_iff.1 hp)) (fun K l H a h1 h2 h3 h4 h5=>?_)
  _ _ _ _ _ #[] clock (by rw [hl0]) a6 x6 rfl hbt4 hφi ?_ hφr ?_ (Nat.le_refl _) hkey (by rw [hl0,hZ1]; exact hperm _ _ _ _ p3.symm hinit)
 ·simp only [Exit.inBlock]
  exact hfin K l H a h1 h2 h3 h4 h5
 ·show (K4.w.heap.push _)[bm]?=_
  rw [Array.getElem?_push_lt hbmlt]
  rw [Array.getElem?_eq_getElem hbmlt] at p2
  exact p2
 ·show (K4.w.heap.push _)[K4.w.heap.size]?=_
  simp
structure RangeRun (T:Nat→Option IFun) (i1 i2 i3:ICode) (ios4 ios6:List IOp) (ic7 i6:ICode) (it nx okT en kv mt:Nat) (res:List IRes) (args:List GV) (H:GH) (v:GV) where
 s1:St
 s2:St
 s3:St
 s4:St
 e1:erun T i1 ⟨⟨args,0⟩,{ H with bo:=H.objs.length,bt:=H.toks.length }⟩=some (.normal,s1)
 e2:erun T i2 s1=some (.normal,s2)
 e3:erun T i3 s2=some (.normal,s3)
 e4:zbC (ecall T) ios4 s3=some s4
 id:Nat
 ag:Bool
 ls:List Leaf
 es:List (GV × GV)
 hmt:zag s4.e.s mt=.map id
 hob:s4.H.objs[id]?=some (.map ag ls es)
 hid:id<H.objs.length
 hbl:H.objs.length≤s4.H.objs.length
 l4:List GV
 hw4:zwN l4 s4.e.s
 hj:zag l4 it=.junk∧zag l4 nx=.junk∧zag l4 okT=.junk∧zag l4 en=.junk
 Inv:List (GV × GV)→List GV→GH→Prop
 hperm:∀ x y l H,x.Perm y→Inv x l H→Inv y l H
 hjunk:∀ x l H,Inv x l H→zag l it=.ptr s4.H.objs.length 0∧zag l nx=.junk∧zag l okT=.junk∧zag l en=.junk∧H.objs[s4.H.objs.length]?=some .dead
 hinit:Inv es (lput l4 it (.ptr s4.H.objs.length 0)) { s4.H.newObj .dead with bo:=s4.H.objs.length+1 }
 hbody:∀ p x l H,p∈es→Inv (p::x) l H→∃ s1 s2 l3,zbC (ecall T) ios6 ⟨⟨lput l kv p.1,0⟩,H⟩=some s1∧erun T ic7 s1=some (.normal,s2)∧zwN l3 s2.e.s∧Inv x l3 s2.H
 hend:∀ l H',Inv [] l H'→H'.bo=s4.H.objs.length+1→H'.bt=H.toks.length→∃ s6 v0,erun T i6 ⟨⟨l,0⟩,H'⟩=some (.ret,s6)∧zaz s6 res=some v0∧zaI H.objs.length H.toks.length 100 v0=some v
theorem ztQ (hm:P.follows .mixedOrders=true) (hl:laidOutB P=true) {T:Nat→Option IFun} (hT:zcq P T) (hpu:MildOk T hp) {f:FuncId} {F:IFun} (hF:F.mode=15) {fn:Func} (hfu:P.funcs[f]?=some fn) (hname:(fn.name == "runtime.NumGoroutine")=false)
 {c1 c2 c3 c6:Code} {i1 i2 i3 ie:ICode} {res:List IRes}
 {ops4 ops5 ops6:Array Oper} {i4 i5 i6 b0 b1 it nx okT en kv mt:Nat} {or o1 o2 o3 o4:Oper} {pre4 rest6:List Oper} {c7:Code} {ic7:ICode} {ios4 ios6:List IOp} {ty tk tv:TypeId}
 (hb:fn.body=some (.seq c1 (.seq c2 (.seq c3 (.seq (.seq (.region i4 ops4 false) (.block b0 (.loop (.seq (.region i5 ops5 false) (.seq (.cond (.tmp okT) .skip (.exit b0)) (.block b1 (.seq (.region i6 ops6 false) c7))))))) c6)))))
 (hres:fn.results.toList.mapM (zxa P)=some res) (k1:zd0 P P.globals.size hp fn.ntmps c1=some i1) (k2:zd0 P P.globals.size hp fn.ntmps c2=some i2) (k3:zd0 P P.globals.size hp fn.ntmps c3=some i3) (k6:zd0 P P.globals.size hp fn.ntmps c6=some ie)
 (h4:ops4.toList=pre4++[or]) (q0:or.op=.range ty (.tmp mt)) (d0:or.dst=some it) (g0:or.guard=none) (hty:P.underlying ty=some (.map tk tv))
 (h5:ops5 = #[o1,o2]) (q1:o1.op=.next (.tmp it) false) (d1:o1.dst=some nx) (g1:o1.guard=none) (q2:o2.op=.extract (.tmp nx) 0) (d2:o2.dst=some okT) (g2:o2.guard=none)
 (h6:ops6.toList=o3::o4::rest6) (q3:o3.op=.entry (.tmp it)) (d3:o3.dst=some en) (g3:o3.guard=none) (q4:o4.op=.extract (.tmp en) 0) (d4:o4.dst=some kv) (g4:o4.guard=none)
 (lt:it<fn.ntmps∧nx<fn.ntmps∧okT<fn.ntmps∧en<fn.ntmps∧kv<fn.ntmps) (ne:it≠nx∧it≠okT∧it≠en∧it≠kv)
 (hr4:pre4.mapM (zkz P P.globals.size hp fn.ntmps ops4.toList)=some ios4) (hr6:rest6.mapM (zkz P P.globals.size hp fn.ntmps ops6.toList)=some ios6) (h7:zd0 P P.globals.size hp fn.ntmps c7=some ic7)
 (hdata:∀ args H v,zmI F args H=some v→args.length≤fn.ntmps∧Nonempty (RangeRun T i1 i2 i3 ios4 ios6 ic7 ie it nx okT en kv mt res args H v)):zcO P f F:=by
 refine zf3 (by omega) fun args H v hv hok K us hr hc=>?_
 obtain ⟨hlen,⟨R⟩⟩:=hdata args H v hv
 refine za1 hfu hname hb ?_
 have hsz:us.size≤fn.ntmps:=by rw [← hc.1]; exact hlen
 have hρ:∀ b,K.ρ b→b<K.w.heap.size:=fun b h=>(hr.loc b h).2
 obtain ⟨n1,e1⟩:=erun_iff.1 R.e1
 obtain ⟨n2,e2⟩:=erun_iff.1 R.e2
 obtain ⟨n3,e3⟩:=erun_iff.1 R.e3
 have hg:=hr.guard
 refine calls_of_wp hfu hb ?_
 refine wp_seq ((zaG hm hl hT n1).1 K { H with bo:=H.objs.length,bt:=H.toks.length } hp fn.ntmps c1 i1 _ .normal R.s1 _ K.w _ hpu hρ k1 e1 ⟨K,_,Sim.enter hg ⟨rfl,rfl⟩ hok hc hsz⟩ (fun a1 w1 hs1=>?_))
 refine wp_seq ((zaG hm hl hT n2).1 K _ hp fn.ntmps c2 i2 _ .normal R.s2 _ w1 _ hpu hρ k2 e2 hs1 (fun a2 w2 hs2=>?_))
 refine wp_seq ((zaG hm hl hT n3).1 K _ hp fn.ntmps c3 i3 _ .normal R.s3 _ w2 _ hpu hρ k3 e3 hs2 (fun a3 w3 hs3=>?_))
 refine wp_seq ?_
 refine ztP hm hl hT rfl hpu h4 q0 d0 g0 hty h5 q1 d1 g1 q2 d2 g2 h6 q3 d3 g3 q4 d4 g4 lt ne hr4 hr6 h7 hρ hs3 R.e4 R.hmt R.hob R.hid R.hbl R.hw4 R.hj R.Inv R.hperm R.hjunk R.hinit R.hbody (fun K5 l5 H5 a5 b1 b2 b3 b4 b5=>?_)
 obtain ⟨s6,v0,e6,r6,cl⟩:=R.hend l5 H5 b5 b3 b4
 obtain ⟨n6,e6'⟩:=erun_iff.1 e6
 show c6.wp P _ a5 K5.w
 refine (zaG hm hl hT n6).1 K5 H5 hp fn.ntmps c6 ie _ .ret s6 a5 K5.w _ hpu (fun b h=>(b1.hr.loc b h).2) k6 e6' ⟨K5,_,b1.sim⟩ (fun a6 w6 hs6=>?_)
 obtain ⟨K6,lam,hs6⟩:=hs6
 have hw:=hs6.w
 subst hw
 obtain ⟨rv,r1,r2⟩:=zfX hs6.hr hs6.fr hres r6
 have x5:=hs6.ext
 rw [b3,b4] at x5
 have x6:Ext (fun _=>False) H.objs.length H.toks.length K K6:=b2.trans (x5.mono_bo (Nat.le_succ_of_le R.hbl)) (fun b _ h=>h)
 obtain ⟨q1,q2,q3⟩:=zs6 hr hs6.hr x6
 exact ⟨hs6.fr.defers,rv,r1,rv,K.back K6,rfl,rfl,q1,zia q3 _ _ _ _ cl r2,q2⟩
end
end Go.Sh
namespace Go.Sh
theorem zwO {T T2:Nat→Option IFun} (hT:∀ f F,T f=some F→T2 f=some F):∀ n,(∀ c s r,zak T n c s=some r→zak T2 n c s=some r)∧zib (zbw T n) (zbw T2 n):=by
 intro n
 induction n with
 | zero=>exact ⟨fun c s r h=>by simp [zak] at h,fun f args H r h=>by simp [zbw] at h⟩
 | succ n ih =>
  obtain ⟨ih1,ih2⟩:=ih
  refine ⟨fun c s r h=>?_,fun f args H r h=>?_⟩
  ·cases c with
   | skip=>exact h
   | exit=>exact h
   | ret=>exact h
   | bump k=>exact h
   | trap=>simp [zak] at h
   | region ops=>simp only [zak] at h ⊢; exact zic (fun r=>zdn ih2 ops) h
   | seq a b =>
    simp only [zak] at h
    split at h
    ·rename_i s1 h1
     rw [zak,ih1 _ _ _ h1]
     exact ih1 _ _ _ h
    ·rename_i hne
     rw [zak,ih1 _ _ _ h]
     split
     ·rename_i s1 h1
      injection h1 with h1
      subst h1
      exact absurd h (hne s1)
     ·rfl
   | cond c a b =>
    simp only [zak] at h ⊢
    split at h
    ·exact ih1 _ _ _ h
    ·exact ih1 _ _ _ h
    ·cases h
   | block id a =>
    simp only [zak] at h
    split at h
    ·rename_i id' s1 h1
     rw [zak,ih1 _ _ _ h1]
     exact h
    ·rename_i hne
     rw [zak,ih1 _ _ _ h]
     split
     ·rename_i id' s1 h1
      injection h1 with h1
      subst h1
      exact absurd h (hne id' s1)
     ·rfl
   | loop a =>
    simp only [zak] at h
    split at h
    ·rename_i s1 h1
     rw [zak,ih1 _ _ _ h1]
     exact ih1 _ _ _ h
    ·rename_i hne
     rw [zak,ih1 _ _ _ h]
     split
     ·rename_i s1 h1
      injection h1 with h1
      subst h1
      exact absurd h (hne s1)
     ·rfl
  ·simp only [zbw] at h
   cases hF:T f with
   | none=>simp [hF] at h
   | some F =>
    simp only [hF] at h
    rw [zbw]
    simp only [hT f F hF]
    split at h
    ·cases h
    ·rename_i hlen
     rw [if_neg hlen]
     split at h
     ·rename_i hl
      rw [if_pos hl]
      exact h
     rename_i hl
     rw [if_neg hl]
     split at h
     ·rename_i hp
      rw [if_pos hp]
      split at h
      ·rename_i s1 h1; rw [ih1 _ _ _ h1]; exact h
      ·rename_i s1 h1; rw [ih1 _ _ _ h1]; exact h
      ·cases h
     rename_i hp
     rw [if_neg hp]
     split at h
     ·rename_i hp2
      rw [if_pos hp2]
      split at h
      ·rename_i hpl
       rw [if_pos hpl]
       split at h
       ·rename_i s1 h1; rw [ih1 _ _ _ h1]; exact h
       ·rename_i s1 h1; rw [ih1 _ _ _ h1]; exact h
       ·cases h
      ·cases h
     ·rename_i hp2
      rw [if_neg hp2]
      split at h
      ·rename_i s1 h1; rw [ih1 _ _ _ h1]; exact h
      ·rename_i s1 h1; rw [ih1 _ _ _ h1]; exact h
      ·cases h
theorem zwP {T T2:Nat→Option IFun} (hT:∀ f F,T f=some F→T2 f=some F) {f:Nat} {args:List GV} {H:GH} {r:GV × GH} (h:ecall T f args H=some r):ecall T2 f args H=some r:=by
 obtain ⟨n,hn⟩:=ecall_iff.1 h
 exact ecall_iff.2 ⟨n,(zwO hT n).2 _ _ _ _ hn⟩
theorem zlV (rows more:List (Nat × List Nat × IFun)) (f:Nat) (F:IFun) (h:zdQ rows f=some F):zdQ (rows++more) f=some F:=by
 unfold zdQ at *
 rw [List.find?_append]
 simp only [Option.map_eq_some_iff] at h
 obtain ⟨r,h1,h2⟩:=h
 rw [h1]
 simpa using h2
theorem RowsOk.append [Facts] {P:Program} {l:List (Nat × List Nat × IFun)} (h:RowsOk P l) {m:List (Nat × List Nat × IFun)} (h':RowsOk P m):∀ r,r∈l++m→RowOk P r:=fun r hr=>by
 rcases List.mem_append.1 hr with h1 | h1
 ·exact h.all r h1
 ·exact h'.all r h1
end Go.Sh
